/- command.Print: the way back. -/
import Derived.Test.YtamjhnibenonjaaGreatDoorPWords
import Derived.Test.YtamjhnibenonjaaGreatDoorPErrs2
namespace Go.Proofs.YtamjhnibenonjaaGreatDoor
set_option linter.unusedVariables false
set_option linter.unusedSimpArgs false
open Go Go.RowKit
theorem nameOf_size (k : Int) : (nameOf k).size ≤ 7 := by
  unfold nameOf
  split
  · rename_i r hr
    have h : ∀ r ∈ formTab, r.name.size ≤ 7 := by decide
    exact h r (List.mem_of_find?_eq_some hr)
  · decide
theorem bsize_append (a b : ByteArray) : (a ++ b).size = a.size + b.size := ByteArray.size_append
theorem pathB_size (l : List ByteArray) (h : longL l ≤ 2000000) : (pathB l).size ≤ 2000000 := by
  unfold pathB
  split
  · decide
  · have := join_length 47 l
    show (Lib.join (l.map (·.data.toList)) [47]).toArray.size ≤ _
    simp only [List.size_toArray]; omega
theorem wishB_size (x : Wish) (h0 : x.name.size ≤ 2000000) (h1 : -9223372036854775808 ≤ x.deep ∧ x.deep ≤ 9223372036854775807) (h2 : -9223372036854775808 ≤ x.cost ∧ x.cost ≤ 9223372036854775807) : (wishB x).size ≤ 2000100 := by
  have a := itoaB_size x.deep h1.1 h1.2
  have b := itoaB_size x.cost h2.1 h2.2
  have c : colonB.size = 1 := rfl
  simp only [wishB, bsize_append, c]; omega
theorem words_ok {c : Cmd} (h : Small c) : ArgsOk (wordsF c) := by
  have i0 := itoaB_size c.n h.n.1 h.n.2
  have i1 := itoaB_size c.pol.kind h.kind.1 h.kind.2
  have i2 := itoaB_size c.pol.limit h.limit.1 h.limit.2
  have i3 := itoaB_size c.pol.period h.period.1 h.period.2
  have i4 := itoaB_size c.pol.burst h.burst.1 h.burst.2
  have i5 := itoaB_size c.pol.cap h.cap.1 h.cap.2
  have i6 := itoaB_size (if c.pol.opn then 1 else 0) (by split <;> decide) (by split <;> decide)
  have i7 := nameOf_size c.kind
  have i8 := pathB_size c.path h.path
  have i9 := h.name
  intro x hx
  simp only [wordsF, List.mem_cons, List.mem_append] at hx
  rcases hx with rfl | hx | hx
  · omega
  · unfold headF polWords at hx
    generalize itoaB (if c.pol.opn then 1 else 0) = z at hx i6
    repeat' split at hx
    all_goals simp only [List.mem_cons, List.not_mem_nil, or_false] at hx
    · rcases hx with rfl | rfl | rfl | rfl | rfl | rfl | rfl <;> omega
    · subst hx; omega
    · rcases hx with rfl | rfl <;> omega
    · rcases hx with rfl | rfl <;> omega
    · subst hx; omega
    · subst hx; omega
  · unfold tailF at hx
    split at hx
    · obtain ⟨y, hy, rfl⟩ := List.mem_map.1 hx
      have := h.wishes y hy
      have := itoaB_size y.cost this.2.2.1 this.2.2.2
      omega
    · obtain ⟨y, hy, rfl⟩ := List.mem_map.1 hx
      have := h.wishes y hy
      have := wishB_size y this.1 this.2.1 this.2.2
      omega
set_option maxHeartbeats 4000000 in
set_option maxRecDepth 100000 in
theorem CPrint_any (v : Value) (c : Cmd) (w : World) (h : CmdIn w w.heap.size v c) (hs : Small c) (hg : Glob w) (hb : 9 < w.heap.size) :
    Calls Tryz.prog 13 #[v] w fun e w' => ∃ rv, e = .returned rv ∧ w'.ownsRow w.heap.size 9 1 rv (printF c).length ((printF c).map .string) ∧ Keep (fun _ => False) w w' := by
  have HC := Lib.hid h
  have hw := fun W hW => words_any v c W hW hs
  obtain ⟨pa, pc, wa, wcap, rfl⟩ := h.slices
  simp only [cmdCells] at hw ⊢
  have HW := Lib.hid hw
  clear h hw
  go_enter Tryz.func13, Tryz.ntmps13
  go_wp2_with fail
  have k1 : Keep (fun _ => False) w (w.alloc (.cells #[.int .i64 c.kind, .string c.name, .int .i64 c.pol.kind, .int .i64 c.pol.limit, .int .i64 c.pol.period, .int .i64 c.pol.burst, .int .i64 c.pol.cap, .bool c.pol.opn, .slice pa c.path.length pc, .slice wa c.wishes.length wcap, .int .i64 c.n] 31)) := (Keep.refl _ _).alloc _
  have hb1 := block_new w (.cells #[.int .i64 c.kind, .string c.name, .int .i64 c.pol.kind, .int .i64 c.pol.limit, .int .i64 c.pol.period, .int .i64 c.pol.burst, .int .i64 c.pol.cap, .bool c.pol.opn, .slice pa c.path.length pc, .slice wa c.wishes.length wcap, .int .i64 c.n] 31)
  have hcm := (HC.out.keep k1).mono k1.size
  obtain ⟨cb, hcb⟩ : ∃ cb, cb = w.heap.size := ⟨_, rfl⟩
  rw [← hcb] at hb1 ⊢
  clear hcb
  generalize w.alloc (.cells #[.int .i64 c.kind, .string c.name, .int .i64 c.pol.kind, .int .i64 c.pol.limit, .int .i64 c.pol.period, .int .i64 c.pol.burst, .int .i64 c.pol.cap, .bool c.pol.opn, .slice pa c.path.length pc, .slice wa c.wishes.length wcap, .int .i64 c.n] 31) = w1 at *
  refine (HW.out w1 hcm).mono ?_
  rintro e w2 ⟨rv, rfl, hown, k2⟩
  obtain ⟨ra, rc, rfl⟩ := owns_slice hown
  have hrs : StrsIn w2 w2.heap.size (.slice ra (wordsF c).length rc) (wordsF c) := RowIn.strs (RowIn.of_owns hown)
  have hg2 := glob_keep hg hb (k1.trans k2)
  have hP := CParse_any _ (wordsF c) w2 hrs (words_ok hs) hg2.1 hg2.2
  have hb2 := k2.get hb1 id
  have HOW := Lib.hid hown
  have K2 := Lib.hid (k1.trans k2)
  have hcm2 := hcm.keep k2
  have hsz2 := k2.size
  have hsz1 := k1.size
  clear hrs hg2 hown k2 k1 hb1
  go_wp2_with fail
  refine hP.mono ?_
  rintro e w3 ⟨cv, rfl, hcv, k3⟩
  obtain ⟨T, hT⟩ : ∃ T, T = parseF (wordsF c) := ⟨_, rfl⟩
  have HT := Lib.hid hT
  rw [← hT] at hcv ⊢
  obtain ⟨pa2, pc2, wa2, wc2, rfl⟩ := hcv.slices
  have hb3 := k3.get hb2 id
  have k4 : Keep (fun _ => False) w3 (w3.alloc (.cells (cmdCells T.1 (.slice pa2 T.1.path.length pc2) (.slice wa2 T.1.wishes.length wc2)) 31)) := (Keep.refl _ _).alloc _
  have hb4 := k4.get hb3 id
  have hd4 := block_new w3 (.cells (cmdCells T.1 (.slice pa2 T.1.path.length pc2) (.slice wa2 T.1.wishes.length wc2)) 31)
  have hB4 := Nat.le_trans (Nat.le_trans hsz2 k3.size) k4.size
  have hS := CSame_any _ _ c T.1 _ _ (((hcm2.keep k3).keep k4).mono hB4) ((hcv.keep k4).mono k4.size)
  have K4 := Lib.hid (K2.out.trans (k3.trans k4))
  have HOW4 : Hid ((w3.alloc (.cells (cmdCells T.1 (.slice pa2 T.1.path.length pc2) (.slice wa2 T.1.wishes.length wc2)) 31)).ownsRow w.heap.size 9 1 (.slice ra (wordsF c).length rc) (wordsF c).length ((wordsF c).map .string)) :=
    (k3.trans k4).ownsRow (owns_base HOW.out hsz1) (fun _ _ => id)
  simp only [cmdCells] at hS hb4 hd4 K4 HOW4 ⊢
  have hcc4 := cell_of_block hb4
  have hcd4 := cell_of_block hd4
  clear hb4 hd4 hcv k3 k4 hP hb2 hb3 hcm2 hcm HW HC hg hB4 hsz2 hsz1
  by_cases he : T.2 = 0
  · have he1 : (T.2 != 0) = false := by simp [he]
    by_cases hsame : c = T.1
    · have hd : decide (c = T.1) = true := by simpa using hsame
      rw [hd] at hS
      have HP : Hid (printF c = wordsF c) := by rw [printF, ← HT.out, if_pos ⟨he, hsame⟩]; exact rfl
      clear hd hsame he HT hT
      go_wp2_with fail
      refine hS.mono ?_
      rintro e w5 ⟨rfl, k5⟩
      have K5 := Lib.hid (K4.out.trans k5)
      have HOW5 := Lib.hid (k5.ownsRow HOW4.out (fun _ _ => id))
      clear k5 hS
      go_wp2_with fail
      go_ret
      exact ⟨_, rfl, by rw [HP.out]; exact HOW5.out, K5.out⟩
    · have hd : decide (c = T.1) = false := by simpa using hsame
      rw [hd] at hS
      have HP : Hid (printF c = []) := by rw [printF, ← HT.out, if_neg (fun h => hsame h.2)]; exact rfl
      clear hd hsame he HT hT
      go_wp2_with fail
      refine hS.mono ?_
      rintro e w5 ⟨rfl, k5⟩
      have K5 := Lib.hid (K4.out.trans k5)
      clear k5 hS
      go_wp2_with fail
      go_ret
      exact ⟨_, rfl, by rw [HP.out]; exact World.ownsRow_nil _ _ _ _, K5.out⟩
  · have he1 : (T.2 != 0) = true := by simpa using he
    have HP : Hid (printF c = []) := by rw [printF, ← HT.out, if_neg (fun h => he h.1)]; exact rfl
    clear he HT hT
    go_wp2_with fail
    go_ret
    exact ⟨_, rfl, by rw [HP.out]; exact World.ownsRow_nil _ _ _ _, K4.out⟩
end Go.Proofs.YtamjhnibenonjaaGreatDoor
