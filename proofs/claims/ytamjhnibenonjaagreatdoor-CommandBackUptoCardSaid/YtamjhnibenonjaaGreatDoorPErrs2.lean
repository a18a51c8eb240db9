/- tapsterlaw18.CommandErrs: the walk, where its guard lets in. -/
import Derived.Test.YtamjhnibenonjaaGreatDoorPErrs
import Derived.Laws.AppendOwnNone
namespace Go.Proofs.YtamjhnibenonjaaGreatDoor
set_option linter.unusedVariables false
set_option linter.unusedSimpArgs false
open Go Go.RowKit
theorem slice4 (e : Int) (W : World) : (Instr.slice 9 (.string (errsB e)) none (some (.int .i64 4)) none).run Tryz.prog W = .ok (.string ⟨#[69, 82, 82, 32]⟩) W := by
  have h := errsB_size e
  rw [run_slice_string_h (w := W) (s := errsB e) (t := 9) (ht := Tryz.underlying9) .i64 4 (by decide) (by omega)]
  rw [show (4 : Int).toNat = 4 from rfl, errsB_head]
theorem glob_keep {w w' : World} (hg : Glob w) (hb : 9 < w.heap.size) (hk : Keep (fun _ => False) w w') : Glob w' ∧ 9 < w'.heap.size :=
  ⟨hg.below hk.below hb, Nat.lt_of_lt_of_le hb hk.size⟩
set_option maxHeartbeats 8000000 in
set_option maxRecDepth 100000 in
theorem CommandErrs_main (e f : Int) (he0 : -9223372036854775808 ≤ e) (he1 : e ≤ 9223372036854775807) (hf0 : -9223372036854775808 ≤ f) (hf1 : f ≤ 9223372036854775807) (name : ByteArray) (v : Value) (l : List ByteArray) (w : World) (hv : ArgsV w v l) (hg : Glob w) (hb : 9 < w.heap.size)
    (h1 : name.size ≤ 50) (h2 : l.length ≤ 30) (h3 : longL l ≤ 500) :
    Calls Tryz.prog 3 #[.int .i64 e, .int .i64 f, .string name, v] w fun en w' => en = .returned (.bool true) ∧ Keep (fun _ => False) w w' := by
  have hL := Long03_any v l _ w hv.1 (by omega)
  have HV := Lib.hid hv
  have HG := Lib.hid hg
  obtain ⟨⟨a, c, rfl, -⟩, -⟩ := hv
  have h1' : ¬ (50 : Int) < (name.size : Int) := by omega
  have h2' : ¬ (30 : Int) < (l.length : Int) := by omega
  have h3' : ¬ (500 : Int) < (longL l : Int) := by omega
  have hss : ∀ x ∈ l, x.size ≤ 500 := fun x hx => Nat.le_trans (longL_mem l x hx) h3
  have HSS := Lib.hid hss
  clear hg h3 hss
  go_enter Tryz.func3, Tryz.ntmps3
  go_wp2_with fail
  refine hL.mono ?_
  rintro en w0 ⟨rfl, rfl⟩
  go_wp2_with fail
  refine (Errs_any e he0 he1 w0).mono ?_
  rintro en w1 ⟨rfl, hk1⟩
  have HK1 := Lib.hid hk1
  clear hk1
  go_wp2_with fail
  refine (Errs_any f hf0 hf1 w1).mono ?_
  rintro en w2 ⟨rfl, hk2⟩
  have HK2 := Lib.hid (HK1.out.trans hk2)
  have z1 := errsB_size e
  have hsl := slice4 e
  clear hk2 HK1 hL
  have hd0 : ((errsB e).toList == (errsB f).toList) = (e == f) := by
    rw [toList_eq_iff]
    by_cases hef : e = f
    · subst hef; simp
    · have : errsB e ≠ errsB f := fun h => hef (errsB_inj h)
      simp [this, hef]
  have hw : ∀ x : Bool, (x != x) = false := by decide
  go_wp2_with fail
  have k3 : Keep (fun _ => False) w2 (w2.alloc (.cells #[.string name] 9)) := (Keep.refl _ _).alloc _
  have rs1 := (RowIn.new w2 1 1 9 #[.string name] (by decide)).strs (l := [name])
  rw [← World.size_alloc w2 (.cells #[.string name] 9)] at rs1
  have g3 := glob_keep HG.out hb (HK2.out.trans k3)
  refine (CParse_any _ [name] _ rs1 (by intro x hx; rw [List.mem_singleton] at hx; subst hx; omega) g3.1 g3.2).mono ?_
  rintro en w4 ⟨cv, rfl, hc, hk4⟩
  obtain ⟨pa, pc, wa, wc, rfl⟩ := hc.slices
  have HK4 := Lib.hid (HK2.out.trans (k3.trans hk4))
  obtain ⟨T1, hT1⟩ : ∃ T, T = parseF [name] := ⟨_, rfl⟩
  have HT1 := Lib.hid hT1
  rw [← hT1]
  clear hc hk4 k3 rs1 g3 HK2 hT1
  simp only [cmdCells]
  obtain ⟨i0, hi, hz0, hz1, hz2'⟩ := info_parts infoString
  have HI0 := Lib.hid hi
  have HZ0 := Lib.hid hz0
  have HZ1 := Lib.hid hz1
  have HZ2 := Lib.hid hz2'
  clear hi hz0 hz1 hz2'
  have tok1 : True := trivial
  have tok2 : True := trivial
  rcases HV.out.2 with hn | ⟨ad, c', hs⟩
  · simp only [Value.slice.injEq] at hn
    obtain ⟨rfl, hl0, rfl⟩ := hn
    have hl1 : l = [] := List.eq_nil_of_length_eq_zero hl0
    subst hl1
    simp only [List.length_nil]
    go_wp2_with (first
      | (at_builtin; have _t := tok1; refine wpList_append_own _ rfl _ _ 22 rfl w4.heap.size 9 i0 (.string ⟨#[]⟩) 1 16 Tryz.underlying22 HI0.out HZ0.out HZ1.out HZ2.out rfl (by decide) (.slice none 0 0) 0 [] rfl (World.ownsRow_nil _ _ _ _) ⟨w4.heap.size + 1, 0, none⟩ 1 1 [.string name] rfl (by rfl) (World.news_of_block (cs := #[.string name]) (t := 9) (fr := (0, 0)) (by rw [show w4.heap.size + 1 = (w4.alloc _).heap.size from (World.size_alloc _ _).symm]; exact block_new _ _)) (by simp [Value.oneCell']) (by unfold maxLen; omega) (by omega) (by simp; omega) ?_
         intro v5 w5 hown5 hgrow5 hnil5
         have HK5 : Hid (Keep (fun _ => False) w0 w5) := (((HK4.out.alloc _).alloc _).grown hgrow5 (fun k hk => by cases hk))
         have HZ5 := Lib.hid (show w4.heap.size ≤ w5.heap.size by have := hgrow5.size; simp at this; omega)
         have HO5 := Lib.hid hown5
         clear tok1 hown5 hgrow5 hnil5)
      | (at_builtin; have _t := tok2; refine wpList_append_own_none rfl _ _ 22 rfl w4.heap.size 9 i0 1 Tryz.underlying22 HI0.out v5 1 [.string name] rfl HO5.out rfl ?_
         clear tok2))
    have rs6 : StrsIn w5 w5.heap.size v5 (name :: []) := by have r := RowIn.of_owns HO5.out; exact RowIn.strs (l := [name]) r
    have g6 := glob_keep HG.out hb HK5.out
    refine (CParse_any _ (name :: []) _ rs6 (by
      intro x hx
      rcases List.mem_cons.1 hx with rfl | hx
      · omega
      · cases hx) g6.1 g6.2).mono ?_
    rintro en w7 ⟨cv2, rfl, hc2, hk7⟩
    obtain ⟨pa2, pc2, wa2, wc2, rfl⟩ := hc2.slices
    have HK7 := Lib.hid (HK5.out.trans hk7)
    obtain ⟨T2, hT2⟩ : ∃ T, T = parseF (name :: []) := ⟨_, rfl⟩
    obtain ⟨q, hq⟩ : ∃ q, q = (formFor (upB name)).isNone := ⟨_, rfl⟩
    have q1 : (T1.2 == 10) = q := by rw [HT1.out, hq]; exact parseF_unknown name []
    have q2 : (T2.2 == 10) = q := by rw [hT2, hq]; exact parseF_unknown name []
    have qq : (q == q) = true := by simp
    rw [← hT2]
    clear hc2 hk7 rs6 g6 hT2 hq
    simp only [cmdCells]
    go_wp2_with fail
    have k8 := HK7.out.alloc (.cells (cmdCells T2.1 (.slice pa2 T2.1.path.length pc2) (.slice wa2 T2.1.wishes.length wc2)) 31)
    have g8 := glob_keep HG.out hb k8
    refine (known_any _ g8.1 g8.2).mono ?_
    rintro en w9 ⟨rfl, hk9⟩
    have HK9 := Lib.hid (k8.trans hk9)
    clear k8 g8 hk9
    go_wp2
    go_ret
    exact ⟨rfl, HK9.out⟩
  · simp only [Value.slice.injEq, true_and] at hs
    obtain ⟨rfl, rfl⟩ := hs
    have hnews : ∀ W, Keep (fun _ => False) w0 W → ∀ (j : Nat) (u : Value), (l.map Value.string)[j]? = some u → W.cell? (ad.add j) = some u := by
      intro W hW j u hu
      rw [List.getElem?_map] at hu
      cases hlj : l[j]? with
      | none => rw [hlj] at hu; cases hu
      | some x =>
        rw [hlj] at hu
        cases hu
        obtain ⟨a1, c1, h11, -, -, h14⟩ := HV.out.1
        simp only [Value.slice.injEq, true_and] at h11
        obtain ⟨rfl, rfl⟩ := h11
        obtain ⟨b1, o1, h15, -, h17⟩ := h14 (by rintro rfl; simp at hlj)
        simp only [Option.some.injEq] at h15
        subst h15
        have hadd : (⟨b1, o1, none⟩ : Addr).add j = ⟨b1, o1 + j, none⟩ := by unfold Addr.add; split <;> simp_all
        rw [hadd]
        exact hW.cell (h17 j x hlj) id
    have HNW := Lib.hid hnews
    clear hnews
    go_wp2_with (first
      | (at_builtin; have _t := tok1; refine wpList_append_own _ rfl _ _ 22 rfl w4.heap.size 9 i0 (.string ⟨#[]⟩) 1 16 Tryz.underlying22 HI0.out HZ0.out HZ1.out HZ2.out rfl (by decide) (.slice none 0 0) 0 [] rfl (World.ownsRow_nil _ _ _ _) ⟨w4.heap.size + 1, 0, none⟩ 1 1 [.string name] rfl (by rfl) (World.news_of_block (cs := #[.string name]) (t := 9) (fr := (0, 0)) (by rw [show w4.heap.size + 1 = (w4.alloc _).heap.size from (World.size_alloc _ _).symm]; exact block_new _ _)) (by simp [Value.oneCell']) (by unfold maxLen; omega) (by omega) (by simp; omega) ?_
         intro v5 w5 hown5 hgrow5 hnil5
         have HK5 : Hid (Keep (fun _ => False) w0 w5) := (((HK4.out.alloc _).alloc _).grown hgrow5 (fun k hk => by cases hk))
         have HZ5 := Lib.hid (show w4.heap.size ≤ w5.heap.size by have := hgrow5.size; simp at this; omega)
         have HO5 := Lib.hid hown5
         clear tok1 hown5 hgrow5 hnil5)
      | (at_builtin; have _t := tok2; refine wpList_append_own _ rfl _ _ 22 rfl w4.heap.size 9 i0 (.string ⟨#[]⟩) 1 16 Tryz.underlying22 HI0.out HZ0.out HZ1.out HZ2.out rfl (by decide) v5 1 [.string name] rfl HO5.out ad l.length c (l.map .string) rfl (by simp) (HNW.out w5 HK5.out) (by simp [Value.oneCell']) (by unfold maxLen; omega) (by omega) HZ5.out ?_
         intro v6 w6 hown6 hgrow6 hnil6
         have hl5 := HO5.out.lt
         have HK6 : Hid (Keep (fun _ => False) w0 w6) := HK5.out.step ((Keep.refl (fun k => v5.ownBlock = some k) w5).grown hgrow6 (fun k hk => .inl hk)) (fun k hk hv5 => by have := (hl5 k hv5).1; have := HK4.out.size; omega)
         have HO6 := Lib.hid hown6
         clear tok2 hown6 hgrow6 hnil6 hl5))
    have rs6 : StrsIn w6 w6.heap.size v6 (name :: l) := by have r := RowIn.of_owns HO6.out; exact RowIn.strs (l := name :: l) (by simpa [Nat.add_comm] using r)
    have g6 := glob_keep HG.out hb HK6.out
    refine (CParse_any _ (name :: l) _ rs6 (by
      intro x hx
      rcases List.mem_cons.1 hx with rfl | hx
      · omega
      · have := HSS.out x hx; omega) g6.1 g6.2).mono ?_
    rintro en w7 ⟨cv2, rfl, hc2, hk7⟩
    obtain ⟨pa2, pc2, wa2, wc2, rfl⟩ := hc2.slices
    have HK7 := Lib.hid (HK6.out.trans hk7)
    obtain ⟨T2, hT2⟩ : ∃ T, T = parseF (name :: l) := ⟨_, rfl⟩
    obtain ⟨q, hq⟩ : ∃ q, q = (formFor (upB name)).isNone := ⟨_, rfl⟩
    have q1 : (T1.2 == 10) = q := by rw [HT1.out, hq]; exact parseF_unknown name []
    have q2 : (T2.2 == 10) = q := by rw [hT2, hq]; exact parseF_unknown name l
    have qq : (q == q) = true := by simp
    rw [← hT2]
    clear hc2 hk7 rs6 g6 hT2 hq
    simp only [cmdCells]
    go_wp2_with fail
    have k8 := HK7.out.alloc (.cells (cmdCells T2.1 (.slice pa2 T2.1.path.length pc2) (.slice wa2 T2.1.wishes.length wc2)) 31)
    have g8 := glob_keep HG.out hb k8
    refine (known_any _ g8.1 g8.2).mono ?_
    rintro en w9 ⟨rfl, hk9⟩
    have HK9 := Lib.hid (k8.trans hk9)
    clear k8 g8 hk9
    go_wp2
    go_ret
    exact ⟨rfl, HK9.out⟩
end Go.Proofs.YtamjhnibenonjaaGreatDoor
