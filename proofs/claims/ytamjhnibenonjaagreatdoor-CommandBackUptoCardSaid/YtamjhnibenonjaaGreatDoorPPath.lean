/- scope.Path tells whether a path may be. -/
import Derived.Test.YtamjhnibenonjaaGreatDoorPSeq
namespace Go.Proofs.YtamjhnibenonjaaGreatDoor
set_option linter.unusedVariables false
set_option linter.unusedSimpArgs false
open Go Go.RowKit
theorem StrsIn.of_owns {w : World} {base : Nat} {e : TypeId} {v : Value} {l : List ByteArray} {n : Nat} (hn : n = l.length) (h : w.ownsRow base e 1 v n (l.map .string)) : StrsIn w w.heap.size v l := by
  subst hn
  rcases h.2 with ⟨rfl, h0⟩ | ⟨g, cap, cur, rfl, hb, hg, hnc, hcm, hcs, ht⟩
  · exact ⟨none, 0, by rw [h0], by omega, by omega, fun hne => absurd (List.eq_nil_of_length_eq_zero h0) hne⟩
  · refine ⟨some ⟨g, 0, none⟩, cap, rfl, hnc, by unfold maxLen at hcm; exact hcm, fun _ => ⟨g, 0, rfl, lt_of_block hg, fun j x hj => ?_⟩⟩
    have := World.ownsRow.cells (w := w) h (g := g) rfl j (.string x) (by rw [List.getElem?_map, hj]; rfl)
    rwa [show (⟨g, 0, none⟩ : Addr).add j = ⟨g, 0 + j, none⟩ by unfold Addr.add; split <;> simp_all] at this
set_option maxHeartbeats 1000000 in
theorem longFn_any (s : ByteArray) (w : World) :
    Calls Tryz.prog 64 #[.string s] w fun e w' => e = .returned (.bool (longB s)) ∧ w = w' := by
  by_cases h : 100 < s.size
  · rw [show longB s = true by simpa [longB] using h]
    have h1 : decide (100 < (s.size : Int)) = true := by simp; omega
    go_enter Tryz.func64, Tryz.ntmps64
    go_wp2
    go_ret
    exact ⟨rfl, rfl⟩
  · rw [show longB s = false by simpa [longB] using h]
    have h1 : decide (100 < (s.size : Int)) = false := by simp; omega
    go_enter Tryz.func64, Tryz.ntmps64
    go_wp2
    go_ret
    exact ⟨rfl, rfl⟩
set_option maxHeartbeats 1000000 in
theorem indexLong_any (v : Value) (l : List ByteArray) (B : Nat) (w : World) (h : StrsIn w B v l) :
    Calls Tryz.prog 81 #[v, .func (.func 64) #[] #[]] w fun e w' => (∃ n : Int, e = .returned (.int .i64 n) ∧ (decide (0 ≤ n) = l.any longB)) ∧ w = w' := by
  obtain ⟨a, c, rfl, hlc, hcm, hel⟩ := h
  have HEL := Lib.hid hel
  clear hel
  go_enter Tryz.func81, Tryz.ntmps81
  go_wp2
  go_loop [8] (fun i => ∃ k : Nat, k ≤ l.length ∧ i = .int .i64 k ∧ Hid ((l.take k).any longB = false)) (fun i => l.length - (intOf i).toNat)
  case atStart => exact ⟨0, Nat.zero_le _, rfl, rfl⟩
  case round =>
    obtain ⟨k, hk, rfl, hno⟩ := hrel
    by_cases hlt : k < l.length
    · obtain ⟨b, o, rfl, hb, hx⟩ := HEL.out (by rintro rfl; simp at hlt)
      have hcell : w.cell? ⟨b, o + k, none⟩ = some (.string l[k]) := hx k _ (List.getElem?_eq_getElem hlt)
      clear hx
      have hlt2 : (k : Int) < (l.length : Int) := by omega
      have hF := longFn_any l[k]
      have htk : (l.take (k + 1)).any longB = ((l.take k).any longB || longB l[k]) := by rw [List.take_succ_eq_append_getElem hlt, List.any_append]; simp
      have HTK := Lib.hid htk
      have hany : longB l[k] = true → l.any longB = true := fun h => List.any_eq_true.2 ⟨l[k], List.getElem_mem hlt, h⟩
      cases hl : longB l[k] with
      | true =>
        rw [hl] at hF
        have HANY := Lib.hid (hany hl)
        clear hany hl htk
        go_wp2_with fail
        refine (hF _).mono ?_
        rintro e w1 ⟨rfl, rfl⟩
        go_wp2
        go_ret
        exact ⟨⟨k, rfl, by rw [HANY.out]; simp⟩, rfl⟩
      | false =>
        rw [hl] at hF
        have HF2 : Hid ((l.take (k + 1)).any longB = false) := by rw [htk, hno.out, hl]; exact rfl
        clear hany hl htk
        go_wp2_with fail
        refine (hF _).mono ?_
        rintro e w1 ⟨rfl, rfl⟩
        go_wp2
        go_round
        case rel => exact ⟨k + 1, by omega, by go_num, HF2⟩
        case measure => simp [intOf]; omega
    · have hke : k = l.length := by omega
      have hlt2 : ¬ ((k : Int) < (l.length : Int)) := by omega
      have hno2 : l.any longB = false := by have := hno.out; rw [hke, List.take_length] at this; exact this
      have HNO := Lib.hid hno2
      clear hke hno2
      go_wp2
      go_ret
      exact ⟨⟨-1, rfl, by rw [HNO.out]; decide⟩, rfl⟩
theorem containsLong_any (v : Value) (l : List ByteArray) (B : Nat) (w : World) (h : StrsIn w B v l) :
    Calls Tryz.prog 63 #[v, .func (.func 64) #[] #[]] w fun e w' => e = .returned (.bool (l.any longB)) ∧ w = w' := by
  have hI := indexLong_any v l B w h
  clear h
  go_enter Tryz.func63, Tryz.ntmps63
  go_wp2_with fail
  refine hI.mono ?_
  rintro e w1 ⟨⟨n, rfl, hn⟩, rfl⟩
  have HN := Lib.hid hn
  clear hn
  go_wp2
  go_ret
  exact ⟨by rw [← HN.out]; rfl, rfl⟩
theorem containsEmpty_any (v : Value) (l : List ByteArray) (B : Nat) (w : World) (h : StrsIn w B v l) :
    Calls Tryz.prog 65 #[v, .string ⟨#[]⟩] w fun e w' => e = .returned (.bool (l.any fun x => decide (x.size = 0))) ∧ w = w' := by
  obtain ⟨a, c, rfl, hlc, hcm, hel⟩ := h
  cases hl : l with
  | nil =>
    subst hl
    refine (Tryz.slices_Contains_string_empty a c ⟨#[]⟩ w).mono ?_
    rintro e w1 ⟨rfl, rfl⟩
    exact ⟨rfl, rfl⟩
  | cons x r =>
    rw [← hl]
    obtain ⟨b, o, rfl, hb, hx⟩ := hel (by rw [hl]; simp)
    refine (Tryz.slices_Contains_string b o l.length c l ⟨#[]⟩ w (Nat.le_refl _) (by omega) (fun j hj => ?_)).mono ?_
    · rw [hx j _ (List.getElem?_eq_getElem hj), List.getD_eq_getElem?_getD, List.getElem?_eq_getElem hj]; rfl
    · rintro e w1 ⟨rfl, rfl⟩
      refine ⟨?_, rfl⟩
      rw [List.take_length]
      refine congrArg (fun b => Ending.returned (.bool b)) ?_
      rw [Bool.eq_iff_iff, Lib.containsS_iff, List.any_eq_true]
      constructor
      · exact fun hm => ⟨_, hm, by decide⟩
      · rintro ⟨y, hy, h0⟩
        have h0 : y.size = 0 := by simpa using h0
        have : y = ⟨#[]⟩ := string_ext (by rw [Lib.size_eq] at h0; exact List.eq_nil_of_length_eq_zero h0)
        exact this ▸ hy
set_option maxHeartbeats 1000000 in
theorem Path_any (v : Value) (l : List ByteArray) (B : Nat) (w : World) (h : StrsIn w B v l) :
    Calls Tryz.prog 49 #[v] w fun e w' => e = .returned (.int .i64 (pathErr l)) ∧ w = w' := by
  have hL := containsLong_any v l B w h
  have hE := containsEmpty_any v l B w h
  obtain ⟨a, c, rfl, hlc, hcm, hel⟩ := h
  clear hel
  by_cases h8 : 8 < l.length
  · rw [show pathErr l = 3 by simp [pathErr, h8]]
    have h1 : decide (8 < (l.length : Int)) = true := by simp; omega
    go_enter Tryz.func49, Tryz.ntmps49
    go_wp2
    go_ret
    exact ⟨rfl, rfl⟩
  · have h1 : decide (8 < (l.length : Int)) = false := by simp; omega
    cases hlong : l.any longB with
    | true =>
      rw [hlong] at hL
      rw [show pathErr l = 3 by simp only [pathErr]; rw [if_pos (.inr hlong)]]
      clear hlong h8
      go_enter Tryz.func49, Tryz.ntmps49
      go_wp2_with fail
      refine hL.mono ?_
      rintro e w1 ⟨rfl, rfl⟩
      go_wp2
      go_ret
      exact ⟨rfl, rfl⟩
    | false =>
      rw [hlong] at hL
      cases hem : l.any (fun x => decide (x.size = 0)) with
      | true =>
        rw [hem] at hE
        rw [show pathErr l = 2 by simp only [pathErr]; rw [if_neg (by rw [hlong]; simp; omega), if_pos hem]]
        clear hlong h8 hem
        go_enter Tryz.func49, Tryz.ntmps49
        go_wp2_with fail
        refine hL.mono ?_
        rintro e w1 ⟨rfl, rfl⟩
        go_wp2_with fail
        refine hE.mono ?_
        rintro e w1 ⟨rfl, rfl⟩
        go_wp2
        go_ret
        exact ⟨rfl, rfl⟩
      | false =>
        rw [hem] at hE
        rw [show pathErr l = 0 by simp only [pathErr]; rw [if_neg (by rw [hlong]; simp; omega), if_neg (by rw [hem]; simp)]]
        clear hlong h8 hem
        go_enter Tryz.func49, Tryz.ntmps49
        go_wp2_with fail
        refine hL.mono ?_
        rintro e w1 ⟨rfl, rfl⟩
        go_wp2_with fail
        refine hE.mono ?_
        rintro e w1 ⟨rfl, rfl⟩
        go_wp2
        go_ret
        exact ⟨rfl, rfl⟩
theorem splitSeq_make (s sep : ByteArray) (w : World) :
    Calls Tryz.prog 62 #[.string s, .string sep, .int .i64 0] w fun e w' => e = .returned (.func (.func 78) #[] #[.pointer (some ⟨w.heap.size + 1, 0, none⟩), .pointer (some ⟨w.heap.size, 0, none⟩), .pointer (some ⟨w.heap.size + 2, 0, none⟩)]) ∧
      ((w.alloc (.cells #[.string s] 9)).alloc (.cells #[.string sep] 9)).alloc (.cells #[.int .i64 0] 3) = w' := by
  go_enter Tryz.func62, Tryz.ntmps62
  go_wp2
  go_ret
  exact ⟨rfl, rfl⟩
theorem SplitSeq_make (s sep : ByteArray) (w : World) :
    Calls Tryz.prog 48 #[.string s, .string sep] w fun e w' => e = .returned (.func (.func 78) #[] #[.pointer (some ⟨w.heap.size + 1, 0, none⟩), .pointer (some ⟨w.heap.size, 0, none⟩), .pointer (some ⟨w.heap.size + 2, 0, none⟩)]) ∧
      ((w.alloc (.cells #[.string s] 9)).alloc (.cells #[.string sep] 9)).alloc (.cells #[.int .i64 0] 3) = w' := by
  go_enter Tryz.func48, Tryz.ntmps48
  go_wp2_with fail
  refine (splitSeq_make s sep _).mono ?_
  rintro e w1 ⟨rfl, rfl⟩
  go_wp2
  go_ret
  exact ⟨rfl, rfl⟩
end Go.Proofs.YtamjhnibenonjaaGreatDoor
