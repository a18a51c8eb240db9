/- command.Same. -/
import Derived.Test.YtamjhnibenonjaaGreatDoorPEqual
namespace Go.Proofs.YtamjhnibenonjaaGreatDoor
set_option linter.unusedVariables false
set_option linter.unusedSimpArgs false
open Go Go.RowKit
attribute [local go_sem high] eqPol eqWish
theorem cmd_eq' (c d : Cmd) (e1 : c.kind = d.kind) (e2 : c.name = d.name) (e3 : c.pol = d.pol) (e4 : c.n = d.n) (e5 : c.path = d.path) : decide (c = d) = decide (c.wishes = d.wishes) := by
  cases c; cases d
  simp only at e1 e2 e3 e4 e5
  subst e1 e2 e3 e4 e5
  simp
set_option maxHeartbeats 4000000 in
set_option maxRecDepth 100000 in
theorem CSame_any (v u : Value) (c d : Cmd) (B : Nat) (w : World) (h : CmdIn w B v c) (h' : CmdIn w B u d) :
    Calls Tryz.prog 15 #[v, u] w fun e w' => e = .returned (.bool (decide (c = d))) ∧ Keep (fun _ => False) w w' := by
  obtain ⟨pv, wv, rfl, hp, hw⟩ := h
  obtain ⟨pv', wv', rfl, hp', hw'⟩ := h'
  have HWR := Lib.hid hw
  have HWR' := Lib.hid hw'
  have HPS := Lib.hid hp.strs
  have HPS' := Lib.hid hp'.strs
  obtain ⟨pa, pc, rfl, -⟩ := hp
  obtain ⟨pa', pc', rfl, -⟩ := hp'
  obtain ⟨wa, wc, rfl, -⟩ := hw
  obtain ⟨wa', wc', rfl, -⟩ := hw'
  simp only [cmdCells]
  by_cases h1 : c.kind = d.kind
  · by_cases h2 : c.name = d.name
    · by_cases h3 : c.pol = d.pol
      · by_cases h4 : c.n = d.n
        · have e1 : (c.kind == d.kind) = true := by simp [h1]
          have e2 : (c.name.toList == d.name.toList) = true := by simp [h2]
          have e3 : polEq c.pol d.pol = true := by rw [polEq_iff, h3]; simp
          have e4 : (c.n == d.n) = true := by simp [h4]
          have E1 := Lib.hid h1
          have E2 := Lib.hid h2
          have E3 := Lib.hid h3
          have E4 := Lib.hid h4
          clear h1 h2 h3 h4
          go_enter Tryz.func15, Tryz.ntmps15
          go_wp2_with fail
          have kk := ((Keep.refl (fun _ => False) w).alloc (.cells #[.int .i64 c.kind, .string c.name, .int .i64 c.pol.kind, .int .i64 c.pol.limit, .int .i64 c.pol.period, .int .i64 c.pol.burst, .int .i64 c.pol.cap, .bool c.pol.opn, .slice pa c.path.length pc, .slice wa c.wishes.length wc, .int .i64 c.n] 31)).alloc (.cells #[.int .i64 d.kind, .string d.name, .int .i64 d.pol.kind, .int .i64 d.pol.limit, .int .i64 d.pol.period, .int .i64 d.pol.burst, .int .i64 d.pol.cap, .bool d.pol.opn, .slice pa' d.path.length pc', .slice wa' d.wishes.length wc', .int .i64 d.n] 31)
          have hA := block_alloc (block_new w (.cells #[.int .i64 c.kind, .string c.name, .int .i64 c.pol.kind, .int .i64 c.pol.limit, .int .i64 c.pol.period, .int .i64 c.pol.burst, .int .i64 c.pol.cap, .bool c.pol.opn, .slice pa c.path.length pc, .slice wa c.wishes.length wc, .int .i64 c.n] 31)) (.cells #[.int .i64 d.kind, .string d.name, .int .i64 d.pol.kind, .int .i64 d.pol.limit, .int .i64 d.pol.period, .int .i64 d.pol.burst, .int .i64 d.pol.cap, .bool d.pol.opn, .slice pa' d.path.length pc', .slice wa' d.wishes.length wc', .int .i64 d.n] 31)
          have hB := block_new (w.alloc (.cells #[.int .i64 c.kind, .string c.name, .int .i64 c.pol.kind, .int .i64 c.pol.limit, .int .i64 c.pol.period, .int .i64 c.pol.burst, .int .i64 c.pol.cap, .bool c.pol.opn, .slice pa c.path.length pc, .slice wa c.wishes.length wc, .int .i64 c.n] 31)) (.cells #[.int .i64 d.kind, .string d.name, .int .i64 d.pol.kind, .int .i64 d.pol.limit, .int .i64 d.pol.period, .int .i64 d.pol.burst, .int .i64 d.pol.cap, .bool d.pol.opn, .slice pa' d.path.length pc', .slice wa' d.wishes.length wc', .int .i64 d.n] 31)
          rw [World.size_alloc] at hB
          refine (EqualS_any _ _ _ _ B B _ (HPS.out.keep kk) (HPS'.out.keep kk)).mono ?_
          rintro e w5 ⟨rfl, hk5⟩
          have HK5 := Lib.hid (kk.trans hk5)
          have hcA := cell_of_block (hk5.get hA id)
          have hcB := cell_of_block (hk5.get hB id)
          clear hk5 kk hA hB
          by_cases h5 : c.path = d.path
          · have hd5 : decide (c.path = d.path) = true := by simp [h5]
            rw [hd5]
            have HE : Hid (decide (c = d) = decide (c.wishes = d.wishes)) := cmd_eq' c d E1.out E2.out E3.out E4.out h5
            clear h5 hd5
            go_wp2_with fail
            refine (EqualW_any _ _ _ _ B B w5 (HWR.out.keep HK5.out) (HWR'.out.keep HK5.out)).mono ?_
            rintro e w6 ⟨rfl, hk6⟩
            have HK6 := Lib.hid (HK5.out.trans hk6)
            clear hk6
            go_wp2
            go_ret
            exact ⟨by rw [HE.out]; rfl, HK6.out⟩
          · have hd5 : decide (c.path = d.path) = false := by simp [h5]
            rw [hd5]
            have HN : Hid (decide (c = d) = false) := by simp only [decide_eq_false_iff_not]; intro e; exact h5 (by rw [e])
            clear h5 hd5
            go_wp2
            go_ret
            exact ⟨by rw [HN.out]; rfl, HK5.out⟩
        · have e1 : (c.kind == d.kind) = true := by simp [h1]
          have e2 : (c.name.toList == d.name.toList) = true := by simp [h2]
          have e3 : polEq c.pol d.pol = true := by rw [polEq_iff, h3]; simp
          have e4 : (c.n == d.n) = false := by simp [h4]
          have HN : Hid (decide (c = d) = false) := by simp only [decide_eq_false_iff_not]; intro e; exact h4 (by rw [e])
          clear h1 h2 h3 h4
          go_enter Tryz.func15, Tryz.ntmps15
          go_wp2
          go_ret
          exact ⟨by rw [HN.out]; rfl, ((Keep.refl _ w).alloc _).alloc _⟩
      · have e1 : (c.kind == d.kind) = true := by simp [h1]
        have e2 : (c.name.toList == d.name.toList) = true := by simp [h2]
        have e3 : polEq c.pol d.pol = false := by rw [polEq_iff]; simp [h3]
        have HN : Hid (decide (c = d) = false) := by simp only [decide_eq_false_iff_not]; intro e; exact h3 (by rw [e])
        clear h1 h2 h3
        go_enter Tryz.func15, Tryz.ntmps15
        go_wp2
        go_ret
        exact ⟨by rw [HN.out]; rfl, ((Keep.refl _ w).alloc _).alloc _⟩
    · have e1 : (c.kind == d.kind) = true := by simp [h1]
      have e2 : (c.name.toList == d.name.toList) = false := toList_ne h2
      have HN : Hid (decide (c = d) = false) := by simp only [decide_eq_false_iff_not]; intro e; exact h2 (by rw [e])
      clear h1 h2
      go_enter Tryz.func15, Tryz.ntmps15
      go_wp2
      go_ret
      exact ⟨by rw [HN.out]; rfl, ((Keep.refl _ w).alloc _).alloc _⟩
  · have e1 : (c.kind == d.kind) = false := by simp [h1]
    have HN : Hid (decide (c = d) = false) := by simp only [decide_eq_false_iff_not]; intro e; exact h1 (by rw [e])
    clear h1
    go_enter Tryz.func15, Tryz.ntmps15
    go_wp2
    go_ret
    exact ⟨by rw [HN.out]; rfl, ((Keep.refl _ w).alloc _).alloc _⟩
end Go.Proofs.YtamjhnibenonjaaGreatDoor
