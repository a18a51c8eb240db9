/- tapsterref18.Same. -/
import Derived.Test.YtamjhnibenonjaaGreatDoorPEq
namespace Go.Proofs.YtamjhnibenonjaaGreatDoor
set_option linter.unusedVariables false
set_option linter.unusedSimpArgs false
open Go Go.RowKit
attribute [local go_sem high] eqPol eqWish
def sameHead (c d : Cmd) : Bool := (c.kind == d.kind) && ((c.name.toList == d.name.toList) && (polEq c.pol d.pol && ((c.n == d.n) && (c.wishes.length == d.wishes.length))))
theorem cmd_eq (c d : Cmd) (e1 : c.kind = d.kind) (e2 : c.name = d.name) (e3 : c.pol = d.pol) (e4 : c.n = d.n) (e5 : c.wishes = d.wishes) : decide (c = d) = decide (c.path = d.path) := by
  cases c; cases d
  simp only at e1 e2 e3 e4 e5
  subst e1 e2 e3 e4 e5
  simp
set_option maxHeartbeats 4000000 in
set_option maxRecDepth 100000 in
theorem Same18_any (v u : Value) (c d : Cmd) (B : Nat) (w : World) (h : CmdIn w B v c) (h' : CmdIn w B u d) :
    Calls Tryz.prog 16 #[v, u] w fun e w' => e = .returned (.bool (decide (c = d))) ∧ Keep (fun _ => False) w w' := by
  obtain ⟨pv, wv, rfl, hp, hw⟩ := h
  obtain ⟨pv', wv', rfl, hp', hw'⟩ := h'
  obtain ⟨wa, wc, rfl, hwl, hwm, hwe⟩ := hw.wish
  obtain ⟨wa', wc', rfl, hwl', hwm', hwe'⟩ := hw'.wish
  have hps := hp.strs
  have hps' := hp'.strs
  obtain ⟨pa, pc, rfl, -⟩ := hp
  obtain ⟨pa', pc', rfl, -⟩ := hp'
  have HPS := Lib.hid hps
  have HPS' := Lib.hid hps'
  have HWE := Lib.hid hwe
  have HWE' := Lib.hid hwe'
  clear hps hps' hwe hwe' hw hw'
  simp only [cmdCells]
  by_cases h1 : c.kind = d.kind
  · by_cases h2 : c.name = d.name
    · by_cases h3 : c.pol = d.pol
      · by_cases h4 : c.n = d.n
        · by_cases h5 : c.wishes.length = d.wishes.length
          · have e1 : (c.kind != d.kind) = false := by simp [h1]
            have e2 : (c.name.toList == d.name.toList) = true := by simp [h2]
            have e3 : polEq c.pol d.pol = true := by rw [polEq_iff, h3]; simp
            have e4 : (c.n != d.n) = false := by simp [h4]
            have e5 : ((c.wishes.length : Int) != (d.wishes.length : Int)) = false := by simp [h5]
            have E1 := Lib.hid h1
            have E2 := Lib.hid h2
            have E3 := Lib.hid h3
            have E4 := Lib.hid h4
            have E5 := Lib.hid h5
            clear h1 h2 h3 h4 h5
            rw [← E5.out] at e5 ⊢
            go_enter Tryz.func16, Tryz.ntmps16
            go_wp2
            have hA := block_alloc (block_new w (.cells #[.int .i64 c.kind, .string c.name, .int .i64 c.pol.kind, .int .i64 c.pol.limit, .int .i64 c.pol.period, .int .i64 c.pol.burst, .int .i64 c.pol.cap, .bool c.pol.opn, .slice pa c.path.length pc, .slice wa c.wishes.length wc, .int .i64 c.n] 31)) (.cells #[.int .i64 d.kind, .string d.name, .int .i64 d.pol.kind, .int .i64 d.pol.limit, .int .i64 d.pol.period, .int .i64 d.pol.burst, .int .i64 d.pol.cap, .bool d.pol.opn, .slice pa' d.path.length pc', .slice wa' c.wishes.length wc', .int .i64 d.n] 31)
            have hB := block_new (w.alloc (.cells #[.int .i64 c.kind, .string c.name, .int .i64 c.pol.kind, .int .i64 c.pol.limit, .int .i64 c.pol.period, .int .i64 c.pol.burst, .int .i64 c.pol.cap, .bool c.pol.opn, .slice pa c.path.length pc, .slice wa c.wishes.length wc, .int .i64 c.n] 31)) (.cells #[.int .i64 d.kind, .string d.name, .int .i64 d.pol.kind, .int .i64 d.pol.limit, .int .i64 d.pol.period, .int .i64 d.pol.burst, .int .i64 d.pol.cap, .bool d.pol.opn, .slice pa' d.path.length pc', .slice wa' c.wishes.length wc', .int .i64 d.n] 31)
            rw [World.size_alloc] at hB
            have HA := Lib.hid hA
            have HB := Lib.hid hB
            have HK2 := Lib.hid (((Keep.refl (fun _ => False) w).alloc (.cells #[.int .i64 c.kind, .string c.name, .int .i64 c.pol.kind, .int .i64 c.pol.limit, .int .i64 c.pol.period, .int .i64 c.pol.burst, .int .i64 c.pol.cap, .bool c.pol.opn, .slice pa c.path.length pc, .slice wa c.wishes.length wc, .int .i64 c.n] 31)).alloc (.cells #[.int .i64 d.kind, .string d.name, .int .i64 d.pol.kind, .int .i64 d.pol.limit, .int .i64 d.pol.period, .int .i64 d.pol.burst, .int .i64 d.pol.cap, .bool d.pol.opn, .slice pa' d.path.length pc', .slice wa' c.wishes.length wc', .int .i64 d.n] 31))
            clear hA hB
            generalize (w.alloc (.cells #[.int .i64 c.kind, .string c.name, .int .i64 c.pol.kind, .int .i64 c.pol.limit, .int .i64 c.pol.period, .int .i64 c.pol.burst, .int .i64 c.pol.cap, .bool c.pol.opn, .slice pa c.path.length pc, .slice wa c.wishes.length wc, .int .i64 c.n] 31)).alloc (.cells #[.int .i64 d.kind, .string d.name, .int .i64 d.pol.kind, .int .i64 d.pol.limit, .int .i64 d.pol.period, .int .i64 d.pol.burst, .int .i64 d.pol.cap, .bool d.pol.opn, .slice pa' d.path.length pc', .slice wa' c.wishes.length wc', .int .i64 d.n] 31) = W2 at *
            go_loopw [5] (fun i wr => ∃ k : Nat, k ≤ c.wishes.length ∧ i = .int .i64 k ∧ Hid (c.wishes.take k = d.wishes.take k) ∧ Hid (Keep (fun _ => False) W2 wr)) (fun i _ => c.wishes.length - (intOf i).toNat)
            case atStart => exact ⟨0, Nat.zero_le _, rfl, rfl, Keep.refl _ _⟩
            case round =>
              obtain ⟨k, hk, rfl, HT, HK⟩ := hrel
              have hcA := cell_of_block (HK.out.get HA.out id)
              have hcB := cell_of_block (HK.out.get HB.out id)
              by_cases hlt : k < c.wishes.length
              · have hltm : k < d.wishes.length := by have := E5.out; omega
                obtain ⟨b, o, rfl, hb, hx⟩ := HWE.out (by intro e; rw [e] at hlt; simp at hlt)
                obtain ⟨b', o', rfl, hb', hx'⟩ := HWE'.out (by intro e; rw [e] at hltm; simp at hltm)
                have t1 : c.wishes.take (k + 1) = c.wishes.take k ++ [c.wishes[k]] := List.take_succ_eq_append_getElem hlt
                have t2 : d.wishes.take (k + 1) = d.wishes.take k ++ [d.wishes[k]] := List.take_succ_eq_append_getElem hltm
                have hx1 := hx k _ (List.getElem?_eq_getElem hlt)
                have hx1' := hx' k _ (List.getElem?_eq_getElem hltm)
                obtain ⟨x, hxe⟩ : ∃ x, x = c.wishes[k] := ⟨_, rfl⟩
                obtain ⟨y, hye⟩ : ∃ y, y = d.wishes[k] := ⟨_, rfl⟩
                rw [← hxe] at hx1 t1
                rw [← hye] at hx1' t2
                have KK := HK2.out.trans HK.out
                have c0 := KK.cell hx1.1 id
                have c1 := KK.cell hx1.2.1 id
                have c2 := KK.cell hx1.2.2 id
                have d0 := KK.cell hx1'.1 id
                have d1 := KK.cell hx1'.2.1 id
                have d2 := KK.cell hx1'.2.2 id
                have hlt2 : (k : Int) < (c.wishes.length : Int) := by omega
                have T1 := Lib.hid t1
                have T2 := Lib.hid t2
                have XE := Lib.hid hxe
                have YE := Lib.hid hye
                have HX := Lib.hid hx
                have HX' := Lib.hid hx'
                clear t1 t2 hxe hye hx hx' hx1 hx1' KK
                by_cases hxy : x = y
                · have hw1 : wishEq x y = true := by rw [wishEq_iff, hxy]; simp
                  have HXY := Lib.hid hxy
                  clear hxy
                  go_wp2
                  go_quiet (fail)
                  have HKd := Lib.hid (HK.out.drewN nq)
                  generalize wr.drewN nq = wd at *
                  go_wp2
                  go_roundw
                  case rel => exact ⟨k + 1, by omega, by go_num, by rw [T1.out, T2.out, HT.out, HXY.out]; exact rfl, HKd⟩
                  case measure => simp [intOf]; omega
                · have hw1 : wishEq x y = false := by rw [wishEq_iff]; simp [hxy]
                  have HNE : Hid (decide (c = d) = false) := by
                    simp only [decide_eq_false_iff_not]
                    intro e
                    subst e
                    exact hxy (XE.out.trans YE.out.symm)
                  clear hxy
                  go_wp2
                  go_quiet (fail)
                  have HKd := Lib.hid (HK.out.drewN nq)
                  generalize wr.drewN nq = wd at *
                  go_wp2
                  go_ret
                  exact ⟨by rw [HNE.out]; rfl, HK2.out.trans HKd.out⟩
              · have hke : k = c.wishes.length := by omega
                have hlt2 : ¬ ((k : Int) < (c.wishes.length : Int)) := by omega
                have HW : Hid (c.wishes = d.wishes) := by
                  have := HT.out
                  rw [hke, List.take_length] at this
                  rw [E5.out, List.take_length] at this
                  exact this
                clear hke
                go_wp2_with fail
                refine (Same03_any _ _ _ _ B B wr (HPS.out.keep (HK2.out.trans HK.out)) (HPS'.out.keep (HK2.out.trans HK.out))).mono ?_
                rintro e w5 ⟨rfl, hk5⟩
                have HK5 := Lib.hid (HK2.out.trans (HK.out.trans hk5))
                have HE : Hid (decide (c = d) = decide (c.path = d.path)) := cmd_eq c d E1.out E2.out E3.out E4.out HW.out
                clear hk5
                go_wp2
                go_ret
                exact ⟨by rw [HE.out]; rfl, HK5.out⟩
          · have e1 : (c.kind != d.kind) = false := by simp [h1]
            have e2 : (c.name.toList == d.name.toList) = true := by simp [h2]
            have e3 : polEq c.pol d.pol = true := by rw [polEq_iff, h3]; simp
            have e4 : (c.n != d.n) = false := by simp [h4]
            have e5 : ((c.wishes.length : Int) != (d.wishes.length : Int)) = true := by simp; omega
            have HN : Hid (decide (c = d) = false) := by simp only [decide_eq_false_iff_not]; intro e; exact h5 (by rw [e])
            clear h1 h2 h3 h4 h5
            go_enter Tryz.func16, Tryz.ntmps16
            go_wp2
            go_ret
            exact ⟨by rw [HN.out]; rfl, ((Keep.refl _ w).alloc _).alloc _⟩
        · have e1 : (c.kind != d.kind) = false := by simp [h1]
          have e2 : (c.name.toList == d.name.toList) = true := by simp [h2]
          have e3 : polEq c.pol d.pol = true := by rw [polEq_iff, h3]; simp
          have e4 : (c.n != d.n) = true := by simp [h4]
          have HN : Hid (decide (c = d) = false) := by simp only [decide_eq_false_iff_not]; intro e; exact h4 (by rw [e])
          clear h1 h2 h3 h4
          go_enter Tryz.func16, Tryz.ntmps16
          go_wp2
          go_ret
          exact ⟨by rw [HN.out]; rfl, ((Keep.refl _ w).alloc _).alloc _⟩
      · have e1 : (c.kind != d.kind) = false := by simp [h1]
        have e2 : (c.name.toList == d.name.toList) = true := by simp [h2]
        have e3 : polEq c.pol d.pol = false := by rw [polEq_iff]; simp [h3]
        have HN : Hid (decide (c = d) = false) := by simp only [decide_eq_false_iff_not]; intro e; exact h3 (by rw [e])
        clear h1 h2 h3
        go_enter Tryz.func16, Tryz.ntmps16
        go_wp2
        go_ret
        exact ⟨by rw [HN.out]; rfl, ((Keep.refl _ w).alloc _).alloc _⟩
    · have e1 : (c.kind != d.kind) = false := by simp [h1]
      have e2 : (c.name.toList == d.name.toList) = false := toList_ne h2
      have HN : Hid (decide (c = d) = false) := by simp only [decide_eq_false_iff_not]; intro e; exact h2 (by rw [e])
      clear h1 h2
      go_enter Tryz.func16, Tryz.ntmps16
      go_wp2
      go_ret
      exact ⟨by rw [HN.out]; rfl, ((Keep.refl _ w).alloc _).alloc _⟩
  · have e1 : (c.kind != d.kind) = true := by simp [h1]
    have HN : Hid (decide (c = d) = false) := by simp only [decide_eq_false_iff_not]; intro e; exact h1 (by rw [e])
    clear h1
    go_enter Tryz.func16, Tryz.ntmps16
    go_wp2
    go_ret
    exact ⟨by rw [HN.out]; rfl, ((Keep.refl _ w).alloc _).alloc _⟩
end Go.Proofs.YtamjhnibenonjaaGreatDoor
