/- slices.Equal of strings and of wishes; command.Same. -/
import Derived.Test.YtamjhnibenonjaaGreatDoorPSame18
namespace Go.Proofs.YtamjhnibenonjaaGreatDoor
set_option linter.unusedVariables false
set_option linter.unusedSimpArgs false
open Go Go.RowKit
set_option maxHeartbeats 1000000 in
theorem EqualS_any (v u : Value) (l m : List ByteArray) (B B' : Nat) (w : World) (h : StrsIn w B v l) (h' : StrsIn w B' u m) :
    Calls Tryz.prog 25 #[v, u] w fun e w' => e = .returned (.bool (decide (l = m))) ∧ Keep (fun _ => False) w w' := by
  obtain ⟨a, c, rfl, hlc, hcm, hel⟩ := h
  obtain ⟨a', c', rfl, hlc', hcm', hel'⟩ := h'
  have HEL := Lib.hid hel
  have HEL' := Lib.hid hel'
  clear hel hel'
  by_cases hlen : l.length = m.length
  · have hlen2 : (((l.length : Int)) != (m.length : Int)) = false := by simp; omega
    have HLEN := Lib.hid hlen
    rw [← hlen] at hlen2 ⊢
    clear hlen
    go_enter Tryz.func25, Tryz.ntmps25
    go_wp2
    go_loopw [13] (fun i wr => ∃ k : Nat, k ≤ l.length ∧ i = .int .i64 k ∧ Hid (l.take k = m.take k) ∧ Keep (fun _ => False) w wr) (fun i _ => l.length - (intOf i).toNat)
    case atStart => exact ⟨0, Nat.zero_le _, rfl, rfl, Keep.refl _ _⟩
    case round =>
      obtain ⟨k, hk, rfl, HT, HK⟩ := hrel
      by_cases hlt : k < l.length
      · have hltm : k < m.length := by have := HLEN.out; omega
        obtain ⟨b, o, rfl, hb, hx⟩ := HEL.out (by rintro rfl; simp at hlt)
        obtain ⟨b', o', rfl, hb', hx'⟩ := HEL'.out (by rintro rfl; simp at hltm)
        have hcell : wr.cell? ⟨b, o + k, none⟩ = some (.string l[k]) := HK.cell (hx k _ (List.getElem?_eq_getElem hlt)) id
        have hcell' : wr.cell? ⟨b', o' + k, none⟩ = some (.string m[k]) := HK.cell (hx' k _ (List.getElem?_eq_getElem hltm)) id
        have hlt2 : (k : Int) < (l.length : Int) := by omega
        have HX := Lib.hid hx
        have HX' := Lib.hid hx'
        have t1 : l.take (k + 1) = l.take k ++ [l[k]] := List.take_succ_eq_append_getElem hlt
        have t2 : m.take (k + 1) = m.take k ++ [m[k]] := List.take_succ_eq_append_getElem hltm
        have T1 := Lib.hid t1
        have T2 := Lib.hid t2
        clear hx hx' t1 t2
        obtain ⟨x, hxe⟩ : ∃ x, x = l[k] := ⟨_, rfl⟩
        obtain ⟨y, hye⟩ : ∃ y, y = m[k] := ⟨_, rfl⟩
        rw [← hxe] at hcell T1
        rw [← hye] at hcell' T2
        have HXE := Lib.hid hxe
        have HYE := Lib.hid hye
        clear hxe hye
        by_cases hxy : x = y
        · subst hxy
          go_wp2
          go_quiet (fail)
          have HKd := Lib.hid (HK.drewN nq)
          generalize wr.drewN nq = wd at *
          go_wp2
          go_roundw
          case rel => exact ⟨k + 1, by omega, by go_num, by rw [T1.out, T2.out, HT.out]; exact rfl, HKd.out⟩
          case measure => simp [intOf]; omega
        · have hne : (x.toList == y.toList) = false := toList_ne hxy
          have HNE : Hid (decide (l = m) = false) := by
            simp only [decide_eq_false_iff_not]
            intro e
            subst e
            exact hxy (HXE.out.trans HYE.out.symm)
          clear hxy
          go_wp2
          go_quiet (fail)
          have HKd := Lib.hid (HK.drewN nq)
          generalize wr.drewN nq = wd at *
          go_wp2
          go_ret
          exact ⟨by rw [HNE.out]; rfl, HKd.out⟩
      · have hke : k = l.length := by omega
        have hlt2 : ¬ ((k : Int) < (l.length : Int)) := by omega
        have HE : Hid (decide (l = m) = true) := by
          have := HT.out
          rw [hke, List.take_length] at this
          rw [HLEN.out, List.take_length] at this
          rw [decide_eq_true_iff]; exact this
        clear hke
        go_wp2
        go_ret
        exact ⟨by rw [HE.out]; rfl, HK⟩
  · have hlen2 : (((l.length : Int)) != (m.length : Int)) = true := by simp; omega
    have HD : Hid (decide (l = m) = false) := by simp only [decide_eq_false_iff_not]; intro e; exact hlen (by rw [e])
    clear hlen
    go_enter Tryz.func25, Tryz.ntmps25
    go_wp2
    go_ret
    exact ⟨by rw [HD.out]; rfl, Keep.refl _ _⟩
attribute [local go_sem high] eqPol eqWish
set_option maxHeartbeats 2000000 in
theorem EqualW_any (v u : Value) (l m : List Wish) (B B' : Nat) (w : World) (h : RowIn w B 3 v l.length (l.flatMap Wish.cells)) (h' : RowIn w B' 3 u m.length (m.flatMap Wish.cells)) :
    Calls Tryz.prog 26 #[v, u] w fun e w' => e = .returned (.bool (decide (l = m))) ∧ Keep (fun _ => False) w w' := by
  obtain ⟨a, c, rfl, hlc, hcm, hel⟩ := h.wish
  obtain ⟨a', c', rfl, hlc', hcm', hel'⟩ := h'.wish
  have HEL := Lib.hid hel
  have HEL' := Lib.hid hel'
  clear hel hel' h h'
  by_cases hlen : l.length = m.length
  · have hlen2 : (((l.length : Int)) != (m.length : Int)) = false := by simp; omega
    have HLEN := Lib.hid hlen
    rw [← hlen] at hlen2 ⊢
    clear hlen
    go_enter Tryz.func26, Tryz.ntmps26
    go_wp2
    go_loopw [13] (fun i wr => ∃ k : Nat, k ≤ l.length ∧ i = .int .i64 k ∧ Hid (l.take k = m.take k) ∧ Keep (fun _ => False) w wr) (fun i _ => l.length - (intOf i).toNat)
    case atStart => exact ⟨0, Nat.zero_le _, rfl, rfl, Keep.refl _ _⟩
    case round =>
      obtain ⟨k, hk, rfl, HT, HK⟩ := hrel
      by_cases hlt : k < l.length
      · have hltm : k < m.length := by have := HLEN.out; omega
        obtain ⟨b, o, rfl, hb, hx⟩ := HEL.out (by rintro rfl; simp at hlt)
        obtain ⟨b', o', rfl, hb', hx'⟩ := HEL'.out (by rintro rfl; simp at hltm)
        have hx1 := hx k _ (List.getElem?_eq_getElem hlt)
        have hx1' := hx' k _ (List.getElem?_eq_getElem hltm)
        have t1 : l.take (k + 1) = l.take k ++ [l[k]] := List.take_succ_eq_append_getElem hlt
        have t2 : m.take (k + 1) = m.take k ++ [m[k]] := List.take_succ_eq_append_getElem hltm
        obtain ⟨x, hxe⟩ : ∃ x, x = l[k] := ⟨_, rfl⟩
        obtain ⟨y, hye⟩ : ∃ y, y = m[k] := ⟨_, rfl⟩
        rw [← hxe] at hx1 t1
        rw [← hye] at hx1' t2
        have c0 := HK.cell hx1.1 id
        have c1 := HK.cell hx1.2.1 id
        have c2 := HK.cell hx1.2.2 id
        have d0 := HK.cell hx1'.1 id
        have d1 := HK.cell hx1'.2.1 id
        have d2 := HK.cell hx1'.2.2 id
        have hlt2 : (k : Int) < (l.length : Int) := by omega
        have T1 := Lib.hid t1
        have T2 := Lib.hid t2
        have XE := Lib.hid hxe
        have YE := Lib.hid hye
        have HX := Lib.hid hx
        have HX' := Lib.hid hx'
        clear t1 t2 hxe hye hx hx' hx1 hx1'
        by_cases hxy : x = y
        · have hw1 : wishEq x y = true := by rw [wishEq_iff, hxy]; simp
          have HXY := Lib.hid hxy
          clear hxy
          go_wp2
          go_quiet (fail)
          have HKd := Lib.hid (HK.drewN nq)
          generalize wr.drewN nq = wd at *
          go_wp2
          go_roundw
          case rel => exact ⟨k + 1, by omega, by go_num, by rw [T1.out, T2.out, HT.out, HXY.out]; exact rfl, HKd.out⟩
          case measure => simp [intOf]; omega
        · have hw1 : wishEq x y = false := by rw [wishEq_iff]; simp [hxy]
          have HNE : Hid (decide (l = m) = false) := by
            simp only [decide_eq_false_iff_not]
            intro e
            subst e
            exact hxy (XE.out.trans YE.out.symm)
          clear hxy
          go_wp2
          go_quiet (fail)
          have HKd := Lib.hid (HK.drewN nq)
          generalize wr.drewN nq = wd at *
          go_wp2
          go_ret
          exact ⟨by rw [HNE.out]; rfl, HKd.out⟩
      · have hke : k = l.length := by omega
        have hlt2 : ¬ ((k : Int) < (l.length : Int)) := by omega
        have HE : Hid (decide (l = m) = true) := by
          have := HT.out
          rw [hke, List.take_length] at this
          rw [HLEN.out, List.take_length] at this
          rw [decide_eq_true_iff]; exact this
        clear hke
        go_wp2
        go_ret
        exact ⟨by rw [HE.out]; rfl, HK⟩
  · have hlen2 : (((l.length : Int)) != (m.length : Int)) = true := by simp; omega
    have HD : Hid (decide (l = m) = false) := by simp only [decide_eq_false_iff_not]; intro e; exact hlen (by rw [e])
    clear hlen
    go_enter Tryz.func26, Tryz.ntmps26
    go_wp2
    go_ret
    exact ⟨by rw [HD.out]; rfl, Keep.refl _ _⟩
end Go.Proofs.YtamjhnibenonjaaGreatDoor
