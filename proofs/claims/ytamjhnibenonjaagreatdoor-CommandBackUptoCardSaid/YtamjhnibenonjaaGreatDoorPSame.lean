/- tapsterref03.Long, .Same: of strings. -/
import Derived.Test.YtamjhnibenonjaaGreatDoorPParse2
import Derived.Deep.QuietTactic
import Derived.BigQuiet
namespace Go.Proofs.YtamjhnibenonjaaGreatDoor
set_option linter.unusedVariables false
set_option linter.unusedSimpArgs false
open Go Go.RowKit
def longL (l : List ByteArray) : Nat := (l.map fun x => x.size + 1).sum
theorem longL_take (l : List ByteArray) (k : Nat) (h : k < l.length) : longL (l.take (k + 1)) = longL (l.take k) + (l[k].size + 1) := by
  rw [longL, List.take_succ_eq_append_getElem h, List.map_append, List.sum_append]; simp [longL]
theorem longL_le (l : List ByteArray) (k : Nat) : longL (l.take k) ≤ longL l := by
  have h := List.take_append_drop k l
  have : longL l = longL (l.take k) + longL (l.drop k) := by
    rw [longL, longL, longL, ← List.sum_append, ← List.map_append, h]
  omega
set_option maxHeartbeats 1000000 in
theorem Long03_any (v : Value) (l : List ByteArray) (B : Nat) (w : World) (h : StrsIn w B v l) (hl : longL l ≤ 9223372036854775807) :
    Calls Tryz.prog 7 #[v] w fun e w' => e = .returned (.int .i64 (longL l)) ∧ w' = w := by
  obtain ⟨a, c, rfl, hlc, hcm, hel⟩ := h
  have HEL := Lib.hid hel
  clear hel
  go_enter Tryz.func7, Tryz.ntmps7
  go_wp2
  go_loopw [3, 4] (fun n i wr => ∃ k : Nat, k ≤ l.length ∧ i = .int .i64 k ∧ n = .int .i64 (longL (l.take k)) ∧ wr = w) (fun _ i _ => l.length - (intOf i).toNat)
  case atStart => exact ⟨0, Nat.zero_le _, rfl, rfl, rfl⟩
  case round =>
    obtain ⟨k, hk, rfl, rfl, rfl⟩ := hrel
    by_cases hlt : k < l.length
    · obtain ⟨b, o, rfl, hb, hx⟩ := HEL.out (by rintro rfl; simp at hlt)
      have hcell : wr.cell? ⟨b, o + k, none⟩ = some (.string l[k]) := hx k _ (List.getElem?_eq_getElem hlt)
      have hlt2 : (k : Int) < (l.length : Int) := by omega
      have h1 := longL_take l k hlt
      have h2 := longL_le l (k + 1)
      have HX := Lib.hid hx
      have H1 := Lib.hid h1
      rw [h1] at h2
      clear hx h1
      go_wp2
      go_roundw
      case rel => exact ⟨k + 1, by omega, by go_num, by rw [H1.out]; congr 1; omega, trivial⟩
      case measure => simp [intOf]; omega
    · have hke : k = l.length := by omega
      have hlt2 : ¬ ((k : Int) < (l.length : Int)) := by omega
      have HKE : Hid (longL (l.take k) = longL l) := by rw [hke, List.take_length]; exact rfl
      clear hke
      go_wp2
      go_ret
      exact ⟨by rw [← HKE.out]; rfl, rfl⟩
set_option maxHeartbeats 1000000 in
theorem Same03_any (v u : Value) (l m : List ByteArray) (B B' : Nat) (w : World) (h : StrsIn w B v l) (h' : StrsIn w B' u m) :
    Calls Tryz.prog 12 #[v, u] w fun e w' => e = .returned (.bool (decide (l = m))) ∧ Keep (fun _ => False) w w' := by
  obtain ⟨a, c, rfl, hlc, hcm, hel⟩ := h
  obtain ⟨a', c', rfl, hlc', hcm', hel'⟩ := h'
  have HEL := Lib.hid hel
  have HEL' := Lib.hid hel'
  clear hel hel'
  by_cases hlen : l.length = m.length
  · have hlen2 : (((l.length : Int)) != (m.length : Int)) = false := by simp; omega
    have HLEN := Lib.hid hlen
    rw [← hlen] at hlen2 ⊢
    clear hlen
    go_enter Tryz.func12, Tryz.ntmps12
    go_wp2
    go_loopw [5] (fun i wr => ∃ k : Nat, k ≤ l.length ∧ i = .int .i64 k ∧ Hid (l.take k = m.take k) ∧ Keep (fun _ => False) w wr) (fun i _ => l.length - (intOf i).toNat)
    case atStart => exact ⟨0, Nat.zero_le _, rfl, rfl, Keep.refl _ _⟩
    case round =>
      obtain ⟨k, hk, rfl, HT, HK⟩ := hrel
      by_cases hlt : k < l.length
      · have hltm : k < m.length := by have := HLEN.out; omega
        obtain ⟨b, o, rfl, hb, hx⟩ := HEL.out (by rintro rfl; simp at hlt)
        obtain ⟨b', o', rfl, hb', hx'⟩ := HEL'.out (by rintro rfl; simp at hltm)
        have hcell : wr.cell? ⟨b, o + k, none⟩ = some (.string l[k]) := HK.cell (hx k _ (List.getElem?_eq_getElem hlt)) id
        have hcell' : wr.cell? ⟨b', o' + k, none⟩ = some (.string m[k]) := HK.cell (hx' k _ (List.getElem?_eq_getElem hltm)) id
        have hlt2 : (k : Int) < (l.length : Int) := by omega
        have HX := Lib.hid hx
        have HX' := Lib.hid hx'
        have t1 : l.take (k + 1) = l.take k ++ [l[k]] := List.take_succ_eq_append_getElem hlt
        have t2 : m.take (k + 1) = m.take k ++ [m[k]] := List.take_succ_eq_append_getElem hltm
        have T1 := Lib.hid t1
        have T2 := Lib.hid t2
        clear hx hx' t1 t2
        obtain ⟨x, hxe⟩ : ∃ x, x = l[k] := ⟨_, rfl⟩
        obtain ⟨y, hye⟩ : ∃ y, y = m[k] := ⟨_, rfl⟩
        rw [← hxe] at hcell T1
        rw [← hye] at hcell' T2
        have HXE := Lib.hid hxe
        have HYE := Lib.hid hye
        clear hxe hye
        by_cases hxy : x = y
        · subst hxy
          go_wp2
          go_quiet (fail)
          have HKd := Lib.hid (HK.drewN nq)
          generalize wr.drewN nq = wd at *
          go_wp2
          go_roundw
          case rel => exact ⟨k + 1, by omega, by go_num, by rw [T1.out, T2.out, HT.out]; exact rfl, HKd.out⟩
          case measure => simp [intOf]; omega
        · have hne : (x.toList == y.toList) = false := toList_ne hxy
          have HNE : Hid (decide (l = m) = false) := by
            simp only [decide_eq_false_iff_not]
            intro e
            subst e
            exact hxy (HXE.out.trans HYE.out.symm)
          clear hxy
          go_wp2
          go_quiet (fail)
          have HKd := Lib.hid (HK.drewN nq)
          generalize wr.drewN nq = wd at *
          go_wp2
          go_ret
          exact ⟨by rw [HNE.out]; rfl, HKd.out⟩
      · have hke : k = l.length := by omega
        have hlt2 : ¬ ((k : Int) < (l.length : Int)) := by omega
        have HE : Hid (decide (l = m) = true) := by
          have := HT.out
          rw [hke, List.take_length] at this
          rw [HLEN.out, List.take_length] at this
          rw [decide_eq_true_iff]; exact this
        clear hke
        go_wp2
        go_ret
        exact ⟨by rw [HE.out]; rfl, HK⟩
  · have hlen2 : (((l.length : Int)) != (m.length : Int)) = true := by simp; omega
    have HD : Hid (decide (l = m) = false) := by simp only [decide_eq_false_iff_not]; intro e; exact hlen (by rw [e])
    clear hlen
    go_enter Tryz.func12, Tryz.ntmps12
    go_wp2
    go_ret
    exact ⟨by rw [HD.out]; rfl, Keep.refl _ _⟩
end Go.Proofs.YtamjhnibenonjaaGreatDoor
