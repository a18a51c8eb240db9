/- digits.Print returns the decimal numeral of its argument; nothing that was there is changed. Conditions: the argument is an int64. -/
import Derived.Test.YtamjhnibenonjaaGreatDoorProg
import Derived.Test.YtamjhnibenonjaaGreatDoorB0
import Derived.Lib.ItoaMem
import Derived.Laws.BytesArg
import Derived.Deep.LoopGhost
namespace Go.Proofs.YtamjhnibenonjaaGreatDoor
set_option linter.unusedVariables false
set_option linter.unusedSimpArgs false
open Go Go.RowKit
def dgv (u j : Nat) : Value := .int .u8 ((u / 10 ^ j % 10 + 48 : Nat) : Int)
structure PrintInv (u m v : Nat) (c : Array Value) : Prop where
  size : c.size = 20
  rest : v = u / 10 ^ (19 - m)
  pos : m = 19 ∨ 0 < v
  done : ∀ j, m < j → j < 20 → c[j]? = some (dgv u (19 - j))
theorem PrintInv.step {u m v : Nat} {c : Array Value} (h : PrintInv u (m + 1) v c) (hm : m < 19) (hv : 0 < v / 10) : PrintInv u m (v / 10) (c.setIfInBounds (m + 1) (.int .u8 ((v % 10 + 48 : Nat) : Int))) where
  size := by simp [h.size]
  rest := by rw [h.rest, Nat.div_div_eq_div_mul, ← Nat.pow_succ, show (19 - (m + 1)).succ = 19 - m by omega]
  pos := .inr hv
  done := fun j h1 h2 => by
    by_cases e : j = m + 1
    · subst e
      rw [Array.getElem?_setIfInBounds_self_of_lt (by rw [h.size]; omega), h.rest]; rfl
    · rw [Array.getElem?_setIfInBounds_ne (by omega)]; exact h.done j (by omega) h2
theorem PrintInv.last {u m v : Nat} {c : Array Value} (h : PrintInv u m v c) (hm : m ≤ 19) (hv : v / 10 = 0) : (∀ j, m ≤ j → j < 20 → (c.setIfInBounds m (.int .u8 ((v % 10 + 48 : Nat) : Int)))[j]? = some (dgv u (19 - j))) ∧ Lib.nDigits u = 20 - m := by
  refine ⟨fun j h1 h2 => ?_, ?_⟩
  · by_cases e : j = m
    · subst e
      rw [Array.getElem?_setIfInBounds_self_of_lt (by rw [h.size]; omega), h.rest]; rfl
    · rw [Array.getElem?_setIfInBounds_ne (by omega)]; exact h.done j (by omega) h2
  · have h10 : v < 10 := by omega
    rw [show 20 - m = 19 - m + 1 by omega]
    have hr := h.rest
    have hp : 0 < 10 ^ (19 - m) := Nat.pow_pos (by decide)
    rcases h.pos with rfl | hpos
    · simp at hr ⊢
      exact Lib.nDigits_small (by omega)
    · refine Lib.nDigits_unique _ _ ?_ ?_
      · have := (Nat.le_div_iff_mul_le hp).1 (show 1 ≤ u / 10 ^ (19 - m) by omega); omega
      · have := (Nat.div_lt_iff_lt_mul hp).1 (show u / 10 ^ (19 - m) < 10 by omega); rw [Nat.pow_succ]; omega

def numsOf (u : Nat) : List Int := (List.range (Lib.nDigits u)).map fun t => ((u / 10 ^ (Lib.nDigits u - 1 - t) % 10 + 48 : Nat) : Int)
theorem numsOf_length (u : Nat) : (numsOf u).length = Lib.nDigits u := by simp [numsOf]
theorem numsOf_string (u : Nat) : (strOfNums (numsOf u)).data.toList = Lib.decDigits u := by
  rw [strOfNums_data, Lib.decDigits_eq, numsOf, List.map_map]
  refine List.map_congr_left fun t _ => ?_
  simp only [Function.comp, Int.toNat_natCast, Lib.dg]
  rw [Nat.add_comm]
theorem PrintInv.cells {u m v : Nat} {c : Array Value} (h : PrintInv u m v c) (hm : m ≤ 19) (hv : v / 10 = 0) {W : World} {B : Nat} {t : TypeId}
    (hW : W.heap[B]? = some (.cells (c.setIfInBounds m (.int .u8 ((v % 10 + 48 : Nat) : Int))) t (0, 0))) :
    ∀ i, i < 20 - m → W.cell? ⟨B, m + i, none⟩ = some (.int .u8 ((numsOf u).getD i 0)) := by
  intro i hi
  have hn := (h.last hm hv).2
  rw [cell_of_block hW, (h.last hm hv).1 (m + i) (by omega) (by omega)]
  simp only [numsOf, dgv]
  rw [List.getD_eq_getElem?_getD, List.getElem?_map, List.getElem?_range (by omega)]
  simp only [Option.map_some, Option.getD_some]
  rw [hn, show 20 - m - 1 - i = 19 - (m + i) by omega]
theorem PrintInv.cellsNeg {u m v : Nat} {c : Array Value} (h : PrintInv u (m + 1) v c) (hm : m + 1 ≤ 19) (hv : v / 10 = 0) {W : World} {B : Nat} {t : TypeId}
    (hW : W.heap[B]? = some (.cells ((c.setIfInBounds (m + 1) (.int .u8 ((v % 10 + 48 : Nat) : Int))).setIfInBounds m (.int .u8 45)) t (0, 0))) :
    ∀ i, i < 20 - m → W.cell? ⟨B, m + i, none⟩ = some (.int .u8 ((45 :: numsOf u).getD i 0)) := by
  intro i hi
  have hn := (h.last hm hv).2
  have hs := h.size
  rw [cell_of_block hW]
  rcases i with _ | i
  · exact Array.getElem?_setIfInBounds_self_of_lt (show m < (c.setIfInBounds (m + 1) (.int .u8 ((v % 10 + 48 : Nat) : Int))).size by rw [Array.size_setIfInBounds, hs]; omega)
  · rw [Array.getElem?_setIfInBounds_ne (by omega), show m + (i + 1) = m + 1 + i by omega, (h.last hm hv).1 (m + 1 + i) (by omega) (by omega)]
    simp only [numsOf, dgv]
    rw [List.getD_cons_succ, List.getD_eq_getElem?_getD, List.getElem?_map, List.getElem?_range (by omega)]
    simp only [Option.map_some, Option.getD_some]
    rw [hn, show 20 - (m + 1) - 1 - i = 19 - (m + 1 + i) by omega]
theorem negneg (u : Nat) (h0 : 1 ≤ u) (h1 : u ≤ 9223372036854775808) : IntKind.u64.wrap (-IntKind.u64.wrap (-(u : Int))) = u := by
  have e : ∀ x : Int, IntKind.u64.wrap x = x % 18446744073709551616 := fun x => by simp [IntKind.wrap, IntKind.signed, IntKind.bits]
  rw [e, e]; omega
/-- The numeral as a string. -/
def itoaB (n : Int) : ByteArray := ⟨(Lib.itoa n).toArray⟩
set_option maxHeartbeats 1000000 in
set_option maxRecDepth 100000 in
theorem Print_nonneg (n : Int) (h0 : 0 ≤ n) (h1 : n ≤ 9223372036854775807) (w : World) :
    Calls Tryz.prog 18 #[.int .i64 n] w fun e w' => e = .returned (.string (itoaB n)) ∧ Keep (fun _ => False) w w' := by
  obtain ⟨u, rfl⟩ := Int.eq_ofNat_of_zero_le h0
  go_enter Tryz.func18, Tryz.ntmps18
  go_wp2
  go_step3
  go_wp2
  go_step3
  go_wp2
  go_loopw [4, 5] (fun a z wr => ∃ (m v : Nat) (c : Array Value), m ≤ 19 ∧ a = .int .i64 ((m : Int) + 1) ∧ z = .int .u64 v ∧ Hid (PrintInv u m v c) ∧ v ≤ 9223372036854775807 ∧ Keep (fun _ => False) w wr ∧ w.heap.size < wr.heap.size ∧ wr.heap[w.heap.size]? = some (.cells c 61 (0, 0))) (fun a _ _ => (intOf a).toNat)
  case atStart => exact ⟨19, u, _, by omega, rfl, rfl, ⟨rfl, by simp, .inl rfl, fun j _ _ => by omega⟩, by omega, (Keep.refl _ _).alloc _, by simp, block_new _ _⟩
  case round =>
    obtain ⟨m, v, c, hm, rfl, rfl, HI, hv, hk, hlt, hb⟩ := hrel
    have hc := cell_of_block hb
    have hf := free_of_block hb
    obtain ⟨x, hx⟩ : ∃ x, c[m]? = some x := ⟨_, Array.getElem?_eq_getElem (by rw [HI.out.size]; omega)⟩
    have HB := Lib.hid hb
    clear hb
    by_cases hz : v / 10 = 0
    · have hz' : (((v : Int) / 10) == 0) = true := by simp; omega
      have hm2 : (m : Int) ≤ 20 := by omega
      have hne : (20 = m) = False := by simp; omega
      have hl := (HI.out.last hm hz).2
      have hbl := block_setCell HB.out m (.int .u8 (48 + (v : Int) % 10))
      have hcv := run_convert_bytes_arg (P := Tryz.prog) (wr.setCell ⟨w.heap.size, m, none⟩ (.int .u8 (48 + (v : Int) % 10))) 39 5 Tryz.underlying39 Tryz.underlying5 w.heap.size m (20 - m) (20 - m) (numsOf u) (by rw [numsOf_length, hl]) (HI.out.cells hm hz (by rw [block_setCell HB.out, show (48 + (v : Int) % 10) = ((v % 10 + 48 : Nat) : Int) by omega])) 9 Tryz.underlying9
      have HZ := Lib.hid hz
      clear hz hl hbl
      go_wp2
      rw [Exit.noGoto_ret]
      go_ret
      exact ⟨congrArg (fun x => Ending.returned (.string x)) (string_ext (t := itoaB u) (by rw [numsOf_string]; simp [itoaB, Lib.itoa_nonneg])), hk.setCell (.inr (Nat.le_refl _)) _⟩
    · have hz' : (((v : Int) / 10) == 0) = false := by simp; omega
      have HZ := Lib.hid hz
      clear hz
      go_wp2
      go_roundw
      case rel =>
        obtain ⟨m, rfl⟩ : ∃ m', m = m' + 1 := ⟨m - 1, by rcases Nat.eq_zero_or_pos m with rfl | h; exact absurd HI.out.rest (by rw [Nat.div_eq_of_lt (by omega)]; have := HZ.out; omega); omega⟩
        refine ⟨m, v / 10, c.setIfInBounds (m + 1) (.int .u8 ((v % 10 + 48 : Nat) : Int)), by omega, by simp, by simp, HI.out.step (by omega) (by have := HZ.out; omega), by omega, hk.setCell (.inr (Nat.le_refl _)) _, by simpa [World.setCell] using hlt, ?_⟩
        rw [block_setCell HB.out, show (48 + (v : Int) % 10) = ((v % 10 + 48 : Nat) : Int) by omega]
      case measure => simp [intOf]
set_option maxHeartbeats 1000000 in
set_option maxRecDepth 100000 in
theorem Print_neg (u : Nat) (h0 : 1 ≤ u) (h1 : u ≤ 9223372036854775808) (w : World) :
    Calls Tryz.prog 18 #[.int .i64 (-(u : Int))] w fun e w' => e = .returned (.string (itoaB (-(u : Int)))) ∧ Keep (fun _ => False) w w' := by
  have hneg : decide (-(u : Int) < 0) = true := by simp; omega
  have hn2 : -(u : Int) < 0 := by omega
  go_enter Tryz.func18, Tryz.ntmps18
  go_wp2
  go_step3
  go_wp2
  go_step3
  go_wp2
  go_loopw [4, 5] (fun a z wr => ∃ (m v : Nat) (c : Array Value), m ≤ 19 ∧ a = .int .i64 ((m : Int) + 1) ∧ z = .int .u64 v ∧ Hid (PrintInv u m v c) ∧ v ≤ 9223372036854775808 ∧ Keep (fun _ => False) w wr ∧ w.heap.size < wr.heap.size ∧ wr.heap[w.heap.size]? = some (.cells c 61 (0, 0))) (fun a _ _ => (intOf a).toNat)
  case atStart => exact ⟨19, u, _, by omega, rfl, by rw [negneg u h0 h1], ⟨rfl, by simp, .inl rfl, fun j _ _ => by omega⟩, by omega, (Keep.refl _ _).alloc _, by simp, block_new _ _⟩
  case round =>
    obtain ⟨m, v, c, hm, rfl, rfl, HI, hv, hk, hlt, hb⟩ := hrel
    have hc := cell_of_block hb
    have hf := free_of_block hb
    obtain ⟨x, hx⟩ : ∃ x, c[m]? = some x := ⟨_, Array.getElem?_eq_getElem (by rw [HI.out.size]; omega)⟩
    have HB := Lib.hid hb
    clear hb
    by_cases hz : v / 10 = 0
    · have hz' : (((v : Int) / 10) == 0) = true := by simp; omega
      obtain ⟨m, rfl⟩ : ∃ m', m = m' + 1 := ⟨m - 1, by
        rcases Nat.eq_zero_or_pos m with rfl | h
        · have h1 := HI.out.rest
          have h2 := HI.out.pos
          rw [Nat.div_eq_of_lt (by simp; omega)] at h1
          omega
        · omega⟩
      have hm2 : (m : Int) ≤ 20 := by omega
      have hne : (20 = m) = False := by simp; omega
      obtain ⟨y, hy⟩ : ∃ y, c[m]? = some y := ⟨_, Array.getElem?_eq_getElem (by rw [HI.out.size]; omega)⟩
      have hl := (HI.out.last hm hz).2
      have hbl := block_setCell (block_setCell HB.out (m + 1) (.int .u8 (48 + (v : Int) % 10))) m (.int .u8 45)
      have hcv := run_convert_bytes_arg (P := Tryz.prog) ((wr.setCell ⟨w.heap.size, m + 1, none⟩ (.int .u8 (48 + (v : Int) % 10))).setCell ⟨w.heap.size, m, none⟩ (.int .u8 45)) 39 5 Tryz.underlying39 Tryz.underlying5 w.heap.size m (20 - m) (20 - m) (45 :: numsOf u) (by rw [List.length_cons, numsOf_length, hl]; omega) (HI.out.cellsNeg hm hz (by rw [hbl, show (48 + (v : Int) % 10) = ((v % 10 + 48 : Nat) : Int) by omega])) 9 Tryz.underlying9
      have HZ := Lib.hid hz
      clear hz hl hbl
      go_wp2
      rw [Exit.noGoto_ret]
      go_ret
      exact ⟨congrArg (fun x => Ending.returned (.string x)) (string_ext (t := itoaB (-(u : Int))) (by simp only [itoaB, Lib.itoa_neg u h0, strOfNums_data, List.map_cons]; rw [← numsOf_string, strOfNums_data]; rfl)), (hk.setCell (.inr (Nat.le_refl _)) _).setCell (.inr (Nat.le_refl _)) _⟩
    · have hz' : (((v : Int) / 10) == 0) = false := by simp; omega
      have HZ := Lib.hid hz
      clear hz
      go_wp2
      go_roundw
      case rel =>
        obtain ⟨m, rfl⟩ : ∃ m', m = m' + 1 := ⟨m - 1, by rcases Nat.eq_zero_or_pos m with rfl | h; exact absurd HI.out.rest (by rw [Nat.div_eq_of_lt (by omega)]; have := HZ.out; omega); omega⟩
        refine ⟨m, v / 10, c.setIfInBounds (m + 1) (.int .u8 ((v % 10 + 48 : Nat) : Int)), by omega, by simp, by simp, HI.out.step (by omega) (by have := HZ.out; omega), by omega, hk.setCell (.inr (Nat.le_refl _)) _, by simpa [World.setCell] using hlt, ?_⟩
        rw [block_setCell HB.out, show (48 + (v : Int) % 10) = ((v % 10 + 48 : Nat) : Int) by omega]
      case measure => simp [intOf]
/-- digits.Print, every int. -/
theorem Print_any (n : Int) (h0 : -9223372036854775808 ≤ n) (h1 : n ≤ 9223372036854775807) (w : World) :
    Calls Tryz.prog 18 #[.int .i64 n] w fun e w' => e = .returned (.string (itoaB n)) ∧ Keep (fun _ => False) w w' := by
  by_cases h : 0 ≤ n
  · exact Print_nonneg n h h1 w
  · obtain ⟨u, rfl⟩ : ∃ u : Nat, n = -(u : Int) := ⟨n.natAbs, by omega⟩
    exact Print_neg u (by omega) (by omega) w
end Go.Proofs.YtamjhnibenonjaaGreatDoor
