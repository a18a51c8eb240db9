/- tapsterref12.Named: which names may be. -/
import Derived.Test.YtamjhnibenonjaaGreatDoorPRd3
import Derived.BigQuiet
import Derived.Deep.QuietTactic
namespace Go.Proofs.YtamjhnibenonjaaGreatDoor
set_option linter.unusedVariables false
set_option linter.unusedSimpArgs false
open Go Go.RowKit
def allL : List UInt8 := [97, 98, 99, 100, 101, 102, 103, 104, 105, 106, 107, 108, 109, 110, 111, 112, 113, 114, 115, 116, 117, 118, 119, 120, 121, 122, 65, 66, 67, 68, 69, 70, 71, 72, 73, 74, 75, 76, 77, 78, 79, 80, 81, 82, 83, 84, 85, 86, 87, 88, 89, 90, 48, 49, 50, 51, 52, 53, 54, 55, 56, 57, 45, 95, 46]
theorem allL_ok (x : UInt8) : allL.any (fun y => y == x) = okByte x := by
  have h : ∀ n : Fin 256, (allL.any fun y => y == UInt8.ofNat n) = okByte (UInt8.ofNat n) := by decide +kernel
  have := h ⟨x.toNat, UInt8.toNat_lt x⟩
  simpa using this
def anyTo (x : UInt8) (m : Nat) : Bool := (allL.take m).any fun y => y == x
theorem anyTo_succ (x y : UInt8) (m : Nat) (h : allL[m]? = some y) : anyTo x (m + 1) = (anyTo x m || (y == x)) := by
  obtain ⟨hm, rfl⟩ := List.getElem?_eq_some_iff.1 h
  rw [anyTo, List.take_succ_eq_append_getElem hm, List.any_append]
  simp [anyTo]
theorem idx_string (s : ByteArray) (i : Nat) (x : UInt8) (h : s.data.toList[i]? = some x) (W : World) : (Instr.index 9 (.string s) (.int .i64 (i : Int))).run Tryz.prog W = .ok (.int .u8 (x.toNat : Int)) W := by
  obtain ⟨hi, hx⟩ := List.getElem?_eq_some_iff.1 h
  have hsz : i < s.size := by simpa using hi
  rw [run_index_string W 9 s .i64 i Tryz.underlying9, dif_pos ⟨by omega, by omega⟩]
  have e : s[((i : Int)).toNat]'(by simpa using hsz) = x := by
    rw [← hx]; rfl
  rw [e]
set_option maxHeartbeats 4000000 in
set_option maxRecDepth 100000 in
theorem Named12_any (s : ByteArray) (w : World) (hs : s.size ≤ 4611686018427387904) :
    Calls Tryz.prog 17 #[.string s] w fun e w' => e = .returned (.bool (namedB s)) ∧ Keep (fun _ => False) w w' := by
  obtain ⟨A, hA⟩ : ∃ A : ByteArray, A = ⟨allL.toArray⟩ := ⟨_, rfl⟩
  have hAs : A.size = 65 := by rw [hA]; rfl
  have hAl : A.data.toList = allL := by rw [hA]
  have hAf : (⟨#[97, 98, 99, 100, 101, 102, 103, 104, 105, 106, 107, 108, 109, 110, 111, 112, 113, 114, 115, 116, 117, 118, 119, 120, 121, 122, 65, 66, 67, 68, 69, 70, 71, 72, 73, 74, 75, 76, 77, 78, 79, 80, 81, 82, 83, 84, 85, 86, 87, 88, 89, 90, 48, 49, 50, 51, 52, 53, 54, 55, 56, 57, 45, 95, 46]⟩ : ByteArray) = A := by rw [hA]; rfl
  have HAL := Lib.hid hAl
  clear hA hAl
  go_enter Tryz.func17, Tryz.ntmps17
  go_wp2
  clear hAf
  go_loopw [4, 5, 6] (fun i _ _ wr => ∃ k : Nat, k ≤ s.size ∧ i = .int .i64 k ∧ Hid (∀ (j : Nat) (x : UInt8), j < k → s.data.toList[j]? = some x → okByte x = true) ∧ Keep (fun _ => False) w wr) (fun i _ _ _ => s.size - (intOf i).toNat)
  case atStart => exact ⟨0, Nat.zero_le _, rfl, fun j x hj => absurd hj (Nat.not_lt_zero _), Keep.refl _ _⟩
  case round =>
    obtain ⟨k, hk, rfl, HO, HK⟩ := hrel
    by_cases hlt : k < s.size
    · have hlt2 : (k : Int) < (s.size : Int) := by omega
      obtain ⟨x, hx⟩ : ∃ x, s.data.toList[k]? = some x := ⟨_, List.getElem?_eq_getElem (by simpa using hlt)⟩
      have hix := idx_string s k x hx
      have HX := Lib.hid hx
      clear hx
      go_wp2
      go_loopw [5, 6] (fun b j wr2 => ∃ m : Nat, m ≤ 65 ∧ j = .int .i64 m ∧ b = .bool (anyTo x m) ∧ Keep (fun _ => False) w wr2) (fun _ j _ => 65 - (intOf j).toNat)
      case atStart => exact ⟨0, by omega, rfl, rfl, HK⟩
      case round =>
        obtain ⟨m, hm, rfl, rfl, HK2⟩ := hrel
        by_cases hm65 : m < 65
        · have hm2 : (m : Int) < 65 := by omega
          obtain ⟨y, hy⟩ : ∃ y, allL[m]? = some y := ⟨_, List.getElem?_eq_getElem (by simpa [allL] using hm65)⟩
          have hiy := idx_string A m y (by rw [HAL.out]; exact hy)
          have hst := anyTo_succ x y m hy
          have hxy : ((y.toNat : Int) == (x.toNat : Int)) = (y == x) := by
            rw [Bool.eq_iff_iff]
            simp only [beq_iff_eq]
            exact ⟨fun h => UInt8.toNat_inj.1 (by omega), fun h => by rw [h]⟩
          have HST := Lib.hid hst
          clear hst hy
          cases ha : anyTo x m
          · rw [ha] at HST
            cases hyx : (y == x)
            · rw [hyx] at hxy HST
              clear hyx
              go_wp2
              go_quiet (fail)
              have HKd := Lib.hid (HK2.drewN nq)
              go_wp2
              go_roundw
              case rel => exact ⟨m + 1, by omega, by go_num, by rw [HST.out]; rfl, HKd.out⟩
              case measure => simp [intOf]; omega
            · rw [hyx] at hxy HST
              clear hyx
              go_wp2
              go_quiet (fail)
              have HKd := Lib.hid (HK2.drewN nq)
              go_wp2
              go_roundw
              case rel => exact ⟨m + 1, by omega, by go_num, by rw [HST.out]; rfl, HKd.out⟩
              case measure => simp [intOf]; omega
          · rw [ha] at HST
            clear hxy
            go_wp2
            go_quiet (fail)
            have HKd := Lib.hid (HK2.drewN nq)
            go_wp2
            go_roundw
            case rel => exact ⟨m + 1, by omega, by go_num, by rw [HST.out]; rfl, HKd.out⟩
            case measure => simp [intOf]; omega
        · have hme : m = 65 := by omega
          subst hme
          have hany : anyTo x 65 = okByte x := by rw [← allL_ok x]; rfl
          rw [hany]
          cases hok : okByte x
          · have HN : Hid (namedB s = false) := by
              have hmem : x ∈ s.data.toList := List.mem_of_getElem? HX.out
              cases hn : namedB s with
              | false => exact rfl
              | true =>
                simp only [namedB, Bool.and_eq_true, List.all_eq_true] at hn
                have := hn.2 x hmem
                rw [hok] at this; cases this
            clear hany hok
            go_wp2
            go_ret
            exact ⟨by rw [HN.out]; rfl, HK2⟩
          · have HO2 : Hid (∀ (j : Nat) (z : UInt8), j < k + 1 → s.data.toList[j]? = some z → okByte z = true) := fun j z hj hz => by
              rcases Nat.lt_or_ge j k with h | h
              · exact HO.out j z h hz
              · have : j = k := by omega
                subst this
                rw [HX.out] at hz; cases hz; exact hok
            clear hany hok
            go_wp2
            go_roundw
            case rel => exact ⟨k + 1, by omega, by go_num, HO2, HK2⟩
            case measure => simp [intOf]; omega
    · have hke : k = s.size := by omega
      have hlt2 : ¬ ((k : Int) < (s.size : Int)) := by omega
      have hall : s.data.toList.all okByte = true := by
        rw [List.all_eq_true]
        intro x hx
        obtain ⟨j, hj, rfl⟩ := List.getElem_of_mem hx
        exact HO.out j _ (by rw [hke]; simpa using hj) (List.getElem?_eq_getElem hj)
      have hn : namedB s = (decide (0 < s.size) && decide (s.size ≤ 40)) := by rw [namedB, hall, Bool.and_true]
      have HN := Lib.hid hn
      clear hall hn
      by_cases h0 : 0 < s.size
      · have h0' : (1 : Int) ≤ (s.size : Int) := by omega
        by_cases h40 : s.size ≤ 40
        · have h40' : (s.size : Int) ≤ 40 := by omega
          go_wp2
          go_ret
          exact ⟨by rw [HN.out]; simp [h0, h40], HK⟩
        · have h40' : ¬ (s.size : Int) ≤ 40 := by omega
          go_wp2
          go_ret
          exact ⟨by rw [HN.out]; simp [h0, h40], HK⟩
      · have h0' : ¬ (1 : Int) ≤ (s.size : Int) := by omega
        go_wp2
        go_ret
        exact ⟨by rw [HN.out]; simp [h0], HK⟩
end Go.Proofs.YtamjhnibenonjaaGreatDoor
