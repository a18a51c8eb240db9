/- command.upper: small letters as great ones. -/
import Derived.Test.YtamjhnibenonjaaGreatDoorPPath2
import Derived.Lib.ConvBytes
import Derived.Laws.BytesArg
namespace Go.Proofs.YtamjhnibenonjaaGreatDoor
set_option linter.unusedVariables false
set_option linter.unusedSimpArgs false
open Go Go.RowKit
def upC (c : UInt8) : UInt8 := if 97 ≤ c.toNat ∧ c.toNat ≤ 122 then c - 32 else c
def upB (s : ByteArray) : ByteArray := ⟨(s.data.toList.map upC).toArray⟩
theorem upC_toNat (c : UInt8) (h : 97 ≤ c.toNat ∧ c.toNat ≤ 122) : ((upC c).toNat : Int) = (c.toNat : Int) - 32 := by
  rw [upC, if_pos h, UInt8.toNat_sub_of_le c 32 (by rw [UInt8.le_iff_toNat_le]; simp; omega)]
  simp; omega
structure UpInv (s : ByteArray) (j m D : Nat) (W : World) : Prop where
  ex : ∃ c : Array Value, W.heap[D]? = some (.cells c 5 (m, m + 1)) ∧ c.size = m ∧ ∀ (i : Nat) (x : UInt8), s.data.toList[i]? = some x → c[i]? = some (.int .u8 ((if i < j then upC x else x).toNat : Int))
theorem UpInv.start (s : ByteArray) (w : World) : ∃ m, UpInv s 0 m w.heap.size (Lib.bytesWorld w 5 s) := by
  refine ⟨_, ⟨_, Lib.bytesWorld_at_new w _ s, rfl, fun i x hx => ?_⟩⟩
  have hi : i < s.data.size := by have := (List.getElem?_eq_some_iff.1 hx).1; simpa using this
  have hx' : s.data[i]? = some x := by rw [← hx, Array.getElem?_toList]
  rw [Lib.bytesCells, Array.getElem?_append_left (by rw [Array.size_map]; exact hi), Array.getElem?_map, hx']
  simp
theorem UpInv.cell {s : ByteArray} {j m D : Nat} {W : World} (h : UpInv s j m D W) {i : Nat} {x : UInt8} (hx : s.data.toList[i]? = some x) (hij : j ≤ i) : W.cell? ⟨D, i, none⟩ = some (.int .u8 (x.toNat : Int)) := by
  obtain ⟨c, hb, hm, hc⟩ := h.ex
  rw [cell_of_row _ _ _ _ _ _ hb, hc i x hx, if_neg (by omega)]
theorem UpInv.free {s : ByteArray} {j m D : Nat} {W : World} (h : UpInv s j m D W) {i : Nat} {x : UInt8} (hx : s.data.toList[i]? = some x) : W.frozen? ⟨D, i, none⟩ = false := by
  obtain ⟨c, hb, hm, hc⟩ := h.ex
  have hi : i < m := by rw [← hm]; exact (Array.getElem?_eq_some_iff.1 (hc i x hx)).1
  simp [World.frozen?, hb]; omega
theorem UpInv.same {s : ByteArray} {j m D : Nat} {W : World} (h : UpInv s j m D W) {x : UInt8} (hx : s.data.toList[j]? = some x) (hn : ¬ (97 ≤ x.toNat ∧ x.toNat ≤ 122)) : UpInv s (j + 1) m D W := by
  obtain ⟨c, hb, hm, hc⟩ := h.ex
  refine ⟨c, hb, hm, fun i y hy => ?_⟩
  rw [hc i y hy]
  by_cases hij : i < j
  · rw [if_pos hij, if_pos (by omega)]
  · rw [if_neg hij]
    by_cases hij2 : i = j
    · subst hij2; rw [hx] at hy; cases hy; rw [if_pos (by omega), upC, if_neg hn]
    · rw [if_neg (by omega)]
theorem UpInv.put {s : ByteArray} {j m D : Nat} {W : World} (h : UpInv s j m D W) {x : UInt8} (hx : s.data.toList[j]? = some x) (v : Int) (hv : v = ((upC x).toNat : Int)) : UpInv s (j + 1) m D (W.setCell ⟨D, j, none⟩ (.int .u8 v)) := by
  obtain ⟨c, hb, hm, hc⟩ := h.ex
  have hi : j < c.size := (Array.getElem?_eq_some_iff.1 (hc j x hx)).1
  refine ⟨c.setIfInBounds j (.int .u8 v), by simp [World.setCell, Array.getElem?_modify, hb], by simpa using hm, fun i y hy => ?_⟩
  by_cases hij2 : i = j
  · subst hij2; rw [hx] at hy; cases hy
    rw [Array.getElem?_setIfInBounds_self_of_lt hi, if_pos (by omega), hv]
  · rw [Array.getElem?_setIfInBounds_ne (by omega), hc i y hy]
    by_cases hij : i < j
    · rw [if_pos hij, if_pos (by omega)]
    · rw [if_neg hij, if_neg (by omega)]
theorem upB_eq (s : ByteArray) : strOfNums (s.data.toList.map fun x => ((upC x).toNat : Int)) = upB s := by
  simp [strOfNums, upB]
set_option maxHeartbeats 1000000 in
set_option maxRecDepth 100000 in
theorem upper_any (s : ByteArray) (hs : s.size ≤ 4194304) (w : World) :
    Calls Tryz.prog 20 #[.string s] w fun e w' => e = .returned (.string (upB s)) ∧ Keep (fun _ => False) w w' := by
  have hb := fun W => Lib.run_convert_string_bytes (P := Tryz.prog) W 9 39 5 s Tryz.underlying9 Tryz.underlying39 Tryz.underlying5
  obtain ⟨m, hi0⟩ := UpInv.start s w
  have HI0 := Lib.hid hi0
  have HK0 := Lib.hid (Keep.of_below (below_bytesWorld w 5 s))
  clear hi0
  go_enter Tryz.func20, Tryz.ntmps20
  go_wp2
  go_loopw [10] (fun a wr => ∃ j : Nat, j ≤ s.size ∧ a = .int .i64 j ∧ Hid (UpInv s j m w.heap.size wr) ∧ Keep (fun _ => False) w wr) (fun a _ => s.size - (intOf a).toNat)
  case atStart => exact ⟨0, Nat.zero_le _, rfl, HI0, HK0.out⟩
  case round =>
    obtain ⟨j, hj, rfl, HI, HK⟩ := hrel
    by_cases hlt : j < s.size
    · obtain ⟨x, hx⟩ : ∃ x, s.data.toList[j]? = some x := ⟨_, List.getElem?_eq_getElem (by simpa using hlt)⟩
      have hc := HI.out.cell hx (Nat.le_refl _)
      have hf := HI.out.free hx
      have hlt2 : (j : Int) < (s.size : Int) := by omega
      have HX := Lib.hid hx
      have hx255 := x.toNat_lt
      clear hx
      by_cases h97 : 97 ≤ (x.toNat : Int)
      · by_cases h122 : (x.toNat : Int) ≤ 122
        · have hsm := upC_toNat x (by omega)
          have HSM := Lib.hid hsm
          clear hsm
          go_wp2
          go_roundw
          case rel => exact ⟨j + 1, by omega, by go_num, HI.out.put HX.out _ (by have := HSM.out; omega), HK.setCell (.inr (Nat.le_refl _)) _⟩
          case measure => simp [intOf]; omega
        · have HS2 : Hid (UpInv s (j + 1) m w.heap.size wr) := HI.out.same HX.out (by omega)
          go_wp2
          go_roundw
          case rel => exact ⟨j + 1, by omega, by go_num, HS2, HK⟩
          case measure => simp [intOf]; omega
      · have HS2 : Hid (UpInv s (j + 1) m w.heap.size wr) := HI.out.same HX.out (by omega)
        go_wp2
        go_roundw
        case rel => exact ⟨j + 1, by omega, by go_num, HS2, HK⟩
        case measure => simp [intOf]; omega
    · have hje : j = s.size := by omega
      have hlt2 : ¬ ((j : Int) < (s.size : Int)) := by omega
      have hcv := run_convert_bytes_arg (P := Tryz.prog) wr 39 5 Tryz.underlying39 Tryz.underlying5 w.heap.size 0 s.size (grownCap w s.size 0 5) (s.data.toList.map fun x => ((upC x).toNat : Int)) (by rw [List.length_map, Array.length_toList]; rfl) (fun i hi => by
        obtain ⟨c, hb, hm, hc⟩ := HI.out.ex
        obtain ⟨x, hx⟩ : ∃ x, s.data.toList[i]? = some x := ⟨_, List.getElem?_eq_getElem (by simpa using hi)⟩
        rw [Nat.zero_add, cell_of_row _ _ _ _ _ _ hb, hc i x hx, if_pos (by omega)]
        rw [List.getD_eq_getElem?_getD, List.getElem?_map, hx]; rfl) 9 Tryz.underlying9
      go_wp2
      go_ret
      exact ⟨by rw [upB_eq]; rfl, HK⟩
end Go.Proofs.YtamjhnibenonjaaGreatDoor
