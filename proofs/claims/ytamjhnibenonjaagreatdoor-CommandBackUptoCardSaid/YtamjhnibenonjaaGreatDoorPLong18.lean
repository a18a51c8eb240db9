/- tapsterref18.Long, tapsterref12.Named. -/
import Derived.Test.YtamjhnibenonjaaGreatDoorPEq
import Derived.BigQuiet
import Derived.Deep.QuietTactic
namespace Go.Proofs.YtamjhnibenonjaaGreatDoor
set_option linter.unusedVariables false
set_option linter.unusedSimpArgs false
open Go Go.RowKit
def wishL (l : List Wish) : Nat := (l.map fun x => x.name.size + 5).sum
theorem wishL_take (l : List Wish) (k : Nat) (h : k < l.length) : wishL (l.take (k + 1)) = wishL (l.take k) + (l[k].name.size + 5) := by
  rw [wishL, List.take_succ_eq_append_getElem h, List.map_append, List.sum_append]; simp [wishL]
theorem wishL_le (l : List Wish) (k : Nat) : wishL (l.take k) ≤ wishL l := by
  have h := List.take_append_drop k l
  have : wishL l = wishL (l.take k) + wishL (l.drop k) := by
    rw [wishL, wishL, wishL, ← List.sum_append, ← List.map_append, h]
  omega
/-- tapsterref18.Long -/
def long18 (c : Cmd) : Nat := c.name.size + longL c.path + wishL c.wishes
set_option maxHeartbeats 2000000 in
set_option maxRecDepth 100000 in
theorem Long18_any (v : Value) (c : Cmd) (B : Nat) (w : World) (h : CmdIn w B v c) (hl : long18 c ≤ 4611686018427387904) :
    Calls Tryz.prog 11 #[v] w fun e w' => e = .returned (.int .i64 (long18 c)) ∧ Keep (fun _ => False) w w' := by
  obtain ⟨pv, wv, rfl, hp, hw⟩ := h
  have hps := hp.strs
  have hww := hw.wish
  obtain ⟨pa, pc, rfl, hpl, hpm, hpx⟩ := hps
  obtain ⟨wa, wcap, rfl, hwl, hwm, hel⟩ := hww
  have hL := fun W (hk : Keep (fun _ => False) w W) => Long03_any _ c.path B W ((RowIn.keep hp hk).strs) (by unfold long18 at hl; omega)
  simp only [cmdCells]
  have hll : c.name.size + longL c.path + wishL c.wishes ≤ 4611686018427387904 := hl
  have HL := Lib.hid hL
  have HEL := Lib.hid hel
  clear hL hel hp hw hpx
  go_enter Tryz.func11, Tryz.ntmps11
  go_wp2_with fail
  have k1 : Keep (fun _ => False) w (w.alloc (.cells #[.int .i64 c.kind, .string c.name, .int .i64 c.pol.kind, .int .i64 c.pol.limit, .int .i64 c.pol.period, .int .i64 c.pol.burst, .int .i64 c.pol.cap, .bool c.pol.opn, .slice pa c.path.length pc, .slice wa c.wishes.length wcap, .int .i64 c.n] 31)) := (Keep.refl _ _).alloc _
  have hb1 := block_new w (.cells #[.int .i64 c.kind, .string c.name, .int .i64 c.pol.kind, .int .i64 c.pol.limit, .int .i64 c.pol.period, .int .i64 c.pol.burst, .int .i64 c.pol.cap, .bool c.pol.opn, .slice pa c.path.length pc, .slice wa c.wishes.length wcap, .int .i64 c.n] 31)
  obtain ⟨cb, hcb⟩ : ∃ cb, cb = w.heap.size := ⟨_, rfl⟩
  rw [← hcb] at hb1 ⊢
  clear hcb
  generalize w.alloc (.cells #[.int .i64 c.kind, .string c.name, .int .i64 c.pol.kind, .int .i64 c.pol.limit, .int .i64 c.pol.period, .int .i64 c.pol.burst, .int .i64 c.pol.cap, .bool c.pol.opn, .slice pa c.path.length pc, .slice wa c.wishes.length wcap, .int .i64 c.n] 31) = w1 at *
  have hc1 : w1.cell? ⟨cb, 1, none⟩ = some (.string c.name) := cell_of_block hb1 1
  have hc8 : w1.cell? ⟨cb, 8, none⟩ = some (.slice pa c.path.length pc) := cell_of_block hb1 8
  have hll1 : (c.name.size : Int) + (longL c.path : Int) ≤ 4611686018427387904 := by omega
  go_quiet ((refine Calls.quiet_of_same (HL.out _ ?_); exact k1.drewN _))
  have k2 : Keep (fun _ => False) w (w1.drewN nq) := k1.drewN nq
  have hb2 : (w1.drewN nq).heap[cb]? = _ := hb1
  clear hc1 hc8 hb1 k1
  generalize w1.drewN nq = wd at *
  go_wp2
  go_loopw [3, 4] (fun n i wr => ∃ k : Nat, k ≤ c.wishes.length ∧ i = .int .i64 k ∧ n = .int .i64 ((c.name.size : Int) + (longL c.path : Int) + (wishL (c.wishes.take k) : Int)) ∧ wr = wd) (fun _ i _ => c.wishes.length - (intOf i).toNat)
  case atStart => exact ⟨0, Nat.zero_le _, rfl, by simp [wishL], rfl⟩
  case round =>
    obtain ⟨k, hk, rfl, rfl, rfl⟩ := hrel
    have hcc := cell_of_block hb2
    have h2 := wishL_le c.wishes k
    by_cases hlt : k < c.wishes.length
    · obtain ⟨b, o, rfl, hb, hx⟩ := HEL.out (by intro e; rw [e] at hlt; simp at hlt)
      have hx1 := hx k _ (List.getElem?_eq_getElem hlt)
      have h1 := wishL_take c.wishes k hlt
      have h3 := wishL_le c.wishes (k + 1)
      obtain ⟨x, hxe⟩ : ∃ x, x = c.wishes[k] := ⟨_, rfl⟩
      rw [← hxe] at hx1 h1
      have c0 := k2.cell hx1.1 id
      have c1 := k2.cell hx1.2.1 id
      have c2 := k2.cell hx1.2.2 id
      have hlt2 : (k : Int) < (c.wishes.length : Int) := by omega
      have H1 := Lib.hid h1
      rw [h1] at h3
      have hb3 : (c.name.size : Int) + (longL c.path : Int) + (wishL (c.wishes.take k) : Int) + 5 + (x.name.size : Int) ≤ 4611686018427387904 := by omega
      clear hx hx1 h1 hxe
      go_wp2
      go_roundw
      case rel => exact ⟨k + 1, by omega, by go_num, by rw [H1.out]; congr 1; push_cast; omega, trivial⟩
      case measure => simp [intOf]; omega
    · have hke : k = c.wishes.length := by omega
      have hlt2 : ¬ ((k : Int) < (c.wishes.length : Int)) := by omega
      have HKE : Hid (wishL (c.wishes.take k) = wishL c.wishes) := by rw [hke, List.take_length]; exact rfl
      clear hke
      go_wp2
      go_ret
      exact ⟨by rw [HKE.out]; show Ending.returned (Value.int IntKind.i64 ((c.name.size : Int) + (longL c.path : Int) + (wishL c.wishes : Int))) = _; simp [long18], k2⟩
end Go.Proofs.YtamjhnibenonjaaGreatDoor
