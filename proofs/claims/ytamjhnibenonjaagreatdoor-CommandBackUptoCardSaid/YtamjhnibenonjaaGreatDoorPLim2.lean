/- limiter.of and limiter.Check. -/
import Derived.Test.YtamjhnibenonjaaGreatDoorPLim
namespace Go.Proofs.YtamjhnibenonjaaGreatDoor
set_option linter.unusedVariables false
set_option linter.unusedSimpArgs false
open Go Go.RowKit
def fnV (f : Nat) : Value := .func (.func f) #[] #[]
def kBucket : Array Value := #[fnV 109, fnV 110, fnV 111, fnV 112, fnV 113, fnV 114, fnV 115, fnV 116]
def kGcra : Array Value := #[fnV 85, fnV 86, fnV 87, fnV 88, fnV 89, fnV 90, fnV 91, fnV 92]
def kWindow : Array Value := #[fnV 93, fnV 94, fnV 95, fnV 96, fnV 97, fnV 98, fnV 99, fnV 100]
def kCounter : Array Value := #[fnV 101, fnV 102, fnV 103, fnV 104, fnV 105, fnV 106, fnV 107, fnV 108]
def kOf (k : Int) : Array Value := if k = 2 then kGcra else if k = 3 then kWindow else if k = 4 then kCounter else kBucket
set_option maxHeartbeats 1000000 in
theorem of_any (p : Pol) (w : World) :
    Calls Tryz.prog 67 #[.agg (polCells p)] w fun e w' => e = .returned (.iface 124 (.agg (kOf p.kind))) ∧ Keep (fun _ => False) w w' := by
  unfold polCells
  by_cases h2 : p.kind = 2
  · rw [h2]
    clear h2
    go_enter Tryz.func67, Tryz.ntmps67
    go_wp2
    go_ret
    exact ⟨by simp [kOf, kGcra, fnV], by repeat (first | exact Keep.refl _ _ | apply Keep.alloc)⟩
  · by_cases h3 : p.kind = 3
    · rw [h3]
      clear h2 h3
      go_enter Tryz.func67, Tryz.ntmps67
      go_wp2
      go_ret
      exact ⟨by simp [kOf, kWindow, fnV], by repeat (first | exact Keep.refl _ _ | apply Keep.alloc)⟩
    · by_cases h4 : p.kind = 4
      · rw [h4]
        clear h2 h3 h4
        go_enter Tryz.func67, Tryz.ntmps67
        go_wp2
        go_ret
        exact ⟨by simp [kOf, kCounter, fnV], by repeat (first | exact Keep.refl _ _ | apply Keep.alloc)⟩
      · have e : kOf p.kind = kBucket := by simp [kOf, h2, h3, h4]
        rw [e]
        have h2' : (p.kind == 2) = false := by simpa using h2
        have h3' : (p.kind == 3) = false := by simpa using h3
        have h4' : (p.kind == 4) = false := by simpa using h4
        clear h2 h3 h4 e
        go_enter Tryz.func67, Tryz.ntmps67
        go_wp2
        go_ret
        exact ⟨by simp [kBucket, fnV], by repeat (first | exact Keep.refl _ _ | apply Keep.alloc)⟩
set_option maxHeartbeats 1000000 in
theorem madeCheck_bucket (p : Pol) (w : World) :
    Calls Tryz.prog 213 #[.agg kBucket, .agg (polCells p)] w fun e w' => e = .returned (.int .i64 (errOf (bucketOk p))) ∧ Keep (fun _ => False) w w' := by
  have hC := bucketCheck_any p
  unfold polCells at hC ⊢
  unfold kBucket fnV
  go_enter Tryz.func213, Tryz.ntmps213
  go_wp2_with fail
  refine (hC _).mono ?_
  rintro e w1 ⟨rfl, hk⟩
  go_wp2
  go_ret
  exact ⟨rfl, Keep.trans (by repeat (first | exact Keep.refl _ _ | apply Keep.alloc)) hk⟩
set_option maxHeartbeats 1000000 in
theorem madeCheck_gcra (p : Pol) (w : World) :
    Calls Tryz.prog 213 #[.agg kGcra, .agg (polCells p)] w fun e w' => e = .returned (.int .i64 (errOf (gcraOk p))) ∧ Keep (fun _ => False) w w' := by
  have hC := gcraCheck_any p
  unfold polCells at hC ⊢
  unfold kGcra fnV
  go_enter Tryz.func213, Tryz.ntmps213
  go_wp2_with fail
  refine (hC _).mono ?_
  rintro e w1 ⟨rfl, hk⟩
  go_wp2
  go_ret
  exact ⟨rfl, Keep.trans (by repeat (first | exact Keep.refl _ _ | apply Keep.alloc)) hk⟩
set_option maxHeartbeats 1000000 in
theorem madeCheck_window (p : Pol) (w : World) :
    Calls Tryz.prog 213 #[.agg kWindow, .agg (polCells p)] w fun e w' => e = .returned (.int .i64 (errOf (windowOk p))) ∧ Keep (fun _ => False) w w' := by
  have hC := windowCheck_any p
  unfold polCells at hC ⊢
  unfold kWindow fnV
  go_enter Tryz.func213, Tryz.ntmps213
  go_wp2_with fail
  refine (hC _).mono ?_
  rintro e w1 ⟨rfl, hk⟩
  go_wp2
  go_ret
  exact ⟨rfl, Keep.trans (by repeat (first | exact Keep.refl _ _ | apply Keep.alloc)) hk⟩
set_option maxHeartbeats 1000000 in
theorem madeCheck_counter (p : Pol) (w : World) :
    Calls Tryz.prog 213 #[.agg kCounter, .agg (polCells p)] w fun e w' => e = .returned (.int .i64 (errOf (counterOk p))) ∧ Keep (fun _ => False) w w' := by
  have hC := counterCheck_any p
  unfold polCells at hC ⊢
  unfold kCounter fnV
  go_enter Tryz.func213, Tryz.ntmps213
  go_wp2_with fail
  refine (hC _).mono ?_
  rintro e w1 ⟨rfl, hk⟩
  go_wp2
  go_ret
  exact ⟨rfl, Keep.trans (by repeat (first | exact Keep.refl _ _ | apply Keep.alloc)) hk⟩
theorem madeCheck_any (p : Pol) (w : World) :
    Calls Tryz.prog 213 #[.agg (kOf p.kind), .agg (polCells p)] w fun e w' => e = .returned (.int .i64 (errOf (polOk p))) ∧ Keep (fun _ => False) w w' := by
  unfold kOf
  by_cases h2 : p.kind = 2
  · rw [if_pos h2, show errOf (polOk p) = errOf (gcraOk p) by simp [errOf, polOk, bucketOk, windowOk, counterOk, h2]]
    exact madeCheck_gcra p w
  · rw [if_neg h2]
    by_cases h3 : p.kind = 3
    · rw [if_pos h3, show errOf (polOk p) = errOf (windowOk p) by simp [errOf, polOk, bucketOk, gcraOk, counterOk, h3]]
      exact madeCheck_window p w
    · rw [if_neg h3]
      by_cases h4 : p.kind = 4
      · rw [if_pos h4, show errOf (polOk p) = errOf (counterOk p) by simp [errOf, polOk, bucketOk, gcraOk, windowOk, h4]]
        exact madeCheck_counter p w
      · rw [if_neg h4, show errOf (polOk p) = errOf (bucketOk p) by simp [errOf, polOk, gcraOk, windowOk, counterOk, h2, h3, h4]]
        exact madeCheck_bucket p w
set_option maxHeartbeats 1000000 in
theorem Check_any (p : Pol) (w : World) :
    Calls Tryz.prog 51 #[.agg (polCells p)] w fun e w' => e = .returned (.int .i64 (errOf (polOk p))) ∧ Keep (fun _ => False) w w' := by
  have hO := of_any p
  have hM := madeCheck_any p
  generalize kOf p.kind = ks at hO hM
  unfold polCells at hO hM ⊢
  go_enter Tryz.func51, Tryz.ntmps51
  go_wp2
  have hb0 := block_new w (Obj.cells #[.int .i64 p.kind, .int .i64 p.limit, .int .i64 p.period, .int .i64 p.burst, .int .i64 p.cap, .bool p.opn] 28)
  have HB := Lib.hid hb0
  have hbe : Below w.heap.size w (w.alloc (Obj.cells #[.int .i64 p.kind, .int .i64 p.limit, .int .i64 p.period, .int .i64 p.burst, .int .i64 p.cap, .bool p.opn] 28)) := (Below.refl _ _).alloc (Nat.le_refl _) _
  generalize w.alloc (Obj.cells #[.int .i64 p.kind, .int .i64 p.limit, .int .i64 p.period, .int .i64 p.burst, .int .i64 p.cap, .bool p.opn] 28) = w0 at *
  have hc0 := cell_of_block HB.out
  clear hb0
  have hna : ∀ N w, (nilAhead (N + 1) 124 (.agg ks) "tapster/limiter.check").run Tryz.prog w = .ok (some false) w := fun _ _ => by kernel_rfl
  have hme : ∀ N w, (method (N + 1) 124 (.agg ks) "tapster/limiter.check").run Tryz.prog w = .ok (213, .agg ks) w := fun _ _ => by kernel_rfl
  go_region_with (first | (go_at_call 67; refine (hO _).mono ?_; rintro e w1 ⟨rfl, hk⟩; have hc1 := cell_of_block (hk.get (b := w.heap.size) HB.out id)) | (go_at_call 213; refine (hM _).mono ?_; rintro e w2 ⟨rfl, hk2⟩))
  all_goals go_wp2
  all_goals go_ret
  all_goals exact ⟨rfl, ((Keep.of_below hbe).drew.trans hk).trans hk2⟩
end Go.Proofs.YtamjhnibenonjaaGreatDoor
