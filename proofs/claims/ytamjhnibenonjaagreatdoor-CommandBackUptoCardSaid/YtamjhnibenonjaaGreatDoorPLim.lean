/- limiter.Check tells whether a policy may be. -/
import Derived.Test.YtamjhnibenonjaaGreatDoorSLim
import Derived.Deep.RegionHeld3
namespace Go.Proofs.YtamjhnibenonjaaGreatDoor
set_option linter.unusedVariables false
set_option linter.unusedSimpArgs false
open Go Go.RowKit
def polCells (p : Pol) : Array Value := #[.int .i64 p.kind, .int .i64 p.limit, .int .i64 p.period, .int .i64 p.burst, .int .i64 p.cap, .bool p.opn]
set_option maxHeartbeats 2000000 in
theorem bucketCheck_any (p : Pol) (w : World) :
    Calls Tryz.prog 109 #[.agg (polCells p)] w fun e w' => e = .returned (.int .i64 (errOf (bucketOk p))) ∧ Keep (fun _ => False) w w' := by
  unfold polCells
  by_cases h_cap : p.cap = 0
  · have g_cap : (p.cap != 0) = false := by simpa using h_cap
    have H_cap : p.cap ≤ 0 ∧ 0 ≤ p.cap := by omega
    obtain ⟨H1_cap, H2_cap⟩ := H_cap
    clear h_cap
    go_enter Tryz.func109, Tryz.ntmps109
    go_wp2
    all_goals go_ret
    all_goals refine ⟨?_, by repeat (first | exact Keep.refl _ _ | apply Keep.alloc)⟩
    all_goals first | (rw [errOf, if_pos (by unfold bucketOk; omega)]; rfl) | (rw [errOf, if_neg (by unfold bucketOk; omega)]; rfl)
  · have g_cap : (p.cap != 0) = true := by simpa using h_cap
    go_enter Tryz.func109, Tryz.ntmps109
    go_wp2
    all_goals go_ret
    all_goals refine ⟨?_, by repeat (first | exact Keep.refl _ _ | apply Keep.alloc)⟩
    all_goals first | (rw [errOf, if_pos (by unfold bucketOk; omega)]; rfl) | (rw [errOf, if_neg (by unfold bucketOk; omega)]; rfl)
set_option maxHeartbeats 2000000 in
theorem windowCheck_any (p : Pol) (w : World) :
    Calls Tryz.prog 93 #[.agg (polCells p)] w fun e w' => e = .returned (.int .i64 (errOf (windowOk p))) ∧ Keep (fun _ => False) w w' := by
  unfold polCells
  by_cases h_burst : p.burst = 0
  · have g_burst : (p.burst != 0) = false := by simpa using h_burst
    have H_burst : p.burst ≤ 0 ∧ 0 ≤ p.burst := by omega
    obtain ⟨H1_burst, H2_burst⟩ := H_burst
    clear h_burst
    go_enter Tryz.func93, Tryz.ntmps93
    go_wp2
    all_goals go_ret
    all_goals refine ⟨?_, by repeat (first | exact Keep.refl _ _ | apply Keep.alloc)⟩
    all_goals first | (rw [errOf, if_pos (by unfold windowOk; omega)]; rfl) | (rw [errOf, if_neg (by unfold windowOk; omega)]; rfl)
  · have g_burst : (p.burst != 0) = true := by simpa using h_burst
    go_enter Tryz.func93, Tryz.ntmps93
    go_wp2
    all_goals go_ret
    all_goals refine ⟨?_, by repeat (first | exact Keep.refl _ _ | apply Keep.alloc)⟩
    all_goals first | (rw [errOf, if_pos (by unfold windowOk; omega)]; rfl) | (rw [errOf, if_neg (by unfold windowOk; omega)]; rfl)
set_option maxHeartbeats 2000000 in
theorem counterCheck_any (p : Pol) (w : World) :
    Calls Tryz.prog 101 #[.agg (polCells p)] w fun e w' => e = .returned (.int .i64 (errOf (counterOk p))) ∧ Keep (fun _ => False) w w' := by
  unfold polCells
  by_cases h_burst : p.burst = 0
  · have g_burst : (p.burst != 0) = false := by simpa using h_burst
    have H_burst : p.burst ≤ 0 ∧ 0 ≤ p.burst := by omega
    obtain ⟨H1_burst, H2_burst⟩ := H_burst
    clear h_burst
    by_cases h_cap : p.cap = 0
    · have g_cap : (p.cap != 0) = false := by simpa using h_cap
      have H_cap : p.cap ≤ 0 ∧ 0 ≤ p.cap := by omega
      obtain ⟨H1_cap, H2_cap⟩ := H_cap
      clear h_cap
      go_enter Tryz.func101, Tryz.ntmps101
      go_wp2
      all_goals go_ret
      all_goals refine ⟨?_, by repeat (first | exact Keep.refl _ _ | apply Keep.alloc)⟩
      all_goals first | (rw [errOf, if_pos (by unfold counterOk; omega)]; rfl) | (rw [errOf, if_neg (by unfold counterOk; omega)]; rfl)
    · have g_cap : (p.cap != 0) = true := by simpa using h_cap
      go_enter Tryz.func101, Tryz.ntmps101
      go_wp2
      all_goals go_ret
      all_goals refine ⟨?_, by repeat (first | exact Keep.refl _ _ | apply Keep.alloc)⟩
      all_goals first | (rw [errOf, if_pos (by unfold counterOk; omega)]; rfl) | (rw [errOf, if_neg (by unfold counterOk; omega)]; rfl)
  · have g_burst : (p.burst != 0) = true := by simpa using h_burst
    by_cases h_cap : p.cap = 0
    · have g_cap : (p.cap != 0) = false := by simpa using h_cap
      have H_cap : p.cap ≤ 0 ∧ 0 ≤ p.cap := by omega
      obtain ⟨H1_cap, H2_cap⟩ := H_cap
      clear h_cap
      go_enter Tryz.func101, Tryz.ntmps101
      go_wp2
      all_goals go_ret
      all_goals refine ⟨?_, by repeat (first | exact Keep.refl _ _ | apply Keep.alloc)⟩
      all_goals first | (rw [errOf, if_pos (by unfold counterOk; omega)]; rfl) | (rw [errOf, if_neg (by unfold counterOk; omega)]; rfl)
    · have g_cap : (p.cap != 0) = true := by simpa using h_cap
      go_enter Tryz.func101, Tryz.ntmps101
      go_wp2
      all_goals go_ret
      all_goals refine ⟨?_, by repeat (first | exact Keep.refl _ _ | apply Keep.alloc)⟩
      all_goals first | (rw [errOf, if_pos (by unfold counterOk; omega)]; rfl) | (rw [errOf, if_neg (by unfold counterOk; omega)]; rfl)
def inB (a lo hi : Int) : Bool := decide (lo ≤ a) && decide (a ≤ hi)
theorem in_any (a lo hi : Int) (w : World) :
    Calls Tryz.prog 133 #[.int .i64 a, .int .i64 lo, .int .i64 hi] w fun e w' => e = .returned (.bool (inB a lo hi)) ∧ w = w' := by
  unfold inB
  by_cases h : lo ≤ a
  · have h1 : decide (a < lo) = false := by simp; omega
    have h2 : decide (lo ≤ a) = true := by simpa using h
    rw [h2]
    go_enter Tryz.func133, Tryz.ntmps133
    go_wp2
    go_ret
    exact ⟨by simp, rfl⟩
  · have h2 : decide (lo ≤ a) = false := by simpa using h
    rw [h2]
    go_enter Tryz.func133, Tryz.ntmps133
    go_wp2
    go_ret
    exact ⟨by simp, rfl⟩
theorem inB_true {a lo hi : Int} : inB a lo hi = true ↔ lo ≤ a ∧ a ≤ hi := by simp [inB]
theorem inB_false {a lo hi : Int} : inB a lo hi = false ↔ ¬ (lo ≤ a ∧ a ≤ hi) := by simp only [inB, Bool.and_eq_false_iff, decide_eq_false_iff_not]; omega
set_option maxHeartbeats 2000000 in
theorem gcraCheck_any (p : Pol) (w : World) :
    Calls Tryz.prog 85 #[.agg (polCells p)] w fun e w' => e = .returned (.int .i64 (errOf (gcraOk p))) ∧ Keep (fun _ => False) w w' := by
  unfold polCells
  by_cases hk : p.kind = 2
  · have hk' : (p.kind != 2) = false := by simpa using hk
    by_cases hc : p.cap = 0
    · have hc' : (p.cap != 0) = false := by simpa using hc
      cases hl : inB p.limit 1 1048576 with
      | false =>
        rw [errOf, if_neg (by have := inB_false.1 hl; unfold gcraOk; omega)]
        clear hk hc
        go_enter Tryz.func85, Tryz.ntmps85
        go_wp2_with (go_at_call 133; refine (in_any _ _ _ _).mono ?_; rintro e w' ⟨rfl, rfl⟩)
        go_ret
        exact ⟨rfl, by repeat (first | exact Keep.refl _ _ | apply Keep.alloc)⟩
      | true =>
        cases hb : inB p.burst 1 1048576 with
        | false =>
          rw [errOf, if_neg (by have := inB_false.1 hb; unfold gcraOk; omega)]
          clear hk hc
          go_enter Tryz.func85, Tryz.ntmps85
          go_wp2_with (go_at_call 133; refine (in_any _ _ _ _).mono ?_; rintro e w' ⟨rfl, rfl⟩)
          go_ret
          exact ⟨rfl, by repeat (first | exact Keep.refl _ _ | apply Keep.alloc)⟩
        | true =>
          cases hp : inB p.period 1 1099511627776 with
          | false =>
            rw [errOf, if_neg (by have := inB_false.1 hp; unfold gcraOk; omega)]
            clear hk hc
            go_enter Tryz.func85, Tryz.ntmps85
            go_wp2_with (go_at_call 133; refine (in_any _ _ _ _).mono ?_; rintro e w' ⟨rfl, rfl⟩)
            go_ret
            exact ⟨rfl, by repeat (first | exact Keep.refl _ _ | apply Keep.alloc)⟩
          | true =>
            rw [errOf, if_pos (by have := inB_true.1 hl; have := inB_true.1 hb; have := inB_true.1 hp; unfold gcraOk; omega)]
            clear hk hc
            go_enter Tryz.func85, Tryz.ntmps85
            go_wp2_with (go_at_call 133; refine (in_any _ _ _ _).mono ?_; rintro e w' ⟨rfl, rfl⟩)
            go_ret
            exact ⟨rfl, by repeat (first | exact Keep.refl _ _ | apply Keep.alloc)⟩
    · have hc' : (p.cap != 0) = true := by simpa using hc
      rw [errOf, if_neg (by unfold gcraOk; omega)]
      clear hk hc
      go_enter Tryz.func85, Tryz.ntmps85
      go_wp2
      go_ret
      exact ⟨rfl, by repeat (first | exact Keep.refl _ _ | apply Keep.alloc)⟩
  · have hk' : (p.kind != 2) = true := by simpa using hk
    rw [errOf, if_neg (by unfold gcraOk; omega)]
    clear hk
    go_enter Tryz.func85, Tryz.ntmps85
    go_wp2
    go_ret
    exact ⟨rfl, by repeat (first | exact Keep.refl _ _ | apply Keep.alloc)⟩
end Go.Proofs.YtamjhnibenonjaaGreatDoor
