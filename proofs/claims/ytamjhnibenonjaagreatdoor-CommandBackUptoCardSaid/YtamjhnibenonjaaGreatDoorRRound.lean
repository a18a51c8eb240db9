/- A region that draws its order, in a round of a range over a function: it is enough to walk it as anywhere. No program is named. -/
import Derived.Test.YtamjhnibenonjaaGreatDoorRSeq
import Derived.Deep.RegionHeld3
namespace Go.Proofs.YtamjhnibenonjaaGreatDoor
set_option linter.unusedVariables false
set_option linter.unusedSimpArgs false
open Go Go.RowKit
variable {P : Program} {Q : Exit → Act → World → Prop} {l n : Nat}
def noDefer (o : Oper) : Bool := match o.op with | .defer _ => false | _ => true
theorem wpIn_of_wp_op {o : Oper} {a : Act} {w : World} {K : Act → World → Prop} (hd : noDefer o = true) (h : o.wp P a w K Q) : o.wpIn (Fence.wide.inRound l) n P a w K Q := by
  refine ⟨fun _ _ => trivial, ?_⟩
  have e : o.semAt (Fence.wide.inRound l).round a.eval = execOp a.eval o := by
    obtain ⟨dst, op, ty, pos, aft, gd⟩ := o
    cases op <;> first | rfl | (simp [noDefer] at hd)
  rw [e]
  unfold Oper.wp at h
  generalize (execOp a.eval o).run P w = r at h
  cases r with
  | ok x w' =>
    cases x <;> simp only [Oper.upon, Oper.uponIn] at h ⊢
    all_goals first | exact h | exact h.elim | exact ⟨(fun h => by cases h), callsIn_wide.2 h⟩ | skip
    all_goals exact ⟨(fun h => by cases h), fun c cs _ => let ⟨v, w', r, st⟩ := h c cs; ⟨v, w', r, stepsIn_wide.2 st⟩⟩
  | halt x w' => cases x <;> simp only [Oper.upon, Oper.uponIn] at h ⊢ <;> exact h
theorem wpAnyIn_of_wpAny {ops : Array Oper} (hd : ops.all noDefer = true) (hQ : ¬ LetsOut Q) : ∀ (fuel : Nat) (listed : Array Bool) (a : Act) (w : World),
    wpAny P .any ops Q fuel listed a w → wpAnyIn (Fence.wide.inRound l) n P .any ops Q fuel listed a w
  | 0, _, _, _, h => h
  | fuel + 1, listed, a, w, h => by
    refine ⟨h.1, fun i hi => ?_⟩
    have hh := h.2 i hi
    unfold wpOp at hh
    unfold wpOpIn
    split
    · rename_i ho
      simp only [ho] at hh
      exact wpAnyIn_of_wpAny hd hQ fuel _ _ _ hh
    · rename_i o ho
      simp only [ho] at hh
      have hdo : noDefer o = true := (Array.all_eq_true'.1 hd) o (Array.mem_of_getElem? ho)
      split
      · rename_i hw
        simp only [hw, if_true] at hh
        rcases hh with hh | hh
        · exact Oper.wpIn_mono (fun a w hk => wpAnyIn_of_wpAny hd hQ fuel _ _ _ hk) (wpIn_of_wp_op hdo hh)
        · exact absurd hh.2 hQ
      · rename_i hw
        simp only [hw] at hh
        exact ⟨fun _ _ => trivial, wpAnyIn_of_wpAny hd hQ fuel _ _ _ hh⟩
theorem wp_region_round {id : Nat} {ops : Array Oper} {a : Act} {w : World} {S : World → Prop} (hm : P.follows .mixedOrders = true) (hd : ops.all noDefer = true) (hQ : ¬ LetsOut Q)
    (hS : S w.drew) (h : S w.drew → wpAnyH P .any ops Q S ops.size (Array.replicate ops.size false) a w.drew) : (Code.region id ops true).wpIn (Fence.wide.inRound l) n P Q a w :=
  wpIn_region_any hm (wpAnyIn_of_wpAny hd hQ _ _ _ _ (wpAny_of_held _ _ _ _ (h hS)))
end Go.Proofs.YtamjhnibenonjaaGreatDoor
