/- command.Parse of whatever arguments. -/
import Derived.Test.YtamjhnibenonjaaGreatDoorPParse
namespace Go.Proofs.YtamjhnibenonjaaGreatDoor
set_option linter.unusedVariables false
set_option linter.unusedSimpArgs false
open Go Go.RowKit
set_option maxHeartbeats 200000 in
set_option maxRecDepth 100000 in
theorem Parse_none (v : Value) (w : World) (h : StrsIn w w.heap.size v []) :
    Calls Tryz.prog 10 #[v] w fun en w' => ∃ cv, en = .returned (.tuple #[cv, .int .i64 (parseF []).2]) ∧ CmdIn w' w'.heap.size cv (parseF []).1 ∧ Keep (fun _ => False) w w' := by
  obtain ⟨a, c, rfl, -, -, -⟩ := h
  go_enter Tryz.func10, Tryz.ntmps10
  go_wp2
  refine bodyPost_ret (parse_results rfl rfl (block_new w _)) rfl ?_
  exact ⟨_, rfl, CmdIn.zero _ _, (Keep.refl _ w).alloc _⟩
theorem CParse_any (v : Value) (l : List ByteArray) (w : World) (h : StrsIn w w.heap.size v l) (ho : ArgsOk l) (hg : Glob w) (hb : 9 < w.heap.size) :
    Calls Tryz.prog 10 #[v] w fun en w' => ∃ cv, en = .returned (.tuple #[cv, .int .i64 (parseF l).2]) ∧ CmdIn w' w'.heap.size cv (parseF l).1 ∧ Keep (fun _ => False) w w' := by
  cases l with
  | nil => exact Parse_none v w h
  | cons x l => exact Parse_some v x l w h ho hg hb
end Go.Proofs.YtamjhnibenonjaaGreatDoor
