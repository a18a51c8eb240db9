/- The reader's method most. -/
import Derived.Test.YtamjhnibenonjaaGreatDoorPRd2
namespace Go.Proofs.YtamjhnibenonjaaGreatDoor
set_option linter.unusedVariables false
set_option linter.unusedSimpArgs false
open Go Go.RowKit
set_option maxHeartbeats 400000 in
theorem most_none (B b : Nat) (R : Rd) (w : World) (h : RdOk B w b R) (hs : R.args = []) :
    Calls Tryz.prog 35 #[.pointer (some ⟨b, 0, none⟩)] w fun en w' => en = .returned (.tuple #[]) ∧ RdAt B w' b R.readMost ∧ Below B w w' := by
  have e1 : R.readMost = R := by simp [Rd.readMost, hs]
  rw [e1]
  have H := Lib.hid h
  obtain ⟨pv, wv, av, hc, hf, hp⟩ := h.at_.cells
  obtain ⟨a, c, rfl, hlc, hcm, hel⟩ := hp.args
  simp only [rdCells] at hc
  rw [hs] at hc
  simp only [List.length_nil] at hc
  clear hs e1 h hp hel
  go_enter Tryz.func35, Tryz.ntmps35
  go_wp2
  go_end0
  exact ⟨rfl, H.out.at_, Below.refl _ _⟩
set_option maxHeartbeats 400000 in
theorem most_some (B b : Nat) (R : Rd) (w : World) (h : RdOk B w b R) (ho : ArgsOk R.args) (hs : R.args ≠ []) :
    Calls Tryz.prog 35 #[.pointer (some ⟨b, 0, none⟩)] w fun en w' => en = .returned (.tuple #[]) ∧ RdAt B w' b R.readMost ∧ Below B w w' := by
  have e1 : R.readMost = (R.rest.number R.arg 0 1048576).setWishes [⟨emptyB, 0, uptoV R.arg 0 1048576⟩] := by simp [Rd.readMost, hs]
  rw [e1]
  have hz := ho.arg
  have H := Lib.hid h
  obtain ⟨pv, wv, av, hc, hf, hp⟩ := h.at_.cells
  obtain ⟨a, c, rfl, hlc, hcm, hel⟩ := hp.args
  simp only [rdCells] at hc
  have hl : 1 ≤ R.args.length := by
    rcases Nat.eq_zero_or_pos R.args.length with e | e
    · exact absurd (List.eq_nil_of_length_eq_zero e) hs
    · exact e
  have hl' : decide (0 < (R.args.length : Int)) = true := by simp; omega
  have hl2 : 0 < R.args.length := by omega
  clear hs e1 h hp hel
  go_enter Tryz.func35, Tryz.ntmps35
  go_wp2_with fail
  refine (next_any B b R w H.out.at_).mono ?_
  rintro e w1 ⟨rfl, h1, hb1⟩
  have hN := number_any B b R.rest R.arg 0 1048576 w1 (H.out.next h1 hb1) (by omega)
  go_wp2_with fail
  refine hN.mono ?_
  rintro e w2 ⟨rfl, h2, hb2⟩
  clear hc hf
  obtain ⟨pv, wv, av, hc, hf, hp⟩ := h2.cells
  have hc1 := cell_of_block1 hp.blk
  have hf1 := free_of_block1 hp.blk
  simp only [rdCells] at hc hc1
  have H2 := Lib.hid h2
  have HP := Lib.hid hp
  clear h2 hp
  go_wp2
  go_end0
  have hk : Keep (fun k => k = b) w2 ((w2.alloc (Obj.cells #[.string ⟨#[]⟩, .int .i64 0, .int .i64 (uptoV R.arg 0 1048576)] 42)).setCell ⟨b, 9, none⟩ (.slice (some ⟨w2.heap.size, 0, none⟩) 1 1)) :=
    ((Keep.refl (fun k => k = b) w2).alloc _).setCell (p := ⟨b, 9, none⟩) (.inl rfl) _
  have hb9 := block_setCell (block_alloc HP.out.blk (Obj.cells #[.string ⟨#[]⟩, .int .i64 0, .int .i64 (uptoV R.arg 0 1048576)] 42)) 9 (.slice (some ⟨w2.heap.size, 0, none⟩) 1 1)
  have hlt := H2.out.lt
  have hnew := block_setCell_ne (block_new w2 (Obj.cells #[.string ⟨#[]⟩, .int .i64 0, .int .i64 (uptoV R.arg 0 1048576)] 42)) (a := ⟨b, 9, none⟩) (by show b ≠ _; omega) (.slice (some ⟨w2.heap.size, 0, none⟩) 1 1)
  have hBw := below_keep1 hk hlt.1 hlt.2
  refine ⟨rfl, ⟨pv, .slice (some ⟨w2.heap.size, 0, none⟩) 1 1, av, hb9, hlt.1, ?_, ?_, ?_, HP.out.args.below hBw⟩, (hb1.trans hb2).trans hBw⟩
  · exact hk.ownsRow HP.out.path (fun k hk' e => by have := (HP.out.path.lt k hk').1; omega)
  · exact ⟨rfl, .inr ⟨w2.heap.size, 1, _, rfl, by omega, hnew, by simp [Rd.setWishes], by unfold maxLen; omega, rfl, rfl⟩⟩
  · intro k hk' e
    have := (HP.out.path.lt k hk').2
    simp [Value.ownBlock] at e
    omega
theorem most_any (B b : Nat) (R : Rd) (w : World) (h : RdOk B w b R) (ho : ArgsOk R.args) :
    Calls Tryz.prog 35 #[.pointer (some ⟨b, 0, none⟩)] w fun en w' => en = .returned (.tuple #[]) ∧ RdAt B w' b R.readMost ∧ Below B w w' := by
  by_cases hs : R.args = []
  · exact most_none B b R w h hs
  · exact most_some B b R w h ho hs
end Go.Proofs.YtamjhnibenonjaaGreatDoor
