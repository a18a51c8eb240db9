/- More of the reader's methods of package command: named, name, key, any, time, id, most. Conditions as before. -/
import Derived.Test.YtamjhnibenonjaaGreatDoorPNamed
namespace Go.Proofs.YtamjhnibenonjaaGreatDoor
set_option linter.unusedVariables false
set_option linter.unusedSimpArgs false
open Go Go.RowKit
/-- Strings that are read are not too long. -/
def ArgsOk (l : List ByteArray) : Prop := ∀ x ∈ l, x.size ≤ 4194304
theorem ArgsOk.arg {R : Rd} (h : ArgsOk R.args) : R.arg.size ≤ 4194304 := by
  unfold Rd.arg
  cases hl : R.args with
  | nil => exact Nat.zero_le _
  | cons x l => exact h x (by simp [hl])
theorem RdAt.setCell {B b : Nat} {w : World} {R R' : Rd} (h : RdAt B w b R) (i : Nat) (v : Value) (h0 : ∀ pv wv av, (rdCells R pv wv av).setIfInBounds i v = rdCells R' pv wv av) (h1 : R'.c.path = R.c.path) (h2 : R'.c.wishes = R.c.wishes) (h3 : R'.args = R.args) :
    RdAt B (w.setCell ⟨b, i, none⟩ v) b R' ∧ Below B w (w.setCell ⟨b, i, none⟩ v) := by
  have hlt := h.lt
  obtain ⟨pv, wv, av, h⟩ := h
  have hk := (Keep.refl (fun k => k = b) w).setCell (p := ⟨b, i, none⟩) (.inl rfl) v
  exact ⟨h.upd hk (by rw [block_setCell h.blk, h0]) h1 h2 (by rw [h3]; exact h.args), below_keep1 hk hlt.1 hlt.2⟩
theorem RdAt.cells {B b : Nat} {w : World} {R : Rd} (h : RdAt B w b R) : ∃ pv wv av, (∀ o, w.cell? ⟨b, o, none⟩ = (rdCells R pv wv av)[o]?) ∧ (∀ o, w.frozen? ⟨b, o, none⟩ = false) ∧ RdParts B w b R pv wv av := by
  obtain ⟨pv, wv, av, h⟩ := h
  exact ⟨pv, wv, av, cell_of_block h.blk, free_of_block h.blk, h⟩
set_option maxHeartbeats 400000 in
theorem named_any (B b : Nat) (R : Rd) (s : ByteArray) (w : World) (h : RdAt B w b R) :
    Calls Tryz.prog 44 #[.pointer (some ⟨b, 0, none⟩), .string s] w fun en w' => en = .returned (.string s) ∧ RdAt B w' b (R.named s) ∧ Below B w w' := by
  have hN := Named_any s w
  have hlt := h.lt
  have H := Lib.hid h
  clear h
  by_cases hu : namedB s = true
  · have e1 : R.named s = R := by simp [Rd.named, hu]
    rw [e1]
    rw [hu] at hN
    clear e1 hu
    go_enter Tryz.func44, Tryz.ntmps44
    go_wp2_with fail
    refine hN.mono ?_
    rintro e w1 ⟨rfl, hb⟩
    go_wp2
    go_ret
    exact ⟨rfl, H.out.later (Keep.of_below hb), hb.mono (by omega)⟩
  · have hu' : namedB s = false := by simpa using hu
    have e1 : R.named s = R.fail 2 := by simp [Rd.named, hu']
    rw [e1]
    rw [hu'] at hN
    clear e1 hu hu'
    go_enter Tryz.func44, Tryz.ntmps44
    go_wp2_with fail
    refine hN.mono ?_
    rintro e w1 ⟨rfl, hb⟩
    go_wp2_with fail
    refine (fail_any B b R 2 w1 (H.out.later (Keep.of_below hb))).mono ?_
    rintro e w2 ⟨rfl, h2, hb2⟩
    go_wp2
    go_ret
    exact ⟨rfl, h2, (hb.mono (by omega)).trans hb2⟩
set_option maxHeartbeats 400000 in
theorem name_any (B b : Nat) (R : Rd) (w : World) (h : RdAt B w b R) :
    Calls Tryz.prog 27 #[.pointer (some ⟨b, 0, none⟩)] w fun en w' => en = .returned (.tuple #[]) ∧ RdAt B w' b R.readName ∧ Below B w w' := by
  go_enter Tryz.func27, Tryz.ntmps27
  go_wp2_with fail
  refine (next_any B b R w h).mono ?_
  rintro e w1 ⟨rfl, h1, hb1⟩
  go_wp2_with fail
  refine (named_any B b R.rest R.arg w1 h1).mono ?_
  rintro e w2 ⟨rfl, h2, hb2⟩
  obtain ⟨pv, wv, av, hc, hf, hp⟩ := h2.cells
  simp only [rdCells] at hc
  have H2 := Lib.hid h2
  clear h2 hp
  go_wp2
  go_end0
  obtain ⟨h3, hb3⟩ := H2.out.setCell (R' := R.readName) 1 (.string R.arg) (fun _ _ _ => rfl) rfl rfl rfl
  exact ⟨rfl, h3, (hb1.trans hb2).trans hb3⟩
set_option maxHeartbeats 400000 in
theorem key_short (B b : Nat) (R : Rd) (w : World) (h : RdAt B w b R) (ha : R.arg.size < 1) :
    Calls Tryz.prog 28 #[.pointer (some ⟨b, 0, none⟩)] w fun en w' => en = .returned (.tuple #[]) ∧ RdAt B w' b ((R.rest.setName R.arg).fail 2) ∧ Below B w w' := by
  have a1 : decide ((R.arg.size : Int) < 1) = true := by simp; omega
  have a2 : R.arg.size = 0 := by omega
  clear ha
  go_enter Tryz.func28, Tryz.ntmps28
  go_wp2_with fail
  refine (next_any B b R w h).mono ?_
  rintro e w1 ⟨rfl, h1, hb1⟩
  obtain ⟨pv, wv, av, hc, hf, hp⟩ := h1.cells
  simp only [rdCells] at hc
  obtain ⟨h3, hb3⟩ := h1.setCell (R' := R.rest.setName R.arg) 1 (.string R.arg) (fun _ _ _ => rfl) rfl rfl rfl
  have H3 := Lib.hid h3
  have HB3 := Lib.hid hb3
  clear h1 hp h3 hb3
  have hF := fail_any B b (R.rest.setName R.arg) 2 _ H3.out
  go_wp2_with fail
  refine hF.mono ?_
  rintro e w4 ⟨rfl, h4, hb4⟩
  go_wp2
  go_end0
  exact ⟨rfl, h4, (hb1.trans HB3.out).trans hb4⟩
set_option maxHeartbeats 400000 in
theorem key_long (B b : Nat) (R : Rd) (w : World) (h : RdAt B w b R) (ha : 100 < R.arg.size) :
    Calls Tryz.prog 28 #[.pointer (some ⟨b, 0, none⟩)] w fun en w' => en = .returned (.tuple #[]) ∧ RdAt B w' b ((R.rest.setName R.arg).fail 2) ∧ Below B w w' := by
  have a1 : decide ((R.arg.size : Int) < 1) = false := by simp; omega
  have a2 : decide (100 < (R.arg.size : Int)) = true := by simp; omega
  clear ha
  go_enter Tryz.func28, Tryz.ntmps28
  go_wp2_with fail
  refine (next_any B b R w h).mono ?_
  rintro e w1 ⟨rfl, h1, hb1⟩
  obtain ⟨pv, wv, av, hc, hf, hp⟩ := h1.cells
  simp only [rdCells] at hc
  obtain ⟨h3, hb3⟩ := h1.setCell (R' := R.rest.setName R.arg) 1 (.string R.arg) (fun _ _ _ => rfl) rfl rfl rfl
  have H3 := Lib.hid h3
  have HB3 := Lib.hid hb3
  clear h1 hp h3 hb3
  have hF := fail_any B b (R.rest.setName R.arg) 2 _ H3.out
  go_wp2_with fail
  refine hF.mono ?_
  rintro e w4 ⟨rfl, h4, hb4⟩
  go_wp2
  go_end0
  exact ⟨rfl, h4, (hb1.trans HB3.out).trans hb4⟩
set_option maxHeartbeats 400000 in
theorem key_good (B b : Nat) (R : Rd) (w : World) (h : RdAt B w b R) (ha : 1 ≤ R.arg.size ∧ R.arg.size ≤ 100) :
    Calls Tryz.prog 28 #[.pointer (some ⟨b, 0, none⟩)] w fun en w' => en = .returned (.tuple #[]) ∧ RdAt B w' b (R.rest.setName R.arg) ∧ Below B w w' := by
  have a1 : decide ((R.arg.size : Int) < 1) = false := by simp; omega
  have a2 : decide (100 < (R.arg.size : Int)) = false := by simp; omega
  clear ha
  go_enter Tryz.func28, Tryz.ntmps28
  go_wp2_with fail
  refine (next_any B b R w h).mono ?_
  rintro e w1 ⟨rfl, h1, hb1⟩
  obtain ⟨pv, wv, av, hc, hf, hp⟩ := h1.cells
  simp only [rdCells] at hc
  obtain ⟨h3, hb3⟩ := h1.setCell (R' := R.rest.setName R.arg) 1 (.string R.arg) (fun _ _ _ => rfl) rfl rfl rfl
  have H3 := Lib.hid h3
  have HB3 := Lib.hid hb3
  clear h1 hp h3 hb3
  go_wp2
  go_end0
  exact ⟨rfl, H3.out, hb1.trans HB3.out⟩
theorem key_any (B b : Nat) (R : Rd) (w : World) (h : RdAt B w b R) :
    Calls Tryz.prog 28 #[.pointer (some ⟨b, 0, none⟩)] w fun en w' => en = .returned (.tuple #[]) ∧ RdAt B w' b R.readKey ∧ Below B w w' := by
  have e1 : R.readKey = if R.arg.size < 1 ∨ 100 < R.arg.size then (R.rest.setName R.arg).fail 2 else (R.rest.setName R.arg) := rfl
  rw [e1]
  by_cases h1 : R.arg.size < 1
  · rw [if_pos (.inl h1)]; exact key_short B b R w h h1
  by_cases h2 : 100 < R.arg.size
  · rw [if_pos (.inr h2)]; exact key_long B b R w h h2
  · rw [if_neg (by omega)]; exact key_good B b R w h (by omega)
set_option maxHeartbeats 400000 in
theorem any_any (B b : Nat) (R : Rd) (w : World) (h : RdOk B w b R) (hs : ArgsOk R.args) :
    Calls Tryz.prog 29 #[.pointer (some ⟨b, 0, none⟩)] w fun en w' => en = .returned (.tuple #[]) ∧ RdAt B w' b (R.readNum (-9223372036854775808) 9223372036854775807) ∧ Below B w w' := by
  have hz := hs.arg
  go_enter Tryz.func29, Tryz.ntmps29
  go_wp2_with fail
  refine (next_any B b R w h.at_).mono ?_
  rintro e w1 ⟨rfl, h1, hb1⟩
  have hN := number_any B b R.rest R.arg (-9223372036854775808) 9223372036854775807 w1 (h.next h1 hb1) (by omega)
  go_wp2_with fail
  refine hN.mono ?_
  rintro e w2 ⟨rfl, h2, hb2⟩
  obtain ⟨pv, wv, av, hc, hf, hp⟩ := h2.cells
  simp only [rdCells] at hc
  have H2 := Lib.hid h2
  clear h2 hp
  go_wp2
  go_end0
  obtain ⟨h3, hb3⟩ := H2.out.setCell (R' := R.readNum (-9223372036854775808) 9223372036854775807) 10 (.int .i64 (uptoV R.arg (-9223372036854775808) 9223372036854775807)) (fun _ _ _ => rfl) rfl rfl rfl
  exact ⟨rfl, h3, (hb1.trans hb2).trans hb3⟩
set_option maxHeartbeats 400000 in
theorem time_any (B b : Nat) (R : Rd) (w : World) (h : RdOk B w b R) (hs : ArgsOk R.args) :
    Calls Tryz.prog 32 #[.pointer (some ⟨b, 0, none⟩)] w fun en w' => en = .returned (.tuple #[]) ∧ RdAt B w' b (R.readNum 0 9007199254740992) ∧ Below B w w' := by
  have hz := hs.arg
  go_enter Tryz.func32, Tryz.ntmps32
  go_wp2_with fail
  refine (next_any B b R w h.at_).mono ?_
  rintro e w1 ⟨rfl, h1, hb1⟩
  have hN := number_any B b R.rest R.arg 0 9007199254740992 w1 (h.next h1 hb1) (by omega)
  go_wp2_with fail
  refine hN.mono ?_
  rintro e w2 ⟨rfl, h2, hb2⟩
  obtain ⟨pv, wv, av, hc, hf, hp⟩ := h2.cells
  simp only [rdCells] at hc
  have H2 := Lib.hid h2
  clear h2 hp
  go_wp2
  go_end0
  obtain ⟨h3, hb3⟩ := H2.out.setCell (R' := R.readNum 0 9007199254740992) 10 (.int .i64 (uptoV R.arg 0 9007199254740992)) (fun _ _ _ => rfl) rfl rfl rfl
  exact ⟨rfl, h3, (hb1.trans hb2).trans hb3⟩
set_option maxHeartbeats 400000 in
theorem id_any (B b : Nat) (R : Rd) (w : World) (h : RdOk B w b R) (hs : ArgsOk R.args) :
    Calls Tryz.prog 33 #[.pointer (some ⟨b, 0, none⟩)] w fun en w' => en = .returned (.tuple #[]) ∧ RdAt B w' b (R.readNum 1 9007199254740992) ∧ Below B w w' := by
  have hz := hs.arg
  go_enter Tryz.func33, Tryz.ntmps33
  go_wp2_with fail
  refine (next_any B b R w h.at_).mono ?_
  rintro e w1 ⟨rfl, h1, hb1⟩
  have hN := number_any B b R.rest R.arg 1 9007199254740992 w1 (h.next h1 hb1) (by omega)
  go_wp2_with fail
  refine hN.mono ?_
  rintro e w2 ⟨rfl, h2, hb2⟩
  obtain ⟨pv, wv, av, hc, hf, hp⟩ := h2.cells
  simp only [rdCells] at hc
  have H2 := Lib.hid h2
  clear h2 hp
  go_wp2
  go_end0
  obtain ⟨h3, hb3⟩ := H2.out.setCell (R' := R.readNum 1 9007199254740992) 10 (.int .i64 (uptoV R.arg 1 9007199254740992)) (fun _ _ _ => rfl) rfl rfl rfl
  exact ⟨rfl, h3, (hb1.trans hb2).trans hb3⟩
end Go.Proofs.YtamjhnibenonjaaGreatDoor
