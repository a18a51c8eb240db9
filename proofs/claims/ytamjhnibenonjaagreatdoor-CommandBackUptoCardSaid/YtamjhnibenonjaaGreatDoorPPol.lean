/- The reader's method policy. -/
import Derived.Test.YtamjhnibenonjaaGreatDoorPRd3
import Derived.Test.YtamjhnibenonjaaGreatDoorPLim2
import Derived.Deep.QuietTactic
import Derived.BigQuiet
namespace Go.Proofs.YtamjhnibenonjaaGreatDoor
set_option linter.unusedVariables false
set_option linter.unusedSimpArgs false
open Go Go.RowKit
theorem below_drewN {B : Nat} {a w : World} (h : Below B a w) (n : Nat) : Below B a (w.drewN n) := ⟨h.os, h.tape, h.output, h.size, h.block⟩
theorem RdOk.drewN {B b : Nat} {w : World} {R : Rd} (h : RdOk B w b R) (n : Nat) : RdOk B (w.drewN n) b R :=
  h.next (h.at_.later ((Keep.refl _ _).drewN n)) (below_drewN (Below.refl _ _) n)
theorem ArgsOk.tail {l : List ByteArray} (h : ArgsOk l) : ArgsOk l.tail := fun x hx => h x (List.mem_of_mem_tail hx)
set_option maxHeartbeats 4000000 in
set_option maxRecDepth 100000 in
theorem policy_any (B b : Nat) (R : Rd) (w : World) (h : RdOk B w b R) (ho : ArgsOk R.args) :
    Calls Tryz.prog 34 #[.pointer (some ⟨b, 0, none⟩)] w fun en w' => en = .returned (.tuple #[]) ∧ RdAt B w' b R.readPolicy ∧ Below B w w' := by
  have i0 : ∀ w, (Instr.index 81 (.agg #[.pointer (some ⟨b, 3, none⟩), .pointer (some ⟨b, 4, none⟩), .pointer (some ⟨b, 5, none⟩), .pointer (some ⟨b, 6, none⟩)]) (.int .i64 0)).run Tryz.prog w = .ok (.pointer (some ⟨b, 3, none⟩)) w := fun _ => by kernel_rfl
  have i1 : ∀ w, (Instr.index 81 (.agg #[.pointer (some ⟨b, 3, none⟩), .pointer (some ⟨b, 4, none⟩), .pointer (some ⟨b, 5, none⟩), .pointer (some ⟨b, 6, none⟩)]) (.int .i64 1)).run Tryz.prog w = .ok (.pointer (some ⟨b, 4, none⟩)) w := fun _ => by kernel_rfl
  have i2 : ∀ w, (Instr.index 81 (.agg #[.pointer (some ⟨b, 3, none⟩), .pointer (some ⟨b, 4, none⟩), .pointer (some ⟨b, 5, none⟩), .pointer (some ⟨b, 6, none⟩)]) (.int .i64 2)).run Tryz.prog w = .ok (.pointer (some ⟨b, 5, none⟩)) w := fun _ => by kernel_rfl
  have i3 : ∀ w, (Instr.index 81 (.agg #[.pointer (some ⟨b, 3, none⟩), .pointer (some ⟨b, 4, none⟩), .pointer (some ⟨b, 5, none⟩), .pointer (some ⟨b, 6, none⟩)]) (.int .i64 3)).run Tryz.prog w = .ok (.pointer (some ⟨b, 6, none⟩)) w := fun _ => by kernel_rfl
  have HO := Lib.hid ho
  have H0 := Lib.hid h
  clear h ho
  go_enter Tryz.func34, Tryz.ntmps34
  go_wp2_with fail
  refine (next_any B b R _ H0.out.at_).mono ?_
  rintro e w0a ⟨rfl, h0a, hb0a⟩
  have hN0 := number_any B b R.rest R.arg 1 4 w0a (H0.out.next h0a hb0a) (by have := HO.out.arg; omega)
  have HA0 := Lib.hid (H0.out.next h0a hb0a)
  have HBA0 := Lib.hid hb0a
  clear h0a hb0a
  go_wp2_with fail
  refine hN0.mono ?_
  clear hN0
  rintro e w0b ⟨rfl, h0b, hb0b⟩
  obtain ⟨pv, wv, av, hc, hf, hp⟩ := h0b.cells
  simp only [rdCells] at hc
  obtain ⟨R1, hR1⟩ : ∃ r, r = R.polNum 1 4 (fun p v => { p with kind := v }) := ⟨_, rfl⟩
  have hs0 := h0b.setCell (R' := R1) 2 (.int .i64 (uptoV R.arg 1 4)) (fun _ _ _ => by rw [hR1]; rfl) (by rw [hR1]; rfl) (by rw [hR1]; rfl) (by rw [hR1]; rfl)
  have H1 := Lib.hid ((HA0.out.next h0b hb0b).next hs0.1 hs0.2)
  have HBB0 := Lib.hid (HBA0.out.trans (hb0b.trans hs0.2))
  have HR0 := Lib.hid hR1
  have HO1 : ArgsOk R1.args := by rw [hR1, polNum_args]; exact HO.out.tail
  clear hs0 h0b hb0b hp hR1
  go_wp2
  go_quiet (fail)
  have HD := Lib.hid (H1.out.drewN nq)
  clear H1
  have H1 := Lib.hid HD.out
  clear HD
  go_wp2
  refine wp_loop_rounds 5 ?_
  rw [rounds_succ]
  go_wp2_with fail
  refine (next_any B b R1 _ H1.out.at_).mono ?_
  rintro e w1a ⟨rfl, h1a, hb1a⟩
  have hN1 := number_any B b R1.rest R1.arg 0 1099511627776 w1a (H1.out.next h1a hb1a) (by have := (show ArgsOk R1.args from HO1).arg; omega)
  have HA1 := Lib.hid (H1.out.next h1a hb1a)
  have HBA1 := Lib.hid hb1a
  clear h1a hb1a
  go_wp2_with fail
  refine hN1.mono ?_
  clear hN1
  rintro e w1b ⟨rfl, h1b, hb1b⟩
  obtain ⟨pv, wv, av, hc, hf, hp⟩ := h1b.cells
  simp only [rdCells] at hc
  obtain ⟨R2, hR2⟩ : ∃ r, r = R1.polNum 0 1099511627776 (fun p v => { p with limit := v }) := ⟨_, rfl⟩
  have hs1 := h1b.setCell (R' := R2) 3 (.int .i64 (uptoV R1.arg 0 1099511627776)) (fun _ _ _ => by rw [hR2]; rfl) (by rw [hR2]; rfl) (by rw [hR2]; rfl) (by rw [hR2]; rfl)
  have H2 := Lib.hid ((HA1.out.next h1b hb1b).next hs1.1 hs1.2)
  have HBB1 := Lib.hid (HBA1.out.trans (hb1b.trans hs1.2))
  have HR1 := Lib.hid hR2
  have HO2 : ArgsOk R2.args := by rw [hR2, polNum_args]; exact HO1.tail
  clear hs1 h1b hb1b hp hR2
  go_wp2
  rw [rounds_succ]
  go_wp2_with fail
  refine (next_any B b R2 _ H2.out.at_).mono ?_
  rintro e w2a ⟨rfl, h2a, hb2a⟩
  have hN2 := number_any B b R2.rest R2.arg 0 1099511627776 w2a (H2.out.next h2a hb2a) (by have := (show ArgsOk R2.args from HO2).arg; omega)
  have HA2 := Lib.hid (H2.out.next h2a hb2a)
  have HBA2 := Lib.hid hb2a
  clear h2a hb2a
  go_wp2_with fail
  refine hN2.mono ?_
  clear hN2
  rintro e w2b ⟨rfl, h2b, hb2b⟩
  obtain ⟨pv, wv, av, hc, hf, hp⟩ := h2b.cells
  simp only [rdCells] at hc
  obtain ⟨R3, hR3⟩ : ∃ r, r = R2.polNum 0 1099511627776 (fun p v => { p with period := v }) := ⟨_, rfl⟩
  have hs2 := h2b.setCell (R' := R3) 4 (.int .i64 (uptoV R2.arg 0 1099511627776)) (fun _ _ _ => by rw [hR3]; rfl) (by rw [hR3]; rfl) (by rw [hR3]; rfl) (by rw [hR3]; rfl)
  have H3 := Lib.hid ((HA2.out.next h2b hb2b).next hs2.1 hs2.2)
  have HBB2 := Lib.hid (HBA2.out.trans (hb2b.trans hs2.2))
  have HR2 := Lib.hid hR3
  have HO3 : ArgsOk R3.args := by rw [hR3, polNum_args]; exact HO2.tail
  clear hs2 h2b hb2b hp hR3
  go_wp2
  rw [rounds_succ]
  go_wp2_with fail
  refine (next_any B b R3 _ H3.out.at_).mono ?_
  rintro e w3a ⟨rfl, h3a, hb3a⟩
  have hN3 := number_any B b R3.rest R3.arg 0 1099511627776 w3a (H3.out.next h3a hb3a) (by have := (show ArgsOk R3.args from HO3).arg; omega)
  have HA3 := Lib.hid (H3.out.next h3a hb3a)
  have HBA3 := Lib.hid hb3a
  clear h3a hb3a
  go_wp2_with fail
  refine hN3.mono ?_
  clear hN3
  rintro e w3b ⟨rfl, h3b, hb3b⟩
  obtain ⟨pv, wv, av, hc, hf, hp⟩ := h3b.cells
  simp only [rdCells] at hc
  obtain ⟨R4, hR4⟩ : ∃ r, r = R3.polNum 0 1099511627776 (fun p v => { p with burst := v }) := ⟨_, rfl⟩
  have hs3 := h3b.setCell (R' := R4) 5 (.int .i64 (uptoV R3.arg 0 1099511627776)) (fun _ _ _ => by rw [hR4]; rfl) (by rw [hR4]; rfl) (by rw [hR4]; rfl) (by rw [hR4]; rfl)
  have H4 := Lib.hid ((HA3.out.next h3b hb3b).next hs3.1 hs3.2)
  have HBB3 := Lib.hid (HBA3.out.trans (hb3b.trans hs3.2))
  have HR3 := Lib.hid hR4
  have HO4 : ArgsOk R4.args := by rw [hR4, polNum_args]; exact HO3.tail
  clear hs3 h3b hb3b hp hR4
  go_wp2
  rw [rounds_succ]
  go_wp2_with fail
  refine (next_any B b R4 _ H4.out.at_).mono ?_
  rintro e w4a ⟨rfl, h4a, hb4a⟩
  have hN4 := number_any B b R4.rest R4.arg 0 1099511627776 w4a (H4.out.next h4a hb4a) (by have := (show ArgsOk R4.args from HO4).arg; omega)
  have HA4 := Lib.hid (H4.out.next h4a hb4a)
  have HBA4 := Lib.hid hb4a
  clear h4a hb4a
  go_wp2_with fail
  refine hN4.mono ?_
  clear hN4
  rintro e w4b ⟨rfl, h4b, hb4b⟩
  obtain ⟨pv, wv, av, hc, hf, hp⟩ := h4b.cells
  simp only [rdCells] at hc
  obtain ⟨R5, hR5⟩ : ∃ r, r = R4.polNum 0 1099511627776 (fun p v => { p with cap := v }) := ⟨_, rfl⟩
  have hs4 := h4b.setCell (R' := R5) 6 (.int .i64 (uptoV R4.arg 0 1099511627776)) (fun _ _ _ => by rw [hR5]; rfl) (by rw [hR5]; rfl) (by rw [hR5]; rfl) (by rw [hR5]; rfl)
  have H5 := Lib.hid ((HA4.out.next h4b hb4b).next hs4.1 hs4.2)
  have HBB4 := Lib.hid (HBA4.out.trans (hb4b.trans hs4.2))
  have HR4 := Lib.hid hR5
  have HO5 : ArgsOk R5.args := by rw [hR5, polNum_args]; exact HO4.tail
  clear hs4 h4b hb4b hp hR5
  go_wp2
  rw [rounds_succ]
  go_wp2_with fail
  refine (next_any B b R5 _ H5.out.at_).mono ?_
  rintro e w5a ⟨rfl, h5a, hb5a⟩
  have hN5 := number_any B b R5.rest R5.arg 0 1 w5a (H5.out.next h5a hb5a) (by have := (show ArgsOk R5.args from HO5).arg; omega)
  have HA5 := Lib.hid (H5.out.next h5a hb5a)
  have HBA5 := Lib.hid hb5a
  clear h5a hb5a
  go_wp2_with fail
  refine hN5.mono ?_
  clear hN5
  rintro e w5b ⟨rfl, h5b, hb5b⟩
  obtain ⟨pv, wv, av, hc, hf, hp⟩ := h5b.cells
  simp only [rdCells] at hc
  obtain ⟨R6, hR6⟩ : ∃ r, r = R5.polNum 0 1 (fun p v => { p with opn := v == 1 }) := ⟨_, rfl⟩
  have hs5 := h5b.setCell (R' := R6) 7 (.bool (uptoV R5.arg 0 1 == 1)) (fun _ _ _ => by rw [hR6]; rfl) (by rw [hR6]; rfl) (by rw [hR6]; rfl) (by rw [hR6]; rfl)
  have H6 := Lib.hid ((HA5.out.next h5b hb5b).next hs5.1 hs5.2)
  have HBB5 := Lib.hid (HBA5.out.trans (hb5b.trans hs5.2))
  have HR5 := Lib.hid hR6
  have HO6 : ArgsOk R6.args := by rw [hR6, polNum_args]; exact HO5.tail
  clear hs5 h5b hb5b hp hR6
  obtain ⟨pv, wv, av, hc, hf, hp⟩ := H6.out.at_.cells
  simp only [rdCells] at hc
  clear hp
  have hC := Check_any R6.c.pol
  have hfin : R.readPolicy = R6.polCheck := by rw [HR5.out, HR4.out, HR3.out, HR2.out, HR1.out, HR0.out]; rfl
  have HFIN := Lib.hid hfin
  clear hfin
  have HB : Below B w _ := ((below_drewN HBB0.out nq).trans HBB1.out).trans (((HBB2.out.trans HBB3.out).trans HBB4.out).trans HBB5.out)
  by_cases hok : polOk R6.c.pol
  · have e1 : R6.polCheck = R6 := by simp [Rd.polCheck, hok]
    have e2 : errOf (polOk R6.c.pol) = 0 := by simp [errOf, hok]
    rw [e2] at hC
    have E1 := Lib.hid e1
    clear e1 e2 hok
    unfold polCells at hC
    go_wp2_with fail
    refine (hC _).mono ?_
    rintro e w7 ⟨rfl, hk7⟩
    go_wp2
    go_end0
    exact ⟨rfl, by rw [HFIN.out, E1.out]; exact H6.out.at_.later hk7, HB.trans (hk7.below.mono (by have := H6.out.at_.lt; omega))⟩
  · have e1 : R6.polCheck = R6.fail 2 := by simp [Rd.polCheck, hok]
    have e2 : errOf (polOk R6.c.pol) = 2 := by simp [errOf, hok]
    rw [e2] at hC
    have E1 := Lib.hid e1
    clear e1 e2 hok
    unfold polCells at hC
    go_wp2_with fail
    refine (hC _).mono ?_
    rintro e w7 ⟨rfl, hk7⟩
    go_wp2_with fail
    refine (fail_any B b R6 2 w7 (H6.out.at_.later hk7)).mono ?_
    rintro e w8 ⟨rfl, h8, hb8⟩
    go_wp2
    go_end0
    exact ⟨rfl, by rw [HFIN.out, E1.out]; exact h8, (HB.trans (hk7.below.mono (by have := H6.out.at_.lt; omega))).trans hb8⟩
end Go.Proofs.YtamjhnibenonjaaGreatDoor
