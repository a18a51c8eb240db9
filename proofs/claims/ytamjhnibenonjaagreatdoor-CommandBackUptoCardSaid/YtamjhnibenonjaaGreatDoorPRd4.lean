/- The reader's methods fail, number, named, told more sharply: the slices of the reader stay where they lie, all other blocks as they were. -/
import Derived.Test.YtamjhnibenonjaaGreatDoorPPol
namespace Go.Proofs.YtamjhnibenonjaaGreatDoor
set_option linter.unusedVariables false
set_option linter.unusedSimpArgs false
open Go Go.RowKit
theorem RdParts.upd' {B b : Nat} {w w' : World} {R R' : Rd} {pv wv av : Value} (h : RdParts B w b R pv wv av) (hk : Keep (fun k => k = b) w w')
    (hb : w'.heap[b]? = some (.cells (rdCells R' pv wv av) 55 (0, 0))) (h1 : R'.c.path = R.c.path) (h2 : R'.c.wishes = R.c.wishes) (h3 : R'.args = R.args) : RdParts B w' b R' pv wv av := by
  refine ⟨hb, h.hB, ?_, ?_, h.apart, ?_⟩
  · rw [h1]; exact hk.ownsRow h.path (fun k hk' e => by have := (h.path.lt k hk').1; omega)
  · rw [h2]; exact hk.ownsRow h.wishes (fun k hk' e => by have := (h.wishes.lt k hk').1; omega)
  · rw [h3]; exact h.args.below (Below.of_keep hk (by have := lt_of_block h.blk; have := h.hB; omega) (fun k hkB e => by have := h.hB; omega))
theorem RdParts.later {B b : Nat} {w w' : World} {R : Rd} {pv wv av : Value} (h : RdParts B w b R pv wv av) (hk : Keep (fun _ => False) w w') : RdParts B w' b R pv wv av :=
  h.upd' (hk.mono (fun _ => False.elim)) (hk.get h.blk id) rfl rfl rfl
theorem RdParts.updA {B b : Nat} {w w' : World} {R R' : Rd} {pv wv av av' : Value} (h : RdParts B w b R pv wv av) (hk : Keep (fun k => k = b) w w')
    (hb : w'.heap[b]? = some (.cells (rdCells R' pv wv av') 55 (0, 0))) (h1 : R'.c.path = R.c.path) (h2 : R'.c.wishes = R.c.wishes) (h3 : StrsIn w B av' R'.args) : RdParts B w' b R' pv wv av' := by
  refine ⟨hb, h.hB, ?_, ?_, h.apart, h3.below (Below.of_keep hk (by have := lt_of_block h.blk; have := h.hB; omega) (fun k hkB e => by have := h.hB; omega))⟩
  · rw [h1]; exact hk.ownsRow h.path (fun k hk' e => by have := (h.path.lt k hk').1; omega)
  · rw [h2]; exact hk.ownsRow h.wishes (fun k hk' e => by have := (h.wishes.lt k hk').1; omega)
set_option maxHeartbeats 400000 in
theorem next_parts (B b : Nat) (R : Rd) (w : World) (pv wv av : Value) (h : RdParts B w b R pv wv av) :
    Calls Tryz.prog 45 #[.pointer (some ⟨b, 0, none⟩)] w fun en w' => en = .returned (.string R.arg) ∧ (∃ av', RdParts B w' b R.rest pv wv av') ∧ Keep (fun k => k = b) w w' := by
  have hc := cell_of_block h.blk
  have hf := free_of_block h.blk
  have H := Lib.hid h
  obtain ⟨a, c, rfl, hlc, hcm, hel⟩ := h.args
  clear h
  simp only [rdCells] at hc
  cases hargs : R.args with
  | nil =>
    have e1 : R.arg = emptyB := by simp [Rd.arg, hargs]
    have e2 : R.rest = R := by cases R; simp only [Rd.rest] at *; subst hargs; rfl
    rw [e1, e2]
    rw [hargs] at hc
    simp only [List.length_nil] at hc
    clear e1 e2 hargs
    go_enter Tryz.func45, Tryz.ntmps45
    go_wp2
    go_ret
    exact ⟨rfl, ⟨_, H.out⟩, Keep.refl _ _⟩
  | cons x l =>
    have e1 : R.arg = x := by simp [Rd.arg, hargs]
    have e2 : R.rest.args = l := by simp [Rd.rest, hargs]
    rw [e1]
    obtain ⟨ab, o, rfl, hab, hx⟩ := hel (by simp [hargs])
    have hx0 : w.cell? ⟨ab, o, none⟩ = some (.string x) := hx 0 x (by simp [hargs])
    rw [hargs] at hc
    simp only [List.length_cons] at hc hlc
    have E2 := Lib.hid e2
    have HL := Lib.hid (show R.args.length = l.length + 1 by rw [hargs]; rfl)
    have HX := Lib.hid hx
    clear e1 e2 hargs hel hx
    go_enter Tryz.func45, Tryz.ntmps45
    go_wp2
    all_goals
      go_ret
      have hk := fun v => (Keep.refl (fun k => k = b) w).setCell (p := ⟨b, 11, none⟩) (.inl rfl) v
      refine ⟨rfl, ⟨_, H.out.updA (R' := R.rest) (hk _) (by rw [block_setCell H.out.blk]; rfl) rfl rfl ?_⟩, hk _⟩
    · have hl : l = [] := List.eq_nil_of_length_eq_zero (by have := HL.out; omega)
      exact ⟨_, _, by rw [E2.out], by rw [E2.out]; have := HL.out; omega, by omega, fun hne => absurd (E2.out.trans hl) hne⟩
    · refine ⟨some ⟨ab, o + 1, none⟩, c - 1, by rw [E2.out], by rw [E2.out]; have := HL.out; omega, by omega, fun hne => ⟨ab, o + 1, rfl, hab, fun j y hj => ?_⟩⟩
      rw [show o + 1 + j = o + (j + 1) by omega]
      exact HX.out (j + 1) y (by rw [← hj, Rd.rest, List.getElem?_tail])
theorem fail_c (R : Rd) (e : Int) : (R.fail e).c = R.c := by unfold Rd.fail; split <;> rfl
theorem fail_args (R : Rd) (e : Int) : (R.fail e).args = R.args := by unfold Rd.fail; split <;> rfl
set_option maxHeartbeats 400000 in
theorem fail_parts (B b : Nat) (R : Rd) (e : Int) (w : World) (pv wv av : Value) (h : RdParts B w b R pv wv av) :
    Calls Tryz.prog 46 #[.pointer (some ⟨b, 0, none⟩), .int .i64 e] w fun en w' => en = .returned (.tuple #[]) ∧ RdParts B w' b (R.fail e) pv wv av ∧ Keep (fun k => k = b) w w' := by
  have hc := cell_of_block h.blk
  have hf := free_of_block h.blk
  have H := Lib.hid h
  clear h
  simp only [rdCells] at hc
  by_cases he : R.e = 0
  · have he' : (R.e == 0) = true := by simp [he]
    have HE := Lib.hid he
    clear he
    go_enter Tryz.func46, Tryz.ntmps46
    go_wp2
    go_end0
    have hk : Keep (fun k => k = b) w (w.setCell ⟨b, 12, none⟩ (.int .i64 e)) := (Keep.refl (fun k => k = b) w).setCell (p := ⟨b, 12, none⟩) (.inl rfl) _
    refine ⟨rfl, ?_, hk⟩
    rw [Rd.fail, if_pos HE.out]
    exact H.out.upd' hk (by rw [block_setCell H.out.blk]; rfl) rfl rfl rfl
  · have he' : (R.e == 0) = false := by simpa using he
    have HE := Lib.hid he
    clear he
    go_enter Tryz.func46, Tryz.ntmps46
    go_wp2
    go_end0
    refine ⟨rfl, ?_, Keep.refl _ _⟩
    rw [Rd.fail, if_neg HE.out]
    exact H.out
set_option maxHeartbeats 400000 in
theorem number_parts (B b : Nat) (R : Rd) (s : ByteArray) (lo hi : Int) (w : World) (pv wv av : Value) (h : RdParts B w b R pv wv av) (hg : Glob w) (hs : s.size ≤ 281474976710656) :
    Calls Tryz.prog 47 #[.pointer (some ⟨b, 0, none⟩), .string s, .int .i64 lo, .int .i64 hi] w fun en w' => en = .returned (.int .i64 (uptoV s lo hi)) ∧ RdParts B w' b (R.number s lo hi) pv wv av ∧ Keep (fun k => k = b) w w' := by
  have hU := Upto_any s lo hi w hg hs
  have H := Lib.hid h
  clear h
  by_cases hu : uptoB s lo hi = true
  · have e1 : R.number s lo hi = R := by simp [Rd.number, hu]
    rw [e1]
    rw [hu] at hU
    clear e1 hu
    go_enter Tryz.func47, Tryz.ntmps47
    go_wp2_with fail
    refine hU.mono ?_
    rintro e w1 ⟨rfl, hb⟩
    go_wp2
    go_ret
    exact ⟨rfl, H.out.later (Keep.of_below hb), (Keep.of_below hb).mono (fun _ => False.elim)⟩
  · have hu' : uptoB s lo hi = false := by simpa using hu
    have e1 : R.number s lo hi = R.fail 2 := by simp [Rd.number, hu']
    rw [e1]
    rw [hu'] at hU
    clear e1 hu hu'
    go_enter Tryz.func47, Tryz.ntmps47
    go_wp2_with fail
    refine hU.mono ?_
    rintro e w1 ⟨rfl, hb⟩
    go_wp2_with fail
    refine (fail_parts B b R 2 w1 pv wv av (H.out.later (Keep.of_below hb))).mono ?_
    rintro e w2 ⟨rfl, h2, hb2⟩
    go_wp2
    go_ret
    exact ⟨rfl, h2, ((Keep.of_below hb).mono (fun _ => False.elim)).trans hb2⟩
set_option maxHeartbeats 400000 in
theorem named_parts (B b : Nat) (R : Rd) (s : ByteArray) (w : World) (pv wv av : Value) (h : RdParts B w b R pv wv av) :
    Calls Tryz.prog 44 #[.pointer (some ⟨b, 0, none⟩), .string s] w fun en w' => en = .returned (.string s) ∧ RdParts B w' b (R.named s) pv wv av ∧ Keep (fun k => k = b) w w' := by
  have hN := Named_any s w
  have H := Lib.hid h
  clear h
  by_cases hu : namedB s = true
  · have e1 : R.named s = R := by simp [Rd.named, hu]
    rw [e1]
    rw [hu] at hN
    clear e1 hu
    go_enter Tryz.func44, Tryz.ntmps44
    go_wp2_with fail
    refine hN.mono ?_
    rintro e w1 ⟨rfl, hb⟩
    go_wp2
    go_ret
    exact ⟨rfl, H.out.later (Keep.of_below hb), (Keep.of_below hb).mono (fun _ => False.elim)⟩
  · have hu' : namedB s = false := by simpa using hu
    have e1 : R.named s = R.fail 2 := by simp [Rd.named, hu']
    rw [e1]
    rw [hu'] at hN
    clear e1 hu hu'
    go_enter Tryz.func44, Tryz.ntmps44
    go_wp2_with fail
    refine hN.mono ?_
    rintro e w1 ⟨rfl, hb⟩
    go_wp2_with fail
    refine (fail_parts B b R 2 w1 pv wv av (H.out.later (Keep.of_below hb))).mono ?_
    rintro e w2 ⟨rfl, h2, hb2⟩
    go_wp2
    go_ret
    exact ⟨rfl, h2, ((Keep.of_below hb).mono (fun _ => False.elim)).trans hb2⟩
end Go.Proofs.YtamjhnibenonjaaGreatDoor
