/- The reader of package command: its small methods do what the plain functions say; below block B nothing is changed. Conditions: the reader lies in a block of its own from B on. -/
import Derived.Test.YtamjhnibenonjaaGreatDoorSCmd
import Derived.Maps.AppendAt
namespace Go.Proofs.YtamjhnibenonjaaGreatDoor
set_option linter.unusedVariables false
set_option linter.unusedSimpArgs false
open Go Go.RowKit
def Wish.cells (x : Wish) : List Value := [.string x.name, .int .i64 x.deep, .int .i64 x.cost]
def rdCells (R : Rd) (pv wv av : Value) : Array Value := #[.int .i64 R.c.kind, .string R.c.name, .int .i64 R.c.pol.kind, .int .i64 R.c.pol.limit, .int .i64 R.c.pol.period, .int .i64 R.c.pol.burst, .int .i64 R.c.pol.cap, .bool R.c.pol.opn, pv, wv, .int .i64 R.c.n, av, .int .i64 R.e]
/-- A slice of strings that lies below block B. -/
def StrsIn (w : World) (B : Nat) (v : Value) (l : List ByteArray) : Prop :=
  ∃ a c, v = .slice a l.length c ∧ l.length ≤ c ∧ c ≤ 9223372036854775807 ∧ (l ≠ [] → ∃ b o, a = some ⟨b, o, none⟩ ∧ b < B ∧ ∀ j x, l[j]? = some x → w.cell? ⟨b, o + j, none⟩ = some (.string x))
theorem StrsIn.below {w w' : World} {B : Nat} {v : Value} {l : List ByteArray} (h : StrsIn w B v l) (hb : Below B w w') : StrsIn w' B v l := by
  obtain ⟨a, c, h1, h2, h3, h4⟩ := h
  refine ⟨a, c, h1, h2, h3, fun hne => ?_⟩
  obtain ⟨b, o, h5, h6, h7⟩ := h4 hne
  exact ⟨b, o, h5, h6, fun j x hj => by rw [hb.cell (p := ⟨b, o + j, none⟩) h6]; exact h7 j x hj⟩
structure RdParts (B : Nat) (w : World) (b : Nat) (R : Rd) (pv wv av : Value) : Prop where
  blk : w.heap[b]? = some (.cells (rdCells R pv wv av) 55 (0, 0))
  hB : B ≤ b
  path : w.ownsRow (b + 1) 9 1 pv R.c.path.length (R.c.path.map .string)
  wishes : w.ownsRow (b + 1) 42 3 wv R.c.wishes.length (R.c.wishes.flatMap Wish.cells)
  apart : ∀ k, pv.ownBlock = some k → wv.ownBlock ≠ some k
  args : StrsIn w B av R.args
def RdAt (B : Nat) (w : World) (b : Nat) (R : Rd) : Prop := ∃ pv wv av, RdParts B w b R pv wv av
/-- The reader's own block alone was turned. -/
theorem RdParts.upd {B b : Nat} {w w' : World} {R R' : Rd} {pv wv av av' : Value} (h : RdParts B w b R pv wv av) (hk : Keep (fun k => k = b) w w')
    (hb : w'.heap[b]? = some (.cells (rdCells R' pv wv av') 55 (0, 0))) (h1 : R'.c.path = R.c.path) (h2 : R'.c.wishes = R.c.wishes) (h3 : StrsIn w B av' R'.args) : RdAt B w' b R' := by
  refine ⟨pv, wv, av', hb, h.hB, ?_, ?_, h.apart, h3.below (Below.of_keep hk (by have := lt_of_block h.blk; have := h.hB; omega) (fun k hkB e => by have := h.hB; omega))⟩
  · rw [h1]; exact hk.ownsRow h.path (fun k hk' e => by have := (h.path.lt k hk').1; omega)
  · rw [h2]; exact hk.ownsRow h.wishes (fun k hk' e => by have := (h.wishes.lt k hk').1; omega)
/-- Blocks were made, old ones were left alone. -/
theorem RdAt.later {B b : Nat} {w w' : World} {R : Rd} (h : RdAt B w b R) (hk : Keep (fun _ => False) w w') : RdAt B w' b R := by
  obtain ⟨pv, wv, av, h⟩ := h
  exact ⟨pv, wv, av, hk.get h.blk id, h.hB, hk.ownsRow h.path (fun _ _ => id), hk.ownsRow h.wishes (fun _ _ => id), h.apart, h.args.below (Below.of_keep hk (by have := lt_of_block h.blk; have := h.hB; omega) (fun _ _ => id))⟩
theorem RdAt.lt {B b : Nat} {w : World} {R : Rd} (h : RdAt B w b R) : B ≤ b ∧ b < w.heap.size := by
  obtain ⟨pv, wv, av, h⟩ := h; exact ⟨h.hB, lt_of_block h.blk⟩
theorem below_keep1 {B b : Nat} {w w' : World} (hk : Keep (fun k => k = b) w w') (hB : B ≤ b) (hb : b < w.heap.size) : Below B w w' := Below.of_keep hk (by omega) (fun k _ e => by omega)

set_option maxHeartbeats 400000 in
theorem fail_any (B b : Nat) (R : Rd) (e : Int) (w : World) (h : RdAt B w b R) :
    Calls Tryz.prog 46 #[.pointer (some ⟨b, 0, none⟩), .int .i64 e] w fun en w' => en = .returned (.tuple #[]) ∧ RdAt B w' b (R.fail e) ∧ Below B w w' := by
  have hlt := h.lt
  have hR := Lib.hid h
  obtain ⟨pv, wv, av, h⟩ := h
  have hc := cell_of_block h.blk
  have hf := free_of_block h.blk
  have H := Lib.hid h
  clear h
  simp only [rdCells] at hc
  by_cases he : R.e = 0
  · have he' : (R.e == 0) = true := by simp [he]
    have HE := Lib.hid he
    clear he
    go_enter Tryz.func46, Tryz.ntmps46
    go_wp2
    go_end0
    have hk : Keep (fun k => k = b) w (w.setCell ⟨b, 12, none⟩ (.int .i64 e)) := (Keep.refl (fun k => k = b) w).setCell (p := ⟨b, 12, none⟩) (.inl rfl) _
    refine ⟨rfl, ?_, below_keep1 hk hlt.1 hlt.2⟩
    rw [Rd.fail, if_pos HE.out]
    exact H.out.upd hk (by rw [block_setCell H.out.blk]; rfl) rfl rfl H.out.args
  · have he' : (R.e == 0) = false := by simpa using he
    have HE := Lib.hid he
    clear he
    go_enter Tryz.func46, Tryz.ntmps46
    go_wp2
    go_end0
    refine ⟨rfl, ?_, Below.refl _ _⟩
    rw [Rd.fail, if_neg HE.out]
    exact hR
set_option maxHeartbeats 400000 in
theorem next_any (B b : Nat) (R : Rd) (w : World) (h : RdAt B w b R) :
    Calls Tryz.prog 45 #[.pointer (some ⟨b, 0, none⟩)] w fun en w' => en = .returned (.string R.arg) ∧ RdAt B w' b R.rest ∧ Below B w w' := by
  have hlt := h.lt
  have hR := Lib.hid h
  obtain ⟨pv, wv, av, h⟩ := h
  have hc := cell_of_block h.blk
  have hf := free_of_block h.blk
  have H := Lib.hid h
  obtain ⟨a, c, rfl, hlc, hcm, hel⟩ := h.args
  clear h
  simp only [rdCells] at hc
  cases hargs : R.args with
  | nil =>
    have e1 : R.arg = emptyB := by simp [Rd.arg, hargs]
    have e2 : R.rest = R := by cases R; simp only [Rd.rest] at *; subst hargs; rfl
    rw [e1, e2]
    rw [hargs] at hc
    simp only [List.length_nil] at hc
    clear e1 e2 hargs
    go_enter Tryz.func45, Tryz.ntmps45
    go_wp2
    go_ret
    exact ⟨rfl, hR, Below.refl _ _⟩
  | cons x l =>
    have e1 : R.arg = x := by simp [Rd.arg, hargs]
    have e2 : R.rest.args = l := by simp [Rd.rest, hargs]
    rw [e1]
    obtain ⟨ab, o, rfl, hab, hx⟩ := hel (by simp [hargs])
    have hx0 : w.cell? ⟨ab, o, none⟩ = some (.string x) := hx 0 x (by simp [hargs])
    rw [hargs] at hc
    simp only [List.length_cons] at hc hlc
    have E2 := Lib.hid e2
    have HL := Lib.hid (show R.args.length = l.length + 1 by rw [hargs]; rfl)
    have HX := Lib.hid hx
    clear e1 e2 hargs hel hx
    go_enter Tryz.func45, Tryz.ntmps45
    go_wp2
    all_goals
      go_ret
      have hk := fun v => (Keep.refl (fun k => k = b) w).setCell (p := ⟨b, 11, none⟩) (.inl rfl) v
      refine ⟨rfl, H.out.upd (R' := R.rest) (hk _) (by rw [block_setCell H.out.blk]; rfl) rfl rfl ?_, below_keep1 (hk _) hlt.1 hlt.2⟩
    · have hl : l = [] := List.eq_nil_of_length_eq_zero (by have := HL.out; omega)
      exact ⟨_, _, by rw [E2.out], by rw [E2.out]; have := HL.out; omega, by omega, fun hne => absurd (E2.out.trans hl) hne⟩
    · refine ⟨some ⟨ab, o + 1, none⟩, c - 1, by rw [E2.out], by rw [E2.out]; have := HL.out; omega, by omega, fun hne => ⟨ab, o + 1, rfl, hab, fun j y hj => ?_⟩⟩
      rw [show o + 1 + j = o + (j + 1) by omega]
      exact HX.out (j + 1) y (by rw [← hj, Rd.rest, List.getElem?_tail])
/-- What the reader's methods ask of the world. -/
structure RdOk (B : Nat) (w : World) (b : Nat) (R : Rd) : Prop where
  at_ : RdAt B w b R
  glob : Glob w
  base : 9 < B
theorem RdOk.next {B b : Nat} {w w' : World} {R R' : Rd} (h : RdOk B w b R) (h1 : RdAt B w' b R') (hb : Below B w w') : RdOk B w' b R' := ⟨h1, h.glob.below hb h.base, h.base⟩
set_option maxHeartbeats 400000 in
theorem number_any (B b : Nat) (R : Rd) (s : ByteArray) (lo hi : Int) (w : World) (h : RdOk B w b R) (hs : s.size ≤ 281474976710656) :
    Calls Tryz.prog 47 #[.pointer (some ⟨b, 0, none⟩), .string s, .int .i64 lo, .int .i64 hi] w fun en w' => en = .returned (.int .i64 (uptoV s lo hi)) ∧ RdAt B w' b (R.number s lo hi) ∧ Below B w w' := by
  have hU := Upto_any s lo hi w h.glob hs
  have hlt := h.at_.lt
  have H := Lib.hid h
  clear h
  by_cases hu : uptoB s lo hi = true
  · have e1 : R.number s lo hi = R := by simp [Rd.number, hu]
    rw [e1]
    rw [hu] at hU
    clear e1 hu
    go_enter Tryz.func47, Tryz.ntmps47
    go_wp2_with fail
    refine hU.mono ?_
    rintro e w1 ⟨rfl, hb⟩
    go_wp2
    go_ret
    exact ⟨rfl, H.out.at_.later (Keep.of_below hb), hb.mono (by omega)⟩
  · have hu' : uptoB s lo hi = false := by simpa using hu
    have e1 : R.number s lo hi = R.fail 2 := by simp [Rd.number, hu']
    rw [e1]
    rw [hu'] at hU
    clear e1 hu hu'
    go_enter Tryz.func47, Tryz.ntmps47
    go_wp2_with fail
    refine hU.mono ?_
    rintro e w1 ⟨rfl, hb⟩
    go_wp2_with fail
    refine (fail_any B b R 2 w1 (H.out.at_.later (Keep.of_below hb))).mono ?_
    rintro e w2 ⟨rfl, h2, hb2⟩
    go_wp2
    go_ret
    exact ⟨rfl, h2, (hb.mono (by omega)).trans hb2⟩
end Go.Proofs.YtamjhnibenonjaaGreatDoor
