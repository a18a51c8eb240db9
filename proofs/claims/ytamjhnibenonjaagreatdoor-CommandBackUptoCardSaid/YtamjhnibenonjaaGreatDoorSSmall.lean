/- Bounds for commands that are read; which wishes a printed command has. Plain laws, no program. -/
import Derived.Test.YtamjhnibenonjaaGreatDoorPPrint
import Derived.Test.YtamjhnibenonjaaGreatDoorPLong18
namespace Go.Proofs.YtamjhnibenonjaaGreatDoor
set_option linter.unusedVariables false
set_option linter.unusedSimpArgs false
open Go Go.RowKit
theorem wishL_small : ∀ l : List Wish, (∀ x ∈ l, x.name.size ≤ 2000000) → wishL l ≤ l.length * 2000005
  | [], _ => by simp [wishL]
  | x :: l, h => by
    have h1 := wishL_small l (fun y hy => h y (List.mem_cons_of_mem _ hy))
    have h2 := h x (List.mem_cons_self ..)
    simp only [wishL, List.map_cons, List.sum_cons, List.length_cons] at h1 ⊢
    rw [Nat.add_mul]; omega
theorem long18_small {c : Cmd} (h : Small c) : long18 c ≤ 4611686018427387904 := by
  have h1 := wishL_small c.wishes (fun x hx => (h.wishes x hx).1)
  have h2 := h.few
  have h3 := h.name
  have h4 := h.path
  have h5 : c.wishes.length * 2000005 ≤ 500000 * 2000005 := Nat.mul_le_mul_right _ h2
  unfold long18; omega
theorem wish_pos {c : Cmd} (hk : c.kind = 4 ∨ c.kind = 5 ∨ c.kind = 6) (h : printF c ≠ []) : 1 ≤ c.wishes.length ∧ c.wishes.length ≤ 20 := by
  obtain ⟨hp, -⟩ := printF_ne h
  refine ⟨?_, ((parse_words (x := nameOf c.kind) hp).2 hk).2⟩
  rcases hk with hk' | hk' | hk'
  · rw [words_kind hk' (.inl rfl), parseF_form formFor_take] at hp
    have := (parseRow_ok hp).1
    simp only [List.length_append, List.length_cons, List.length_nil, List.length_map] at this; omega
  · rw [words_kind hk' (.inr rfl), parseF_form formFor_peek] at hp
    have := (parseRow_ok hp).1
    simp only [List.length_append, List.length_cons, List.length_nil, List.length_map] at this; omega
  · rw [words_kind6 hk', parseF_form formFor_reserve] at hp
    have := (parseRow_ok hp).1
    simp only [List.length_append, List.length_cons, List.length_nil, List.length_map] at this; omega
theorem Small.more {c : Cmd} (h : Small c) {y : Wish} (hf : c.wishes.length ≤ 400000) (hy : y.name.size ≤ 2000000 ∧ (-9223372036854775808 ≤ y.deep ∧ y.deep ≤ 9223372036854775807) ∧ (-9223372036854775808 ≤ y.cost ∧ y.cost ≤ 9223372036854775807)) : Small (c.more y) :=
  ⟨h.n, h.kind, h.limit, h.period, h.burst, h.cap, h.name, h.path, by simp [Cmd.more]; omega, fun x hx => by
    simp only [Cmd.more, List.mem_append, List.mem_singleton] at hx
    rcases hx with hx | rfl
    · exact h.wishes x hx
    · exact hy⟩
abbrev cmdBox (c : Cmd) (pa : Option Addr) (pc : Nat) (wa : Option Addr) (wcap : Nat) : Obj := .cells #[.int .i64 c.kind, .string c.name, .int .i64 c.pol.kind, .int .i64 c.pol.limit, .int .i64 c.pol.period, .int .i64 c.pol.burst, .int .i64 c.pol.cap, .bool c.pol.opn, .slice pa c.path.length pc, .slice wa c.wishes.length wcap, .int .i64 c.n] 31
abbrev wishBox (y : Wish) : Obj := .cells #[.string y.name, .int .i64 y.deep, .int .i64 y.cost] 42
end Go.Proofs.YtamjhnibenonjaaGreatDoor
