/- The table of forms, looked up. -/
import Derived.Test.YtamjhnibenonjaaGreatDoorPForms
namespace Go.Proofs.YtamjhnibenonjaaGreatDoor
set_option linter.unusedVariables false
set_option linter.unusedSimpArgs false
open Go Go.RowKit
def formFor (s : ByteArray) : Option Form := formTab.find? (fun r => s == r.name)
theorem findNow_at (s : ByteArray) : ∀ (es : List MapEntry) (i k : Nat) (e : MapEntry), es[k]? = some e → (∃ t, e.key = .string t ∧ (s == t) = true) → (∀ j x, j < k → es[j]? = some x → ∃ t, x.key = .string t ∧ (s == t) = false) →
    Instr.findNow .string (.string s) es i = some (some (i + k, e.val)) := by
  intro es
  induction es with
  | nil => intro i k e h; simp at h
  | cons x es ih =>
    intro i k e h hk hn
    cases k with
    | zero =>
      simp only [List.getElem?_cons_zero, Option.some.injEq] at h
      subst h
      obtain ⟨t, ht, hs⟩ := hk
      simp only [Instr.findNow, ht, Instr.sameNow, hs, Nat.add_zero]
    | succ k =>
      obtain ⟨t, ht, hs⟩ := hn 0 x (by omega) rfl
      simp only [Instr.findNow, ht, Instr.sameNow, hs]
      rw [ih (i + 1) k e h hk (fun j y hj hy => hn (j + 1) y (by omega) hy), show i + 1 + k = i + (k + 1) by omega]
theorem FormsUpto.row {w : World} {b : Nat} (h : FormsUpto w b 15) : ∃ es, w.heap[b]? = some (.map es 15) ∧ es.size = 15 ∧ ∀ (i : Nat) (e : MapEntry), es.toList[i]? = some e → ∃ r sv, formTab[i]? = some r ∧ e.key = .string r.name ∧ e.val = r.val sv ∧ FnsIn w (b + 1) sv r.fns ∧ e.born = i := by
  obtain ⟨es, hb, hs, hr⟩ := h.ex
  refine ⟨es, hb, hs, fun i e he => ?_⟩
  have hi : i < 15 := by have := (List.getElem?_eq_some_iff.1 he).1; simpa [hs] using this
  obtain ⟨r, hr'⟩ : ∃ r, formTab[i]? = some r := ⟨_, List.getElem?_eq_getElem (show i < formTab.length by simpa [formTab] using hi)⟩
  obtain ⟨e', sv, h1, h2, h3, h4, h5⟩ := hr i r hi hr'
  rw [Array.getElem?_toList, h1] at he
  cases he
  exact ⟨r, sv, hr', h2, h3, h4, h5⟩
def formZero : Value := .agg #[.int .i64 0, .int .i64 0, .int .i64 0, .slice none 0 0]
theorem zeroForm (w : World) : (zeroValue 48).run Tryz.prog w = .ok formZero w := by kernel_rfl
theorem FormsUpto.find {w : World} {b : Nat} (h : FormsUpto w b 15) {s : ByteArray} {r : Form} (hr : formFor s = some r) :
    ∃ sv, FnsIn w (b + 1) sv r.fns ∧ (Instr.lookup 50 (.map (some b)) (.string s) true).run Tryz.prog w = .ok (.tuple #[r.val sv, .bool true]) w := by
  obtain ⟨es, hb, hs, hrow⟩ := h.row
  obtain ⟨hp, k, hk, hkr, hlt⟩ := List.find?_eq_some_iff_getElem.1 hr
  have hk15 : k < es.toList.length := by simpa [hs, formTab] using hk
  obtain ⟨r', sv, h1, h2, h3, h4, h5⟩ := hrow k _ (List.getElem?_eq_getElem hk15)
  have e1 : r' = r := by rw [List.getElem?_eq_getElem hk, hkr] at h1; exact (Option.some.inj h1).symm
  subst e1
  refine ⟨sv, h4, ?_⟩
  have hf := findNow_at s es.toList 0 k _ (List.getElem?_eq_getElem hk15) ⟨_, h2, by simpa using hp⟩ (fun j x hj hx => by
    obtain ⟨q, sv', g1, g2, g3, g4, g5⟩ := hrow j x hx
    have hq := hlt j hj
    have : formTab[j]? = some formTab[j] := List.getElem?_eq_getElem _
    rw [this] at g1
    cases g1
    exact ⟨_, g2, by simpa using hq⟩)
  rw [h3, Nat.zero_add] at hf
  have hc : (Instr.checkKey es.isEmpty 10000 9 (.string s)).run Tryz.prog w = .ok () w := MapKept.run_checkKey (k := .string s) Tryz.underlying9 (by simp [MapKept.IsKey]) _ 9999
  simp [Instr.lookup, run_underlying Tryz.underlying50, MapKept.run_getObj_map hb, hc, MapKept.run_findKey Tryz.underlying9 hf, Result.andThen]
theorem FormsUpto.miss {w : World} {b : Nat} (h : FormsUpto w b 15) {s : ByteArray} (hr : formFor s = none) :
    (Instr.lookup 50 (.map (some b)) (.string s) true).run Tryz.prog w = .ok (.tuple #[formZero, .bool false]) w := by
  obtain ⟨es, hb, hs, hrow⟩ := h.row
  rw [formFor, List.find?_eq_none] at hr
  have hf := findNow_none s es.toList 0 (fun e he => by
    obtain ⟨i, hi, rfl⟩ := List.getElem_of_mem he
    obtain ⟨q, sv', g1, g2, g3, g4, g5⟩ := hrow i _ (List.getElem?_eq_getElem hi)
    exact ⟨_, g2, by simpa using hr q (List.mem_of_getElem? g1)⟩)
  have hc : (Instr.checkKey es.isEmpty 10000 9 (.string s)).run Tryz.prog w = .ok () w := MapKept.run_checkKey (k := .string s) Tryz.underlying9 (by simp [MapKept.IsKey]) _ 9999
  simp [Instr.lookup, run_underlying Tryz.underlying50, MapKept.run_getObj_map hb, hc, MapKept.run_findKey Tryz.underlying9 hf, zeroForm, Result.andThen]
  rfl
def formNil : Form := ⟨⟨#[]⟩, 0, 0, 0, []⟩
def formOr (s : ByteArray) : Form := (formFor s).getD formNil
theorem FormsUpto.look {w : World} {b : Nat} (h : FormsUpto w b 15) (s : ByteArray) :
    ∃ sv, FnsIn w (b + 1) sv (formOr s).fns ∧ (Instr.lookup 50 (.map (some b)) (.string s) true).run Tryz.prog w = .ok (.tuple #[.agg #[.int .i64 (formOr s).kind, .int .i64 (formOr s).least, .int .i64 (formOr s).most, sv], .bool (formFor s).isSome]) w := by
  cases hf : formFor s with
  | some r =>
    obtain ⟨sv, h1, h2⟩ := h.find hf
    refine ⟨sv, ?_, ?_⟩
    · rw [formOr, hf]; exact h1
    · rw [formOr, hf]; exact h2
  | none =>
    refine ⟨.slice none 0 0, ?_, ?_⟩
    · rw [formOr, hf]; exact ⟨_, _, rfl, fun h => absurd rfl h⟩
    · rw [formOr, hf]; exact h.miss hf
theorem FnsIn.mono {w : World} {B B' : Nat} {v : Value} {l : List Nat} (h : FnsIn w B v l) (hB : B' ≤ B) : FnsIn w B' v l := by
  obtain ⟨a, c, h1, h2⟩ := h
  refine ⟨a, c, h1, fun hne => ?_⟩
  obtain ⟨g, h3, h4, h5⟩ := h2 hne
  exact ⟨g, h3, by omega, h5⟩
theorem FnsIn.keepD {w w' : World} {B D : Nat} {v : Value} {l : List Nat} (h : FnsIn w B v l) {k : IntKind} {z : Int} (hD : w.cell? ⟨D, 0, none⟩ = some (.int k z)) (hk : Keep (fun j => j = D) w w') : FnsIn w' B v l := by
  obtain ⟨a, c, rfl, hl⟩ := h
  refine ⟨a, c, rfl, fun hne => ?_⟩
  obtain ⟨g, rfl, hB, hlt, hc⟩ := hl hne
  refine ⟨g, rfl, hB, Nat.lt_of_lt_of_le hlt hk.size, fun j f hj => hk.cell (hc j f hj) ?_⟩
  rintro rfl
  cases l with
  | nil => exact hne rfl
  | cons x l =>
    have := hc 0 x rfl
    rw [hD] at this
    cases this
end Go.Proofs.YtamjhnibenonjaaGreatDoor
