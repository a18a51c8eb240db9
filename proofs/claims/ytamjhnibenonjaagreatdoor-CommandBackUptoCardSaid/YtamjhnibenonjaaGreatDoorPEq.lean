/- '==' of structs; tapsterref18.Same. -/
import Derived.Test.YtamjhnibenonjaaGreatDoorPSame
import Derived.Laws.StructEq
namespace Go.Proofs.YtamjhnibenonjaaGreatDoor
set_option linter.unusedVariables false
set_option linter.unusedSimpArgs false
open Go Go.RowKit
section
variable {P : Program} {d : Nat} {xs ys : Array Value} {f : Field} {fs : List Field} {a b : Value} {r s : Bool} {w : World}
theorem eqf_last (hn : (f.name == "_") = false) (ha : (part f.type xs f.offset).run P w = .ok a w) (hb : (part f.type ys f.offset).run P w = .ok b w) (he : (Op.equalIn d f.type a b).run P w = .ok r w) : (Op.eqFields d xs ys [f]).run P w = .ok r w := by
  have hn' : f.name ≠ "_" := by simpa using hn
  simp only [Op.eqFields, if_pos hn', Sem.run_bind, ha, hb, he, Result.andThen_ok]
  cases r <;> simp
theorem eqf_cons (hn : (f.name == "_") = false) (ha : (part f.type xs f.offset).run P w = .ok a w) (hb : (part f.type ys f.offset).run P w = .ok b w) (he : (Op.equalIn d f.type a b).run P w = .ok r w) (hr : (Op.eqFields d xs ys fs).run P w = .ok s w) : (Op.eqFields d xs ys (f :: fs)).run P w = .ok (r && s) w := by
  have hn' : f.name ≠ "_" := by simpa using hn
  rw [Op.eqFields]
  simp only [if_pos hn', Sem.run_bind, ha, hb, he, Result.andThen_ok]
  cases r
  · simp
  · simpa using hr
theorem eqA_of {t : TypeId} {fs : Array Field} (hu : P.underlying t = some (.struct fs)) (hp : P.stoodInHeld t = false) (h : (Op.eqFields d xs ys fs.toList).run P w = .ok r w) : (Op.equalIn (d + 1) t (.agg xs) (.agg ys)).run P w = .ok r w := by
  have hf : P.fieldsOf t = fs := by simp [Program.fieldsOf, hu]
  rw [run_equalIn_struct (P := P) w d t xs ys (by rw [hf]; exact hu) hp, hf]
  exact h
end
def polEq (p q : Pol) : Bool := p.kind == q.kind && (p.limit == q.limit && (p.period == q.period && (p.burst == q.burst && (p.cap == q.cap && (p.opn == q.opn)))))
theorem polEq_iff (p q : Pol) : polEq p q = decide (p = q) := by
  cases p; cases q
  simp [polEq]
  rw [Bool.eq_iff_iff]
  simp
theorem eqPol (d : Nat) (w : World) (p q : Pol) :
    (Op.equalIn (d + 2) 28 (.agg #[.int .i64 p.kind, .int .i64 p.limit, .int .i64 p.period, .int .i64 p.burst, .int .i64 p.cap, .bool p.opn]) (.agg #[.int .i64 q.kind, .int .i64 q.limit, .int .i64 q.period, .int .i64 q.burst, .int .i64 q.cap, .bool q.opn])).run Tryz.prog w = .ok (polEq p q) w := by
  refine eqA_of Tryz.underlying28 (by kernel_rfl) ?_
  refine eqf_cons (by rfl) (by go_simp; rfl) (by go_simp; rfl) (by go_simp) ?_
  refine eqf_cons (by rfl) (by go_simp; rfl) (by go_simp; rfl) (by go_simp) ?_
  refine eqf_cons (by rfl) (by go_simp; rfl) (by go_simp; rfl) (by go_simp) ?_
  refine eqf_cons (by rfl) (by go_simp; rfl) (by go_simp; rfl) (by go_simp) ?_
  refine eqf_cons (by rfl) (by go_simp; rfl) (by go_simp; rfl) (by go_simp) ?_
  exact eqf_last (by rfl) (by go_simp; rfl) (by go_simp; rfl) (by go_simp)
def wishEq (x y : Wish) : Bool := x.name.toList == y.name.toList && (x.deep == y.deep && (x.cost == y.cost))
theorem toList_eq_iff (a b : ByteArray) : (a.toList == b.toList) = decide (a = b) := by
  by_cases h : a = b
  · subst h; simp
  · rw [toList_ne h]; simp [h]
theorem wishEq_iff (x y : Wish) : wishEq x y = decide (x = y) := by
  cases x; cases y
  simp [wishEq, toList_eq_iff]
  rw [Bool.eq_iff_iff]
  simp
theorem eqWish (d : Nat) (w : World) (x y : Wish) :
    (Op.equalIn (d + 2) 42 (.agg #[.string x.name, .int .i64 x.deep, .int .i64 x.cost]) (.agg #[.string y.name, .int .i64 y.deep, .int .i64 y.cost])).run Tryz.prog w = .ok (wishEq x y) w := by
  refine eqA_of Tryz.underlying42 (by kernel_rfl) ?_
  refine eqf_cons (by rfl) (by go_simp; rfl) (by go_simp; rfl) (by go_simp) ?_
  refine eqf_cons (by rfl) (by go_simp; rfl) (by go_simp; rfl) (by go_simp) ?_
  exact eqf_last (by rfl) (by go_simp; rfl) (by go_simp; rfl) (by go_simp)
theorem RowIn.strs {w : World} {B : Nat} {v : Value} {l : List ByteArray} (h : RowIn w B 1 v l.length (l.map .string)) : StrsIn w B v l := by
  obtain ⟨a, c, h1, h2, h3, h4⟩ := h
  refine ⟨a, c, h1, h2, h3, fun hne => ?_⟩
  obtain ⟨b, o, h5, h6, h7⟩ := h4 (by simpa using hne)
  exact ⟨b, o, h5, h6, fun j x hj => h7 j _ (by rw [List.getElem?_map, hj]; rfl)⟩
theorem StrsIn.keep {w w' : World} {B : Nat} {v : Value} {l : List ByteArray} (h : StrsIn w B v l) (hk : Keep (fun _ => False) w w') : StrsIn w' B v l := by
  obtain ⟨a, c, h1, h2, h3, h4⟩ := h
  refine ⟨a, c, h1, h2, h3, fun hne => ?_⟩
  obtain ⟨b, o, h5, h6, h7⟩ := h4 hne
  exact ⟨b, o, h5, h6, fun j x hj => hk.cell (h7 j x hj) id⟩
theorem RowIn.keep {w w' : World} {B size n : Nat} {v : Value} {l : List Value} (h : RowIn w B size v n l) (hk : Keep (fun _ => False) w w') : RowIn w' B size v n l := by
  obtain ⟨a, c, h1, h2, h3, h4⟩ := h
  refine ⟨a, c, h1, h2, h3, fun hne => ?_⟩
  obtain ⟨b, o, h5, h6, h7⟩ := h4 hne
  exact ⟨b, o, h5, h6, fun j x hj => hk.cell (h7 j x hj) id⟩
theorem CmdIn.keep {w w' : World} {B : Nat} {v : Value} {c : Cmd} (h : CmdIn w B v c) (hk : Keep (fun _ => False) w w') : CmdIn w' B v c := by
  obtain ⟨pv, wv, h1, h2, h3⟩ := h
  exact ⟨pv, wv, h1, h2.keep hk, h3.keep hk⟩
/-- A wish's three cells. -/
theorem RowIn.wish {w : World} {B : Nat} {v : Value} {l : List Wish} (h : RowIn w B 3 v l.length (l.flatMap Wish.cells)) : ∃ a c, v = .slice a l.length c ∧ l.length ≤ c ∧ c ≤ 9223372036854775807 ∧
    (l ≠ [] → ∃ b o, a = some ⟨b, o, none⟩ ∧ b < B ∧ ∀ (j : Nat) (x : Wish), l[j]? = some x → w.cell? ⟨b, o + j * 3, none⟩ = some (.string x.name) ∧ w.cell? ⟨b, o + j * 3 + 1, none⟩ = some (.int .i64 x.deep) ∧ w.cell? ⟨b, o + j * 3 + 2, none⟩ = some (.int .i64 x.cost)) := by
  obtain ⟨a, c, h1, h2, h3, h4⟩ := h
  refine ⟨a, c, h1, h2, h3, fun hne => ?_⟩
  obtain ⟨b, o, h5, h6, h7⟩ := h4 (by simpa using hne)
  have key : ∀ (l : List Wish) (j : Nat) (x : Wish) (i : Nat), l[j]? = some x → i < 3 → (l.flatMap Wish.cells)[j * 3 + i]? = (Wish.cells x)[i]? := by
    intro l
    induction l with
    | nil => intro j x i hj; simp at hj
    | cons y l ih =>
      intro j x i hj hi
      rw [List.flatMap_cons]
      cases j with
      | zero =>
        simp only [List.getElem?_cons_zero, Option.some.injEq] at hj
        subst hj
        rw [List.getElem?_append_left (by simp [Wish.cells]; omega), Nat.zero_mul, Nat.zero_add]
      | succ j =>
        rw [List.getElem?_append_right (by simp [Wish.cells]; omega), show (j + 1) * 3 + i - (Wish.cells y).length = j * 3 + i by simp [Wish.cells]; omega]
        exact ih j x i hj hi
  refine ⟨b, o, h5, h6, fun j x hj => ⟨h7 _ _ ((key l j x 0 hj (by omega)).trans rfl), ?_, ?_⟩⟩
  · rw [show o + j * 3 + 1 = o + (j * 3 + 1) by omega]; exact h7 _ _ ((key l j x 1 hj (by omega)).trans rfl)
  · rw [show o + j * 3 + 2 = o + (j * 3 + 2) by omega]; exact h7 _ _ ((key l j x 2 hj (by omega)).trans rfl)
end Go.Proofs.YtamjhnibenonjaaGreatDoor
