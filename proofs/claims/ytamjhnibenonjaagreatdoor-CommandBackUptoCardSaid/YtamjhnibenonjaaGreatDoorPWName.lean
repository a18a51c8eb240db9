/- The name of a kind, found by going through the table of forms in whatever order. -/
import Derived.Test.YtamjhnibenonjaaGreatDoorSWish
import Derived.Maps.RangeRun
import Derived.Lib.ItoaLen
namespace Go.Proofs.YtamjhnibenonjaaGreatDoor
set_option linter.unusedVariables false
set_option linter.unusedSimpArgs false
open Go Go.RowKit
open Go.ChangeMaps (setBlock)
/-- What the rows of the table hold, the world aside. -/
def RowsOf (es : Array MapEntry) : Prop := es.size = 15 ∧ ∀ (i : Nat) (e : MapEntry), es.toList[i]? = some e → ∃ r sv, formTab[i]? = some r ∧ e.key = .string r.name ∧ e.val = r.val sv ∧ e.born = i ∧ ∃ a n c, sv = .slice a n c
theorem FormsUpto.rowsOf {w : World} {b : Nat} (h : FormsUpto w b 15) : ∃ es, w.heap[b]? = some (.map es 15) ∧ RowsOf es := by
  obtain ⟨es, h1, h2, h3⟩ := h.row
  refine ⟨es, h1, h2, fun i e he => ?_⟩
  obtain ⟨r, sv, g1, g2, g3, ⟨a, c, g4, -⟩, g5⟩ := h3 i e he
  exact ⟨r, sv, g1, g2, g3, g5, a, _, c, g4⟩
theorem RowsOf.born_lt {es : Array MapEntry} (h : RowsOf es) : ∀ x ∈ es.toList, x.born < 15 := by
  intro x hx
  obtain ⟨i, hi, rfl⟩ := List.getElem_of_mem hx
  obtain ⟨r, sv, -, -, -, hb, -⟩ := h.2 i _ (List.getElem?_eq_getElem hi)
  have := h.1
  rw [hb]; simpa [this] using hi
theorem RowsOf.nodup {es : Array MapEntry} (h : RowsOf es) : (es.toList.map (·.born)).Nodup := by
  have : es.toList.map (·.born) = List.range es.toList.length := by
    apply List.ext_getElem?
    intro i
    rw [List.getElem?_map]
    by_cases hi : i < es.toList.length
    · obtain ⟨r, sv, -, -, -, hb, -⟩ := h.2 i _ (List.getElem?_eq_getElem hi)
      rw [List.getElem?_eq_getElem hi, List.getElem?_range hi, Option.map_some, hb]
    · rw [List.getElem?_eq_none (by omega), List.getElem?_eq_none (by simpa using hi)]; rfl
  rw [this]
  exact List.nodup_range
/-- The name so far. -/
def NameInv (k : Int) (seen : Array Nat) (nm : ByteArray) : Prop :=
  (nm = ⟨#[]⟩ ∧ ∀ (i : Nat) r, formTab[i]? = some r → r.kind = k → seen.contains i = false) ∨ ∃ (i : Nat) (r : Form), formTab[i]? = some r ∧ r.kind = k ∧ nm = r.name
theorem NameInv.start (k : Int) : NameInv k #[] ⟨#[]⟩ := .inl ⟨rfl, fun i r _ _ => by simp⟩
theorem NameInv.hit {k : Int} {seen : Array Nat} {i : Nat} {r : Form} (hr : formTab[i]? = some r) (hk : r.kind = k) : NameInv k seen r.name := .inr ⟨i, r, hr, hk, rfl⟩
theorem NameInv.miss {k : Int} {seen : Array Nat} {nm : ByteArray} (h : NameInv k seen nm) {i : Nat} {r : Form} (hr : formTab[i]? = some r) (hk : r.kind ≠ k) : NameInv k (seen.push i) nm := by
  rcases h with ⟨h1, h2⟩ | h
  · refine .inl ⟨h1, fun j q hj hq => ?_⟩
    rw [contains_push, h2 j q hj hq, Bool.false_or, beq_eq_false_iff_ne]
    rintro rfl
    rw [hr] at hj; cases hj
    exact hk hq
  · exact .inr h
theorem formTab_kinds : ∀ r ∈ formTab, ∀ q ∈ formTab, r.kind = q.kind → r.name = q.name := by decide
theorem NameInv.done {k : Int} {es : Array MapEntry} {seen : Array Nat} {nm : ByteArray} (h : NameInv k seen nm) (hes : RowsOf es) (hall : ∀ x ∈ es.toList, seen.contains x.born = true) : nm = nameOf k := by
  have hseen : ∀ i, i < 15 → seen.contains i = true := by
    intro i hi
    have hi2 : i < es.toList.length := by simpa [hes.1] using hi
    obtain ⟨r, sv, -, -, -, hb, -⟩ := hes.2 i _ (List.getElem?_eq_getElem hi2)
    have := hall _ (List.getElem_mem hi2)
    rwa [hb] at this
  unfold nameOf
  cases hf : formTab.find? (fun r => r.kind == k) with
  | none =>
    rw [List.find?_eq_none] at hf
    rcases h with ⟨h1, -⟩ | ⟨i, r, hr, hk, -⟩
    · exact h1
    · exact absurd (by simpa using hk) (hf r (List.mem_of_getElem? hr))
  | some q =>
    have hqm := List.mem_of_find?_eq_some hf
    have hqk : q.kind = k := by simpa using List.find?_some (p := fun r : Form => r.kind == k) hf
    rcases h with ⟨-, h2⟩ | ⟨i, r, hr, hk, rfl⟩
    · obtain ⟨i, hi⟩ := List.getElem?_of_mem hqm
      have h15 : i < 15 := by have := (List.getElem?_eq_some_iff.1 hi).1; simpa [formTab] using this
      have := h2 i q hi hqk
      rw [hseen i h15] at this; cases this
    · exact formTab_kinds r (List.mem_of_getElem? hr) q hqm (hk.trans hqk.symm)
theorem keep_setBlock (V : Nat → Prop) (W : World) (r : Nat) (o : Obj) (hr : V r) : Keep V W (setBlock W r o) := keep_putObj V W r o hr
theorem setBlock_same {W : World} {r : Nat} {o : Obj} (h : r < W.heap.size) : (setBlock W r o).heap[r]? = some o := World.putObj_heap_same h
theorem headF_len (c : Cmd) : (headF c).length ≤ 7 := by
  unfold headF polWords
  repeat' split
  all_goals simp
theorem outLen (c : Cmd) (k : Nat) (h : k ≤ 500000) : (nameOf c.kind :: headF c ++ (c.wishes.take k).map wishB).length ≤ 900000 := by
  have := headF_len c
  have h2 : (c.wishes.take k).length ≤ k := List.length_take_le _ _
  simp only [List.length_append, List.length_cons, List.length_map]
  omega
def polNum (p : Pol) : Nat → Int
  | 0 => p.kind
  | 1 => p.limit
  | 2 => p.period
  | 3 => p.burst
  | 4 => p.cap
  | _ => if p.opn then 1 else 0
/-- What a command's numbers and texts may be, so that it can be printed. -/
structure Small (c : Cmd) : Prop where
  n : -9223372036854775808 ≤ c.n ∧ c.n ≤ 9223372036854775807
  kind : -9223372036854775808 ≤ c.pol.kind ∧ c.pol.kind ≤ 9223372036854775807
  limit : -9223372036854775808 ≤ c.pol.limit ∧ c.pol.limit ≤ 9223372036854775807
  period : -9223372036854775808 ≤ c.pol.period ∧ c.pol.period ≤ 9223372036854775807
  burst : -9223372036854775808 ≤ c.pol.burst ∧ c.pol.burst ≤ 9223372036854775807
  cap : -9223372036854775808 ≤ c.pol.cap ∧ c.pol.cap ≤ 9223372036854775807
  name : c.name.size ≤ 2000000
  path : longL c.path ≤ 2000000
  few : c.wishes.length ≤ 500000
  wishes : ∀ x ∈ c.wishes, x.name.size ≤ 2000000 ∧ (-9223372036854775808 ≤ x.deep ∧ x.deep ≤ 9223372036854775807) ∧ (-9223372036854775808 ≤ x.cost ∧ x.cost ≤ 9223372036854775807)
theorem owns_base {w : World} {base base' e size n : Nat} {v : Value} {xs : List Value} (h : w.ownsRow base e size v n xs) (hb : base' ≤ base) : w.ownsRow base' e size v n xs :=
  ⟨h.1, h.2.imp id (fun ⟨g, cap, cur, h1, h2, h3⟩ => ⟨g, cap, cur, h1, Nat.le_trans hb h2, h3⟩)⟩
theorem joinTail_length (c : UInt8) : ∀ l : List ByteArray, (Lib.joinTail [c] (l.map (·.data.toList))).length = longL l
  | [] => rfl
  | x :: l => by
    have ih := joinTail_length c l
    have hx : x.data.toList.length = x.size := Array.length_toList
    simp only [Lib.joinTail, List.map_cons, List.flatten_cons, List.length_append, List.length_cons, List.length_nil] at ih ⊢
    rw [ih, hx, longL, longL, List.map_cons, List.sum_cons]; omega
theorem join_length (c : UInt8) (l : List ByteArray) : (Lib.join (l.map (·.data.toList)) [c]).length ≤ longL l := by
  cases l with
  | nil => simp [Lib.join_nil]
  | cons x l =>
    have h := joinTail_length c l
    have hx : x.data.toList.length = x.size := Array.length_toList
    rw [List.map_cons, Lib.join_cons, List.length_append, h, hx, longL, longL, List.map_cons, List.sum_cons]; omega
theorem longL_length (l : List ByteArray) : l.length ≤ longL l := by
  induction l with
  | nil => simp [longL]
  | cons x l ih => rw [longL, List.map_cons, List.sum_cons, List.length_cons]; rw [longL] at ih; omega
end Go.Proofs.YtamjhnibenonjaaGreatDoor
