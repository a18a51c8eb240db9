/- A range over a function: one law for iterators that own cells (T) and read others (U). No program is named. -/
import Derived.Test.YtamjhnibenonjaaGreatDoorB0
import Derived.RangeFuncNested
import Derived.RangeFuncBound
import Derived.RangeFuncCalls
import Derived.RangeFuncLeaves
import Derived.OwnWalkIn
import Derived.TacticsInMore
import Derived.LoopNIn
import Derived.LoopIn
namespace Go.Proofs.YtamjhnibenonjaaGreatDoor
set_option linter.unusedVariables false
set_option linter.unusedSimpArgs false
open Go Go.RowKit
theorem RoundIn.any {n m : Nat} {P : Program} {l : Nat} {f : FuncId} {tmps : Array Value} {assign body : Code} {w : World} {R : Ending → World → Prop} (h : RoundIn Fence.wide n P l f tmps assign body w R) : RoundIn Fence.wide m P l f tmps assign body w R :=
  ⟨h.1, fun c cs _ => h.2 c cs (room_wide _)⟩
/-- What stays behind a change of the iterator's own blocks. -/
def Stab {β : Type} (T : Nat → Prop) (J : β → World → Prop) : Prop := ∀ s A A', J s A → Keep T A A' → J s A'
/-- THE ITERATOR's CONTRACT: it hands on the elements of xs, one by one; it owns the blocks T and reads the blocks U. -/
def SeqLaw {α : Type} (P : Program) (g : Nat) (lb : Array Value) (encs : α → Array Value) (T U : Nat → Prop) (xs : List α) (w : World) : Prop :=
  ∀ (l : Nat) (J Jx : List α → World → Prop) (W : World), (∀ k, T k ∨ U k → W.heap[k]? = w.heap[k]?) → Below w.heap.size w W → Stab T J → Stab T Jx →
    (∀ pre x post W1, J pre W1 → pre ++ x :: post = xs → YieldAt Fence.wide 3 P l (encs x) W1 fun e W' =>
      (e = .returned (.bool true) ∧ J (pre ++ [x]) W' ∧ Below 0 W1 W' ∧ ∀ k, T k ∨ U k → W'.heap[k]? = W1.heap[k]?) ∨ (e = .returned (.bool false) ∧ Jx (pre ++ [x]) W')) →
    J [] W → CallsIn Fence.wide 3 P g (#[.func (.yield l) #[] #[]] ++ lb) W fun e W' => (∃ v, e = .returned v) ∧ (J xs W' ∨ ∃ pre post, pre ++ post = xs ∧ Jx pre W')
/-- How the body of a round is left. -/
def SeqEnd {α : Type} (D : Nat) (V : Nat → Prop) (I : List α → World → Prop) (Ix : Code → List α → World → Prop) (s : List α) (W : World) : Exit → Act → World → Prop
  | .normal, _, W' => (Below 0 W W' ∧ ∀ k, V k ∨ k = D ∨ k = D + 1 → W'.heap[k]? = W.heap[k]?) ∧ I s W'
  | .ret, _, W' => (∀ k, k = D ∨ k = D + 1 → W'.heap[k]? = W.heap[k]?) ∧ Ix .ret s W'
  | .exit i, _, W' => (∀ k, k = D ∨ k = D + 1 → W'.heap[k]? = W.heap[k]?) ∧ Ix (.exit i) s W'
  | .goto t, _, W' => (∀ k, k = D ∨ k = D + 1 → W'.heap[k]? = W.heap[k]?) ∧ Ix (.goto t) s W'
  | _, _, _ => False
theorem keep_putObj (V : Nat → Prop) (W : World) (r : Nat) (o : Obj) (hr : V r) : Keep V W (W.putObj r o) :=
  ⟨rfl, rfl, rfl, by simp, fun k _ hk => World.putObj_heap_other (fun e => hk (e ▸ hr))⟩
variable {P : Program}
theorem wp_seq {α : Type} {g : Operand} {ps : Array Tmp} {assign body : Code} {Q : Exit → Act → World → Prop} {a : Act} {w w0 : World} {gf : Nat} {lb : Array Value}
    (hg : a.eval g = .func (.func gf) #[] lb) (eg : ∀ args w, (callFunc gf args).run P w = .ok (.enter gf args) w)
    {encs : α → Array Value} {T U : Nat → Prop} {xs : List α} (hseq : SeqLaw P gf lb encs T U xs w0) (hb0 : Below w0.heap.size w0 w) (hTU : ∀ k, T k ∨ U k → k < w.heap.size ∧ w.heap[k]? = w0.heap[k]?) (hps : ∀ x, (encs x).size = ps.size)
    (I : List α → World → Prop) (Ix : Code → List α → World → Prop)
    (hI : Stab (fun k => T k ∨ k = w.heap.size ∨ k = w.heap.size + 1) I) (hIx : ∀ c, Stab (fun k => T k ∨ k = w.heap.size ∨ k = w.heap.size + 1) (Ix c)) (h0 : ∀ W, Keep (fun _ => False) w W → I [] W) (a₁ : α → Act)
    (hassign : ∀ (x : α) (W : World) (K : Act → World → Prop), K (a₁ x) W →
      assign.wpIn (Fence.wide.inRound (w.heap.size + 1)) 3 P (Exit.then K (fun _ _ _ => False)) { tmps := (ps.zip (encs x)).foldl (fun t (p, v) => t.setIfInBounds p v) a.tmps, defers := [] } W)
    (hbody : ∀ (pre : List α) (x : α) (post : List α) (W : World), I pre W → pre ++ x :: post = xs → w.heap.size + 2 ≤ W.heap.size → (∀ k, T k ∨ U k → k < w.heap.size) →
      body.wpIn (Fence.wide.inRound (w.heap.size + 1)) 3 P (SeqEnd w.heap.size (fun k => T k ∨ U k) I Ix (pre ++ [x]) W) (a₁ x) W)
    (hdone : ∀ (W : World), I xs W → W.heap[w.heap.size]? = some (.deferred (some [])) → Q .normal { a with defers := { target := .collected w.heap.size, args := #[] } :: a.defers } W)
    (hstop : ∀ (c : Code) (pre post : List α) (W : World), pre ++ post = xs → Ix c pre W → W.heap[w.heap.size]? = some (.deferred (some [])) → c.wpIn Fence.wide 3 P Q { a with defers := { target := .collected w.heap.size, args := #[] } :: a.defers } W) :
    (Code.rangeFunc g ps assign body).wpIn Fence.wide 3 P Q a w := by
  refine wpIn_rangeFunc fun fn hfn => ?_
  generalize hD : w.heap.size = D at *
  let rec_ : LoopState → Option Code → Obj := fun st pe => .loop { state := st, pending := pe, fn, tmps := a.tmps, params := ps, assign, body, defers := D }
  let W1 := (w.alloc (.deferred (some []))).alloc (rec_ .ready none)
  have hL1 : W1.heap[D + 1]? = some (rec_ .ready none) := by
    have := World.alloc_heap_new (w.alloc (.deferred (some []))) (rec_ .ready none); rwa [World.size_alloc, hD] at this
  have hK1 : W1.heap[D]? = some (.deferred (some [])) := by
    subst hD; exact (Below.heap_alloc _ _ _ (by simp)).trans (World.alloc_heap_new w _)
  have hkW1 : Keep (fun _ => False) w W1 := ((Keep.refl _ w).alloc _).alloc _
  have hTl : ∀ k, T k ∨ U k → k < D := fun k hk => (hTU k hk).1
  refine ⟨D + 1, [{ target := .collected D, args := #[] }], W1, { target := .fn (.func gf) lb, args := #[.func (.yield (D + 1)) #[] #[]] }, W1, gf,
    #[.func (.yield (D + 1)) #[] #[]] ++ lb, W1, ?_, ?_, fun _ _ => trivial, ?_, (fun h => by cases h), ?_⟩
  · have := run_enterLoop_outer (P := P) (w := w) fn a.tmps ps assign body; rw [hD] at this; exact this
  · simp only [resolve, hg]; simp [go_sem]
  · simp [invoke, go_sem, eg]
  · have hs : ∀ {k A A'}, k = D ∨ k = D + 1 → Keep T A A' → A.heap[k]? = some (.deferred (some [])) ∨ (∃ r : Loop, A.heap[k]? = some (.loop r)) → A'.heap[k]? = A.heap[k]? := fun {k A A'} hk hkeep ho =>
      hkeep.block k (by rcases ho with h | ⟨_, h⟩ <;> exact lt_of_block h) (fun hT => by have := hTl k (.inl hT); omega)
    refine callsIn_wide.2 ((callsIn_wide (n := 3)).1 ((hseq (D + 1) (fun pre W => I pre W ∧ W.heap[D + 1]? = some (rec_ .ready none) ∧ W.heap[D]? = some (.deferred (some [])))
      (fun pre W => ∃ c, Ix c pre W ∧ W.heap[D + 1]? = some (rec_ .done (some c)) ∧ W.heap[D]? = some (.deferred (some []))) W1 ?_ ?_ ?_ ?_ ?_ ⟨h0 W1 hkW1, hL1, hK1⟩).mono ?_))
    · intro k hk
      exact (hkW1.block k (by rw [hD]; exact hTl k hk) id).trans (hTU k hk).2
    · exact hb0.trans ((hkW1.below).mono hb0.size)
    · rintro s A A' ⟨h1, h2, h3⟩ hk
      exact ⟨hI s A A' h1 (hk.mono fun _ h => .inl h), (hs (.inr rfl) hk (.inr ⟨_, h2⟩)).trans h2, (hs (.inl rfl) hk (.inl h3)).trans h3⟩
    · rintro s A A' ⟨c, h1, h2, h3⟩ hk
      exact ⟨c, hIx c s A A' h1 (hk.mono fun _ h => .inl h), (hs (.inr rfl) hk (.inr ⟨_, h2⟩)).trans h2, (hs (.inl rfl) hk (.inl h3)).trans h3⟩
    · rintro pre x post W ⟨hi, hl, hk⟩ hpre
      have hlt := lt_of_block hl
      refine ⟨fn, _, assign, body, run_yield hl (hps x), roundIn_of_wpIn hfn (hassign x W _ ⟨_, run_beginRound hl rfl, ?_⟩)⟩
      have hl2 := World.putObj_heap_same (w := W) (o := rec_ .busy none) hlt
      have hk2 := (World.putObj_heap_other (w := W) (r := D + 1) (k := D) (o := rec_ .busy none) (by omega)).trans hk
      have hi2 := hI pre W _ hi (keep_putObj (fun k => T k ∨ k = D ∨ k = D + 1) W (D + 1) (rec_ .busy none) (.inr (.inr rfl)))
      refine wpIn_mono (hbody pre x post _ hi2 hpre (by rw [World.putObj_size]; omega) hTl) ?_
      have fin : ∀ (jump : Option Code) (W3 : World), (∀ k, k = D ∨ k = D + 1 → W3.heap[k]? = (W.putObj (D + 1) (rec_ .busy none)).heap[k]?) →
          (Instr.endRound (D + 1) jump).run P W3 = .ok (.bool jump.isNone) (W3.putObj (D + 1) (rec_ (if jump.isNone then .ready else .done) jump)) ∧
          (W3.putObj (D + 1) (rec_ (if jump.isNone then .ready else .done) jump)).heap[D + 1]? = some (rec_ (if jump.isNone then .ready else .done) jump) ∧
          (W3.putObj (D + 1) (rec_ (if jump.isNone then .ready else .done) jump)).heap[D]? = some (.deferred (some [])) := fun jump W3 h3 => by
        have e1 := (h3 (D + 1) (.inr rfl)).trans hl2
        have e0 := (h3 D (.inl rfl)).trans hk2
        exact ⟨run_endRound jump e1, World.putObj_heap_same (lt_of_block e1), (World.putObj_heap_other (by omega)).trans e0⟩
      have hput : ∀ W3 o, Keep (fun k => T k ∨ k = D ∨ k = D + 1) W3 (W3.putObj (D + 1) o) := fun W3 o => keep_putObj _ W3 (D + 1) o (.inr (.inr rfl))
      rintro e a3 W3 hp
      cases e with
      | normal =>
        obtain ⟨⟨hb3, hk3⟩, hi3⟩ := hp
        obtain ⟨hr, hl4, hk4⟩ := fin none W3 (fun k hk => hk3 k (.inr hk))
        refine ⟨_, _, hr, .inl ⟨rfl, ⟨hI _ _ _ hi3 (hput _ _), hl4, hk4⟩, ?_, fun k hk => ?_⟩⟩
        · exact ⟨hb3.os, hb3.tape, hb3.output, by have := hb3.size; simp only [World.putObj_size] at this ⊢; exact this, fun k hk => by omega⟩
        · have := hTl k hk
          rw [World.putObj_heap_other (by omega), hk3 k (.inl hk), World.putObj_heap_other (by omega)]
      | ret =>
        obtain ⟨hr, hl4, hk4⟩ := fin (some .ret) W3 hp.1
        exact ⟨_, _, hr, .inr ⟨rfl, .ret, hIx _ _ _ _ hp.2 (hput _ _), hl4, hk4⟩⟩
      | exit i =>
        obtain ⟨hr, hl4, hk4⟩ := fin (some (.exit i)) W3 hp.1
        exact ⟨_, _, hr, .inr ⟨rfl, .exit i, hIx _ _ _ _ hp.2 (hput _ _), hl4, hk4⟩⟩
      | goto t =>
        obtain ⟨hr, hl4, hk4⟩ := fin (some (.goto t)) W3 hp.1
        exact ⟨_, _, hr, .inr ⟨rfl, .goto t, hIx _ _ _ _ hp.2 (hput _ _), hl4, hk4⟩⟩
      | panic ch => exact hp.elim
      | outgrown => exact hp.elim
    · have hput : ∀ W3 o, Keep (fun k => T k ∨ k = D ∨ k = D + 1) W3 (W3.putObj (D + 1) o) := fun W3 o => keep_putObj _ W3 (D + 1) o (.inr (.inr rfl))
      rintro e W2 ⟨⟨v, rfl⟩, (⟨hi, hl, hk⟩ | ⟨pre, post, hpre, c, hi, hl, hk⟩)⟩
      · exact ⟨none, _, run_endLoop hl (by simp), hdone _ (hI _ _ _ hi (hput _ _)) ((World.putObj_heap_other (by omega)).trans hk)⟩
      · exact ⟨some c, _, run_endLoop hl (by simp), hstop c pre post _ hpre (hIx c _ _ _ hi (hput _ _)) ((World.putObj_heap_other (by omega)).trans hk)⟩
end Go.Proofs.YtamjhnibenonjaaGreatDoor
