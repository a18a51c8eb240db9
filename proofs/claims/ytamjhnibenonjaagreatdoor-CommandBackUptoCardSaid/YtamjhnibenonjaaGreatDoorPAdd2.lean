/- The closure add of command.words, called with one string or two that have just been laid. -/
import Derived.Test.YtamjhnibenonjaaGreatDoorPWName
namespace Go.Proofs.YtamjhnibenonjaaGreatDoor
set_option linter.unusedVariables false
set_option linter.unusedSimpArgs false
open Go Go.RowKit
theorem OutIn.keep {w w' : World} {base ob : Nat} {l : List ByteArray} (h : OutIn w base ob l) (hk : Keep (fun _ => False) w w') : OutIn w' base ob l := by
  obtain ⟨v, h1, h2, h3⟩ := h.ex
  exact ⟨⟨v, hk.get h1 id, hk.ownsRow h2 (fun _ _ => id), h3⟩, h.hb⟩
theorem OutIn.start (w : World) : OutIn (w.alloc (.cells #[.slice none 0 0] 22)) w.heap.size w.heap.size [] :=
  ⟨⟨_, block_new _ _, World.ownsRow_nil _ _ _ _, by simp [Value.ownBlock]⟩, Nat.le_refl _⟩
theorem AddS.behind {w w' : World} {base ob : Nat} {o : Obj} (h : Keep (AddS (w.alloc o) base ob) (w.alloc o) w') : Keep (AddS w base ob) w w' :=
  ((Keep.refl (AddS w base ob) w).alloc o).step h (fun k hk ⟨h1, h2⟩ => ⟨h1, h2.imp id (fun ⟨cur, hc⟩ => ⟨cur, by rwa [Below.heap_alloc w o k hk] at hc⟩)⟩)
theorem AddS.keep {w w' : World} {base ob k : Nat} {c : Array Value} {t : TypeId} (h : Keep (AddS w base ob) w w') (hb : w.heap[k]? = some (.cells c t (0, 0))) (hk : k ≠ ob) (ht : t ≠ 9) : w'.heap[k]? = some (.cells c t (0, 0)) :=
  h.get hb (fun ⟨_, h2⟩ => by
    rcases h2 with h2 | ⟨cur, h2⟩
    · exact hk h2
    · rw [hb] at h2; simp only [Option.some.injEq, Obj.cells.injEq] at h2; exact ht h2.2.1)
theorem add1 (ob : Nat) (l : List ByteArray) (x : ByteArray) (w : World) (h : OutIn w ob ob l) (hl : l.length ≤ 900000) :
    Calls Tryz.prog 37 #[.slice (some ⟨w.heap.size, 0, none⟩) 1 1, .pointer (some ⟨ob, 0, none⟩)] (w.alloc (.cells #[.string x] 9)) fun e w' => e = .returned (.tuple #[]) ∧ OutIn w' ob ob (l ++ [x]) ∧ Keep (AddS w ob ob) w w' := by
  refine (add_any ob ob l [x] _ _ (h.keep ((Keep.refl _ _).alloc _)) ⟨w.heap.size, 0, none⟩ 1 rfl ?_ (by simp; omega)).mono fun e w' ⟨h1, h2, h3⟩ => ⟨h1, h2, AddS.behind h3⟩
  intro j u hj
  have hadd : (⟨w.heap.size, 0, none⟩ : Addr).add j = ⟨w.heap.size, 0 + j, none⟩ := by unfold Addr.add; split <;> simp_all
  rw [hadd, Nat.zero_add, cell_of_block (block_new w _)]
  simpa using hj
theorem add2 (ob : Nat) (l : List ByteArray) (x y : ByteArray) (w : World) (h : OutIn w ob ob l) (hl : l.length ≤ 900000) :
    Calls Tryz.prog 37 #[.slice (some ⟨w.heap.size, 0, none⟩) 2 2, .pointer (some ⟨ob, 0, none⟩)] (w.alloc (.cells #[.string x, .string y] 9)) fun e w' => e = .returned (.tuple #[]) ∧ OutIn w' ob ob (l ++ [x, y]) ∧ Keep (AddS w ob ob) w w' := by
  refine (add_any ob ob l [x, y] _ _ (h.keep ((Keep.refl _ _).alloc _)) ⟨w.heap.size, 0, none⟩ 2 rfl ?_ (by simp; omega)).mono fun e w' ⟨h1, h2, h3⟩ => ⟨h1, h2, AddS.behind h3⟩
  intro j u hj
  have hadd : (⟨w.heap.size, 0, none⟩ : Addr).add j = ⟨w.heap.size, 0 + j, none⟩ := by unfold Addr.add; split <;> simp_all
  rw [hadd, Nat.zero_add, cell_of_block (block_new w _)]
  simpa using hj
/-- The box that is printed, as its cells. -/
def CmdAt (w : World) (cb : Nat) (c : Cmd) (pv wv : Value) : Prop := w.heap[cb]? = some (.cells (cmdCells c pv wv) 31 (0, 0))
/-- What a piece of words keeps: what was there, the box, and what is out so far. -/
structure Out (w : World) (cb : Nat) (c : Cmd) (pv wv : Value) (ob : Nat) (l : List ByteArray) (W : World) : Prop where
  keep : Keep (fun _ => False) w W
  box : CmdAt W cb c pv wv
  out : OutIn W ob ob l
  lt : cb < ob
  base : w.heap.size ≤ ob
theorem Out.later {w W W' : World} {cb ob : Nat} {c : Cmd} {pv wv : Value} {l l' : List ByteArray} (h : Out w cb c pv wv ob l W) (h' : OutIn W' ob ob l') (hk : Keep (AddS W ob ob) W W') : Out w cb c pv wv ob l' W' :=
  ⟨h.keep.step hk (fun k hk' e => by have := h.base; have := e.1; omega), hk.get h.box (fun e => by have := h.lt; have := e.1; omega), h', h.lt, h.base⟩
theorem Out.stay {w W W' : World} {cb ob : Nat} {c : Cmd} {pv wv : Value} {l : List ByteArray} (h : Out w cb c pv wv ob l W) (hk : Keep (fun _ => False) W W') : Out w cb c pv wv ob l W' :=
  ⟨h.keep.trans hk, hk.get h.box id, h.out.keep hk, h.lt, h.base⟩
end Go.Proofs.YtamjhnibenonjaaGreatDoor
