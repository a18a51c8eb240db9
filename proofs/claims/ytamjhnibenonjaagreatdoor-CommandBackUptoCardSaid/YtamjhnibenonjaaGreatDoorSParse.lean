/- What command.Parse computes: plain functions. -/
import Derived.Test.YtamjhnibenonjaaGreatDoorPForms2
namespace Go.Proofs.YtamjhnibenonjaaGreatDoor
set_option linter.unusedVariables false
set_option linter.unusedSimpArgs false
open Go Go.RowKit
def applyF (f : Nat) (R : Rd) : Rd :=
  if f = 27 then R.readName else if f = 28 then R.readKey else if f = 29 then R.readAny else if f = 30 then R.readPath
  else if f = 31 then R.readWishes else if f = 32 then R.readTime else if f = 33 then R.readId else if f = 34 then R.readPolicy
  else if f = 35 then R.readMost else R
def Rd.start (kind : Int) (l : List ByteArray) : Rd := ⟨{ Cmd.zero with kind := kind }, l, 0⟩
def readAll (fns : List Nat) (R : Rd) : Rd := fns.foldl (fun r f => applyF f r) R
def parseRow (r : Form) (l : List ByteArray) : Cmd × Int :=
  if (l.length : Int) < r.least ∨ r.most < (l.length : Int) then (Cmd.zero, 11) else
  if (readAll r.fns (Rd.start r.kind l)).e = 0 then ((readAll r.fns (Rd.start r.kind l)).c, 0) else (Cmd.zero, (readAll r.fns (Rd.start r.kind l)).e)
/-- command.Parse -/
def parseF (l : List ByteArray) : Cmd × Int :=
  match l with
  | [] => (Cmd.zero, 10)
  | x :: l => match formFor (upB x) with
    | none => (Cmd.zero, 10)
    | some r => parseRow r l
def cmdCells (c : Cmd) (pv wv : Value) : Array Value := #[.int .i64 c.kind, .string c.name, .int .i64 c.pol.kind, .int .i64 c.pol.limit, .int .i64 c.pol.period, .int .i64 c.pol.burst, .int .i64 c.pol.cap, .bool c.pol.opn, pv, wv, .int .i64 c.n]
/-- A slice whose elements' cells are these. -/
def RowIn (w : World) (B size : Nat) (v : Value) (n : Nat) (xs : List Value) : Prop :=
  ∃ a c, v = .slice a n c ∧ n ≤ c ∧ c ≤ 9223372036854775807 ∧ (n ≠ 0 → ∃ b o, a = some ⟨b, o, none⟩ ∧ b < B ∧ ∀ j x, xs[j]? = some x → w.cell? ⟨b, o + j, none⟩ = some x)
structure CmdIn (w : World) (B : Nat) (v : Value) (c : Cmd) : Prop where
  ex : ∃ pv wv, v = .agg (cmdCells c pv wv) ∧ RowIn w B 1 pv c.path.length (c.path.map .string) ∧ RowIn w B 3 wv c.wishes.length (c.wishes.flatMap Wish.cells)
theorem RowIn.of_owns {w : World} {base e size n : Nat} {v : Value} {xs : List Value} (h : w.ownsRow base e size v n xs) : RowIn w w.heap.size size v n xs := by
  rcases h.2 with ⟨rfl, rfl⟩ | ⟨g, cap, cur, rfl, hb, hg, hn, hm, hs, hx⟩
  · exact ⟨none, 0, rfl, Nat.le_refl _, by decide, fun h => absurd rfl h⟩
  · refine ⟨_, cap, rfl, hn, hm, fun _ => ⟨g, 0, rfl, lt_of_block hg, fun j x hj => ?_⟩⟩
    rw [Nat.zero_add, cell_of_block hg]
    rw [← hx, List.getElem?_take] at hj
    split at hj
    · rw [← hj, Array.getElem?_toList]
    · cases hj
end Go.Proofs.YtamjhnibenonjaaGreatDoor
