/- What command.words and command.Print compute: plain functions. -/
import Derived.Test.YtamjhnibenonjaaGreatDoorSSplit
namespace Go.Proofs.YtamjhnibenonjaaGreatDoor
set_option linter.unusedVariables false
set_option linter.unusedSimpArgs false
open Go Go.RowKit
def nameOf (k : Int) : ByteArray := match formTab.find? (fun r => r.kind == k) with | some r => r.name | none => ⟨#[]⟩
def pathB (l : List ByteArray) : ByteArray := if l = [] then dashB else joinB 47 l
def wishB (x : Wish) : ByteArray := x.name ++ colonB ++ itoaB x.deep ++ colonB ++ itoaB x.cost
def polWords (p : Pol) : List ByteArray := [itoaB p.kind, itoaB p.limit, itoaB p.period, itoaB p.burst, itoaB p.cap, itoaB (if p.opn then 1 else 0)]
def headF (c : Cmd) : List ByteArray :=
  if c.kind = 2 then c.name :: polWords c.pol else
  if c.kind = 3 ∨ c.kind = 10 ∨ c.kind = 12 ∨ c.kind = 14 then [c.name] else
  if c.kind = 9 ∨ c.kind = 11 ∨ c.kind = 13 then [c.name, itoaB c.n] else
  if c.kind = 6 then [itoaB c.n, pathB c.path] else
  if c.kind = 4 ∨ c.kind = 5 then [pathB c.path] else
  if c.kind = 7 ∨ c.kind = 8 then [itoaB c.n] else []
def tailF (c : Cmd) : List ByteArray := if c.kind = 7 then c.wishes.map (fun x => itoaB x.cost) else c.wishes.map wishB
/-- command.words -/
def wordsF (c : Cmd) : List ByteArray := nameOf c.kind :: (headF c ++ tailF c)
/-- command.Print -/
def printF (c : Cmd) : List ByteArray := if (parseF (wordsF c)).2 = 0 ∧ c = (parseF (wordsF c)).1 then wordsF c else []
end Go.Proofs.YtamjhnibenonjaaGreatDoor
