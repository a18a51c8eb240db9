/- What package command computes, as plain Lean functions over numbers, bytes and lists. No program is named. -/
import Derived.Test.YtamjhnibenonjaaGreatDoorPNum
namespace Go.Proofs.YtamjhnibenonjaaGreatDoor
set_option linter.unusedVariables false
set_option linter.unusedSimpArgs false
open Go Go.RowKit
structure Pol where
  kind : Int
  limit : Int
  period : Int
  burst : Int
  cap : Int
  opn : Bool
  deriving DecidableEq
structure Wish where
  name : ByteArray
  deep : Int
  cost : Int
  deriving DecidableEq
structure Cmd where
  kind : Int
  name : ByteArray
  pol : Pol
  path : List ByteArray
  wishes : List Wish
  n : Int
  deriving DecidableEq
structure Rd where
  c : Cmd
  args : List ByteArray
  e : Int
def emptyB : ByteArray := ⟨#[]⟩
def Pol.zero : Pol := ⟨0, 0, 0, 0, 0, false⟩
def Cmd.zero : Cmd := ⟨0, emptyB, Pol.zero, [], [], 0⟩
def Rd.fail (r : Rd) (e : Int) : Rd := if r.e = 0 then { r with e := e } else r
def Rd.arg (r : Rd) : ByteArray := r.args.headD emptyB
def Rd.rest (r : Rd) : Rd := { r with args := r.args.tail }
def Rd.number (r : Rd) (s : ByteArray) (lo hi : Int) : Rd := if uptoB s lo hi then r else r.fail 2
def okByte (c : UInt8) : Bool := (97 ≤ c.toNat && c.toNat ≤ 122) || (65 ≤ c.toNat && c.toNat ≤ 90) || (48 ≤ c.toNat && c.toNat ≤ 57) || c.toNat == 45 || c.toNat == 95 || c.toNat == 46
/-- book.Named -/
def namedB (s : ByteArray) : Bool := decide (0 < s.size) && decide (s.size ≤ 40) && s.data.toList.all okByte
def Rd.named (r : Rd) (s : ByteArray) : Rd := if namedB s then r else r.fail 2
def Rd.setName (r : Rd) (s : ByteArray) : Rd := { r with c := { r.c with name := s } }
def Rd.setN (r : Rd) (n : Int) : Rd := { r with c := { r.c with n := n } }
def Rd.readName (r : Rd) : Rd := (r.rest.named r.arg).setName r.arg
def Rd.readKey (r : Rd) : Rd := let q := r.rest.setName r.arg; if r.arg.size < 1 ∨ 100 < r.arg.size then q.fail 2 else q
def Rd.readNum (r : Rd) (lo hi : Int) : Rd := (r.rest.number r.arg lo hi).setN (uptoV r.arg lo hi)
def Rd.readAny (r : Rd) : Rd := r.readNum (-9223372036854775808) 9223372036854775807
def Rd.readTime (r : Rd) : Rd := r.readNum 0 9007199254740992
def Rd.readId (r : Rd) : Rd := r.readNum 1 9007199254740992
def Rd.setWishes (r : Rd) (l : List Wish) : Rd := { r with c := { r.c with wishes := l } }
def Rd.readMost (r : Rd) : Rd := if r.args = [] then r else (r.rest.number r.arg 0 1048576).setWishes [⟨emptyB, 0, uptoV r.arg 0 1048576⟩]
end Go.Proofs.YtamjhnibenonjaaGreatDoor
