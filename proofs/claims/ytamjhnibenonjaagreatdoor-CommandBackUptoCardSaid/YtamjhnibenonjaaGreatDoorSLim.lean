/- Policies: which may be, by their kinds. Plain functions over numbers. -/
import Derived.Test.YtamjhnibenonjaaGreatDoorSCmd
namespace Go.Proofs.YtamjhnibenonjaaGreatDoor
set_option linter.unusedVariables false
set_option linter.unusedSimpArgs false
open Go Go.RowKit
def bucketOk (p : Pol) : Prop := p.kind = 1 ∧ 1 ≤ p.limit ∧ p.limit ≤ 1048576 ∧ 1 ≤ p.burst ∧ p.burst ≤ 1048576 ∧ 1 ≤ p.period ∧ p.period ≤ 1099511627776 ∧ p.cap = 0
def gcraOk (p : Pol) : Prop := p.kind = 2 ∧ 1 ≤ p.limit ∧ p.limit ≤ 1048576 ∧ 1 ≤ p.burst ∧ p.burst ≤ 1048576 ∧ 1 ≤ p.period ∧ p.period ≤ 1099511627776 ∧ p.cap = 0
def windowOk (p : Pol) : Prop := p.kind = 3 ∧ 1 ≤ p.limit ∧ p.limit ≤ 1048576 ∧ 1 ≤ p.period ∧ p.period ≤ 1099511627776 ∧ 1 ≤ p.cap ∧ p.cap ≤ 100 ∧ p.burst = 0
def counterOk (p : Pol) : Prop := p.kind = 4 ∧ 1 ≤ p.limit ∧ p.limit ≤ 1048576 ∧ 1 ≤ p.period ∧ p.period ≤ 1099511627776 ∧ p.burst = 0 ∧ p.cap = 0
instance (p : Pol) : Decidable (bucketOk p) := by unfold bucketOk; infer_instance
instance (p : Pol) : Decidable (gcraOk p) := by unfold gcraOk; infer_instance
instance (p : Pol) : Decidable (windowOk p) := by unfold windowOk; infer_instance
instance (p : Pol) : Decidable (counterOk p) := by unfold counterOk; infer_instance
/-- limiter.Check -/
def polOk (p : Pol) : Prop := bucketOk p ∨ gcraOk p ∨ windowOk p ∨ counterOk p
instance (p : Pol) : Decidable (polOk p) := by unfold polOk; infer_instance
def errOf (c : Prop) [Decidable c] : Int := if c then 0 else 2
def Rd.polNum (r : Rd) (lo hi : Int) (f : Pol → Int → Pol) : Rd := { (r.rest.number r.arg lo hi) with c := { (r.rest.number r.arg lo hi).c with pol := f (r.rest.number r.arg lo hi).c.pol (uptoV r.arg lo hi) } }
def Rd.polCheck (r : Rd) : Rd := if polOk r.c.pol then r else r.fail 2
def Rd.readPolicy (r : Rd) : Rd :=
  ((((((r.polNum 1 4 fun p v => { p with kind := v }).polNum 0 1099511627776 fun p v => { p with limit := v }).polNum 0 1099511627776 fun p v => { p with period := v }).polNum 0 1099511627776
    fun p v => { p with burst := v }).polNum 0 1099511627776 fun p v => { p with cap := v }).polNum 0 1 fun p v => { p with opn := v == 1 }).polCheck
theorem number_args (r : Rd) (s : ByteArray) (lo hi : Int) : (r.number s lo hi).args = r.args := by
  unfold Rd.number Rd.fail; split
  · rfl
  · split <;> rfl
theorem number_path (r : Rd) (s : ByteArray) (lo hi : Int) : (r.number s lo hi).c = r.c := by
  unfold Rd.number Rd.fail; split
  · rfl
  · split <;> rfl
theorem polNum_args (r : Rd) (lo hi : Int) (f : Pol → Int → Pol) : (r.polNum lo hi f).args = r.args.tail := number_args _ _ _ _
def colonB : ByteArray := ⟨#[58]⟩
def slashB : ByteArray := ⟨#[47]⟩
def splitAt (s sep : ByteArray) : List ByteArray := Lib.splitB sep 0 (Lib.countB s sep) s
def Rd.addWish (r : Rd) (x : Wish) : Rd := r.setWishes (r.c.wishes ++ [x])
def Rd.wishOf (r : Rd) (f0 f1 f2 : ByteArray) : Rd := (((r.named f0).number f1 0 8).number f2 1 1048576).addWish ⟨f0, uptoV f1 0 8, uptoV f2 1 1048576⟩
def Rd.wishLoop : Nat → Rd → Rd
  | 0, r => r
  | k + 1, r => if r.args = [] then r else
    match splitAt r.arg colonB with
    | [f0, f1, f2] => Rd.wishLoop k (r.rest.wishOf f0 f1 f2)
    | _ => r.rest.fail 2
def Rd.readWishes (r : Rd) : Rd := if 20 < r.args.length then r.fail 3 else r.wishLoop r.args.length
def longB (s : ByteArray) : Bool := decide (100 < s.size)
/-- scope.Path -/
def pathErr (l : List ByteArray) : Int := if 8 < l.length ∨ l.any longB = true then 3 else if l.any (fun x => decide (x.size = 0)) = true then 2 else 0
def dashB : ByteArray := ⟨#[45]⟩
def Rd.setPath (r : Rd) (l : List ByteArray) : Rd := { r with c := { r.c with path := l } }
def Rd.pathCheck (r : Rd) : Rd := if pathErr r.c.path = 0 then r else r.fail (pathErr r.c.path)
def Rd.readPath (r : Rd) : Rd := if r.arg = dashB then r.rest else (r.rest.setPath (r.c.path ++ splitAt r.arg slashB)).pathCheck
end Go.Proofs.YtamjhnibenonjaaGreatDoor
