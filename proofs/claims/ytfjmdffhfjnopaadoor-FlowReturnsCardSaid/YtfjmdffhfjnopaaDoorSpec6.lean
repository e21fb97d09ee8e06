/- Instructions, read from bytes: what the document says, in plain Lean. -/
import Derived.Test.YtfjmdffhfjnopaaDoorSpec4
namespace Vouch
structure Ins where
  at_ : Int
  code : Int
  imm : List Int
  next : Int
deriving DecidableEq
def zeroI : Ins := ⟨0, 0, [], 0⟩
/-- How many immediate bytes, where z stands behind the code. -/
def immL (r : OpRow) (z : List Int) : Option Nat := if r.imm = -1 then (if z.length = 0 then none else some (2 * z.getD 0 0 + 3).toNat) else some r.imm.toNat
/-- One instruction, and the number of the refusal. -/
def readE (bs : List Int) (at_ : Int) : Int × Ins :=
  if at_ < 0 ∨ (bs.length : Int) ≤ at_ then (1, zeroI)
  else if isOp (bs.getD at_.toNat 0) = false then (60, zeroI)
  else match immL (opR (bs.getD at_.toNat 0)) (bs.drop (at_.toNat + 1)) with
    | none => (61, zeroI)
    | some n => if bs.length < at_.toNat + 1 + n then (61, zeroI) else (0, ⟨at_, bs.getD at_.toNat 0, (bs.drop (at_.toNat + 1)).take n, at_ + 1 + n⟩)
end Vouch
