/- The region of a number in a function's code. -/
import Derived.Deep.RegionHeld3
namespace Go.Proofs.Ytlcfmocojakhpaa.Sh
open Go

def findReg (n : Nat) : Code → Option Code
  | .region i ops b => if i = n then some (.region i ops b) else none
  | .seq a b => match findReg n a with
    | some c => some c
    | none => findReg n b
  | .block _ c => findReg n c
  | .scope c => findReg n c
  | .loop c => findReg n c
  | .cond _ a b => match findReg n a with
    | some c => some c
    | none => findReg n b
  | _ => none
end Go.Proofs.Ytlcfmocojakhpaa.Sh
