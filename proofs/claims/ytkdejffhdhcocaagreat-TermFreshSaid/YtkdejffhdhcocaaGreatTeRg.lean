/- The region of a number in a function's body. No condition. -/
import Derived.Test.YtkdejffhdhcocaaGreatTeM1
namespace Go.Proofs.YtkdejffhdhcocaaGreat
open Go.RowKit

/-- the region of a number in code -/
def regAt (n : Nat) : Code → Option Code
  | .region i ops d => if i = n then some (.region i ops d) else none
  | .seq a b => match regAt n a with | some c => some c | none => regAt n b
  | .cond _ a b => match regAt n a with | some c => some c | none => regAt n b
  | .block _ b => regAt n b
  | .loop b => regAt n b
  | .scope b => regAt n b
  | _ => none
/-- the region of a number in a function's body -/
def regOf (f : Func) (n : Nat) : Code := (f.body.bind (regAt n)).getD .skip
end Go.Proofs.YtkdejffhdhcocaaGreat
