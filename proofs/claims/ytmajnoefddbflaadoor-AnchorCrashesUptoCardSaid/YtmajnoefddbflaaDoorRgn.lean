/- A region of a function, by its number. -/
import Derived.Test.YtmajnoefddbflaaDoorL4
import Derived.Test.YtmajnoefddbflaaDoorLb
namespace Go.Proofs.YtmajnoefddbflaaDoor

def regionIn : Code → Nat → Option Code
  | .region i ops d, n => if i == n then some (.region i ops d) else none
  | .seq a b, n => match regionIn a n with
    | some x => some x
    | none => regionIn b n
  | .cond _ a b, n => match regionIn a n with
    | some x => some x
    | none => regionIn b n
  | .block _ c, n => regionIn c n
  | .loop c, n => regionIn c n
  | .scope c, n => regionIn c n
  | .rangeFunc _ _ a b, n => match regionIn a n with
    | some x => some x
    | none => regionIn b n
  | _, _ => none
def regionOf (f : Func) (n : Nat) : Code := (f.body.bind (regionIn · n)).getD .skip
end Go.Proofs.YtmajnoefddbflaaDoor
