/-
  The walk over the statements' test whether two values are alike.
-/
import Derived.Test.YtecmppmkidefmaaDoorV2
import Derived.WalkSmall
namespace Go.Proofs.YtecmppmkidefmaaDoor
open Go.RowKit

def sameB (k n : Int) (f : Nat) (l : List UInt8) (k' n' : Int) (f' : Nat) (l' : List UInt8) : Bool := (k == k') && (n == n') && (f == f') && (l == l')

end Go.Proofs.YtecmppmkidefmaaDoor
