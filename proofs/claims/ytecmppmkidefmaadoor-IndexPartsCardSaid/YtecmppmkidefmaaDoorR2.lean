/-
  The walks over a value's key (the reference's), the rest: Of, Entry, Least, After.
-/
import Derived.Test.YtecmppmkidefmaaDoorR1
namespace Go.Proofs.YtecmppmkidefmaaDoor
open Go.RowKit

end Go.Proofs.YtecmppmkidefmaaDoor
