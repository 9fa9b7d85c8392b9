/- A row absorbed: the reference's Row where it comes to its Line. -/
import Derived.Test.YtnboegeljaplbaaGreatSi
namespace Go.Proofs.YtnboegeljaplbaaGreat
open Go.RowKit Lv Go.Shelf
open Ieee (double Format Datum Toward)
attribute [local go_sem] Oper.semAt_some run_store_float drewN_alloc drewN_setCell

end Go.Proofs.YtnboegeljaplbaaGreat
