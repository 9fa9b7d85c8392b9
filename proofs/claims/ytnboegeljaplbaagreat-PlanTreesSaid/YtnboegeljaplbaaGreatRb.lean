/- The reference's Line of layer 10, walked. -/
import Derived.Test.YtnboegeljaplbaaGreatRa
import Derived.Deep.RegionWith
import Derived.LoopTactic
import Derived.Deep.CutRange
namespace Go.Proofs.YtnboegeljaplbaaGreat
open Go.RowKit Lv Go.Shelf
open Ieee (double Format Datum Toward)
attribute [local go_sem] run_store_float drewN_alloc drewN_setCell run_addF run_subF run_mulF run_quoF

end Go.Proofs.YtnboegeljaplbaaGreat
