/- Many rows absorbed: the reference's All, walked. -/
import Derived.Test.YtgmaljikjkbdlaaSl
import Derived.Deep.CutRange
namespace Go.Proofs.Ytgmaljikjkbdlaa
open Go.RowKit Lv Go.Shelf
open Ieee (double Format Datum Toward)
attribute [local go_sem] Oper.semAt_some run_store_float drewN_alloc drewN_setCell

/-- behind the statement that calls Row -/
def AllCut (wr : World) (ge : Int) (G : FacD) (s8 s9 : Value) (W : World) : Prop :=
  ∃ (b8 : Nat) (ga : Option Addr) (gn gcp : Nat), s8 = .pointer (some ⟨b8, 0, none⟩) ∧ s9 = .int .i64 ge ∧ Cells4 W b8 (.int .i64 G.cols) (.slice ga gn gcp) (.int .i64 G.rws) (.int .i64 G.trn) ∧ Row W (.slice ga gn gcp) G.xs ∧ Below wr.heap.size wr W ∧ wr.heap.size ≤ b8

end Go.Proofs.Ytgmaljikjkbdlaa
