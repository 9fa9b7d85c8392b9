/- A row absorbed: the reference's Row, walked. -/
import Derived.Test.YtgmaljikjkbdlaaSe
import Derived.Deep.CutRange
namespace Go.Proofs.Ytgmaljikjkbdlaa
open Go.RowKit Lv Go.Shelf
open Ieee (double Format Datum Toward)
attribute [local go_sem] Oper.semAt_some run_store_float drewN_alloc drewN_setCell

theorem early_range (F : FacD) (ls : List (Option Nat)) (Y : Option Nat) : 0 ≤ earlyD F ls Y ∧ earlyD F ls Y ≤ 3 := by
  unfold earlyD
  repeat' split
  all_goals omega

/-- behind the statement that calls Line -/
def RRowCut (w : World) (b7 b4 : Nat) (F G : FacD) (a : Option Addr) (n cap : Nat) (s8 : Value) (gb : Bool) (W : World) : Prop :=
  ∃ ga gn gcp, s8 = .bool gb ∧ Cells4 W b7 (.int .i64 G.cols) (.slice ga gn gcp) (.int .i64 G.rws) (.int .i64 G.trn) ∧ Row W (.slice ga gn gcp) G.xs ∧ Cells4 W b4 (.int .i64 0) (.slice none 0 0) (.int .i64 0) (.int .i64 0) ∧
    Cells4 W w.heap.size (.int .i64 F.cols) (.slice a n cap) (.int .i64 F.rws) (.int .i64 F.trn) ∧ b4 < b7 ∧ Below w.heap.size w W
theorem Cells4.newRow {W : World} {a : Option Addr} {n cap : Nat} {xs : List (Option Nat)} (h : Row W (.slice a n cap) xs) (o : Obj) : Row (W.alloc o) (.slice a n cap) xs := h.alloc o
end Go.Proofs.Ytgmaljikjkbdlaa
