/- Layer 13's own examples, walked. -/
import Derived.Test.YtnboegeljaplbaaGreatSo
import Derived.Test.YtnboegeljaplbaaGreatMh
namespace Go.Proofs.YtnboegeljaplbaaGreat
open Go.RowKit Lv Go.Shelf
open Ieee (double Format Datum Toward)
attribute [local go_sem] Oper.semAt_some run_store_float drewN_alloc drewN_setCell

abbrev Ga : FacD := ⟨1, [some 4613937818241073152, some 13830554455654793216, some 0], 1, 2⟩
abbrev Gb : FacD := ⟨1, [some 4616189618054758400, some 4611686018427387904, some 0], 1, 5⟩
abbrev Gm : FacD := ⟨1, [some 4617315517961601024, some 4607182418800017408, some 4611686018427387904], 2, 8⟩
abbrev Ge : FacD := ⟨2, [some 0, some 0, some 0, some 0, some 0, some 0], 0, 0⟩
theorem live_m : twoD Ga Gb = (Gm, 0) := by decide +kernel
theorem live_e : twoD Ga Ge = (fac0, 3) := by decide +kernel
theorem live_n : mallD [] = (fac0, 4) := by decide +kernel
theorem live_o : mallD [Gb] = (Gb, 0) := by decide +kernel
theorem live_f : twoD Ga fac0 = (fac0, 1) := by decide +kernel
theorem fcs_nil (W : World) : Fcs W (.slice none 0 0) [] := ⟨none, 0, rfl, Nat.le_refl _, by unfold maxLen; simp, .inl rfl⟩
theorem fcs_one (W : World) (F : FacD) {a : Option Addr} {n cap : Nat} (h : Row W (.slice a n cap) F.xs) :
    Fcs (W.alloc (.cells #[.int .i64 F.cols, .slice a n cap, .int .i64 F.rws, .int .i64 F.trn] 28)) (.slice (some ⟨W.heap.size, 0, none⟩) 1 1) [F] := by
  refine ⟨_, _, rfl, Nat.le_refl _, by unfold maxLen; simp, .inr ⟨W.heap.size, 0, rfl, fun i hi => ?_⟩⟩
  match i, hi with
  | 0, _ => exact ⟨_, _, _, by simp [go_sem], by simp [go_sem], by simp [go_sem], by simp [go_sem], h.alloc _⟩

end Go.Proofs.YtnboegeljaplbaaGreat
