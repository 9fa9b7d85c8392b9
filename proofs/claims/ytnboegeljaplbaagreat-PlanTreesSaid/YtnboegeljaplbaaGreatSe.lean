/- A row absorbed: the program's Row and the reference's, walked. -/
import Derived.Test.YtnboegeljaplbaaGreatSd
namespace Go.Proofs.YtnboegeljaplbaaGreat
open Go.RowKit Lv Go.Shelf
open Ieee (double Format Datum Toward)
attribute [local go_sem] Oper.semAt_some run_store_float drewN_alloc drewN_setCell

/-- a store into a cell that holds no float leaves what reads as floats -/
theorem Row.setAt {W : World} {v : Value} {xs : List (Option Nat)} (h : Row W v xs) {b o : Nat} {u : Value} (hc : W.cell? ⟨b, o, none⟩ = some u) (hu : ∀ x, u ≠ .float .f64 x) (v' : Value) : Row (W.setCell ⟨b, o, none⟩ v') v xs := by
  obtain ⟨a, cap', hv, h1, h2, h3⟩ := h
  refine ⟨a, cap', hv, h1, h2, ?_⟩
  rcases h3 with h3 | ⟨blk, off, ha, hcl⟩
  · exact .inl h3
  · refine .inr ⟨blk, off, ha, fun i hi => ?_⟩
    obtain ⟨x, hx1, hx2⟩ := hcl i hi
    refine ⟨x, ?_, hx2⟩
    by_cases e : b = blk ∧ o = off + i
    · obtain ⟨rfl, rfl⟩ := e
      rw [hx1] at hc
      exact absurd (Option.some.inj hc).symm (hu x)
    · by_cases e1 : b = blk
      · subst e1
        exact cell_set_off hx1 (fun e2 => e ⟨rfl, e2⟩)
      · exact cell_set_ne hx1 e1
/-- four stores into a factor's cells leave what reads as floats -/
theorem Row.put4 {W : World} {v : Value} {xs : List (Option Nat)} (h : Row W v xs) {b : Nat} {i j k : Int} {v1 : Value} (hc : Cells4 W b (.int .i64 i) v1 (.int .i64 j) (.int .i64 k)) (hv : ∀ x, v1 ≠ .float .f64 x) (u0 u1 u2 u3 : Value) :
    Row ((((W.setCell ⟨b, 0, none⟩ u0).setCell ⟨b, 1, none⟩ u1).setCell ⟨b, 2, none⟩ u2).setCell ⟨b, 3, none⟩ u3) v xs :=
  (((h.setAt hc.c0 (fun _ e => by cases e) u0).setAt (cell_set_off hc.c1 (by decide)) hv u1).setAt (cell_set_off (cell_set_off hc.c2 (by decide)) (by decide)) (fun _ e => by cases e) u2).setAt
    (cell_set_off (cell_set_off (cell_set_off hc.c3 (by decide)) (by decide)) (by decide)) (fun _ e => by cases e) u3
theorem below_put4 {w W : World} {b : Nat} (h : Below w.heap.size w W) (hb : w.heap.size ≤ b) (u0 u1 u2 u3 : Value) :
    Below w.heap.size w ((((W.setCell ⟨b, 0, none⟩ u0).setCell ⟨b, 1, none⟩ u1).setCell ⟨b, 2, none⟩ u2).setCell ⟨b, 3, none⟩ u3) :=
  (((h.setCell (p := ⟨b, 0, none⟩) hb _).setCell (p := ⟨b, 1, none⟩) hb _).setCell (p := ⟨b, 2, none⟩) hb _).setCell (p := ⟨b, 3, none⟩) hb _
theorem Cells4.put_other {W : World} {b b' : Nat} {u0 u1 u2 u3 : Value} (h : Cells4 W b u0 u1 u2 u3) (hne : b' ≠ b) (v0 v1 v2 v3 : Value) :
    Cells4 ((((W.setCell ⟨b', 0, none⟩ v0).setCell ⟨b', 1, none⟩ v1).setCell ⟨b', 2, none⟩ v2).setCell ⟨b', 3, none⟩ v3) b u0 u1 u2 u3 := (((h.set hne).set hne).set hne).set hne
theorem slice_ne {a : Option Addr} {n c : Nat} : ∀ x, Value.slice a n c ≠ .float .f64 x := fun _ e => by cases e
theorem rowD_early {F : FacD} {ls : List (Option Nat)} {Y : Option Nat} {x : Int} (h : earlyD F ls Y = x) (hx : x ≠ 0) : rowD F ls Y = (fac0, x) := by unfold rowD; rw [h, if_pos hx]
theorem rowD_full {F : FacD} {ls : List (Option Nat)} {Y : Option Nat} (h : earlyD F ls Y = 0) (hf : fullD F = true) : rowD F ls Y = (fac0, 6) := by unfold rowD; rw [h, if_neg (by decide), if_pos hf]
theorem facE_no (err : Int) {e : Ending} {w' : World} (h : e = .returned (.tuple #[facZ, .int .i64 err])) : FacE (fac0, err) e w' := ⟨none, 0, 0, h, row_nil _⟩

end Go.Proofs.YtnboegeljaplbaaGreat
