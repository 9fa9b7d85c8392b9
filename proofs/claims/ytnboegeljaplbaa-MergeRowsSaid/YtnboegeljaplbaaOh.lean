/- The program's New; factors and rows in cells of their own; small facts for the walks of the laws. -/
import Derived.Test.YtnboegeljaplbaaSo
import Derived.Test.YtnboegeljaplbaaOa
import Derived.Test.YtnboegeljaplbaaOb
namespace Go.Proofs.Ytnboegeljaplbaa
open Go.RowKit Lv Go.Shelf
open Ieee (double Format Datum Toward)
attribute [local go_sem] Oper.semAt_some run_store_float drewN_alloc drewN_setCell

theorem own_made28 (W : World) (B c : Nat) (hB : B ≤ W.heap.size) (hc : c ≤ 27) : OwnV (W.alloc (.cells (madeCells #[.float .f64 0] (c + 1)) 25)) B (.slice (some ⟨W.heap.size, 0, none⟩) (c + 1) (c + 1)) (List.replicate (c + 1) (some 0)) := by
  refine ⟨List.replicate (c + 1) (.float .f64 0), ⟨by simp, .inr ⟨W.heap.size, c + 1, madeCells #[.float .f64 0] (c + 1), by simp, by omega, ?_, by simp, by unfold maxLen; omega, by rw [size_madeCells]; simp, ?_⟩⟩, Vals.zeros (c + 1)⟩
  · exact World.alloc_heap_new W _
  · rw [toList_madeCells_one]; simp

theorem row_mk28 (W : World) (m : Nat) (h1 : 1 ≤ m) (h6 : m ≤ 28) : Row (W.alloc (.cells (madeCells #[.float .f64 0] m) 25)) (.slice (some ⟨W.heap.size, 0, none⟩) m m) (List.replicate m (some 0)) := by
  obtain ⟨k, rfl⟩ : ∃ k, m = k + 1 := ⟨m - 1, by omega⟩
  exact (own_made28 W W.heap.size k (Nat.le_refl _) (by omega)).row
set_option maxRecDepth 100000 in
theorem new_in (c : Nat) (w : World) (h1 : 1 ≤ c) (h6 : c ≤ 6) :
    Calls Try.prog 20 #[.int .i64 (c : Int)] w fun e w' => FacE (newD c, 0) e w' ∧ Below w.heap.size w w' := by
  have SZ := Lib.hid (fun w => size_in c w h1 h6)
  obtain ⟨b1, b2⟩ := tsz_bounds (c := c) h1 h6
  have hD : Hid (newD c = ⟨(c : Int), List.replicate (tsz c) (some 0), 0, 0⟩) := rfl
  generalize newD c = D at *
  generalize tsz c = z at *
  obtain ⟨i0, hin, hiz0, hiz1, hiz2⟩ := info_parts infoF
  have hmk := fun W => run_make (P := Try.prog) W 22 25 i0 _ Try.underlying22 hin hiz0 .i64 .i64 (z : Int) (z : Int) (by omega) (by omega) (by rw [hiz2]; omega) (by omega)
  rw [hiz1, Nat.mul_one, Int.toNat_natCast] at hmk
  have hz0 : ((z : Int) == 0) = false := by simp; omega
  clear hin hiz0 hiz1 hiz2
  go_enter Try.func20, Try.ntmps20
  go_wp2_with (go_at_call 52; refine (SZ.out _).mono ?_; rintro e w' ⟨rfl, rfl⟩)
  exact bodyPost_ret (v := .tuple #[.agg #[.int .i64 (c : Int), .slice (some ⟨w.heap.size + 1, 0, none⟩) z z, .int .i64 0, .int .i64 0], .int .i64 0]) (by simp [results, Try.results20, go_sem]) rfl ⟨by rw [hD]; exact ⟨_, z, z, rfl, by have := row_mk28 (w.alloc (.cells #[.int .i64 (c : Int), .slice (some ⟨w.heap.size + 1, 0, none⟩) z z, .int .i64 0, .int .i64 0] 24)) z (by omega) b2; simpa using this⟩, ((Below.refl _ _).alloc (Nat.le_refl _) _).alloc (by simp) _⟩
theorem new_out (c : Int) (w : World) (h : ¬ (1 ≤ c ∧ c ≤ 6)) :
    Calls Try.prog 20 #[.int .i64 c] w fun e w' => e = .returned (.tuple #[facZ, .int .i64 1]) ∧ Below w.heap.size w w' := by
  have SZ := Lib.hid (fun w => size_out c w h)
  clear h
  go_enter Try.func20, Try.ntmps20
  go_wp2_with (go_at_call 52; refine (SZ.out _).mono ?_; rintro e w' ⟨rfl, rfl⟩)
  exact bodyPost_ret (v := .tuple #[facZ, .int .i64 1]) (by simp [results, Try.results20, go_sem, facZ]) rfl ⟨rfl, (Below.refl _ _).alloc (Nat.le_refl _) _⟩

theorem zr_order_t {x : Nat} {X : Option Nat} (h : FW x X) (hz : Zr X) : (FloatKind.f64.format.order x 0 == some Ordering.eq) = true := by
  obtain ⟨q, rfl⟩ := hz
  obtain ⟨rfl, _⟩ := ab_some h.2
  cases q <;> decide +kernel
theorem zr_order_f {x : Nat} {X : Option Nat} (h : FW x X) (hz : ¬ Zr X) : (FloatKind.f64.format.order x 0 == some Ordering.eq) = false := by
  refine (is_zero x h.1).trans (decide_eq_false fun e => hz ?_)
  have h64 := h.1
  unfold W64 at h64
  have hx : x = 0 ∨ x = 9223372036854775808 := by omega
  have hn : nan x = false := by rcases hx with rfl | rfl <;> decide
  have := h.2
  rw [ab_num hn] at this
  rw [← this]
  rcases hx with rfl | rfl
  · exact ⟨false, rfl⟩
  · exact ⟨true, rfl⟩
/-- behind a statement that makes a factor -/
def FacCut (wr : World) (G : FacD) (e : Int) (s s' : Value) (W : World) : Prop := ∃ b : Nat, s = .pointer (some ⟨b, 0, none⟩) ∧ s' = .int .i64 e ∧ FacAt W b G ∧ Below wr.heap.size wr W
/-- two cells of a block -/
def Cel2 (W : World) (b : Nat) (u0 u1 : Value) : Prop := W.cell? ⟨b, 0, none⟩ = some u0 ∧ W.cell? ⟨b, 1, none⟩ = some u1
theorem Cel2.below {W W' : World} {b : Nat} {u0 u1 : Value} (h : Cel2 W b u0 u1) (hb : Below W.heap.size W W') : Cel2 W' b u0 u1 :=
  ⟨(hb.cell (p := ⟨b, 0, none⟩) (cell_lt h.1)).trans h.1, (hb.cell (p := ⟨b, 1, none⟩) (cell_lt h.2)).trans h.2⟩
theorem Cel2.new (W : World) (u0 u1 : Value) (t : TypeId) : Cel2 (W.alloc (.cells #[u0, u1] t)) W.heap.size u0 u1 := ⟨by simp [go_sem], by simp [go_sem]⟩
end Go.Proofs.Ytnboegeljaplbaa
