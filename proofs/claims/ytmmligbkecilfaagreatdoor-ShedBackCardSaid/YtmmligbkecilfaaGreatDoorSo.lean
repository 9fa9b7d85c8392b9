/- Factors that stand in cells of their own; layer 10's own examples, walked. Layer 10's own examples, walked. -/
import Derived.Test.YtmmligbkecilfaaGreatDoorSk
import Derived.Test.YtmmligbkecilfaaGreatDoorSm
import Derived.Deep.CutRange
namespace Go.Proofs.YtmmligbkecilfaaGreatDoor
open Go.RowKit Lv Go.Shelf
open Ieee (double Format Datum Toward)
attribute [local go_sem] Oper.semAt_some run_store_float drewN_alloc drewN_setCell

/-- a factor that stands in a block of its own -/
def FacAt (W : World) (b : Nat) (F : FacD) : Prop := ∃ a n cap, Cells4 W b (.int .i64 F.cols) (.slice a n cap) (.int .i64 F.rws) (.int .i64 F.trn) ∧ Row W (.slice a n cap) F.xs
theorem FacAt.below {W W' : World} {b : Nat} {F : FacD} (h : FacAt W b F) (hb : Below W.heap.size W W') : FacAt W' b F := by
  obtain ⟨a, n, cap, h1, h2⟩ := h
  exact ⟨a, n, cap, h1.below hb, h2.below hb⟩
theorem FacAt.new {W : World} {a : Option Addr} {n cap : Nat} {F : FacD} (h : Row W (.slice a n cap) F.xs) : FacAt (W.alloc (.cells #[.int .i64 F.cols, .slice a n cap, .int .i64 F.rws, .int .i64 F.trn] 24)) W.heap.size F :=
  ⟨a, n, cap, Cells4.new W _ _ _ _ _, h.alloc _⟩
theorem FacAt.new' {W : World} {a : Option Addr} {n cap b : Nat} {F : FacD} (h : Row W (.slice a n cap) F.xs) (hb : b = W.heap.size) : FacAt (W.alloc (.cells #[.int .i64 F.cols, .slice a n cap, .int .i64 F.rws, .int .i64 F.trn] 24)) b F := by
  subst hb; exact FacAt.new h
theorem fw_lit (b : Nat) (h : W64 b) (hn : nan b = false) : FW b (some b) := ⟨h, ab_num hn⟩
theorem row_lits (W : World) (l : List Nat) (h : (l.all fun x => decide (x < 18446744073709551616) && !nan x) = true) (n : Nat) (hn : l.length = n) (hm : n ≤ 1000) : Row (W.alloc (.cells (l.map (Value.float .f64)).toArray 25)) (.slice (some ⟨W.heap.size, 0, none⟩) n n) (l.map some) := by
  subst hn
  refine ⟨_, _, by rw [List.length_map], by rw [List.length_map]; exact Nat.le_refl _, by unfold maxLen; omega, .inr ⟨W.heap.size, 0, rfl, fun i hi => ?_⟩⟩
  rw [List.length_map] at hi
  refine ⟨l[i], ?_, ?_⟩
  · rw [Nat.zero_add]
    simp [go_sem, hi]
  · have := List.all_eq_true.1 h l[i] (List.getElem_mem hi)
    rw [Bool.and_eq_true, Bool.not_eq_true'] at this
    rw [List.getD_eq_getElem?_getD, List.getElem?_map, List.getElem?_eq_getElem hi]
    exact fw_lit _ (by have h2 := of_decide_eq_true this.1; unfold W64; exact h2) this.2

theorem rws_two (W : World) (x y z : Nat) (hx : FW x (some x)) (hy : FW y (some y)) (hz : FW z (some z)) :
    Rws ((W.alloc (.cells #[.float .f64 x] 25)).alloc (.cells #[.slice (some ⟨W.heap.size, 0, none⟩) 1 1, .float .f64 y, .slice none 0 0, .float .f64 z] 27)) (.slice (some ⟨W.heap.size + 1, 0, none⟩) 2 2) [([some x], some y), ([], some z)] := by
  refine ⟨_, _, rfl, Nat.le_refl _, by unfold maxLen; simp, .inr ⟨W.heap.size + 1, 0, rfl, fun i hi => ?_⟩⟩
  have hr := (row_one W x hx).alloc (.cells #[.slice (some ⟨W.heap.size, 0, none⟩) 1 1, .float .f64 y, .slice none 0 0, .float .f64 z] 27)
  match i, hi with
  | 0, _ => exact ⟨_, _, _, y, by simp [go_sem], by simp [go_sem], hr, hy⟩
  | 1, _ => exact ⟨_, _, _, z, by simp [go_sem], by simp [go_sem], row_nil _, hz⟩
theorem row_three {W : World} {a : Option Addr} {n cap x y z : Nat} (h : Row W (.slice a n cap) [some x, some y, some z]) :
    ∃ blk off, a = some ⟨blk, off, none⟩ ∧ n = 3 ∧ W.cell? ⟨blk, off, none⟩ = some (.float .f64 x) ∧ W.cell? ⟨blk, off + 1, none⟩ = some (.float .f64 y) ∧ W.cell? ⟨blk, off + 2, none⟩ = some (.float .f64 z) := by
  have hn := h.len
  simp at hn
  subst hn
  obtain ⟨blk, off, rfl, hc⟩ := row_cell h (by omega)
  obtain ⟨p, hp1, hp2⟩ := hc 0 (by omega)
  obtain ⟨q, hq1, hq2⟩ := hc 1 (by omega)
  obtain ⟨r, hr1, hr2⟩ := hc 2 (by omega)
  obtain ⟨rfl, _⟩ := ab_some hp2.2
  obtain ⟨rfl, _⟩ := ab_some hq2.2
  obtain ⟨rfl, _⟩ := ab_some hr2.2
  exact ⟨blk, off, rfl, rfl, hp1, hq1, hr1⟩

/-- the factor of one column that has no row -/
abbrev F0 : FacD := ⟨1, [some 0, some 0, some 0], 0, 0⟩
abbrev Fg : FacD := ⟨1, [some 4613937818241073152, some 13830554455654793216, some 0], 1, 2⟩
abbrev Fh : FacD := ⟨1, [some 4617315517961601024, some 4607182418800017408, some 4611686018427387904], 2, 4⟩
abbrev Fk : FacD := ⟨1, [some 4613937818241073152, some 0, some 0], 1, 2⟩
abbrev Fr : FacD := ⟨1, [some 4611686018427387904, some 0, some 0], 0, 2⟩
theorem live_g : rowD F0 [some 13837309855095848960] (some 4607182418800017408) = (Fg, 0) := by decide +kernel
theorem live_h : rowD Fg [some 4616189618054758400] (some 4611686018427387904) = (Fh, 0) := by decide +kernel
theorem live_c : rowD F0 [] (some 0) = (fac0, 3) := by decide +kernel
theorem live_d : rowD F0 [some 9218868437227405312] (some 0) = (fac0, 2) := by decide +kernel
theorem live_k : allD F0 [([some 4613937818241073152], some 0), ([], some 0)] = (Fk, 1, 3) := by decide +kernel
theorem live_r : ridgeD F0 (some 4611686018427387904) = (Fr, 0) := by decide +kernel
theorem live_y : ridgeD F0 (some 13830554455654793216) = (fac0, 2) := by decide +kernel
theorem live_z : lineD F0 [some 4607182418800017408, some 4611686018427387904] 2 = (fac0, false) := by decide +kernel
end Go.Proofs.YtmmligbkecilfaaGreatDoor
namespace Go.Proofs.YtmmligbkecilfaaGreatDoor
open Go.RowKit Lv Go.Shelf
open Ieee (double Format Datum Toward)
attribute [local go_sem] Oper.semAt_some run_store_float drewN_alloc drewN_setCell

attribute [local go_sem] run_bits run_frombits in

theorem inf_calls (w : World) : Calls Tryz.prog 105 #[.int .i64 1] w fun e w' => e = .returned (.float .f64 9218868437227405312) ∧ w = w' := by
  go_enter Tryz.func105, Tryz.ntmps105
  go_wp2
  go_ret
  exact ⟨rfl, rfl⟩

end Go.Proofs.YtmmligbkecilfaaGreatDoor
