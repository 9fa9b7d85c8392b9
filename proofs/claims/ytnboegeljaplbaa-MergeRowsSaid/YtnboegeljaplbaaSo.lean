/- Factors that stand in cells of their own; layer 10's own examples, walked. Layer 10's own examples, walked. -/
import Derived.Test.YtnboegeljaplbaaSk
import Derived.Test.YtnboegeljaplbaaSm
import Derived.Deep.CutRange
namespace Go.Proofs.Ytnboegeljaplbaa
open Go.RowKit Lv Go.Shelf
open Ieee (double Format Datum Toward)
attribute [local go_sem] Oper.semAt_some run_store_float drewN_alloc drewN_setCell

/-- a factor that stands in a block of its own -/
def FacAt (W : World) (b : Nat) (F : FacD) : Prop := ∃ a n cap, Cells4 W b (.int .i64 F.cols) (.slice a n cap) (.int .i64 F.rws) (.int .i64 F.trn) ∧ Row W (.slice a n cap) F.xs
theorem FacAt.below {W W' : World} {b : Nat} {F : FacD} (h : FacAt W b F) (hb : Below W.heap.size W W') : FacAt W' b F := by
  obtain ⟨a, n, cap, h1, h2⟩ := h
  exact ⟨a, n, cap, h1.below hb, h2.below hb⟩
theorem FacAt.new {W : World} {a : Option Addr} {n cap : Nat} {F : FacD} (h : Row W (.slice a n cap) F.xs) : FacAt (W.alloc (.cells #[.int .i64 F.cols, .slice a n cap, .int .i64 F.rws, .int .i64 F.trn] 24)) W.heap.size F :=
  ⟨a, n, cap, Cells4.new W _ _ _ _ _, h.alloc _⟩
theorem FacAt.new' {W : World} {a : Option Addr} {n cap b : Nat} {F : FacD} (h : Row W (.slice a n cap) F.xs) (hb : b = W.heap.size) : FacAt (W.alloc (.cells #[.int .i64 F.cols, .slice a n cap, .int .i64 F.rws, .int .i64 F.trn] 24)) b F := by
  subst hb; exact FacAt.new h
theorem fw_lit (b : Nat) (h : W64 b) (hn : nan b = false) : FW b (some b) := ⟨h, ab_num hn⟩
theorem row_lits (W : World) (l : List Nat) (h : (l.all fun x => decide (x < 18446744073709551616) && !nan x) = true) (n : Nat) (hn : l.length = n) (hm : n ≤ 1000) : Row (W.alloc (.cells (l.map (Value.float .f64)).toArray 25)) (.slice (some ⟨W.heap.size, 0, none⟩) n n) (l.map some) := by
  subst hn
  refine ⟨_, _, by rw [List.length_map], by rw [List.length_map]; exact Nat.le_refl _, by unfold maxLen; omega, .inr ⟨W.heap.size, 0, rfl, fun i hi => ?_⟩⟩
  rw [List.length_map] at hi
  refine ⟨l[i], ?_, ?_⟩
  · rw [Nat.zero_add]
    simp [go_sem, hi]
  · have := List.all_eq_true.1 h l[i] (List.getElem_mem hi)
    rw [Bool.and_eq_true, Bool.not_eq_true'] at this
    rw [List.getD_eq_getElem?_getD, List.getElem?_map, List.getElem?_eq_getElem hi]
    exact fw_lit _ (by have h2 := of_decide_eq_true this.1; unfold W64; exact h2) this.2

theorem rws_two (W : World) (x y z : Nat) (hx : FW x (some x)) (hy : FW y (some y)) (hz : FW z (some z)) :
    Rws ((W.alloc (.cells #[.float .f64 x] 25)).alloc (.cells #[.slice (some ⟨W.heap.size, 0, none⟩) 1 1, .float .f64 y, .slice none 0 0, .float .f64 z] 27)) (.slice (some ⟨W.heap.size + 1, 0, none⟩) 2 2) [([some x], some y), ([], some z)] := by
  refine ⟨_, _, rfl, Nat.le_refl _, by unfold maxLen; simp, .inr ⟨W.heap.size + 1, 0, rfl, fun i hi => ?_⟩⟩
  have hr := (row_one W x hx).alloc (.cells #[.slice (some ⟨W.heap.size, 0, none⟩) 1 1, .float .f64 y, .slice none 0 0, .float .f64 z] 27)
  match i, hi with
  | 0, _ => exact ⟨_, _, _, y, by simp [go_sem], by simp [go_sem], hr, hy⟩
  | 1, _ => exact ⟨_, _, _, z, by simp [go_sem], by simp [go_sem], row_nil _, hz⟩
theorem row_three {W : World} {a : Option Addr} {n cap x y z : Nat} (h : Row W (.slice a n cap) [some x, some y, some z]) :
    ∃ blk off, a = some ⟨blk, off, none⟩ ∧ n = 3 ∧ W.cell? ⟨blk, off, none⟩ = some (.float .f64 x) ∧ W.cell? ⟨blk, off + 1, none⟩ = some (.float .f64 y) ∧ W.cell? ⟨blk, off + 2, none⟩ = some (.float .f64 z) := by
  have hn := h.len
  simp at hn
  subst hn
  obtain ⟨blk, off, rfl, hc⟩ := row_cell h (by omega)
  obtain ⟨p, hp1, hp2⟩ := hc 0 (by omega)
  obtain ⟨q, hq1, hq2⟩ := hc 1 (by omega)
  obtain ⟨r, hr1, hr2⟩ := hc 2 (by omega)
  obtain ⟨rfl, _⟩ := ab_some hp2.2
  obtain ⟨rfl, _⟩ := ab_some hq2.2
  obtain ⟨rfl, _⟩ := ab_some hr2.2
  exact ⟨blk, off, rfl, rfl, hp1, hq1, hr1⟩

/-- the factor of one column that has no row -/
abbrev F0 : FacD := ⟨1, [some 0, some 0, some 0], 0, 0⟩
abbrev Fg : FacD := ⟨1, [some 4613937818241073152, some 13830554455654793216, some 0], 1, 2⟩
abbrev Fh : FacD := ⟨1, [some 4617315517961601024, some 4607182418800017408, some 4611686018427387904], 2, 4⟩
abbrev Fk : FacD := ⟨1, [some 4613937818241073152, some 0, some 0], 1, 2⟩
abbrev Fr : FacD := ⟨1, [some 4611686018427387904, some 0, some 0], 0, 2⟩
theorem live_g : rowD F0 [some 13837309855095848960] (some 4607182418800017408) = (Fg, 0) := by decide +kernel
theorem live_h : rowD Fg [some 4616189618054758400] (some 4611686018427387904) = (Fh, 0) := by decide +kernel
theorem live_c : rowD F0 [] (some 0) = (fac0, 3) := by decide +kernel
theorem live_d : rowD F0 [some 9218868437227405312] (some 0) = (fac0, 2) := by decide +kernel
theorem live_k : allD F0 [([some 4613937818241073152], some 0), ([], some 0)] = (Fk, 1, 3) := by decide +kernel
theorem live_r : ridgeD F0 (some 4611686018427387904) = (Fr, 0) := by decide +kernel
theorem live_y : ridgeD F0 (some 13830554455654793216) = (fac0, 2) := by decide +kernel
theorem live_z : lineD F0 [some 4607182418800017408, some 4611686018427387904] 2 = (fac0, false) := by decide +kernel
end Go.Proofs.Ytnboegeljaplbaa
namespace Go.Proofs.Ytnboegeljaplbaa
open Go.RowKit Lv Go.Shelf
open Ieee (double Format Datum Toward)
attribute [local go_sem] Oper.semAt_some run_store_float drewN_alloc drewN_setCell

attribute [local go_sem] run_bits run_frombits in

theorem inf_calls (w : World) : Calls Try.prog 30 #[.int .i64 1] w fun e w' => e = .returned (.float .f64 9218868437227405312) ∧ w = w' := by
  go_enter Try.func30, Try.ntmps30
  go_wp2
  go_ret
  exact ⟨rfl, rfl⟩

set_option maxRecDepth 100000 in
set_option maxHeartbeats 4000000 in
theorem live10_calls (w : World) : Calls Try.prog 10 #[] w fun e w' => e = .returned (.bool true) ∧ Below w.heap.size w w' := by
  go_enter Try.func10, Try.ntmps10
  go_upto_region 1 with (fail)
  go_cut [1] from 19 to 20 (fun s1 wx => ∃ b1 : Nat, s1 = .pointer (some ⟨b1, 0, none⟩) ∧ FacAt wx b1 F0 ∧ Below w.heap.size w wx)
  case first =>
    go_wp2
    go_meet
    case rel => exact ⟨_, rfl, FacAt.new' (F := F0) (row_lits w [0, 0, 0] (by decide) 3 rfl (by decide)) (by simp), ((Below.refl _ _).alloc (Nat.le_refl _) _).alloc (by simp) _⟩
  case rest =>
    obtain ⟨b1, rfl, F1, B1⟩ := hcut
    obtain ⟨W1, rfl⟩ : ∃ x, x = wc := ⟨_, rfl⟩
    go_upto_region 2 with (fail)
    go_cut [2, 3] from 21 to 27 (fun s2 s3 wx => ∃ b2 : Nat, s2 = .pointer (some ⟨b2, 0, none⟩) ∧ s3 = .int .i64 0 ∧ FacAt wx b2 Fg ∧ Below W1.heap.size W1 wx)
    case first =>
      obtain ⟨fa, fn, fc, fC, fR⟩ := F1
      obtain ⟨c0, c1, c2, c3, _, _, _, _⟩ := fC
      have FR := Lib.hid fR
      have hsz := cell_lt c0
      clear fR
      dsimp only at c0 c1 c2 c3
      go_wp2_with (go_at_call 11; go_must (refine (arow_calls F0 fa _ fn fc 1 1 _ [some 13837309855095848960] (Y := some 4607182418800017408) _ (FR.out.alloc _) (row_lits _ [13837309855095848960] (by decide) 1 rfl (by decide)) (fw_lit 4607182418800017408 (by unfold W64; decide) (by decide))).mono ?_; rintro e wL ⟨⟨ga, gn, gcp, he, hrow⟩, hbL⟩; rw [live_g] at he hrow; dsimp only at he hrow; subst he))
      go_meet
      case rel => exact ⟨_, rfl, rfl, FacAt.new (F := Fg) hrow, (((Below.refl _ _).alloc (Nat.le_refl _) _).trans (hbL.mono (by simp))).alloc (by have := hbL.size; simp at this; omega) _⟩
    case rest =>
      obtain ⟨b2, rfl, rfl, F2, B2⟩ := hcut
      obtain ⟨W2, rfl⟩ : ∃ x, x = wc := ⟨_, rfl⟩
      have F1 := F1.below B2
      go_upto_region 3 with (fail)
      go_cut [4, 5] from 28 to 34 (fun s4 s5 wx => ∃ b4 : Nat, s4 = .pointer (some ⟨b4, 0, none⟩) ∧ s5 = .int .i64 0 ∧ FacAt wx b4 Fh ∧ Below W2.heap.size W2 wx)
      case first =>
        obtain ⟨fa, fn, fc, fC, fR⟩ := F2
        obtain ⟨c0, c1, c2, c3, _, _, _, _⟩ := fC
        have FR := Lib.hid fR
        have hsz := cell_lt c0
        clear fR
        dsimp only at c0 c1 c2 c3
        go_wp2_with (go_at_call 11; go_must (refine (arow_calls Fg fa _ fn fc 1 1 _ [some 4616189618054758400] (Y := some 4611686018427387904) _ (FR.out.alloc _) (row_lits _ [4616189618054758400] (by decide) 1 rfl (by decide)) (fw_lit 4611686018427387904 (by unfold W64; decide) (by decide))).mono ?_; rintro e wL ⟨⟨ga, gn, gcp, he, hrow⟩, hbL⟩; rw [live_h] at he hrow; dsimp only at he hrow; subst he))
        go_meet
        case rel => exact ⟨_, rfl, rfl, FacAt.new (F := Fh) hrow, (((Below.refl _ _).alloc (Nat.le_refl _) _).trans (hbL.mono (by simp))).alloc (by have := hbL.size; simp at this; omega) _⟩
      case rest =>
        obtain ⟨b4, rfl, rfl, F4, B4⟩ := hcut
        obtain ⟨W4, rfl⟩ : ∃ x, x = wc := ⟨_, rfl⟩
        have F1 := F1.below B4
        have F2 := F2.below B4
        go_upto_region 4 with (fail)
        go_cut [6, 7] from 35 to 40 (fun s6 s7 wx => ∃ b6 : Nat, s6 = .pointer (some ⟨b6, 0, none⟩) ∧ s7 = .int .i64 3 ∧ FacAt wx b6 fac0 ∧ Below W4.heap.size W4 wx)
        case first =>
          obtain ⟨fa, fn, fc, fC, fR⟩ := F1
          obtain ⟨c0, c1, c2, c3, _, _, _, _⟩ := fC
          have FR := Lib.hid fR
          have hsz := cell_lt c0
          clear fR
          dsimp only at c0 c1 c2 c3
          go_wp2_with (go_at_call 11; go_must (refine (arow_calls F0 fa _ fn fc 0 0 _ [] (Y := some 0) _ FR.out (row_nil _) (fw_lit 0 (by unfold W64; decide) (by decide))).mono ?_; rintro e wL ⟨⟨ga, gn, gcp, he, hrow⟩, hbL⟩; rw [live_c] at he hrow; dsimp only at he hrow; subst he))
          go_meet
          case rel => exact ⟨_, rfl, rfl, FacAt.new (F := fac0) hrow, hbL.alloc hbL.size _⟩
        case rest =>
          obtain ⟨b6, rfl, rfl, F6, B6⟩ := hcut
          obtain ⟨W6, rfl⟩ : ∃ x, x = wc := ⟨_, rfl⟩
          have F1 := F1.below B6
          have F2 := F2.below B6
          have F4 := F4.below B6
          go_upto_region 5 with (fail)
          go_cut [8, 9] from 41 to 48 (fun s8 s9 wx => ∃ b8 : Nat, s8 = .pointer (some ⟨b8, 0, none⟩) ∧ s9 = .int .i64 2 ∧ FacAt wx b8 fac0 ∧ Below W6.heap.size W6 wx)
          case first =>
            rename_i J K' hJ hK'
            obtain ⟨fa, fn, fc, fC, fR⟩ := F1
            obtain ⟨c0, c1, c2, c3, _, _, _, _⟩ := fC
            have FR := Lib.hid fR
            have hsz := cell_lt c0
            clear fR F2 F4 F6
            dsimp only at c0 c1 c2 c3
            have rA : Row ((W6.alloc (.cells #[.int .i64 0, .slice none 0 0, .int .i64 0, .int .i64 0] 24)).alloc (.cells #[.float .f64 9218868437227405312] 25)).drew (.slice (some ⟨W6.heap.size + 1, 0, none⟩) 1 1) [some 9218868437227405312] := by have := (row_one (W6.alloc (.cells #[.int .i64 0, .slice none 0 0, .int .i64 0, .int .i64 0] 24)) 9218868437227405312 (fw_lit 9218868437227405312 (by unfold W64; decide) (by decide))).below (Below.refl _ _).drew; simpa using this
            have rB : Row ((W6.alloc (.cells #[.float .f64 9218868437227405312] 25)).alloc (.cells #[.int .i64 0, .slice none 0 0, .int .i64 0, .int .i64 0] 24)).drew (.slice (some ⟨W6.heap.size, 0, none⟩) 1 1) [some 9218868437227405312] := ((row_one W6 9218868437227405312 (fw_lit 9218868437227405312 (by unfold W64; decide) (by decide))).alloc _).below (Below.refl _ _).drew
            have rC : Row (W6.alloc (.cells #[.float .f64 9218868437227405312] 25)).drew (.slice (some ⟨W6.heap.size, 0, none⟩) 1 1) [some 9218868437227405312] := (row_one W6 9218868437227405312 (fw_lit 9218868437227405312 (by unfold W64; decide) (by decide))).below (Below.refl _ _).drew
            have bA : Below W6.heap.size W6 ((W6.alloc (.cells #[.int .i64 0, .slice none 0 0, .int .i64 0, .int .i64 0] 24)).alloc (.cells #[.float .f64 9218868437227405312] 25)).drew := (((Below.refl W6.heap.size W6).alloc (Nat.le_refl _) _).alloc (by simp) _).drew
            have bB : Below W6.heap.size W6 ((W6.alloc (.cells #[.float .f64 9218868437227405312] 25)).alloc (.cells #[.int .i64 0, .slice none 0 0, .int .i64 0, .int .i64 0] 24)).drew := (((Below.refl W6.heap.size W6).alloc (Nat.le_refl _) _).alloc (by simp) _).drew
            have bC : Below W6.heap.size W6 (W6.alloc (.cells #[.float .f64 9218868437227405312] 25)).drew := ((Below.refl W6.heap.size W6).alloc (Nat.le_refl _) _).drew
            have bD : Below W6.heap.size W6 (W6.alloc (.cells #[.int .i64 0, .slice none 0 0, .int .i64 0, .int .i64 0] 24)).drew := ((Below.refl W6.heap.size W6).alloc (Nat.le_refl _) _).drew
            have bE : Below W6.heap.size W6 W6.drew := (Below.refl W6.heap.size W6).drew
            have zA : Cells4 ((W6.alloc (.cells #[.int .i64 0, .slice none 0 0, .int .i64 0, .int .i64 0] 24)).alloc (.cells #[.float .f64 9218868437227405312] 25)).drew W6.heap.size (.int .i64 0) (.slice none 0 0) (.int .i64 0) (.int .i64 0) := ((Cells4.new W6 _ _ _ _ 24).alloc _).below (Below.refl _ _).drew
            have zB : Cells4 ((W6.alloc (.cells #[.float .f64 9218868437227405312] 25)).alloc (.cells #[.int .i64 0, .slice none 0 0, .int .i64 0, .int .i64 0] 24)).drew (W6.heap.size + 1) (.int .i64 0) (.slice none 0 0) (.int .i64 0) (.int .i64 0) := by have := (Cells4.new (W6.alloc (.cells #[.float .f64 9218868437227405312] 25)) (.int .i64 0) (.slice none 0 0) (.int .i64 0) (.int .i64 0) 24).below (Below.refl _ _).drew; simpa using this
            have HrA := Lib.hid rA
            have HrB := Lib.hid rB
            have HrC := Lib.hid rC
            have HbA := Lib.hid bA
            have HbB := Lib.hid bB
            have HbC := Lib.hid bC
            have HbD := Lib.hid bD
            have HbE := Lib.hid bE
            have HzA := Lib.hid zA
            have HzB := Lib.hid zB
            clear rA rB rC bA bB bC bD bE zA zB
            go_region_held3 (fun w' => w'.cell? ⟨b1, 0, none⟩ = some (.int .i64 1) ∧ w'.cell? ⟨b1, 1, none⟩ = some (.slice fa fn fc) ∧ w'.cell? ⟨b1, 2, none⟩ = some (.int .i64 0) ∧ w'.cell? ⟨b1, 3, none⟩ = some (.int .i64 0))
              (first
                | with_reducible exact ⟨((BL.out).cell (p := ⟨b1, 0, none⟩) hsz).trans c0, ((BL.out).cell (p := ⟨b1, 1, none⟩) hsz).trans c1, ((BL.out).cell (p := ⟨b1, 2, none⟩) hsz).trans c2, ((BL.out).cell (p := ⟨b1, 3, none⟩) hsz).trans c3⟩
                | with_reducible exact ⟨((BL.out.alloc BL.out.size _).cell (p := ⟨b1, 0, none⟩) hsz).trans c0, ((BL.out.alloc BL.out.size _).cell (p := ⟨b1, 1, none⟩) hsz).trans c1, ((BL.out.alloc BL.out.size _).cell (p := ⟨b1, 2, none⟩) hsz).trans c2, ((BL.out.alloc BL.out.size _).cell (p := ⟨b1, 3, none⟩) hsz).trans c3⟩
                | with_reducible exact ⟨((HbA.out).cell (p := ⟨b1, 0, none⟩) hsz).trans c0, ((HbA.out).cell (p := ⟨b1, 1, none⟩) hsz).trans c1, ((HbA.out).cell (p := ⟨b1, 2, none⟩) hsz).trans c2, ((HbA.out).cell (p := ⟨b1, 3, none⟩) hsz).trans c3⟩
                | with_reducible exact ⟨((HbB.out).cell (p := ⟨b1, 0, none⟩) hsz).trans c0, ((HbB.out).cell (p := ⟨b1, 1, none⟩) hsz).trans c1, ((HbB.out).cell (p := ⟨b1, 2, none⟩) hsz).trans c2, ((HbB.out).cell (p := ⟨b1, 3, none⟩) hsz).trans c3⟩
                | with_reducible exact ⟨((HbC.out).cell (p := ⟨b1, 0, none⟩) hsz).trans c0, ((HbC.out).cell (p := ⟨b1, 1, none⟩) hsz).trans c1, ((HbC.out).cell (p := ⟨b1, 2, none⟩) hsz).trans c2, ((HbC.out).cell (p := ⟨b1, 3, none⟩) hsz).trans c3⟩
                | with_reducible exact ⟨((HbD.out).cell (p := ⟨b1, 0, none⟩) hsz).trans c0, ((HbD.out).cell (p := ⟨b1, 1, none⟩) hsz).trans c1, ((HbD.out).cell (p := ⟨b1, 2, none⟩) hsz).trans c2, ((HbD.out).cell (p := ⟨b1, 3, none⟩) hsz).trans c3⟩
                | with_reducible exact ⟨((HbE.out).cell (p := ⟨b1, 0, none⟩) hsz).trans c0, ((HbE.out).cell (p := ⟨b1, 1, none⟩) hsz).trans c1, ((HbE.out).cell (p := ⟨b1, 2, none⟩) hsz).trans c2, ((HbE.out).cell (p := ⟨b1, 3, none⟩) hsz).trans c3⟩
                | with_reducible exact ⟨((below_put4 BL.out (Nat.le_refl _) _ _ _ _).cell (p := ⟨b1, 0, none⟩) hsz).trans c0, ((below_put4 BL.out (Nat.le_refl _) _ _ _ _).cell (p := ⟨b1, 1, none⟩) hsz).trans c1, ((below_put4 BL.out (Nat.le_refl _) _ _ _ _).cell (p := ⟨b1, 2, none⟩) hsz).trans c2, ((below_put4 BL.out (Nat.le_refl _) _ _ _ _).cell (p := ⟨b1, 3, none⟩) hsz).trans c3⟩
                | with_reducible exact ⟨((below_put4 BL.out (Nat.le_succ _) _ _ _ _).cell (p := ⟨b1, 0, none⟩) hsz).trans c0, ((below_put4 BL.out (Nat.le_succ _) _ _ _ _).cell (p := ⟨b1, 1, none⟩) hsz).trans c1, ((below_put4 BL.out (Nat.le_succ _) _ _ _ _).cell (p := ⟨b1, 2, none⟩) hsz).trans c2, ((below_put4 BL.out (Nat.le_succ _) _ _ _ _).cell (p := ⟨b1, 3, none⟩) hsz).trans c3⟩
                | go_keep)
              (first
                | (go_at_call 30; go_must (refine (inf_calls _).mono ?_; rintro e w' ⟨rfl, rfl⟩))
                | (go_at_call 11; go_must (refine (arow_calls F0 fa _ fn fc 1 1 _ [some 9218868437227405312] (Y := some 0) _ (FR.out.below (by first | with_reducible exact HbA.out | with_reducible exact HbB.out | with_reducible exact HbC.out)) (by first | with_reducible exact HrA.out | with_reducible exact HrB.out | with_reducible exact HrC.out) fw_zero).mono ?_; rintro e wL ⟨⟨ga, gn, gcp, he, hrow⟩, hbL⟩; rw [live_d] at he hrow; dsimp only at he hrow; subst he; have BL' : Below W6.heap.size W6 wL := (by first | with_reducible exact HbA.out.trans (hbL.mono (by simp; omega)) | with_reducible exact HbB.out.trans (hbL.mono (by simp; omega)) | with_reducible exact HbC.out.trans (hbL.mono (by simp))); have hszL := BL'.size; have hLb : b1 < wL.heap.size := (by omega); (first | ((with_reducible have yy := HzA.out.below hbL); have YL := Lib.hid yy; obtain ⟨y0, y1, y2, y3, yf0, yf1, yf2, yf3⟩ := yy) | ((with_reducible have yy := HzB.out.below hbL); have YL := Lib.hid yy; obtain ⟨y0, y1, y2, y3, yf0, yf1, yf2, yf3⟩ := yy) | (have YN : True := trivial)); have BL := Lib.hid BL'; have RL := Lib.hid hrow; clear BL' hrow hbL)))
            all_goals
              refine hK' _ _ (Met.intro (hJ _ _ ?_))
              (repeat apply Exists.intro)
              refine ⟨?_, rfl⟩
              (first
                | (refine ⟨wL.heap.size, rfl, rfl, ?_⟩; exact ⟨FacAt.new (F := fac0) RL.out, BL.out.alloc BL.out.size _⟩)
                | (refine ⟨W6.heap.size, rfl, rfl, ?_⟩; exact ⟨⟨ga, gn, gcp, YL.out.put _ _ _ _, RL.out.put4 YL.out slice_ne _ _ _ _⟩, below_put4 BL.out (Nat.le_refl _) _ _ _ _⟩)
                | (refine ⟨W6.heap.size + 1, rfl, rfl, ?_⟩; exact ⟨⟨ga, gn, gcp, YL.out.put _ _ _ _, RL.out.put4 YL.out slice_ne _ _ _ _⟩, below_put4 BL.out (Nat.le_succ _) _ _ _ _⟩))
          case rest =>
            obtain ⟨b8, rfl, rfl, F8, B8⟩ := hcut
            obtain ⟨W8, rfl⟩ : ∃ x, x = wc := ⟨_, rfl⟩
            have F1 := F1.below B8
            have F2 := F2.below B8
            have F4 := F4.below B8
            clear F6 F8
            go_upto_region 6 with (fail)
            go_cut [10, 11, 12] from 49 to 58 (fun s10 s11 s12 wx => ∃ b10 : Nat, s10 = .pointer (some ⟨b10, 0, none⟩) ∧ s11 = .int .i64 1 ∧ s12 = .int .i64 3 ∧ FacAt wx b10 Fk ∧ Below W8.heap.size W8 wx)
            case first =>
              obtain ⟨fa, fn, fc, fC, fR⟩ := F1
              obtain ⟨c0, c1, c2, c3, _, _, _, _⟩ := fC
              have FR := Lib.hid fR
              have hsz := cell_lt c0
              clear fR
              dsimp only at c0 c1 c2 c3
              go_wp2_with (go_at_call 21; go_must (refine (aall_calls F0 fa _ fn fc 2 2 [([some 4613937818241073152], some 0), ([], some 0)] _ ((FR.out.alloc _).alloc _) (rws_two W8 4613937818241073152 0 0 (fw_lit 4613937818241073152 (by unfold W64; decide) (by decide)) fw_zero fw_zero)).mono ?_; rintro e wL ⟨⟨ga, gn, gcp, he, hrow⟩, hbL⟩; rw [live_k] at he hrow; dsimp only at he hrow; subst he))
              go_meet
              case rel => exact ⟨_, rfl, rfl, rfl, FacAt.new (F := Fk) hrow, ((((Below.refl _ _).alloc (Nat.le_refl _) _).alloc (by simp) _).trans (hbL.mono (by simp; omega))).alloc (by have := hbL.size; simp at this; omega) _⟩
            case rest =>
              obtain ⟨b10, rfl, rfl, rfl, F10, B10⟩ := hcut
              obtain ⟨W10, rfl⟩ : ∃ x, x = wc := ⟨_, rfl⟩
              have F1 := F1.below B10
              have F2 := F2.below B10
              have F4 := F4.below B10
              go_upto_region 7 with (fail)
              go_cut [13, 14] from 59 to 63 (fun s13 s14 wx => ∃ b13 : Nat, s13 = .pointer (some ⟨b13, 0, none⟩) ∧ s14 = .int .i64 0 ∧ FacAt wx b13 Fr ∧ Below W10.heap.size W10 wx)
              case first =>
                obtain ⟨fa, fn, fc, fC, fR⟩ := F1
                obtain ⟨c0, c1, c2, c3, _, _, _, _⟩ := fC
                have FR := Lib.hid fR
                have hsz := cell_lt c0
                clear fR
                dsimp only at c0 c1 c2 c3
                go_wp2_with (go_at_call 31; go_must (refine (aridge_calls F0 fa fn fc 4611686018427387904 (mu := some 4611686018427387904) _ FR.out (fw_lit 4611686018427387904 (by unfold W64; decide) (by decide))).mono ?_; rintro e wL ⟨⟨ga, gn, gcp, he, hrow⟩, hbL⟩; rw [live_r] at he hrow; dsimp only at he hrow; subst he))
                go_meet
                case rel => exact ⟨_, rfl, rfl, FacAt.new (F := Fr) hrow, hbL.alloc hbL.size _⟩
              case rest =>
                obtain ⟨b13, rfl, rfl, F13, B13⟩ := hcut
                obtain ⟨W13, rfl⟩ : ∃ x, x = wc := ⟨_, rfl⟩
                have F1 := F1.below B13
                have F2 := F2.below B13
                have F4 := F4.below B13
                have F10 := F10.below B13
                go_upto_region 8 with (fail)
                go_cut [15, 16] from 64 to 68 (fun s15 s16 wx => ∃ b15 : Nat, s15 = .pointer (some ⟨b15, 0, none⟩) ∧ s16 = .int .i64 2 ∧ FacAt wx b15 fac0 ∧ Below W13.heap.size W13 wx)
                case first =>
                  obtain ⟨fa, fn, fc, fC, fR⟩ := F1
                  obtain ⟨c0, c1, c2, c3, _, _, _, _⟩ := fC
                  have FR := Lib.hid fR
                  have hsz := cell_lt c0
                  clear fR
                  dsimp only at c0 c1 c2 c3
                  go_wp2_with (go_at_call 31; go_must (refine (aridge_calls F0 fa fn fc 13830554455654793216 (mu := some 13830554455654793216) _ FR.out (fw_lit 13830554455654793216 (by unfold W64; decide) (by decide))).mono ?_; rintro e wL ⟨⟨ga, gn, gcp, he, hrow⟩, hbL⟩; rw [live_y] at he hrow; dsimp only at he hrow; subst he))
                  go_meet
                  case rel => exact ⟨_, rfl, rfl, FacAt.new (F := fac0) hrow, hbL.alloc hbL.size _⟩
                case rest =>
                  obtain ⟨b15, rfl, rfl, F15, B15⟩ := hcut
                  obtain ⟨W15, rfl⟩ : ∃ x, x = wc := ⟨_, rfl⟩
                  have F1 := F1.below B15
                  have F2 := F2.below B15
                  have F4 := F4.below B15
                  have F10 := F10.below B15
                  have F13 := F13.below B15
                  go_upto_region 9 with (fail)
                  go_cut [17, 18] from 69 to 74 (fun s17 s18 wx => ∃ b17 : Nat, s17 = .pointer (some ⟨b17, 0, none⟩) ∧ s18 = .bool false ∧ FacAt wx b17 fac0 ∧ Below W15.heap.size W15 wx)
                  case first =>
                    obtain ⟨fa, fn, fc, fC, fR⟩ := F1
                    obtain ⟨c0, c1, c2, c3, _, _, _, _⟩ := fC
                    have FR := Lib.hid fR
                    have hsz := cell_lt c0
                    clear fR
                    dsimp only at c0 c1 c2 c3
                    go_wp2_with (go_at_call 32; go_must (refine (ALine_calls F0 2 fa _ fn fc 2 2 [some 4607182418800017408, some 4611686018427387904] _ (FR.out.alloc _) (row_lits _ [4607182418800017408, 4611686018427387904] (by decide) 2 rfl (by decide))).mono ?_; rintro e wL ⟨⟨ga, gn, gcp, he, hrow⟩, hbL⟩; rw [live_z] at he hrow; dsimp only at he hrow; subst he))
                    go_meet
                    case rel => exact ⟨_, rfl, rfl, FacAt.new (F := fac0) hrow, (((Below.refl _ _).alloc (Nat.le_refl _) _).trans (hbL.mono (by simp))).alloc (by have := hbL.size; simp at this; omega) _⟩
                  case rest =>
                    obtain ⟨b17, rfl, rfl, F17, B17⟩ := hcut
                    obtain ⟨W17, rfl⟩ : ∃ x, x = wc := ⟨_, rfl⟩
                    have F2 := F2.below B17
                    have F4 := F4.below B17
                    have F10 := F10.below B17
                    have F13 := F13.below B17
                    have HB := Lib.hid ((((((((B1.trans (B2.mono B1.size)).trans (B4.mono (by have := B1.size; have := B2.size; omega))).trans (B6.mono (by have := B1.size; have := B2.size; have := B4.size; omega))).trans (B8.mono (by have := B1.size; have := B2.size; have := B4.size; have := B6.size; omega))).trans (B10.mono (by have := B1.size; have := B2.size; have := B4.size; have := B6.size; have := B8.size; omega))).trans (B13.mono (by have := B1.size; have := B2.size; have := B4.size; have := B6.size; have := B8.size; have := B10.size; omega))).trans (B15.mono (by have := B1.size; have := B2.size; have := B4.size; have := B6.size; have := B8.size; have := B10.size; have := B13.size; omega))).trans (B17.mono (by have := B1.size; have := B2.size; have := B4.size; have := B6.size; have := B8.size; have := B10.size; have := B13.size; have := B15.size; omega)))
                    clear F1 F15 F17 B1 B2 B4 B6 B8 B10 B13 B15 B17
                    obtain ⟨ga, gn, gc, gC, gR⟩ := F2
                    obtain ⟨g0, g1, g2, g3, _, _, _, _⟩ := gC
                    obtain ⟨gb, go, rfl, rfl, gx, gy, gz⟩ := row_three gR
                    obtain ⟨ha, hn, hc, hC, hR⟩ := F4
                    obtain ⟨h0, h1, h2, h3, _, _, _, _⟩ := hC
                    obtain ⟨hb, ho, rfl, rfl, hx, hy, hz⟩ := row_three hR
                    obtain ⟨ka, kn, kc, kC, kR⟩ := F10
                    obtain ⟨k0, k1, k2, k3, _, _, _, _⟩ := kC
                    obtain ⟨kb, ko, rfl, rfl, kx, ky, kz⟩ := row_three kR
                    obtain ⟨ra, rn, rc, rC, rR⟩ := F13
                    obtain ⟨r0, r1, r2, r3, _, _, _, _⟩ := rC
                    obtain ⟨rb, ro, rfl, rfl, rx, ry, rz⟩ := row_three rR
                    dsimp only at g0 g1 g2 g3 h0 h1 h2 h3 k0 k1 k2 k3 r0 r1 r2 r3
                    clear gR hR kR rR
                    go_wp2
                    go_ret
                    exact ⟨rfl, HB.out⟩
end Go.Proofs.Ytnboegeljaplbaa
