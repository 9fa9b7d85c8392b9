/- Layer 13's own examples, walked. -/
import Derived.Test.YtnboegeljaplbaaSo
import Derived.Test.YtnboegeljaplbaaMh
namespace Go.Proofs.Ytnboegeljaplbaa
open Go.RowKit Lv Go.Shelf
open Ieee (double Format Datum Toward)
attribute [local go_sem] Oper.semAt_some run_store_float drewN_alloc drewN_setCell

abbrev Ga : FacD := ⟨1, [some 4613937818241073152, some 13830554455654793216, some 0], 1, 2⟩
abbrev Gb : FacD := ⟨1, [some 4616189618054758400, some 4611686018427387904, some 0], 1, 5⟩
abbrev Gm : FacD := ⟨1, [some 4617315517961601024, some 4607182418800017408, some 4611686018427387904], 2, 8⟩
abbrev Ge : FacD := ⟨2, [some 0, some 0, some 0, some 0, some 0, some 0], 0, 0⟩
theorem live_m : twoD Ga Gb = (Gm, 0) := by decide +kernel
theorem live_e : twoD Ga Ge = (fac0, 3) := by decide +kernel
theorem live_n : mallD [] = (fac0, 4) := by decide +kernel
theorem live_o : mallD [Gb] = (Gb, 0) := by decide +kernel
theorem live_f : twoD Ga fac0 = (fac0, 1) := by decide +kernel
theorem fcs_nil (W : World) : Fcs W (.slice none 0 0) [] := ⟨none, 0, rfl, Nat.le_refl _, by unfold maxLen; simp, .inl rfl⟩
theorem fcs_one (W : World) (F : FacD) {a : Option Addr} {n cap : Nat} (h : Row W (.slice a n cap) F.xs) :
    Fcs (W.alloc (.cells #[.int .i64 F.cols, .slice a n cap, .int .i64 F.rws, .int .i64 F.trn] 24)) (.slice (some ⟨W.heap.size, 0, none⟩) 1 1) [F] := by
  refine ⟨_, _, rfl, Nat.le_refl _, by unfold maxLen; simp, .inr ⟨W.heap.size, 0, rfl, fun i hi => ?_⟩⟩
  match i, hi with
  | 0, _ => exact ⟨_, _, _, by simp [go_sem], by simp [go_sem], by simp [go_sem], by simp [go_sem], h.alloc _⟩

set_option maxRecDepth 100000 in
set_option maxHeartbeats 4000000 in
theorem live13_calls (w : World) : Calls Try.prog 16 #[] w fun e w' => e = .returned (.bool true) ∧ Below w.heap.size w w' := by
  obtain ⟨i0, hin, hiz0, hiz1, hiz2⟩ := info_parts infoF
  have hmk := fun W => run_make (P := Try.prog) W 22 25 i0 _ Try.underlying22 hin hiz0 .i64 .i64 6 6 (by omega) (by omega) (by rw [hiz2]; omega) (by omega)
  rw [show ((6 : Int)).toNat = 6 from rfl, hiz1, Nat.mul_one] at hmk
  clear hin hiz0 hiz1 hiz2
  have hsz2 : sizeI 2 = 6 := by decide
  go_enter Try.func16, Try.ntmps16
  go_upto_region 1 with (fail)
  go_cut [1] from 13 to 14 (fun s1 wx => ∃ b1 : Nat, s1 = .pointer (some ⟨b1, 0, none⟩) ∧ FacAt wx b1 Ga ∧ Below w.heap.size w wx)
  case first =>
    go_wp2
    go_meet
    case rel => exact ⟨_, rfl, FacAt.new' (F := Ga) (row_lits w [4613937818241073152, 13830554455654793216, 0] (by decide) 3 rfl (by decide)) (by simp), ((Below.refl _ _).alloc (Nat.le_refl _) _).alloc (by simp) _⟩
  case rest =>
    obtain ⟨b1, rfl, F1, B1⟩ := hcut
    obtain ⟨W1, rfl⟩ : ∃ x, x = wc := ⟨_, rfl⟩
    go_upto_region 2 with (fail)
    go_cut [2] from 15 to 16 (fun s2 wx => ∃ b2 : Nat, s2 = .pointer (some ⟨b2, 0, none⟩) ∧ FacAt wx b2 Gb ∧ Below W1.heap.size W1 wx)
    case first =>
      go_wp2
      go_meet
      case rel => exact ⟨_, rfl, FacAt.new' (F := Gb) (row_lits W1 [4616189618054758400, 4611686018427387904, 0] (by decide) 3 rfl (by decide)) (by simp), ((Below.refl _ _).alloc (Nat.le_refl _) _).alloc (by simp) _⟩
    case rest =>
      obtain ⟨b2, rfl, F2, B2⟩ := hcut
      obtain ⟨W2, rfl⟩ : ∃ x, x = wc := ⟨_, rfl⟩
      have F1 := F1.below B2
      go_upto_region 3 with (fail)
      go_cut [3, 4] from 17 to 22 (fun s3 s4 wx => ∃ b3 : Nat, s3 = .pointer (some ⟨b3, 0, none⟩) ∧ s4 = .int .i64 0 ∧ FacAt wx b3 Gm ∧ Below W2.heap.size W2 wx)
      case first =>
        obtain ⟨fa, fn, fc, fC, fR⟩ := F1
        obtain ⟨c0, c1, c2, c3, _, _, _, _⟩ := fC
        have FR := Lib.hid fR
        obtain ⟨ea, en, ec, eC, eR⟩ := F2
        obtain ⟨d0, d1, d2, d3, _, _, _, _⟩ := eC
        have ER := Lib.hid eR
        clear fR eR
        dsimp only at c0 c1 c2 c3 d0 d1 d2 d3
        go_wp2_with (go_at_call 17; go_must (refine (two_calls Ga Gb fa ea fn fc en ec _ FR.out ER.out).mono ?_; rintro e wL ⟨⟨ga, gn, gcp, he, hrow⟩, hbL⟩; rw [live_m] at he hrow; dsimp only at he hrow; subst he))
        go_meet
        case rel => exact ⟨_, rfl, rfl, FacAt.new (F := Gm) hrow, hbL.alloc hbL.size _⟩
      case rest =>
        obtain ⟨b3, rfl, rfl, F3, B3⟩ := hcut
        obtain ⟨W3, rfl⟩ : ∃ x, x = wc := ⟨_, rfl⟩
        have F1 := F1.below B3
        have F2 := F2.below B3
        go_upto_region 4 with (fail)
        go_cut [5, 6] from 23 to 29 (fun s5 s6 wx => ∃ b5 : Nat, s5 = .pointer (some ⟨b5, 0, none⟩) ∧ s6 = .int .i64 3 ∧ FacAt wx b5 fac0 ∧ Below W3.heap.size W3 wx)
        case first =>
          rename_i J K' hJ hK'
          obtain ⟨fa, fn, fc, fC, fR⟩ := F1
          obtain ⟨c0, c1, c2, c3, _, _, _, _⟩ := fC
          have FR := Lib.hid fR
          have hsz : b1 < W3.heap.size := cell_lt c0
          clear fR F2 F3
          dsimp only at c0 c1 c2 c3
          have rA : Row ((W3.alloc (.cells #[.int .i64 0, .slice none 0 0, .int .i64 0, .int .i64 0] 24)).alloc (.cells (madeCells #[.float .f64 0] 6) 25)).drew (.slice (some ⟨W3.heap.size + 1, 0, none⟩) 6 6) [some 0, some 0, some 0, some 0, some 0, some 0] := by have := (own_made (W3.alloc (.cells #[.int .i64 0, .slice none 0 0, .int .i64 0, .int .i64 0] 24)) W3.heap.size 5 (by simp) (by decide)).row.below (Below.refl _ _).drew; simpa using this
          have rB : Row ((W3.alloc (.cells (madeCells #[.float .f64 0] 6) 25)).alloc (.cells #[.int .i64 0, .slice none 0 0, .int .i64 0, .int .i64 0] 24)).drew (.slice (some ⟨W3.heap.size, 0, none⟩) 6 6) [some 0, some 0, some 0, some 0, some 0, some 0] := ((own_made W3 W3.heap.size 5 (Nat.le_refl _) (by decide)).row.alloc _).below (Below.refl _ _).drew
          have rC : Row (W3.alloc (.cells (madeCells #[.float .f64 0] 6) 25)).drew (.slice (some ⟨W3.heap.size, 0, none⟩) 6 6) [some 0, some 0, some 0, some 0, some 0, some 0] := (own_made W3 W3.heap.size 5 (Nat.le_refl _) (by decide)).row.below (Below.refl _ _).drew
          have bA : Below W3.heap.size W3 ((W3.alloc (.cells #[.int .i64 0, .slice none 0 0, .int .i64 0, .int .i64 0] 24)).alloc (.cells (madeCells #[.float .f64 0] 6) 25)).drew := (((Below.refl W3.heap.size W3).alloc (Nat.le_refl _) _).alloc (by simp) _).drew
          have bB : Below W3.heap.size W3 ((W3.alloc (.cells (madeCells #[.float .f64 0] 6) 25)).alloc (.cells #[.int .i64 0, .slice none 0 0, .int .i64 0, .int .i64 0] 24)).drew := (((Below.refl W3.heap.size W3).alloc (Nat.le_refl _) _).alloc (by simp) _).drew
          have bC : Below W3.heap.size W3 (W3.alloc (.cells (madeCells #[.float .f64 0] 6) 25)).drew := ((Below.refl W3.heap.size W3).alloc (Nat.le_refl _) _).drew
          have bD : Below W3.heap.size W3 (W3.alloc (.cells #[.int .i64 0, .slice none 0 0, .int .i64 0, .int .i64 0] 24)).drew := ((Below.refl W3.heap.size W3).alloc (Nat.le_refl _) _).drew
          have bE : Below W3.heap.size W3 W3.drew := (Below.refl W3.heap.size W3).drew
          have zA : Cells4 ((W3.alloc (.cells #[.int .i64 0, .slice none 0 0, .int .i64 0, .int .i64 0] 24)).alloc (.cells (madeCells #[.float .f64 0] 6) 25)).drew W3.heap.size (.int .i64 0) (.slice none 0 0) (.int .i64 0) (.int .i64 0) := ((Cells4.new W3 _ _ _ _ 24).alloc _).below (Below.refl _ _).drew
          have zB : Cells4 ((W3.alloc (.cells (madeCells #[.float .f64 0] 6) 25)).alloc (.cells #[.int .i64 0, .slice none 0 0, .int .i64 0, .int .i64 0] 24)).drew (W3.heap.size + 1) (.int .i64 0) (.slice none 0 0) (.int .i64 0) (.int .i64 0) := by have := (Cells4.new (W3.alloc (.cells (madeCells #[.float .f64 0] 6) 25)) (.int .i64 0) (.slice none 0 0) (.int .i64 0) (.int .i64 0) 24).below (Below.refl _ _).drew; simpa using this
          have HrA := Lib.hid rA
          have HrB := Lib.hid rB
          have HrC := Lib.hid rC
          have HbA := Lib.hid bA
          have HbB := Lib.hid bB
          have HbC := Lib.hid bC
          have HbD := Lib.hid bD
          have HbE := Lib.hid bE
          have HzA := Lib.hid zA
          have HzB := Lib.hid zB
          clear rA rB rC bA bB bC bD bE zA zB
          go_region_held3 (fun w' => w'.cell? ⟨b1, 0, none⟩ = some (.int .i64 1) ∧ w'.cell? ⟨b1, 1, none⟩ = some (.slice fa fn fc) ∧ w'.cell? ⟨b1, 2, none⟩ = some (.int .i64 1) ∧ w'.cell? ⟨b1, 3, none⟩ = some (.int .i64 2))
            (first
              | with_reducible exact ⟨((BL.out).cell (p := ⟨b1, 0, none⟩) hsz).trans c0, ((BL.out).cell (p := ⟨b1, 1, none⟩) hsz).trans c1, ((BL.out).cell (p := ⟨b1, 2, none⟩) hsz).trans c2, ((BL.out).cell (p := ⟨b1, 3, none⟩) hsz).trans c3⟩
              | with_reducible exact ⟨((BL.out.alloc BL.out.size _).cell (p := ⟨b1, 0, none⟩) hsz).trans c0, ((BL.out.alloc BL.out.size _).cell (p := ⟨b1, 1, none⟩) hsz).trans c1, ((BL.out.alloc BL.out.size _).cell (p := ⟨b1, 2, none⟩) hsz).trans c2, ((BL.out.alloc BL.out.size _).cell (p := ⟨b1, 3, none⟩) hsz).trans c3⟩
              | with_reducible exact ⟨((HbA.out).cell (p := ⟨b1, 0, none⟩) hsz).trans c0, ((HbA.out).cell (p := ⟨b1, 1, none⟩) hsz).trans c1, ((HbA.out).cell (p := ⟨b1, 2, none⟩) hsz).trans c2, ((HbA.out).cell (p := ⟨b1, 3, none⟩) hsz).trans c3⟩
              | with_reducible exact ⟨((HbB.out).cell (p := ⟨b1, 0, none⟩) hsz).trans c0, ((HbB.out).cell (p := ⟨b1, 1, none⟩) hsz).trans c1, ((HbB.out).cell (p := ⟨b1, 2, none⟩) hsz).trans c2, ((HbB.out).cell (p := ⟨b1, 3, none⟩) hsz).trans c3⟩
              | with_reducible exact ⟨((HbC.out).cell (p := ⟨b1, 0, none⟩) hsz).trans c0, ((HbC.out).cell (p := ⟨b1, 1, none⟩) hsz).trans c1, ((HbC.out).cell (p := ⟨b1, 2, none⟩) hsz).trans c2, ((HbC.out).cell (p := ⟨b1, 3, none⟩) hsz).trans c3⟩
              | with_reducible exact ⟨((HbD.out).cell (p := ⟨b1, 0, none⟩) hsz).trans c0, ((HbD.out).cell (p := ⟨b1, 1, none⟩) hsz).trans c1, ((HbD.out).cell (p := ⟨b1, 2, none⟩) hsz).trans c2, ((HbD.out).cell (p := ⟨b1, 3, none⟩) hsz).trans c3⟩
              | with_reducible exact ⟨((HbE.out).cell (p := ⟨b1, 0, none⟩) hsz).trans c0, ((HbE.out).cell (p := ⟨b1, 1, none⟩) hsz).trans c1, ((HbE.out).cell (p := ⟨b1, 2, none⟩) hsz).trans c2, ((HbE.out).cell (p := ⟨b1, 3, none⟩) hsz).trans c3⟩
              | with_reducible exact ⟨((below_put4 BL.out (Nat.le_refl _) _ _ _ _).cell (p := ⟨b1, 0, none⟩) hsz).trans c0, ((below_put4 BL.out (Nat.le_refl _) _ _ _ _).cell (p := ⟨b1, 1, none⟩) hsz).trans c1, ((below_put4 BL.out (Nat.le_refl _) _ _ _ _).cell (p := ⟨b1, 2, none⟩) hsz).trans c2, ((below_put4 BL.out (Nat.le_refl _) _ _ _ _).cell (p := ⟨b1, 3, none⟩) hsz).trans c3⟩
              | with_reducible exact ⟨((below_put4 BL.out (Nat.le_succ _) _ _ _ _).cell (p := ⟨b1, 0, none⟩) hsz).trans c0, ((below_put4 BL.out (Nat.le_succ _) _ _ _ _).cell (p := ⟨b1, 1, none⟩) hsz).trans c1, ((below_put4 BL.out (Nat.le_succ _) _ _ _ _).cell (p := ⟨b1, 2, none⟩) hsz).trans c2, ((below_put4 BL.out (Nat.le_succ _) _ _ _ _).cell (p := ⟨b1, 3, none⟩) hsz).trans c3⟩
              | go_keep)
            (first | (go_at_call 17; go_must (refine (two_calls Ga Ge fa _ fn fc 6 6 _ (FR.out.below (by first | with_reducible exact HbA.out | with_reducible exact HbB.out | with_reducible exact HbC.out)) (by first | with_reducible exact HrA.out | with_reducible exact HrB.out | with_reducible exact HrC.out)).mono ?_; rintro e wL ⟨⟨ga, gn, gcp, he, hrow⟩, hbL⟩; rw [live_e] at he hrow; dsimp only at he hrow; subst he; have BL' : Below W3.heap.size W3 wL := (by first | with_reducible exact HbA.out.trans (hbL.mono (by simp; omega)) | with_reducible exact HbB.out.trans (hbL.mono (by simp; omega)) | with_reducible exact HbC.out.trans (hbL.mono (by simp))); have hszL := BL'.size; have hLb : b1 < wL.heap.size := (by omega); (first | ((with_reducible have yy := HzA.out.below hbL); have YL := Lib.hid yy; obtain ⟨y0, y1, y2, y3, yf0, yf1, yf2, yf3⟩ := yy) | ((with_reducible have yy := HzB.out.below hbL); have YL := Lib.hid yy; obtain ⟨y0, y1, y2, y3, yf0, yf1, yf2, yf3⟩ := yy) | (have YN : True := trivial)); have BL := Lib.hid BL'; have RL := Lib.hid hrow; clear BL' hrow hbL)))
          all_goals
            refine hK' _ _ (Met.intro (hJ _ _ ?_))
            (repeat apply Exists.intro)
            refine ⟨?_, rfl⟩
            (first
              | (refine ⟨wL.heap.size, rfl, rfl, ?_⟩; exact ⟨FacAt.new (F := fac0) RL.out, BL.out.alloc BL.out.size _⟩)
              | (refine ⟨W3.heap.size, rfl, rfl, ?_⟩; exact ⟨⟨ga, gn, gcp, YL.out.put _ _ _ _, RL.out.put4 YL.out slice_ne _ _ _ _⟩, below_put4 BL.out (Nat.le_refl _) _ _ _ _⟩)
              | (refine ⟨W3.heap.size + 1, rfl, rfl, ?_⟩; exact ⟨⟨ga, gn, gcp, YL.out.put _ _ _ _, RL.out.put4 YL.out slice_ne _ _ _ _⟩, below_put4 BL.out (Nat.le_succ _) _ _ _ _⟩))
        case rest =>
          obtain ⟨b5, rfl, rfl, F5, B5⟩ := hcut
          obtain ⟨W5, rfl⟩ : ∃ x, x = wc := ⟨_, rfl⟩
          have F1 := F1.below B5
          have F2 := F2.below B5
          have F3 := F3.below B5
          clear F5 hmk
          go_upto_region 5 with (fail)
          go_cut [7, 8] from 30 to 33 (fun s7 s8 wx => ∃ b7 : Nat, s7 = .pointer (some ⟨b7, 0, none⟩) ∧ s8 = .int .i64 4 ∧ FacAt wx b7 fac0 ∧ Below W5.heap.size W5 wx)
          case first =>
            go_wp2_with (go_at_call 49; go_must (refine (mall_calls none 0 0 [] _ (fcs_nil _)).mono ?_; rintro e wL ⟨⟨ga, gn, gcp, he, hrow⟩, hbL⟩; rw [live_n] at he hrow; dsimp only at he hrow; subst he))
            go_meet
            case rel => exact ⟨_, rfl, rfl, FacAt.new (F := fac0) hrow, hbL.alloc hbL.size _⟩
          case rest =>
            obtain ⟨b7, rfl, rfl, F7, B7⟩ := hcut
            obtain ⟨W7, rfl⟩ : ∃ x, x = wc := ⟨_, rfl⟩
            have F1 := F1.below B7
            have F2 := F2.below B7
            have F3 := F3.below B7
            clear F7
            go_upto_region 6 with (fail)
            go_cut [9, 10] from 34 to 39 (fun s9 s10 wx => ∃ b9 : Nat, s9 = .pointer (some ⟨b9, 0, none⟩) ∧ s10 = .int .i64 0 ∧ FacAt wx b9 Gb ∧ Below W7.heap.size W7 wx)
            case first =>
              obtain ⟨fa, fn, fc, fC, fR⟩ := F2
              obtain ⟨c0, c1, c2, c3, _, _, _, _⟩ := fC
              have FR := Lib.hid fR
              clear fR
              dsimp only at c0 c1 c2 c3
              go_wp2_with (go_at_call 49; go_must (refine (mall_calls _ 1 1 [Gb] _ (fcs_one _ Gb FR.out)).mono ?_; rintro e wL ⟨⟨ga, gn, gcp, he, hrow⟩, hbL⟩; rw [live_o] at he hrow; dsimp only at he hrow; subst he))
              go_meet
              case rel => exact ⟨_, rfl, rfl, FacAt.new (F := Gb) hrow, (((Below.refl _ _).alloc (Nat.le_refl _) _).trans (hbL.mono (by simp))).alloc (by have := hbL.size; simp at this; omega) _⟩
            case rest =>
              obtain ⟨b9, rfl, rfl, F9, B9⟩ := hcut
              obtain ⟨W9, rfl⟩ : ∃ x, x = wc := ⟨_, rfl⟩
              have F1 := F1.below B9
              have F2 := F2.below B9
              have F3 := F3.below B9
              go_upto_region 7 with (fail)
              go_cut [11, 12] from 40 to 45 (fun s11 s12 wx => ∃ b11 : Nat, s11 = .pointer (some ⟨b11, 0, none⟩) ∧ s12 = .int .i64 1 ∧ FacAt wx b11 fac0 ∧ Below W9.heap.size W9 wx)
              case first =>
                obtain ⟨fa, fn, fc, fC, fR⟩ := F1
                obtain ⟨c0, c1, c2, c3, _, _, _, _⟩ := fC
                have FR := Lib.hid fR
                clear fR
                dsimp only at c0 c1 c2 c3
                go_wp2_with (go_at_call 17; go_must (refine (two_calls Ga fac0 fa none fn fc 0 0 _ FR.out (row_nil _)).mono ?_; rintro e wL ⟨⟨ga, gn, gcp, he, hrow⟩, hbL⟩; rw [live_f] at he hrow; dsimp only at he hrow; subst he))
                go_meet
                case rel => exact ⟨_, rfl, rfl, FacAt.new (F := fac0) hrow, hbL.alloc hbL.size _⟩
              case rest =>
                obtain ⟨b11, rfl, rfl, F11, B11⟩ := hcut
                obtain ⟨W11, rfl⟩ : ∃ x, x = wc := ⟨_, rfl⟩
                have F2 := F2.below B11
                have F3 := F3.below B11
                have F9 := F9.below B11
                have HB := Lib.hid (((((((B1.trans (B2.mono B1.size)).trans (B3.mono (by have := B1.size; have := B2.size; omega))).trans (B5.mono (by have := B1.size; have := B2.size; have := B3.size; omega))).trans (B7.mono (by have := B1.size; have := B2.size; have := B3.size; have := B5.size; omega))).trans (B9.mono (by have := B1.size; have := B2.size; have := B3.size; have := B5.size; have := B7.size; omega))).trans (B11.mono (by have := B1.size; have := B2.size; have := B3.size; have := B5.size; have := B7.size; have := B9.size; omega))))
                clear F1 F11 B1 B2 B3 B5 B7 B9 B11
                obtain ⟨ga, gn, gc, gC, gR⟩ := F3
                obtain ⟨g0, g1, g2, g3, _, _, _, _⟩ := gC
                obtain ⟨gb, go, rfl, rfl, gx, gy, gz⟩ := row_three gR
                obtain ⟨ha, hn, hc, hC, hR⟩ := F2
                obtain ⟨h0, h1, h2, h3, _, _, _, _⟩ := hC
                have HRR := Lib.hid hR
                obtain ⟨ka, kn, kc, kC, kR⟩ := F9
                obtain ⟨k0, k1, k2, k3, _, _, _, _⟩ := kC
                have HKR := Lib.hid kR
                dsimp only at g0 g1 g2 g3 h0 h1 h2 h3 k0 k1 k2 k3
                clear gR hR kR
                go_wp2_with (first | (go_at_call 50; go_must (refine (rsame7_calls Gb ka ha kn hn kc hc _ HKR.out HRR.out).mono ?_; rintro e wL ⟨rfl, hbL⟩)) | (go_at_call 18; go_must (refine (cost_calls 2 _).mono ?_; rintro e wM ⟨rfl, rfl⟩; rw [hsz2])))
                go_ret
                exact ⟨rfl, HB.out.trans (hbL.mono HB.out.size)⟩
end Go.Proofs.Ytnboegeljaplbaa
