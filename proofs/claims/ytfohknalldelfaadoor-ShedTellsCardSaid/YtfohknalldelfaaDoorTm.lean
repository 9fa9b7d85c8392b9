/- Layer 11's own examples, walked. -/
import Derived.Test.YtfohknalldelfaaDoorTl
import Derived.Test.YtfohknalldelfaaDoorSo
import Derived.Deep.CutRange
namespace Go.Proofs.YtfohknalldelfaaDoor
open Go.RowKit Lv Go.Shelf
open Ieee (double Format Datum Toward)
attribute [local go_sem] Oper.semAt_some run_store_float drewN_alloc drewN_setCell

abbrev Gf : FacD := ⟨1, [some 4617315517961601024, some 4607182418800017408, some 4611686018427387904], 2, 4⟩
abbrev Gg : FacD := ⟨1, [some 4616189618054758400, some 4602678819172646912, some 4611400002350042842], 1, 6⟩
abbrev Gd : FacD := ⟨1, [some 4617315517961601024, some 4607182418800017408, some 4611686018427387904], 0, 0⟩
abbrev Gh : FacD := ⟨1, [some 4617315517961601024, some 4607182418800017408, some 4611686018427387904], 0, 8⟩
theorem shed_a : sRowD Gf [some 4613937818241073152] (some 4607182418800017408) = (Gg, 0) := by decide +kernel
theorem shed_b : sRowD Gf [some 4617315517961601024] (some 0) = (fac0, 8) := by decide +kernel
theorem shed_c : sRowD Gf [] (some 0) = (fac0, 3) := by decide +kernel
theorem shed_d : sRowD Gd [some 4613937818241073152] (some 0) = (fac0, 5) := by decide +kernel
theorem shed_e : sAllD Gf [([some 0], some 0), ([some 0], some 0), ([some 0], some 0)] = (Gh, 2, 5) := by decide +kernel
theorem shed_z : shedD Gf [some 4607182418800017408] = (fac0, 1) := by decide +kernel

theorem rws_three (W : World) : Rws ((((W.alloc (.cells #[.float .f64 0] 31)).alloc (.cells #[.float .f64 0] 31)).alloc (.cells #[.float .f64 0] 31)).alloc (.cells #[.slice (some ⟨W.heap.size, 0, none⟩) 1 1, .float .f64 0, .slice (some ⟨W.heap.size + 1, 0, none⟩) 1 1, .float .f64 0, .slice (some ⟨W.heap.size + 1 + 1, 0, none⟩) 1 1, .float .f64 0] 33)) (.slice (some ⟨W.heap.size + 1 + 1 + 1, 0, none⟩) 3 3) [([some 0], some 0), ([some 0], some 0), ([some 0], some 0)] := by
  refine ⟨_, _, rfl, Nat.le_refl _, by unfold maxLen; simp, .inr ⟨W.heap.size + 1 + 1 + 1, 0, rfl, fun i hi => ?_⟩⟩
  have h1 := (((row_one W 0 fw_zero).alloc (.cells #[.float .f64 0] 31)).alloc (.cells #[.float .f64 0] 31)).alloc (.cells #[.slice (some ⟨W.heap.size, 0, none⟩) 1 1, .float .f64 0, .slice (some ⟨W.heap.size + 1, 0, none⟩) 1 1, .float .f64 0, .slice (some ⟨W.heap.size + 1 + 1, 0, none⟩) 1 1, .float .f64 0] 33)
  have h2 := ((row_one' (w := W.alloc (.cells #[.float .f64 0] 31)) (k := W.heap.size + 1) fw_zero (by simp)).alloc (.cells #[.float .f64 0] 31)).alloc (.cells #[.slice (some ⟨W.heap.size, 0, none⟩) 1 1, .float .f64 0, .slice (some ⟨W.heap.size + 1, 0, none⟩) 1 1, .float .f64 0, .slice (some ⟨W.heap.size + 1 + 1, 0, none⟩) 1 1, .float .f64 0] 33)
  have h3 := (row_one' (w := (W.alloc (.cells #[.float .f64 0] 31)).alloc (.cells #[.float .f64 0] 31)) (k := W.heap.size + 1 + 1) fw_zero (by simp)).alloc (.cells #[.slice (some ⟨W.heap.size, 0, none⟩) 1 1, .float .f64 0, .slice (some ⟨W.heap.size + 1, 0, none⟩) 1 1, .float .f64 0, .slice (some ⟨W.heap.size + 1 + 1, 0, none⟩) 1 1, .float .f64 0] 33)
  match i, hi with
  | 0, _ => exact ⟨_, _, _, 0, by simp [go_sem], by simp [go_sem], h1, fw_zero⟩
  | 1, _ => exact ⟨_, _, _, 0, by simp [go_sem], by simp [go_sem], h2, fw_zero⟩
  | 2, _ => exact ⟨_, _, _, 0, by simp [go_sem], by simp [go_sem], h3, fw_zero⟩

set_option maxRecDepth 100000 in
set_option maxHeartbeats 4000000 in
theorem live11_calls (w : World) (a0 a1 a2 : Addr) (LD : Laid w a0 a1 a2) : Calls Tryd.prog 9 #[] w fun e w' => e = .returned (.bool true) ∧ Below w.heap.size w w' := by
  have HLD := Lib.hid LD
  clear LD
  go_enter Tryd.func9, Tryd.ntmps9
  go_upto_region 1 with (fail)
  go_cut [1] from 15 to 16 (fun s1 wx => ∃ b1 : Nat, s1 = .pointer (some ⟨b1, 0, none⟩) ∧ FacAt wx b1 Gf ∧ Below w.heap.size w wx)
  case first =>
    go_wp2
    go_meet
    case rel => exact ⟨_, rfl, FacAt.new' (F := Gf) (row_lits w [4617315517961601024, 4607182418800017408, 4611686018427387904] (by decide) 3 rfl (by decide)) (by simp), ((Below.refl _ _).alloc (Nat.le_refl _) _).alloc (by simp) _⟩
  case rest =>
    obtain ⟨b1, rfl, F1, B1⟩ := hcut
    obtain ⟨W1, rfl⟩ : ∃ x, x = wc := ⟨_, rfl⟩
    have L1 := Lib.hid (HLD.out.below B1)

    go_upto_region 2 with (fail)
    go_cut [2, 3] from 17 to 23 (fun s2 s3 wx => ∃ b2 : Nat, s2 = .pointer (some ⟨b2, 0, none⟩) ∧ s3 = .int .i64 0 ∧ FacAt wx b2 Gg ∧ Below W1.heap.size W1 wx)
    case first =>
      obtain ⟨fa, fn, fc, fC, fR⟩ := F1
      obtain ⟨c0, c1, c2, c3, _, _, _, _⟩ := fC
      have FR := Lib.hid fR
      have hsz := cell_lt c0
      clear fR
      dsimp only at c0 c1 c2 c3
      go_wp2_with (go_at_call 13; go_must (refine (srow_calls Gf fa _ fn fc 1 1 _ [some 4613937818241073152] (Y := some 4607182418800017408) _ a0 a1 a2 (L1.out.below ((Below.refl _ _).alloc (Nat.le_refl _) _)) (FR.out.alloc _) (row_lits _ [4613937818241073152] (by decide) 1 rfl (by decide)) (fw_lit 4607182418800017408 (by unfold W64; decide) (by decide))).mono ?_; rintro e wL ⟨⟨ga, gn, gcp, he, hrow⟩, hbL⟩; rw [shed_a] at he hrow; dsimp only at he hrow; subst he))
      go_meet
      case rel => exact ⟨_, rfl, rfl, FacAt.new (F := Gg) hrow, (((Below.refl _ _).alloc (Nat.le_refl _) _).trans (hbL.mono (by simp))).alloc (by have := hbL.size; simp at this; omega) _⟩
    case rest =>
      obtain ⟨b2, rfl, rfl, F2, B2⟩ := hcut
      obtain ⟨W2, rfl⟩ : ∃ x, x = wc := ⟨_, rfl⟩
      have F1 := F1.below B2
      have L2 := Lib.hid (L1.out.below B2)
      go_upto_region 3 with (fail)
      go_cut [4, 5] from 24 to 30 (fun s4 s5 wx => ∃ b4 : Nat, s4 = .pointer (some ⟨b4, 0, none⟩) ∧ s5 = .int .i64 8 ∧ FacAt wx b4 fac0 ∧ Below W2.heap.size W2 wx)
      case first =>
        obtain ⟨fa, fn, fc, fC, fR⟩ := F1
        obtain ⟨c0, c1, c2, c3, _, _, _, _⟩ := fC
        have FR := Lib.hid fR
        have hsz := cell_lt c0
        clear fR
        dsimp only at c0 c1 c2 c3
        go_wp2_with (go_at_call 13; go_must (refine (srow_calls Gf fa _ fn fc 1 1 _ [some 4617315517961601024] (Y := some 0) _ a0 a1 a2 (L2.out.below ((Below.refl _ _).alloc (Nat.le_refl _) _)) (FR.out.alloc _) (row_lits _ [4617315517961601024] (by decide) 1 rfl (by decide)) fw_zero).mono ?_; rintro e wL ⟨⟨ga, gn, gcp, he, hrow⟩, hbL⟩; rw [shed_b] at he hrow; dsimp only at he hrow; subst he))
        go_meet
        case rel => exact ⟨_, rfl, rfl, FacAt.new (F := fac0) hrow, (((Below.refl _ _).alloc (Nat.le_refl _) _).trans (hbL.mono (by simp))).alloc (by have := hbL.size; simp at this; omega) _⟩
      case rest =>
        obtain ⟨b4, rfl, rfl, F4, B4⟩ := hcut
        obtain ⟨W4, rfl⟩ : ∃ x, x = wc := ⟨_, rfl⟩
        have F1 := F1.below B4
        have F2 := F2.below B4
        have L4 := Lib.hid (L2.out.below B4)
        go_upto_region 4 with (fail)
        go_cut [6, 7] from 31 to 36 (fun s6 s7 wx => ∃ b6 : Nat, s6 = .pointer (some ⟨b6, 0, none⟩) ∧ s7 = .int .i64 3 ∧ FacAt wx b6 fac0 ∧ Below W4.heap.size W4 wx)
        case first =>
          obtain ⟨fa, fn, fc, fC, fR⟩ := F1
          obtain ⟨c0, c1, c2, c3, _, _, _, _⟩ := fC
          have FR := Lib.hid fR
          have hsz := cell_lt c0
          clear fR
          dsimp only at c0 c1 c2 c3
          go_wp2_with (go_at_call 13; go_must (refine (srow_calls Gf fa _ fn fc 0 0 _ [] (Y := some 0) _ a0 a1 a2 L4.out FR.out (row_nil _) fw_zero).mono ?_; rintro e wL ⟨⟨ga, gn, gcp, he, hrow⟩, hbL⟩; rw [shed_c] at he hrow; dsimp only at he hrow; subst he))
          go_meet
          case rel => exact ⟨_, rfl, rfl, FacAt.new (F := fac0) hrow, hbL.alloc hbL.size _⟩
        case rest =>
          obtain ⟨b6, rfl, rfl, F6, B6⟩ := hcut
          obtain ⟨W6, rfl⟩ : ∃ x, x = wc := ⟨_, rfl⟩
          have F1 := F1.below B6
          have F2 := F2.below B6
          have L6 := Lib.hid (L4.out.below B6)
          go_upto_region 5 with (fail)
          go_cut [8, 9] from 37 to 44 (fun s8 s9 wx => ∃ b8 : Nat, s8 = .pointer (some ⟨b8, 0, none⟩) ∧ s9 = .int .i64 5 ∧ FacAt wx b8 fac0 ∧ Below W6.heap.size W6 wx)
          case first =>
            clear F1
            go_wp2_with (go_at_call 13; go_must (refine (srow_calls Gd _ _ 3 3 1 1 _ [some 4613937818241073152] (Y := some 0) _ a0 a1 a2 (L6.out.below (((Below.refl _ _).alloc (Nat.le_refl _) _).alloc (by simp) _)) ((row_lits W6 [4617315517961601024, 4607182418800017408, 4611686018427387904] (by decide) 3 rfl (by decide)).alloc _) (by have := row_lits (W6.alloc (.cells #[.float .f64 4617315517961601024, .float .f64 4607182418800017408, .float .f64 4611686018427387904] 31)) [4613937818241073152] (by decide) 1 rfl (by decide); simpa using this) fw_zero).mono ?_; rintro e wL ⟨⟨ga, gn, gcp, he, hrow⟩, hbL⟩; rw [shed_d] at he hrow; dsimp only at he hrow; subst he))
            go_meet
            case rel => exact ⟨_, rfl, rfl, FacAt.new (F := fac0) hrow, ((((Below.refl _ _).alloc (Nat.le_refl _) _).alloc (by simp) _).trans (hbL.mono (by simp; omega))).alloc (by have := hbL.size; simp at this; omega) _⟩
          case rest =>
            obtain ⟨b8, rfl, rfl, F8, B8⟩ := hcut
            obtain ⟨W8, rfl⟩ : ∃ x, x = wc := ⟨_, rfl⟩
            have F1 := F1.below B8
            have F2 := F2.below B8
            have L8 := Lib.hid (L6.out.below B8)
            go_upto_region 6 with (fail)
            go_cut [10, 11, 12] from 45 to 57 (fun s10 s11 s12 wx => ∃ b10 : Nat, s10 = .pointer (some ⟨b10, 0, none⟩) ∧ s11 = .int .i64 2 ∧ s12 = .int .i64 5 ∧ FacAt wx b10 Gh ∧ Below W8.heap.size W8 wx)
            case first =>
              obtain ⟨fa, fn, fc, fC, fR⟩ := F1
              obtain ⟨c0, c1, c2, c3, _, _, _, _⟩ := fC
              have FR := Lib.hid fR
              have hsz := cell_lt c0
              clear fR
              dsimp only at c0 c1 c2 c3
              go_wp2_with (go_at_call 16; go_must (refine (sall_calls Gf fa _ fn fc 3 3 [([some 0], some 0), ([some 0], some 0), ([some 0], some 0)] _ a0 a1 a2 (L8.out.below (((((Below.refl _ _).alloc (Nat.le_refl _) _).alloc (by simp) _).alloc (by simp; omega) _).alloc (by simp; omega) _)) ((((FR.out.alloc _).alloc _).alloc _).alloc _) (rws_three W8)).mono ?_; rintro e wL ⟨⟨ga, gn, gcp, he, hrow⟩, hbL⟩; rw [shed_e] at he hrow; dsimp only at he hrow; subst he))
              go_meet
              case rel => exact ⟨_, rfl, rfl, rfl, FacAt.new (F := Gh) hrow, ((((((Below.refl _ _).alloc (Nat.le_refl _) _).alloc (by simp) _).alloc (by simp; omega) _).alloc (by simp; omega) _).trans (hbL.mono (by simp; omega))).alloc (by have := hbL.size; simp at this; omega) _⟩
            case rest =>
              obtain ⟨b10, rfl, rfl, rfl, F10, B10⟩ := hcut
              obtain ⟨W10, rfl⟩ : ∃ x, x = wc := ⟨_, rfl⟩
              have F1 := F1.below B10
              have F2 := F2.below B10
              have L10 := Lib.hid (L8.out.below B10)
              go_upto_region 7 with (fail)
              go_cut [13, 14] from 58 to 63 (fun s13 s14 wx => ∃ b13 : Nat, s13 = .pointer (some ⟨b13, 0, none⟩) ∧ s14 = .int .i64 1 ∧ FacAt wx b13 fac0 ∧ Below W10.heap.size W10 wx)
              case first =>
                obtain ⟨fa, fn, fc, fC, fR⟩ := F1
                obtain ⟨c0, c1, c2, c3, _, _, _, _⟩ := fC
                have FR := Lib.hid fR
                have hsz := cell_lt c0
                clear fR
                dsimp only at c0 c1 c2 c3
                go_wp2_with (go_at_call 10; go_must (refine (sLine_calls Gf fa _ fn fc 1 1 [some 4607182418800017408] _ a0 a1 a2 (L10.out.below ((Below.refl _ _).alloc (Nat.le_refl _) _)) (FR.out.alloc _) (row_lits _ [4607182418800017408] (by decide) 1 rfl (by decide))).mono ?_; rintro e wL ⟨⟨ga, gn, gcp, he, hrow⟩, hbL⟩; rw [shed_z] at he hrow; dsimp only at he hrow; subst he))
                go_meet
                case rel => exact ⟨_, rfl, rfl, FacAt.new (F := fac0) hrow, (((Below.refl _ _).alloc (Nat.le_refl _) _).trans (hbL.mono (by simp))).alloc (by have := hbL.size; simp at this; omega) _⟩
              case rest =>
                obtain ⟨b13, rfl, rfl, F13, B13⟩ := hcut
                obtain ⟨W13, rfl⟩ : ∃ x, x = wc := ⟨_, rfl⟩
                have F2 := F2.below B13
                have F10 := F10.below B13
                have HB := Lib.hid ((((((B1.trans (B2.mono B1.size)).trans (B4.mono (by have := B1.size; have := B2.size; omega))).trans (B6.mono (by have := B1.size; have := B2.size; have := B4.size; omega))).trans (B8.mono (by have := B1.size; have := B2.size; have := B4.size; have := B6.size; omega))).trans (B10.mono (by have := B1.size; have := B2.size; have := B4.size; have := B6.size; have := B8.size; omega))).trans (B13.mono (by have := B1.size; have := B2.size; have := B4.size; have := B6.size; have := B8.size; have := B10.size; omega)))
                clear F1 F4 F6 F8 F13 B1 B2 B4 B6 B8 B10 B13
                obtain ⟨ga, gn, gc, gC, gR⟩ := F2
                obtain ⟨g0, g1, g2, g3, _, _, _, _⟩ := gC
                obtain ⟨gb, go, rfl, rfl, gx, gy, gz⟩ := row_three gR
                obtain ⟨ka, kn, kc, kC, kR⟩ := F10
                obtain ⟨k0, k1, k2, k3, _, _, _, _⟩ := kC
                obtain ⟨kb, ko, rfl, rfl, kx, ky, kz⟩ := row_three kR
                dsimp only at g0 g1 g2 g3 k0 k1 k2 k3
                clear gR kR
                go_wp2
                go_ret
                exact ⟨rfl, HB.out⟩
end Go.Proofs.YtfohknalldelfaaDoor
