/- Layer 14's own examples, walked. -/
import Derived.Test.YtgmaljikjkbdlaaYt
namespace Go.Proofs.Ytgmaljikjkbdlaa
open Go.RowKit Lv Go.Shelf
open Ieee (double Format Datum Toward)
attribute [local go_sem] Oper.semAt_some run_store_float drewN_alloc drewN_setCell

theorem li_lits (W : World) (zs : List Int) (n : Nat) (hn : zs.length = n) (hm : n ≤ 1000) : LI (W.alloc (.cells (zs.map (Value.int .i64)).toArray 3)) (.slice (some ⟨W.heap.size, 0, none⟩) n n) zs := by
  subst hn
  refine ⟨_, _, by rw [List.length_map], by rw [List.length_map]; exact Nat.le_refl _, by unfold maxLen; omega, .inr ⟨W.heap.size, 0, rfl, fun i hi => ?_⟩⟩
  rw [List.length_map] at hi
  rw [Nat.zero_add]
  simp [go_sem, hi]
theorem li_lits' (W : World) (zs : List Int) (g n : Nat) (hg : g = W.heap.size) (hn : zs.length = n) (hm : n ≤ 1000) : LI (W.alloc (.cells (zs.map (Value.int .i64)).toArray 3)) (.slice (some ⟨g, 0, none⟩) n n) zs := by
  subst hg; exact li_lits W zs n hn hm
theorem fcs_pair {W : World} {F G : FacD} {a b : Option Addr} {n cap m d g : Nat} (hF : Row W (.slice a n cap) F.xs) (hG : Row W (.slice b m d) G.xs) (hg : g = W.heap.size) :
    Fcs (W.alloc (.cells #[.int .i64 F.cols, .slice a n cap, .int .i64 F.rws, .int .i64 F.trn, .int .i64 G.cols, .slice b m d, .int .i64 G.rws, .int .i64 G.trn] 36)) (.slice (some ⟨g, 0, none⟩) 2 2) [F, G] := by
  subst hg
  refine ⟨_, _, rfl, Nat.le_refl _, by unfold maxLen; simp, .inr ⟨W.heap.size, 0, rfl, fun i hi => ?_⟩⟩
  match i, hi with
  | 0, _ => exact ⟨_, _, _, by simp [go_sem], by simp [go_sem], by simp [go_sem], by simp [go_sem], hF.alloc _⟩
  | 1, _ => exact ⟨_, _, _, by simp [go_sem], by simp [go_sem], by simp [go_sem], by simp [go_sem], hG.alloc _⟩
abbrev Gq : FacD := ⟨1, [some 4617315517961601024, some 4607182418800017408, some 4611686018427387904], 2, 8⟩
theorem livp_q : runD [1, 0, -1] [Ga, Gb] = (Gq, 0) := by decide +kernel
theorem livp_r : runD [0, 0, -1] [Ga, Gb] = (fac0, 10) := by decide +kernel
theorem livp_s : countsD [0, 1, -1] 1 [1, 1] [2, 5] = ((2, 8), 0) := by decide +kernel
theorem livp_t : pcheckD [0] 1 = 0 ∧ pcheckD [] 1 = 10 ∧ heightD [0, 1, 2, -1, -1] = 3 ∧ leftD 3 = [0, 1, -1, 2, -1] ∧ evenD 4 = [0, 1, -1, 2, 3, -1, -1] ∧ rightD 9 = [] ∧ orderD [2, 0, -1] = [2, 0] := by decide +kernel

set_option maxRecDepth 100000 in
set_option maxHeartbeats 4000000 in
theorem live14_calls (w : World) : Calls Try.prog 8 #[] w fun e w' => e = .returned (.bool true) ∧ Below w.heap.size w w' := by
  have HT := Lib.hid livp_t
  go_enter Try.func8, Try.ntmps8
  go_upto_region 1 with (fail)
  go_cut [1] from 10 to 11 (fun s1 wx => ∃ b1 : Nat, s1 = .pointer (some ⟨b1, 0, none⟩) ∧ FacAt wx b1 Ga ∧ Below w.heap.size w wx)
  case first =>
    go_wp2
    go_meet
    case rel => exact ⟨_, rfl, FacAt.new' (F := Ga) (row_lits w [4613937818241073152, 13830554455654793216, 0] (by decide) 3 rfl (by decide)) (by simp), ((Below.refl _ _).alloc (Nat.le_refl _) _).alloc (by simp) _⟩
  case rest =>
    obtain ⟨b1, rfl, F1, B1⟩ := hcut
    obtain ⟨W1, rfl⟩ : ∃ x, x = wc := ⟨_, rfl⟩
    go_upto_region 2 with (fail)
    go_cut [2] from 12 to 13 (fun s2 wx => ∃ b2 : Nat, s2 = .pointer (some ⟨b2, 0, none⟩) ∧ FacAt wx b2 Gb ∧ Below W1.heap.size W1 wx)
    case first =>
      go_wp2
      go_meet
      case rel => exact ⟨_, rfl, FacAt.new' (F := Gb) (row_lits W1 [4616189618054758400, 4611686018427387904, 0] (by decide) 3 rfl (by decide)) (by simp), ((Below.refl _ _).alloc (Nat.le_refl _) _).alloc (by simp) _⟩
    case rest =>
      obtain ⟨b2, rfl, F2, B2⟩ := hcut
      obtain ⟨W2, rfl⟩ : ∃ x, x = wc := ⟨_, rfl⟩
      have F1 := F1.below B2
      go_upto_region 3 with (fail)
      go_cut [3, 4] from 14 to 21 (fun s3 s4 wx => ∃ b3 : Nat, s3 = .pointer (some ⟨b3, 0, none⟩) ∧ s4 = .int .i64 0 ∧ FacAt wx b3 Gq ∧ Below W2.heap.size W2 wx)
      case first =>
        obtain ⟨fa, fn, fc, fC, fR⟩ := F1
        have fC2 := fC.alloc (.cells #[.int .i64 1, .int .i64 0, .int .i64 (-1)] 3)
        obtain ⟨c0, c1, c2, c3, _, _, _, _⟩ := fC2
        have FR := Lib.hid (fR.alloc (.cells #[.int .i64 1, .int .i64 0, .int .i64 (-1)] 3))
        obtain ⟨ea, en, ec, eC, eR⟩ := F2
        have eC2 := eC.alloc (.cells #[.int .i64 1, .int .i64 0, .int .i64 (-1)] 3)
        obtain ⟨d0, d1, d2, d3, _, _, _, _⟩ := eC2
        have ER := Lib.hid (eR.alloc (.cells #[.int .i64 1, .int .i64 0, .int .i64 (-1)] 3))
        clear fR eR fC eC
        dsimp only at c0 c1 c2 c3 d0 d1 d2 d3
        go_wp2_with (go_at_call 23; go_must (refine (prun_calls [1, 0, -1] _ 3 3 [Ga, Gb] _ 2 2 _ ((li_lits W2 [1, 0, -1] 3 rfl (by decide)).below ((Below.refl _ _).alloc (Nat.le_refl _) _)) (by decide) (fcs_pair (F := Ga) (G := Gb) FR.out ER.out (by simp))).mono ?_; rintro e wL ⟨⟨ga, gn, gcp, he, hrow⟩, hbL⟩; rw [livp_q] at he hrow; dsimp only at he hrow; subst he))
        go_meet
        case rel => exact ⟨_, rfl, rfl, FacAt.new (F := Gq) hrow, ((((Below.refl _ _).alloc (Nat.le_refl _) _).alloc (by simp) _).trans (hbL.mono (by simp; omega))).alloc (by have := hbL.size; simp at this; omega) _⟩
      case rest =>
        obtain ⟨b3, rfl, rfl, F3, B3⟩ := hcut
        obtain ⟨W3, rfl⟩ : ∃ x, x = wc := ⟨_, rfl⟩
        have F1 := F1.below B3
        have F2 := F2.below B3
        go_upto_region 4 with (fail)
        go_cut [5, 6] from 22 to 29 (fun s5 s6 wx => ∃ b5 : Nat, s5 = .pointer (some ⟨b5, 0, none⟩) ∧ s6 = .int .i64 10 ∧ FacAt wx b5 fac0 ∧ Below W3.heap.size W3 wx)
        case first =>
          obtain ⟨fa, fn, fc, fC, fR⟩ := F1
          have fC2 := fC.alloc (.cells #[.int .i64 0, .int .i64 0, .int .i64 (-1)] 3)
          obtain ⟨c0, c1, c2, c3, _, _, _, _⟩ := fC2
          have FR := Lib.hid (fR.alloc (.cells #[.int .i64 0, .int .i64 0, .int .i64 (-1)] 3))
          obtain ⟨ea, en, ec, eC, eR⟩ := F2
          have eC2 := eC.alloc (.cells #[.int .i64 0, .int .i64 0, .int .i64 (-1)] 3)
          obtain ⟨d0, d1, d2, d3, _, _, _, _⟩ := eC2
          have ER := Lib.hid (eR.alloc (.cells #[.int .i64 0, .int .i64 0, .int .i64 (-1)] 3))
          clear fR eR fC eC F3
          dsimp only at c0 c1 c2 c3 d0 d1 d2 d3
          go_wp2_with (go_at_call 23; go_must (refine (prun_calls [0, 0, -1] _ 3 3 [Ga, Gb] _ 2 2 _ ((li_lits W3 [0, 0, -1] 3 rfl (by decide)).below ((Below.refl _ _).alloc (Nat.le_refl _) _)) (by decide) (fcs_pair (F := Ga) (G := Gb) FR.out ER.out (by simp))).mono ?_; rintro e wL ⟨⟨ga, gn, gcp, he, hrow⟩, hbL⟩; rw [livp_r] at he hrow; dsimp only at he hrow; subst he))
          go_meet
          case rel => exact ⟨_, rfl, rfl, FacAt.new (F := fac0) hrow, ((((Below.refl _ _).alloc (Nat.le_refl _) _).alloc (by simp) _).trans (hbL.mono (by simp; omega))).alloc (by have := hbL.size; simp at this; omega) _⟩
        case rest =>
          obtain ⟨b5, rfl, rfl, F5, B5⟩ := hcut
          obtain ⟨W5, rfl⟩ : ∃ x, x = wc := ⟨_, rfl⟩
          have F3 := F3.below B5
          have HB5 := Lib.hid ((((B1.trans (B2.mono B1.size)).trans (B3.mono (by have := B1.size; have := B2.size; omega))).trans (B5.mono (by have := B1.size; have := B2.size; have := B3.size; omega))))
          clear F1 F2 F5 B1 B2 B3 B5
          go_upto_region 5 with (fail)
          go_cut [7, 8, 9] from 30 to 37 (fun s7 s8 s9 wx => s7 = .int .i64 2 ∧ s8 = .int .i64 8 ∧ s9 = .int .i64 0 ∧ Below W5.heap.size W5 wx)
          case first =>
            clear F3
            go_wp2_with (go_at_call 25; go_must (refine (pcounts_calls [0, 1, -1] _ 3 3 1 [1, 1] [2, 5] _ _ 2 2 2 2 _ (((li_lits W5 [0, 1, -1] 3 rfl (by decide)).below ((Below.refl _ _).alloc (Nat.le_refl _) _)).below ((Below.refl _ _).alloc (Nat.le_refl _) _)) (by decide) ((li_lits' _ [1, 1] (W5.heap.size + 1) 2 (by simp) rfl (by decide)).below ((Below.refl _ _).alloc (Nat.le_refl _) _)) (li_lits' _ [2, 5] (W5.heap.size + 1 + 1) 2 (by simp) rfl (by decide))).mono ?_; rintro e wL ⟨he, hbL⟩; rw [livp_s] at he; dsimp only at he; subst he))
            go_meet
            case rel => exact ⟨rfl, rfl, rfl, ((((Below.refl _ _).alloc (Nat.le_refl _) _).alloc (by simp) _).alloc (by simp; omega) _).trans (hbL.mono (by simp; omega))⟩
          case rest =>
            obtain ⟨rfl, rfl, rfl, B6⟩ := hcut
            obtain ⟨W6, rfl⟩ : ∃ x, x = wc := ⟨_, rfl⟩
            have HB6 := Lib.hid (HB5.out.trans (B6.mono HB5.out.size))
            have F3 := F3.below B6
            clear B6 HB5
            obtain ⟨ga, gn, gc, gC, gR⟩ := F3
            obtain ⟨g0, g1, g2, g3, _, _, _, _⟩ := gC
            obtain ⟨gb, go, rfl, rfl, gx, gy, gz⟩ := row_three gR
            dsimp only at g0 g1 g2 g3
            clear gR gy gz
            go_wp2_with (first
              | (go_at_call_of 9 (Value.slice none 0 0); go_must (refine (pcheck_calls none 0 0 1 [] _ (li_nil _) (by decide)).mono ?_; rintro e wB ⟨he, hbB⟩; rw [HT.out.2.1] at he; subst he; have BB := Lib.hid (BA.out.trans (hbB.mono BA.out.size)); clear hbB))
              | (go_at_call 9; go_must (refine (pcheck_calls _ 1 1 1 [0] _ (li_lits W6 [0] 1 rfl (by decide)) (by decide)).mono ?_; rintro e wA ⟨he, hbA⟩; rw [HT.out.1] at he; subst he; have BA := Lib.hid (((Below.refl W6.heap.size W6).alloc (Nat.le_refl _) _).trans (hbA.mono (by simp))); clear hbA))
              | (go_at_call 14; go_must (refine (pheight_calls _ 5 5 [0, 1, 2, -1, -1] _ (li_lits wB [0, 1, 2, -1, -1] 5 rfl (by decide)) (by decide)).mono ?_; rintro e wC ⟨he, hbC⟩; rw [HT.out.2.2.1] at he; subst he; have BC := Lib.hid ((BB.out.alloc BB.out.size _).trans (hbC.mono (by have := BB.out.size; simp; omega))); clear hbC))
              | (go_at_call 16; go_must (refine (pleft_calls 3 _).mono ?_; rintro e wD ⟨⟨vD, rfl, hvD⟩, hbD⟩; rw [HT.out.2.2.2.1] at hvD; obtain ⟨aD, cD, rfl⟩ := hvD.form; have HVD := Lib.hid hvD; have BD := Lib.hid (BC.out.trans (hbD.mono BC.out.size)); clear hvD hbD))
              | (go_at_call 20; go_must (refine (pEven_calls 4 _).mono ?_; rintro e wF ⟨⟨vF, rfl, hvF⟩, hbF⟩; rw [HT.out.2.2.2.2.1] at hvF; obtain ⟨aF, cF, rfl⟩ := hvF.form; have HVF := Lib.hid hvF; have BF := Lib.hid (BE.out.trans (hbF.mono BE.out.size)); clear hvF hbF))
              | (go_at_call 18; go_must (refine (pright_calls 9 _).mono ?_; rintro e wH ⟨⟨vH, rfl, hvH⟩, hbH⟩; rw [HT.out.2.2.2.2.2.1] at hvH; obtain ⟨aH, cH, rfl⟩ := hvH.form; have BH := Lib.hid (BG.out.trans (hbH.mono BG.out.size)); clear hvH hbH))
              | (go_at_call 12; go_must (refine (porder_calls _ 3 3 [2, 0, -1] _ (li_lits wH [2, 0, -1] 3 rfl (by decide)) (by decide)).mono ?_; rintro e wI ⟨⟨vI, rfl, hvI⟩, hbI⟩; rw [HT.out.2.2.2.2.2.2] at hvI; obtain ⟨aI, cI, rfl⟩ := hvI.form; have HVI := Lib.hid hvI; have BI := Lib.hid ((BH.out.alloc BH.out.size _).trans (hbI.mono (by have := BH.out.size; simp; omega))); clear hvI hbI))
              | (go_at_call 11; refine (rints_calls aI _ 2 cI 2 2 [2, 0] [2, 0] _ (HVI.out.below ((Below.refl _ _).alloc (Nat.le_refl _) _)) (li_lits wI [2, 0] 2 rfl (by decide))).mono ?_; rintro e wJ ⟨he, hbJ⟩; rw [show decide (([2, 0] : List Int) = [2, 0]) = true from rfl] at he; subst he; have BJ := Lib.hid ((BI.out.alloc BI.out.size _).trans (hbJ.mono (by have := BI.out.size; simp; omega))); clear hbJ)
              | (go_at_call 11; refine (rints_calls aF _ 7 cF 7 7 [0, 1, -1, 2, 3, -1, -1] [0, 1, -1, 2, 3, -1, -1] _ (HVF.out.below ((Below.refl _ _).alloc (Nat.le_refl _) _)) (li_lits wF [0, 1, -1, 2, 3, -1, -1] 7 rfl (by decide))).mono ?_; rintro e wG ⟨he, hbG⟩; rw [show decide (([0, 1, -1, 2, 3, -1, -1] : List Int) = [0, 1, -1, 2, 3, -1, -1]) = true from rfl] at he; subst he; have BG := Lib.hid ((BF.out.alloc BF.out.size _).trans (hbG.mono (by have := BF.out.size; simp; omega))); clear hbG)
              | (go_at_call 11; go_must (refine (rints_calls aD _ 5 cD 5 5 [0, 1, -1, 2, -1] [0, 1, -1, 2, -1] _ (HVD.out.below ((Below.refl _ _).alloc (Nat.le_refl _) _)) (li_lits wD [0, 1, -1, 2, -1] 5 rfl (by decide))).mono ?_; rintro e wE ⟨he, hbE⟩; rw [show decide (([0, 1, -1, 2, -1] : List Int) = [0, 1, -1, 2, -1]) = true from rfl] at he; subst he; have BE := Lib.hid ((BD.out.alloc BD.out.size _).trans (hbE.mono (by have := BD.out.size; simp; omega))); clear hbE)))
            go_ret
            exact ⟨rfl, HB6.out.trans (BJ.out.mono HB6.out.size)⟩
end Go.Proofs.Ytgmaljikjkbdlaa
