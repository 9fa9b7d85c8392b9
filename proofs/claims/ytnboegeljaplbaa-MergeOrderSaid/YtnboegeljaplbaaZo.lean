/- MergeOrder, walked. -/
import Derived.Test.YtnboegeljaplbaaZn
namespace Go.Proofs.Ytnboegeljaplbaa
open Go.RowKit Lv Go.Shelf
open Ieee (double Format Datum Toward)
attribute [local go_sem] Oper.semAt_some run_store_float drewN_alloc drewN_setCell

theorem EE_mono {M N M' N' : Rat} (hM : 0 ≤ M) (hN : 0 ≤ N) (h1 : M ≤ M') (h2 : N ≤ N') : EE M N ≤ EE M' N' := by
  have a1 := rmul_mono (Rat.le_of_lt uu_pos) (rmul_le hM hN h1 h2)
  have a2 := rmul_mono (Rat.le_of_lt ee_pos) (show M + N ≤ M' + N' by grind)
  unfold EE
  grind
theorem MM_mono {U : Rat} {K K' : Nat} (h : K ≤ K') : MM U K ≤ MM U K' := by
  have h1 : (K : Rat) ≤ (K' : Rat) := by exact_mod_cast h
  have h2 := Rat.mul_le_mul_of_nonneg_right h1 (Rat.le_of_lt ee_pos)
  unfold MM
  grind
/-- both ways, against one another -/
theorem order_near {c : Nat} {ax bx : List (Option Nat)} {ar at' br bt : Int} {G H : FacD} (hA : ∀ i, Wd (ax.getD i none)) (hB : ∀ i, Wd (bx.getD i none)) (h : twoD ⟨(c : Int), ax, ar, at'⟩ ⟨(c : Int), bx, br, bt⟩ = (G, 0)) (h' : twoD ⟨(c : Int), bx, br, bt⟩ ⟨(c : Int), ax, ar, at'⟩ = (H, 0)) :
    checkP (c : Int) ax ar at' = true ∧ checkP (c : Int) bx br bt = true ∧ TriOk c ax ∧ TriOk c bx ∧ TriOk c G.xs ∧ TriOk c H.xs ∧
    ∀ us A, A ≤ 860 → Norms c A (addL (gramL c (linesD ax c)) (gramL c (linesD bx c))) us → ∀ i j, i ≤ j → j ≤ c →
      absR ((gramL c (linesD H.xs c)).getD (gix c i j) 0 - (gramL c (linesD G.xs c)).getD (gix c i j) 0) ≤ bndQ (us.getD i 0) (us.getD j 0) (2 * tsz c) := by
  obtain ⟨k1, k2, TA, TB, TG, k3⟩ := two_parts hA hB h
  obtain ⟨_, _, _, _, TH, k4⟩ := two_parts hB hA h'
  refine ⟨k1, k2, TA, TB, TG, TH, fun us A hA8 hN i j hij hj => ?_⟩
  have la := (gramL_ok (c := c) (A := 420) _ TA.lines).1
  have lb := (gramL_ok (c := c) (A := 420) _ TB.lines).1
  have hin : ∀ i l, i ≤ l → l ≤ c → (addL (gramL c (linesD ax c)) (gramL c (linesD bx c))).getD (gix c i l) 0 = Gx ax c i l + Gx bx c i l := by
    intro i l hil hlc
    rw [addL_get la lb (gix_lt TA.h1 TA.h6 hil hlc), gram_get TA.h1 TA.h6 TA.len hil hlc, gram_get TB.h1 TB.h6 TB.len hil hlc]
  have hK : 2 * tsz c ≤ 4096 := by have := tsz_bounds TA.h1 TA.h6; omega
  have hsq : ∀ l, l ≤ c → Gx ax c l l + Gx bx c l l ≤ us.getD l 0 * us.getD l 0 := fun l hl => by
    have := hN.sq l hl
    rwa [hin l l (Nat.le_refl _) hl] at this
  have a1 := k3 (fun l => us.getD l 0) A hA8 (fun l hl => ⟨hN.nn l hl, hN.le l hl, hsq l hl⟩) i j (by omega) hj
  have a2 := k4 (fun l => us.getD l 0) A hA8 (fun l hl => ⟨hN.nn l hl, hN.le l hl, by rw [Rat.add_comm]; exact hsq l hl⟩) i j (by omega) hj
  rw [gram_get TG.h1 TG.h6 TG.len hij hj, gram_get TH.h1 TH.h6 TH.len hij hj]
  have a3 := a2.sub a1
  rw [show Gx H.xs c i j - (Gx bx c i j + Gx ax c i j) - (Gx G.xs c i j - (Gx ax c i j + Gx bx c i j)) = Gx H.xs c i j - Gx G.xs c i j by grind] at a3
  refine bd_absR.1 (a3.mono (Rat.le_trans ?_ (bnd_room (hN.nn i (by omega)) (hN.nn j hj) hK (show 2 * tsz c ≤ 2 * (2 * tsz c) by omega))))
  have m1 := EE_mono (MM_nn (hN.nn i (by omega)) (tsz c)) (MM_nn (hN.nn j hj) (tsz c)) (MM_mono (show tsz c ≤ 2 * tsz c by omega)) (MM_mono (show tsz c ≤ 2 * tsz c by omega))
  have m2 := rmul_mono (ratn_nn (tsz c)) m1
  have e2 : ((2 * tsz c : Nat) : Rat) = 2 * ((tsz c : Nat) : Rat) := by norm_cast
  rw [e2]
  grind
theorem twoEarly_comm (A B : FacD) : twoEarly A B = twoEarly B A := by
  have e1 : A.rws + B.rws = B.rws + A.rws := by omega
  have e2 : max A.trn B.trn = max B.trn A.trn := by omega
  unfold twoEarly
  rw [e1, e2]
  by_cases h1 : A.ok = false <;> by_cases h2 : B.ok = false <;> by_cases h3 : A.cols = B.cols
  all_goals first
    | (simp only [h1, h2, h3, true_or, or_true, or_self, if_true]; done)
    | (have h4 : ¬ B.cols = A.cols := fun e => h3 e.symm
       simp [h1, h2, h3, h4])
    | simp [h1, h2, h3]
/-- the errors both ways -/
theorem order_errs (A B : FacD) : (twoEarly A B ≠ 0 ∧ (twoD A B).2 = twoEarly A B ∧ (twoD B A).2 = twoEarly A B) ∨ (((twoD A B).2 = 0 ∨ (twoD A B).2 = 2) ∧ ((twoD B A).2 = 0 ∨ (twoD B A).2 = 2)) := by
  by_cases h : twoEarly A B = 0
  · right
    have h' : twoEarly B A = 0 := by rw [← twoEarly_comm]; exact h
    rw [twoD_loop h rfl, twoD_loop h' rfl]
    constructor <;> (split <;> simp)
  · left
    refine ⟨h, by rw [twoD_early rfl h], by rw [twoD_early (A := B) (B := A) (twoEarly_comm B A) h]⟩

set_option maxRecDepth 100000 in
set_option maxHeartbeats 4000000 in
theorem mergeOrder_walk (w : World) (A : FacD) (a : Option Addr) (n cap : Nat) (h : Row w (.slice a n cap) A.xs) (B : FacD) (b : Option Addr) (m d : Nat) (hl : Row w (.slice b m d) B.xs) :
    Calls Try.prog 5 #[.agg #[.int .i64 A.cols, .slice a n cap, .int .i64 A.rws, .int .i64 A.trn], .agg #[.int .i64 B.cols, .slice b m d, .int .i64 B.rws, .int .i64 B.trn]] w fun e w' => e = .returned (.bool true) ∧ Below w.heap.size w w' := by
  have hB1 := (Below.refl w.heap.size w).alloc (Nat.le_refl _) (.cells #[.int .i64 A.cols, .slice a n cap, .int .i64 A.rws, .int .i64 A.trn] 24)
  have hB := hB1.alloc (by simp) (.cells #[.int .i64 B.cols, .slice b m d, .int .i64 B.rws, .int .i64 B.trn] 24)
  have HR := Lib.hid h
  have HL := Lib.hid hl
  have HB := Lib.hid hB
  by_cases h1 : 60 < n
  · have h1i : (60 : Int) < (n : Int) := by omega
    clear h hl hB1
    go_enter Try.func5, Try.ntmps5
    go_wp2_with (go_at_call 16; refine (live13_calls _).mono ?_; rintro e w6 ⟨rfl, hb6⟩)
    go_ret
    exact ⟨rfl, hB.trans (hb6.mono (by simp; omega))⟩
  have h1i : ¬ (60 : Int) < (n : Int) := by omega
  by_cases h2 : 60 < m
  · have h2i : (60 : Int) < (m : Int) := by omega
    clear h hl hB1
    go_enter Try.func5, Try.ntmps5
    go_wp2_with (go_at_call 16; refine (live13_calls _).mono ?_; rintro e w6 ⟨rfl, hb6⟩)
    go_ret
    exact ⟨rfl, hB.trans (hb6.mono (by simp; omega))⟩
  have h2i : ¬ (60 : Int) < (m : Int) := by omega
  have C3 := Lib.hid ((Cells4.new w (.int .i64 A.cols) (.slice a n cap) (.int .i64 A.rws) (.int .i64 A.trn) 24).alloc (.cells #[.int .i64 B.cols, .slice b m d, .int .i64 B.rws, .int .i64 B.trn] 24))
  have hd3 : Cells4 ((w.alloc (.cells #[.int .i64 A.cols, .slice a n cap, .int .i64 A.rws, .int .i64 A.trn] 24)).alloc (.cells #[.int .i64 B.cols, .slice b m d, .int .i64 B.rws, .int .i64 B.trn] 24)) (w.heap.size + 1) (.int .i64 B.cols) (.slice b m d) (.int .i64 B.rws) (.int .i64 B.trn) := by
    have := Cells4.new (w.alloc (.cells #[.int .i64 A.cols, .slice a n cap, .int .i64 A.rws, .int .i64 A.trn] 24)) (.int .i64 B.cols) (.slice b m d) (.int .i64 B.rws) (.int .i64 B.trn) 24
    simpa using this
  have D3 := Lib.hid hd3
  clear hd3
  have TW := Lib.hid (fun W hF hL => two_calls A B a b n cap m d W hF hL)
  have TX := Lib.hid (fun W hF hL => two_calls B A b a m d n cap W hF hL)
  have HW := Lib.hid (And.intro (row_wd h) (row_wd hl))
  have ER := order_errs A B
  obtain ⟨R, hR⟩ : ∃ R, R = twoD A B := ⟨_, rfl⟩
  obtain ⟨S, hS⟩ : ∃ S, S = twoD B A := ⟨_, rfl⟩
  rw [← hR] at TW ER
  rw [← hS] at TX ER
  obtain ⟨G, ge⟩ := R
  obtain ⟨H, he⟩ := S
  dsimp only at ER
  obtain ⟨W2, hW2⟩ : ∃ x, x = (w.alloc (.cells #[.int .i64 A.cols, .slice a n cap, .int .i64 A.rws, .int .i64 A.trn] 24)).alloc (.cells #[.int .i64 B.cols, .slice b m d, .int .i64 B.rws, .int .i64 B.trn] 24) := ⟨_, rfl⟩
  rw [← hW2] at C3 D3 HB
  have HRS := Lib.hid (And.intro hR hS)
  have HER := Lib.hid ER
  clear h hl hR hS hB hB1 ER
  go_enter Try.func5, Try.ntmps5
  go_upto_region 3 with (fail)
  rw [← hW2]
  clear hW2
  go_cut [5, 6] from 32 to 37 (fun s5 s6 wx => FacCut W2 G ge s5 s6 wx)
  case first =>
    obtain ⟨c0, c1, c2, c3, _, _, _, _⟩ := C3.out
    obtain ⟨d0, d1, d2, d3, _, _, _, _⟩ := D3.out
    go_wp2_with (go_at_call 17; go_must (refine (TW.out _ (HR.out.below HB.out) (HL.out.below HB.out)).mono ?_; rintro e wL ⟨⟨ga, gn, gcp, he, hrow⟩, hbL⟩; dsimp only at he hrow; subst he))
    go_meet
    case rel => exact ⟨_, rfl, rfl, FacAt.new (F := G) hrow, hbL.alloc hbL.size _⟩
  case rest =>
    obtain ⟨b5, rfl, rfl, F5, B5⟩ := hcut
    obtain ⟨W5, rfl⟩ : ∃ x, x = wc := ⟨_, rfl⟩
    have B5' := Lib.hid (HB.out.trans (B5.mono HB.out.size))
    have C5 := Lib.hid (C3.out.below B5)
    have D5 := Lib.hid (D3.out.below B5)
    have F5' := Lib.hid F5
    clear F5 B5
    go_upto_region 4 with (fail)
    go_cut [7, 8] from 38 to 43 (fun s5 s6 wx => FacCut W5 H he s5 s6 wx)
    case first =>
      obtain ⟨c0, c1, c2, c3, _, _, _, _⟩ := C5.out
      obtain ⟨d0, d1, d2, d3, _, _, _, _⟩ := D5.out
      go_wp2_with (go_at_call 17; go_must (refine (TX.out _ (HL.out.below B5'.out) (HR.out.below B5'.out)).mono ?_; rintro e wL ⟨⟨ga, gn, gcp, he, hrow⟩, hbL⟩; dsimp only at he hrow; subst he))
      go_meet
      case rel => exact ⟨_, rfl, rfl, FacAt.new (F := H) hrow, hbL.alloc hbL.size _⟩
    case rest =>
      obtain ⟨b7, rfl, rfl, F7, B7⟩ := hcut
      obtain ⟨W7, rfl⟩ : ∃ x, x = wc := ⟨_, rfl⟩
      have B7' := Lib.hid (B5'.out.trans (B7.mono B5'.out.size))
      have C7 := Lib.hid (C5.out.below B7)
      have D7 := Lib.hid (D5.out.below B7)
      have G7 := Lib.hid (F5'.out.below B7)
      have H7 := Lib.hid F7
      clear F7 B7 TW TX C3 D3 C5 D5
      by_cases hge : ge = 0 ∧ he = 0
      · obtain ⟨rfl, rfl⟩ := hge
        obtain ⟨hR, hS⟩ := HRS.out
        have hok : A.ok = true := by
          by_cases e : twoEarly A B = 0
          · exact (two_zero e).1
          · have := twoD_early (A := A) (B := B) rfl e
            rw [← hR] at this
            exact absurd (Prod.mk.inj this).2.symm e
        obtain ⟨ac, ax, ar, at'⟩ := A
        obtain ⟨bc, bx, br, bt⟩ := B
        obtain ⟨gc, gx, gr, gt⟩ := G
        obtain ⟨hc, hx, hr, ht⟩ := H
        obtain ⟨c, rfl⟩ := Int.eq_ofNat_of_zero_le (show 0 ≤ ac by have := ok_cols hok; dsimp only at this; omega)
        obtain ⟨g1, g2, g3, g4, g5, g6, g7, _⟩ := merge_grows (A := ⟨(c : Int), ax, ar, at'⟩) (B := ⟨bc, bx, br, bt⟩) (c := c) rfl (fun i _ => HW.out.1 i) (fun i _ => HW.out.2 i) hR.symm
        dsimp only at g4 g5 g6 g7
        subst g4 g5 g6 g7
        obtain ⟨_, _, f3, _, f5, f6, f7, _⟩ := merge_grows (A := ⟨(c : Int), bx, br, bt⟩) (B := ⟨(c : Int), ax, ar, at'⟩) (c := c) rfl (fun i _ => HW.out.2 i) (fun i _ => HW.out.1 i) hS.symm
        dsimp only at f5 f6 f7
        subst f5 f6 f7
        obtain ⟨hcka, hckb, hTa, hTb, hTg, hTh, hNear⟩ := order_near HW.out.1 HW.out.2 hR.symm hS.symm
        have h1c := hTa.h1
        have h6c := hTa.h6
        dsimp only at hTg hTh hNear
        have hckg : checkP (c : Int) gx (ar + br) (max at' bt + sizeI (c : Int)) = true := g3
        have hckh : checkP (c : Int) hx (br + ar) (max bt at' + sizeI (c : Int)) = true := f3
        have e1 : br + ar = ar + br := by omega
        have e2 : max bt at' = max at' bt := by omega
        rw [e1, e2] at hckh H7
        have HCO := Lib.hid (fun W => cost_calls (c : Int) W)
        rw [size_cols h1c h6c] at hckg hckh HCO G7 H7
        obtain ⟨s, hs⟩ : ∃ s, tsz c = s := ⟨_, rfl⟩
        have hsb := tsz_bounds h1c h6c
        rw [hs] at hsb HCO hNear
        obtain ⟨k, hk⟩ : ∃ k, 2 * s = k := ⟨_, rfl⟩
        rw [hk] at hNear
        have hki : 2 * (s : Int) = (k : Int) := by omega
        have hkw : IntKind.i64.wrap (k : Int) = (k : Int) := IntWalk.i64_in _ (by omega)
        have HNE := Lib.hid hNear
        have LA := gramL_ok (c := c) (A := 420) _ hTa.lines
        have LB := gramL_ok (c := c) (A := 420) _ hTb.lines
        have LG := gramL_ok (c := c) (A := 420) _ hTg.lines
        have LH := gramL_ok (c := c) (A := 420) _ hTh.lines
        rw [linesD_len, hs] at LA LB LG LH
        have GA := Lib.hid (fun W hW => gfactor_calls c 420 ar at' a n cap ax W hW hcka hTa.lines (by omega))
        have GB := Lib.hid (fun W hW => gfactor_calls c 420 br bt b m d bx W hW hckb hTb.lines (by omega))
        have GG := Lib.hid (fun W ga gn gcp hW => gfactor_calls c 420 (ar + br) (max at' bt + ((tsz c : Nat) : Int)) ga gn gcp gx W hW hckg hTg.lines (by omega))
        have GH := Lib.hid (fun W ga gn gcp hW => gfactor_calls c 420 (ar + br) (max at' bt + ((tsz c : Nat) : Int)) ga gn gcp hx W hW hckh hTh.lines (by omega))
        rw [hs] at GG GH G7 H7
        generalize gramL c (linesD ax c) = qa at *
        generalize gramL c (linesD bx c) = qb at *
        generalize gramL c (linesD gx c) = qg at *
        generalize gramL c (linesD hx c) = qh at *
        have PA := Lib.hid (show ∀ j, j < s → Bd (qa.getD j 0) (p2 ((859 : Nat) : Int)) from fun j hj => bd_p2_mono (LA.2 j hj) (by omega))
        have PB := Lib.hid (show ∀ j, j < s → Bd (qb.getD j 0) (p2 ((859 : Nat) : Int)) from fun j hj => bd_p2_mono (LB.2 j hj) (by omega))
        have PG := Lib.hid (show ∀ j, j < s → Bd (qg.getD j 0) (p2 ((860 : Nat) : Int)) from fun j hj => bd_p2_mono (LG.2 j hj) (by omega))
        have PH := Lib.hid (show ∀ j, j < s → Bd (qh.getD j 0) (p2 ((860 : Nat) : Int)) from fun j hj => bd_p2_mono (LH.2 j hj) (by omega))
        have LQ := Lib.hid (And.intro LA.1 (And.intro LB.1 (And.intro LG.1 LH.1)))
        have PS := Lib.hid (show ∀ j, j < s → Bd ((addL qa qb).getD j 0) (p2 ((860 : Nat) : Int)) from fun j hj => by
          rw [addL_get LA.1 LB.1 hj]
          exact bd_add_p2 (PA.out j hj) (PB.out j hj))
        have HS := Lib.hid hs
        generalize max at' bt + (s : Int) = gt at *
        generalize ar + br = gr at *
        clear hR hS hok g1 g2 g3 f3 hcka hckb hckg hckh hTa hTb hTg hTh hNear LA LB LG LH hs HW e1 e2 HER HRS
        obtain ⟨fa, fn, fcp, fC, fR⟩ := G7.out
        obtain ⟨ha, hn, hcp, hC, hRr⟩ := H7.out
        have FC := Lib.hid fC
        have FR := Lib.hid fR
        have XC := Lib.hid hC
        have XR := Lib.hid hRr
        have HR7 := Lib.hid (HR.out.below B7'.out)
        have HL7 := Lib.hid (HL.out.below B7'.out)
        obtain ⟨c0, c1, c2, c3, _, _, _, _⟩ := C7.out
        clear fC fR hC hRr
        go_upto_region 8 with (go_at_call 12; go_must (refine (GA.out _ HR7.out).mono ?_; rintro e w6 ⟨⟨v, rfl, hv⟩, hb6⟩; obtain ⟨pa, pc, hpv, _, _⟩ := hv.form; rw [LQ.out.1] at hpv; subst hpv; have Q6 := Lib.hid hv.dql; have B6 := Lib.hid hb6; have D6 := Lib.hid (D7.out.below hb6); clear c0 c1 c2 c3 hb6 hv; obtain ⟨d0, d1, d2, d3, _, _, _, _⟩ := D6.out))
        go_upto_region 10 with (first
          | (go_at_call 12; go_must (refine (GB.out _ (HL7.out.below B6.out)).mono ?_; rintro e w7 ⟨⟨v, rfl, hv⟩, hb7⟩; obtain ⟨ra, rc, hpv, _, _⟩ := hv.form; rw [LQ.out.2.1] at hpv; subst hpv; have R7 := Lib.hid hv.dql; have Q7 := Lib.hid (Q6.out.below hb7); have B8 := Lib.hid (B6.out.trans (hb7.mono B6.out.size)); clear d0 d1 d2 d3 hb7 hv))
          | (go_at_call 14; go_must (refine (gadd_calls pa ra s pc rc 859 2148 qa qb w7 Q7.out R7.out (by omega) PA.out PB.out (by omega)).mono ?_; rintro e w8 ⟨⟨v, rfl, hv⟩, hb8⟩; obtain ⟨sa, sc, hpv, _, _⟩ := hv.form; rw [addL_len LQ.out.1 LQ.out.2.1] at hpv; subst hpv; have S8 := Lib.hid hv.dql; have B9 := Lib.hid (B8.out.trans (hb8.mono B8.out.size)); have FC8 := Lib.hid (FC.out.below B9.out); clear hb8 hv; obtain ⟨x0, x1, x2, x3, _, _, _, _⟩ := FC8.out)))
        go_upto_region 11 with (go_at_call 12; go_must (refine (GG.out _ _ _ _ (FR.out.below B9.out)).mono ?_; rintro e w9 ⟨⟨v, rfl, hv⟩, hb9⟩; obtain ⟨ga, gc, hpv, _, _⟩ := hv.form; rw [LQ.out.2.2.1] at hpv; subst hpv; have G9 := Lib.hid hv.dql; have S9 := Lib.hid (S8.out.below hb9); have B10 := Lib.hid (B9.out.trans (hb9.mono B9.out.size)); have XC9 := Lib.hid (XC.out.below B10.out); clear x0 x1 x2 x3 hb9 hv; obtain ⟨x0, x1, x2, x3, _, _, _, _⟩ := XC9.out))
        go_upto_region 12 with (go_at_call 12; go_must (refine (GH.out _ _ _ _ (XR.out.below B10.out)).mono ?_; rintro e w10 ⟨⟨v, rfl, hv⟩, hb10⟩; obtain ⟨ya, yc, hpv, _, _⟩ := hv.form; rw [LQ.out.2.2.2] at hpv; subst hpv; have H10 := Lib.hid hv.dql; have S10 := Lib.hid (S9.out.below hb10); have G10 := Lib.hid (G9.out.below hb10); have B11 := Lib.hid (B10.out.trans (hb10.mono B10.out.size)); clear x0 x1 x2 x3 hb10 hv))
        have BD := Lib.hid ((Below.refl w10.heap.size w10).drew)
        have S0 := Lib.hid (S10.out.below BD.out)
        have G0 := Lib.hid (G10.out.below BD.out)
        have H0 := Lib.hid (H10.out.below BD.out)
        have X0 := Lib.hid (((FC.out.below B11.out).below BD.out).c0)
        go_region_held3 (fun w' => w'.cell? ⟨b5, 0, none⟩ = some (.int .i64 (c : Int)))
          (first
            | with_reducible exact X0.out
            | with_reducible exact X1.out)
          (first
            | (go_at_call 18; go_must (refine (HCO.out _).mono ?_; rintro e ww ⟨rfl, rfl⟩))
            | (go_at_call 15; go_must (refine (echeck_calls c k s 860 ga sa ya gc sc yc qg (addL qa qb) qh _ G0.out S0.out H0.out h1c h6c HS.out.symm PG.out PS.out PH.out (by omega) (by omega) (fun us hN i j hij hj => HNE.out us 860 (by omega) hN i j hij hj)).mono ?_; rintro e w11 ⟨rfl, hb11⟩; have B12 := Lib.hid (BD.out.trans (hb11.mono BD.out.size)); have X1 := Lib.hid (((FC.out.below B11.out).below B12.out).c0); clear hb11)))
        have BZ := Lib.hid (B11.out.trans (B12.out.mono B11.out.size))
        have hgr : (gr == gr) = true := by simp
        have hgt : (gt == gt) = true := by simp
        obtain ⟨x0, x1, x2, x3, _, _, _, _⟩ := (FC.out.below BZ.out)
        obtain ⟨y0, y1, y2, y3, _, _, _, _⟩ := (XC.out.below BZ.out)
        go_wp2_with (go_at_call 16; refine (live13_calls _).mono ?_; rintro e w13 ⟨rfl, hb13⟩)
        go_ret
        exact ⟨rfl, (B7'.out.trans (BZ.out.mono B7'.out.size)).trans (hb13.mono (by have := B7'.out.size; have := BZ.out.size; omega))⟩
      · have hne : ((ge != 0) = true) ∨ ((ge != 0) = false ∧ (he != 0) = true) := by
          by_cases e : ge = 0
          · subst e
            exact .inr ⟨rfl, by simpa using hge⟩
          · exact .inl (by simpa using e)
        have hq : (ge == 6) = (he == 6) ∧ (ge == 1) = (he == 1) ∧ (ge == 3) = (he == 3) := by
          rcases HER.out with ⟨_, e1, e2⟩ | ⟨e1, e2⟩
          · rw [e1, e2]; exact ⟨rfl, rfl, rfl⟩
          · rcases e1 with rfl | rfl <;> rcases e2 with rfl | rfl <;> exact ⟨rfl, rfl, rfl⟩
        obtain ⟨q1, q2, q3⟩ := hq
        clear HER HRS HW hge
        rcases hne with hne | ⟨hne, hne2⟩
        · go_wp2_with (go_at_call 16; refine (live13_calls _).mono ?_; rintro e w13 ⟨rfl, hb13⟩)
          go_ret
          exact ⟨rfl, B7'.out.trans (hb13.mono B7'.out.size)⟩
        · go_wp2_with (go_at_call 16; refine (live13_calls _).mono ?_; rintro e w13 ⟨rfl, hb13⟩)
          go_ret
          exact ⟨rfl, B7'.out.trans (hb13.mono B7'.out.size)⟩
end Go.Proofs.Ytnboegeljaplbaa
