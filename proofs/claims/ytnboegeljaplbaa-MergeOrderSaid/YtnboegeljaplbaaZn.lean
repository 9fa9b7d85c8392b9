/- MergeNear, walked. -/
import Derived.Test.YtnboegeljaplbaaMj
import Derived.Test.YtnboegeljaplbaaOh
import Derived.Test.YtnboegeljaplbaaZm
namespace Go.Proofs.Ytnboegeljaplbaa
open Go.RowKit Lv Go.Shelf
open Ieee (double Format Datum Toward)
attribute [local go_sem] Oper.semAt_some run_store_float drewN_alloc drewN_setCell

/-- the Gram list of two that are merged, against both -/
theorem merge_near {c : Nat} {ax bx : List (Option Nat)} {ar at' br bt : Int} {G : FacD} (hA : ∀ i, Wd (ax.getD i none)) (hB : ∀ i, Wd (bx.getD i none)) (h : twoD ⟨(c : Int), ax, ar, at'⟩ ⟨(c : Int), bx, br, bt⟩ = (G, 0)) :
    checkP (c : Int) ax ar at' = true ∧ checkP (c : Int) bx br bt = true ∧ TriOk c ax ∧ TriOk c bx ∧ TriOk c G.xs ∧
    ∀ us A, A ≤ 860 → Norms c A (addL (gramL c (linesD ax c)) (gramL c (linesD bx c))) us → ∀ i j, i ≤ j → j ≤ c →
      absR ((gramL c (linesD G.xs c)).getD (gix c i j) 0 - (addL (gramL c (linesD ax c)) (gramL c (linesD bx c))).getD (gix c i j) 0) ≤ bndQ (us.getD i 0) (us.getD j 0) (tsz c) := by
  obtain ⟨k1, k2, TA, TB, TG, k3⟩ := two_parts hA hB h
  refine ⟨k1, k2, TA, TB, TG, fun us A hA8 hN i j hij hj => ?_⟩
  have la := (gramL_ok (c := c) (A := 420) _ TA.lines).1
  have lb := (gramL_ok (c := c) (A := 420) _ TB.lines).1
  have hin : ∀ i l, i ≤ l → l ≤ c → (addL (gramL c (linesD ax c)) (gramL c (linesD bx c))).getD (gix c i l) 0 = Gx ax c i l + Gx bx c i l := by
    intro i l hil hlc
    rw [addL_get la lb (gix_lt TA.h1 TA.h6 hil hlc), gram_get TA.h1 TA.h6 TA.len hil hlc, gram_get TB.h1 TB.h6 TB.len hil hlc]
  have hK : tsz c ≤ 4096 := by have := tsz_bounds TA.h1 TA.h6; omega
  have := k3 (fun l => us.getD l 0) A hA8 (fun l hl => ⟨hN.nn l hl, hN.le l hl, by have := hN.sq l hl; rwa [hin l l (Nat.le_refl _) hl] at this⟩) i j (by omega) hj
  rw [gram_get TG.h1 TG.h6 TG.len hij hj, hin i j hij hj]
  exact bd_absR.1 (this.mono (bnd_room (hN.nn i (by omega)) (hN.nn j hj) hK (by omega)))
theorem size_cols {c : Nat} (h1 : 1 ≤ c) (h6 : c ≤ 6) : sizeI (c : Int) = ((tsz c : Nat) : Int) := by unfold sizeI; rw [if_pos ⟨by omega, by omega⟩, Int.toNat_natCast]

set_option maxRecDepth 100000 in
set_option maxHeartbeats 4000000 in
theorem mergeNear_walk (w : World) (A : FacD) (a : Option Addr) (n cap : Nat) (h : Row w (.slice a n cap) A.xs) (B : FacD) (b : Option Addr) (m d : Nat) (hl : Row w (.slice b m d) B.xs) :
    Calls Try.prog 4 #[.agg #[.int .i64 A.cols, .slice a n cap, .int .i64 A.rws, .int .i64 A.trn], .agg #[.int .i64 B.cols, .slice b m d, .int .i64 B.rws, .int .i64 B.trn]] w fun e w' => e = .returned (.bool true) ∧ Below w.heap.size w w' := by
  have hB1 := (Below.refl w.heap.size w).alloc (Nat.le_refl _) (.cells #[.int .i64 A.cols, .slice a n cap, .int .i64 A.rws, .int .i64 A.trn] 24)
  have hB := hB1.alloc (by simp) (.cells #[.int .i64 B.cols, .slice b m d, .int .i64 B.rws, .int .i64 B.trn] 24)
  have HR := Lib.hid h
  have HL := Lib.hid hl
  have HB := Lib.hid hB
  by_cases h1 : 60 < n
  · have h1i : (60 : Int) < (n : Int) := by omega
    clear h hl hB1
    go_enter Try.func4, Try.ntmps4
    go_wp2_with (go_at_call 16; refine (live13_calls _).mono ?_; rintro e w6 ⟨rfl, hb6⟩)
    go_ret
    exact ⟨rfl, hB.trans (hb6.mono (by simp; omega))⟩
  have h1i : ¬ (60 : Int) < (n : Int) := by omega
  by_cases h2 : 60 < m
  · have h2i : (60 : Int) < (m : Int) := by omega
    clear h hl hB1
    go_enter Try.func4, Try.ntmps4
    go_wp2_with (go_at_call 16; refine (live13_calls _).mono ?_; rintro e w6 ⟨rfl, hb6⟩)
    go_ret
    exact ⟨rfl, hB.trans (hb6.mono (by simp; omega))⟩
  have h2i : ¬ (60 : Int) < (m : Int) := by omega
  have C3 := Lib.hid ((Cells4.new w (.int .i64 A.cols) (.slice a n cap) (.int .i64 A.rws) (.int .i64 A.trn) 24).alloc (.cells #[.int .i64 B.cols, .slice b m d, .int .i64 B.rws, .int .i64 B.trn] 24))
  have hd3 : Cells4 ((w.alloc (.cells #[.int .i64 A.cols, .slice a n cap, .int .i64 A.rws, .int .i64 A.trn] 24)).alloc (.cells #[.int .i64 B.cols, .slice b m d, .int .i64 B.rws, .int .i64 B.trn] 24)) (w.heap.size + 1) (.int .i64 B.cols) (.slice b m d) (.int .i64 B.rws) (.int .i64 B.trn) := by
    have := Cells4.new (w.alloc (.cells #[.int .i64 A.cols, .slice a n cap, .int .i64 A.rws, .int .i64 A.trn] 24)) (.int .i64 B.cols) (.slice b m d) (.int .i64 B.rws) (.int .i64 B.trn) 24
    simpa using this
  have D3 := Lib.hid hd3
  clear hd3
  have TW := Lib.hid (fun W hF hL => two_calls A B a b n cap m d W hF hL)
  have HW := Lib.hid (And.intro (row_wd h) (row_wd hl))
  obtain ⟨R, hR⟩ : ∃ R, R = twoD A B := ⟨_, rfl⟩
  rw [← hR] at TW
  obtain ⟨G, ge⟩ := R
  obtain ⟨W2, hW2⟩ : ∃ x, x = (w.alloc (.cells #[.int .i64 A.cols, .slice a n cap, .int .i64 A.rws, .int .i64 A.trn] 24)).alloc (.cells #[.int .i64 B.cols, .slice b m d, .int .i64 B.rws, .int .i64 B.trn] 24) := ⟨_, rfl⟩
  rw [← hW2] at C3 D3 HB
  by_cases hge : ge ≠ 0
  · have hne : (ge != 0) = true := by simpa using hge
    clear h hl hR hB hB1 hge
    go_enter Try.func4, Try.ntmps4
    go_upto_region 3 with (fail)
    rw [← hW2]
    clear hW2
    obtain ⟨c0, c1, c2, c3, _, _, _, _⟩ := C3.out
    obtain ⟨d0, d1, d2, d3, _, _, _, _⟩ := D3.out
    go_wp2_with (first
      | (go_at_call 17; go_must (refine (TW.out _ (HR.out.below HB.out) (HL.out.below HB.out)).mono ?_; rintro e wL ⟨⟨ga, gn, gcp, he, hrow⟩, hbL⟩; dsimp only at he hrow; subst he; have BL := Lib.hid (HB.out.trans ((hbL.alloc hbL.size (.cells #[.int .i64 G.cols, .slice ga gn gcp, .int .i64 G.rws, .int .i64 G.trn] 24)).mono HB.out.size)); clear hrow hbL))
      | (go_at_call 16; refine (live13_calls _).mono ?_; rintro e w8 ⟨rfl, hb8⟩))
    go_ret
    exact ⟨rfl, BL.out.trans (hb8.mono BL.out.size)⟩
  · obtain rfl : ge = 0 := by simpa using hge
    have hok : A.ok = true := by
      by_cases e : twoEarly A B = 0
      · exact (two_zero e).1
      · have := twoD_early (A := A) (B := B) rfl e
        rw [← hR] at this
        exact absurd (Prod.mk.inj this).2.symm e
    obtain ⟨ac, ax, ar, at'⟩ := A
    obtain ⟨bc, bx, br, bt⟩ := B
    obtain ⟨gc, gx, gr, gt⟩ := G
    obtain ⟨c, rfl⟩ := Int.eq_ofNat_of_zero_le (show 0 ≤ ac by have := ok_cols hok; dsimp only at this; omega)
    obtain ⟨g1, g2, g3, g4, g5, g6, g7, _⟩ := merge_grows (A := ⟨(c : Int), ax, ar, at'⟩) (B := ⟨bc, bx, br, bt⟩) (c := c) rfl (fun i _ => HW.out.1 i) (fun i _ => HW.out.2 i) hR.symm
    dsimp only at g4 g5 g6 g7
    subst g4 g5 g6 g7
    obtain ⟨hcka, hckb, hTa, hTb, hTg, hNear⟩ := merge_near HW.out.1 HW.out.2 hR.symm
    have h1c := hTa.h1
    have h6c := hTa.h6
    dsimp only at hTg hNear
    have hckg : checkP (c : Int) gx (ar + br) (max at' bt + sizeI (c : Int)) = true := g3
    rw [size_cols h1c h6c] at hckg TW
    have HCO := Lib.hid (fun W => cost_calls (c : Int) W)
    rw [size_cols h1c h6c] at HCO
    obtain ⟨s, hs⟩ : ∃ s, tsz c = s := ⟨_, rfl⟩
    have hsb := tsz_bounds h1c h6c
    rw [hs] at hsb HCO
    have HNE := Lib.hid hNear
    have LA := gramL_ok (c := c) (A := 420) _ hTa.lines
    have LB := gramL_ok (c := c) (A := 420) _ hTb.lines
    have LG := gramL_ok (c := c) (A := 420) _ hTg.lines
    rw [linesD_len, hs] at LA LB LG
    have GA := Lib.hid (fun W hW => gfactor_calls c 420 ar at' a n cap ax W hW hcka hTa.lines (by omega))
    have GB := Lib.hid (fun W hW => gfactor_calls c 420 br bt b m d bx W hW hckb hTb.lines (by omega))
    have GG := Lib.hid (fun W ga gn gcp hW => gfactor_calls c 420 (ar + br) (max at' bt + ((tsz c : Nat) : Int)) ga gn gcp gx W hW hckg hTg.lines (by omega))
    rw [hs] at GG TW HNE
    generalize gramL c (linesD ax c) = qa at *
    generalize gramL c (linesD bx c) = qb at *
    generalize gramL c (linesD gx c) = qg at *
    have PA := Lib.hid (show ∀ j, j < s → Bd (qa.getD j 0) (p2 ((859 : Nat) : Int)) from fun j hj => bd_p2_mono (LA.2 j hj) (by omega))
    have PB := Lib.hid (show ∀ j, j < s → Bd (qb.getD j 0) (p2 ((859 : Nat) : Int)) from fun j hj => bd_p2_mono (LB.2 j hj) (by omega))
    have PG := Lib.hid (show ∀ j, j < s → Bd (qg.getD j 0) (p2 ((860 : Nat) : Int)) from fun j hj => bd_p2_mono (LG.2 j hj) (by omega))
    have LQ := Lib.hid (And.intro LA.1 (And.intro LB.1 LG.1))
    have PS := Lib.hid (show ∀ j, j < s → Bd ((addL qa qb).getD j 0) (p2 ((860 : Nat) : Int)) from fun j hj => by
      rw [addL_get LA.1 LB.1 hj]
      exact bd_add_p2 (PA.out j hj) (PB.out j hj))
    have HS := Lib.hid hs
    generalize max at' bt + (s : Int) = gt at *
    generalize ar + br = gr at *
    clear h hl hR hB hB1 hok g1 g2 g3 hcka hckb hckg hge hTa hTb hTg hNear LA LB LG hs HW
    go_enter Try.func4, Try.ntmps4
    go_upto_region 3 with (fail)
    rw [← hW2]
    clear hW2
    go_cut [5, 6] from 28 to 33 (fun s5 s6 wx => FacCut W2 ⟨(c : Int), gx, gr, gt⟩ 0 s5 s6 wx)
    case first =>
      obtain ⟨c0, c1, c2, c3, _, _, _, _⟩ := C3.out
      obtain ⟨d0, d1, d2, d3, _, _, _, _⟩ := D3.out
      go_wp2_with (go_at_call 17; go_must (refine (TW.out _ (HR.out.below HB.out) (HL.out.below HB.out)).mono ?_; rintro e wL ⟨⟨ga, gn, gcp, he, hrow⟩, hbL⟩; dsimp only at he hrow; subst he))
      go_meet
      case rel => exact ⟨_, rfl, rfl, FacAt.new (F := ⟨(c : Int), gx, gr, gt⟩) hrow, hbL.alloc hbL.size _⟩
    case rest =>
      obtain ⟨b5, rfl, rfl, F5, B5⟩ := hcut
      obtain ⟨W5, rfl⟩ : ∃ x, x = wc := ⟨_, rfl⟩
      have B5' := Lib.hid (HB.out.trans (B5.mono HB.out.size))
      have C5 := Lib.hid (C3.out.below B5)
      have D5 := Lib.hid (D3.out.below B5)
      obtain ⟨fa, fn, fcp, fC, fR⟩ := F5
      have FC := Lib.hid fC
      have FR := Lib.hid fR
      have HR5 := Lib.hid (HR.out.below B5'.out)
      have HL5 := Lib.hid (HL.out.below B5'.out)
      obtain ⟨c0, c1, c2, c3, _, _, _, _⟩ := C5.out
      obtain ⟨d0, d1, d2, d3, _, _, _, _⟩ := D5.out
      obtain ⟨x0, x1, x2, x3, _, _, _, _⟩ := FC.out
      clear fC fR TW C3 D3
      go_upto_region 7 with (go_at_call 12; go_must (refine (GA.out _ HR5.out).mono ?_; rintro e w6 ⟨⟨v, rfl, hv⟩, hb6⟩; obtain ⟨pa, pc, hpv, _, _⟩ := hv.form; rw [LQ.out.1] at hpv; subst hpv; have Q6 := Lib.hid hv.dql; have B6 := Lib.hid hb6; have FC6 := Lib.hid (FC.out.below hb6); have D6 := Lib.hid (D5.out.below hb6); clear c0 c1 c2 c3 d0 d1 d2 d3 x0 x1 x2 x3 hb6 hv; obtain ⟨d0, d1, d2, d3, _, _, _, _⟩ := D6.out))
      go_upto_region 9 with (first
        | (go_at_call 12; go_must (refine (GB.out _ (HL5.out.below B6.out)).mono ?_; rintro e w7 ⟨⟨v, rfl, hv⟩, hb7⟩; obtain ⟨ra, rc, hpv, _, _⟩ := hv.form; rw [LQ.out.2.1] at hpv; subst hpv; have R7 := Lib.hid hv.dql; have Q7 := Lib.hid (Q6.out.below hb7); have B7 := Lib.hid (B6.out.trans (hb7.mono B6.out.size)); have FC7 := Lib.hid (FC6.out.below hb7); clear d0 d1 d2 d3 hb7 hv))
        | (go_at_call 14; go_must (refine (gadd_calls pa ra s pc rc 859 2148 qa qb w7 Q7.out R7.out (by omega) PA.out PB.out (by omega)).mono ?_; rintro e w8 ⟨⟨v, rfl, hv⟩, hb8⟩; obtain ⟨sa, sc, hpv, _, _⟩ := hv.form; rw [addL_len LQ.out.1 LQ.out.2.1] at hpv; subst hpv; have S8 := Lib.hid hv.dql; have B8 := Lib.hid (B7.out.trans (hb8.mono B7.out.size)); have FC8 := Lib.hid (FC7.out.below hb8); clear hb8 hv; obtain ⟨x0, x1, x2, x3, _, _, _, _⟩ := FC8.out)))
      go_upto_region 10 with (go_at_call 12; go_must (refine (GG.out _ _ _ _ (FR.out.below B8.out)).mono ?_; rintro e w9 ⟨⟨v, rfl, hv⟩, hb9⟩; obtain ⟨ga, gc, hpv, _, _⟩ := hv.form; rw [LQ.out.2.2] at hpv; subst hpv; have G9 := Lib.hid hv.dql; have S9 := Lib.hid (S8.out.below hb9); have B9 := Lib.hid (B8.out.trans (hb9.mono B8.out.size)); have FC9 := Lib.hid (FC8.out.below hb9); clear x0 x1 x2 x3 hb9 hv))
      have BD := Lib.hid ((Below.refl w9.heap.size w9).drew)
      have S0 := Lib.hid (S9.out.below BD.out)
      have G0 := Lib.hid (G9.out.below BD.out)
      have X0 := Lib.hid ((FC9.out.below BD.out).c0)
      go_region_held3 (fun w' => w'.cell? ⟨b5, 0, none⟩ = some (.int .i64 (c : Int)))
        (first
          | with_reducible exact X0.out
          | with_reducible exact X1.out)
        (first
          | (go_at_call 18; go_must (refine (HCO.out _).mono ?_; rintro e ww ⟨rfl, rfl⟩))
          | (go_at_call 15; go_must (refine (echeck_calls c s s 860 sa sa ga sc sc gc (addL qa qb) (addL qa qb) qg _ S0.out S0.out G0.out h1c h6c HS.out.symm PS.out PS.out PG.out (by omega) (by omega) (fun us hN i j hij hj => HNE.out us 860 (by omega) hN i j hij hj)).mono ?_; rintro e w10 ⟨rfl, hb10⟩; have B10 := Lib.hid (BD.out.trans (hb10.mono BD.out.size)); have X1 := Lib.hid ((FC9.out.below B10.out).c0); clear hb10)))
      go_wp2_with (go_at_call 16; refine (live13_calls _).mono ?_; rintro e w11 ⟨rfl, hb11⟩)
      go_ret
      exact ⟨rfl, (B5'.out.trans ((B9.out.trans (B10.out.mono B9.out.size)).mono B5'.out.size)).trans (hb11.mono (by have := B5'.out.size; have := B9.out.size; have := B10.out.size; omega))⟩
end Go.Proofs.Ytnboegeljaplbaa
