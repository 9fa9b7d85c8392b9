/- AbsorbNear, walked. -/
import Derived.Test.YtnboegeljaplbaaOh
import Derived.Test.YtnboegeljaplbaaZm
namespace Go.Proofs.Ytnboegeljaplbaa
open Go.RowKit Lv Go.Shelf
open Ieee (double Format Datum Toward)
attribute [local go_sem] Oper.semAt_some run_store_float drewN_alloc drewN_setCell

set_option maxRecDepth 100000 in
set_option maxHeartbeats 4000000 in
theorem absorbNear_walk (w : World) (F : FacD) (a : Option Addr) (n cap : Nat) (h : Row w (.slice a n cap) F.xs) (ls : List (Option Nat)) (Y : Option Nat) (b : Option Addr) (m d y : Nat) (hl : Row w (.slice b m d) ls) (hy : FW y Y) :
    Calls Try.prog 3 #[.agg #[.int .i64 F.cols, .slice a n cap, .int .i64 F.rws, .int .i64 F.trn], .agg #[.slice b m d, .float .f64 y]] w fun e w' => e = .returned (.bool true) ∧ Below w.heap.size w w' := by
  have hB1 := (Below.refl w.heap.size w).alloc (Nat.le_refl _) (.cells #[.int .i64 F.cols, .slice a n cap, .int .i64 F.rws, .int .i64 F.trn] 24)
  have hB := hB1.alloc (by simp) (.cells #[.slice b m d, .float .f64 y] 27)
  have HR := Lib.hid h
  have HL := Lib.hid hl
  have HB := Lib.hid hB
  have HB1 := Lib.hid hB1
  by_cases h1 : 60 < n
  · have h1i : (60 : Int) < (n : Int) := by omega
    clear h hl hy hB1
    go_enter Try.func3, Try.ntmps3
    go_wp2_with (go_at_call 10; refine (live10_calls _).mono ?_; rintro e w6 ⟨rfl, hb6⟩)
    go_ret
    exact ⟨rfl, hB.trans (hb6.mono (by simp; omega))⟩
  have h1i : ¬ (60 : Int) < (n : Int) := by omega
  by_cases h2 : 20 < m
  · have h2i : (20 : Int) < (m : Int) := by omega
    clear h hl hy hB1
    go_enter Try.func3, Try.ntmps3
    go_wp2_with (go_at_call 10; refine (live10_calls _).mono ?_; rintro e w6 ⟨rfl, hb6⟩)
    go_ret
    exact ⟨rfl, hB.trans (hb6.mono (by simp; omega))⟩
  have h2i : ¬ (20 : Int) < (m : Int) := by omega
  have C3 := Lib.hid ((Cells4.new w (.int .i64 F.cols) (.slice a n cap) (.int .i64 F.rws) (.int .i64 F.trn) 24).alloc (.cells #[.slice b m d, .float .f64 y] 27))
  have hd3 : Cel2 ((w.alloc (.cells #[.int .i64 F.cols, .slice a n cap, .int .i64 F.rws, .int .i64 F.trn] 24)).alloc (.cells #[.slice b m d, .float .f64 y] 27)) (w.heap.size + 1) (.slice b m d) (.float .f64 y) := by
    have := Cel2.new (w.alloc (.cells #[.int .i64 F.cols, .slice a n cap, .int .i64 F.rws, .int .i64 F.trn] 24)) (.slice b m d) (.float .f64 y) 27
    simpa using this
  have D3 := Lib.hid hd3
  clear hd3
  have AR := Lib.hid (fun W hF hL => arow_calls F a b n cap m d y ls W hF hL hy)
  have HW := Lib.hid (And.intro (row_wd h) (And.intro (row_wd hl) (fw_wd hy)))
  have HY := Lib.hid hy
  obtain ⟨R, hR⟩ : ∃ R, R = rowD F ls Y := ⟨_, rfl⟩
  rw [← hR] at AR
  obtain ⟨G, ge⟩ := R
  obtain ⟨W2, hW2⟩ : ∃ x, x = (w.alloc (.cells #[.int .i64 F.cols, .slice a n cap, .int .i64 F.rws, .int .i64 F.trn] 24)).alloc (.cells #[.slice b m d, .float .f64 y] 27) := ⟨_, rfl⟩
  rw [← hW2] at C3 D3 HB
  by_cases hge : ge ≠ 0
  · have hne : (ge != 0) = true := by simpa using hge
    clear h hl hy hR hB hB1
    go_enter Try.func3, Try.ntmps3
    go_upto_region 3 with (fail)
    rw [← hW2]
    clear hW2
    obtain ⟨c0, c1, c2, c3, _, _, _, _⟩ := C3.out
    obtain ⟨d0, d1⟩ := D3.out
    go_wp2_with (first
      | (go_at_call 11; go_must (refine (AR.out _ (HR.out.below HB.out) (HL.out.below HB.out)).mono ?_; rintro e wL ⟨⟨ga, gn, gcp, he, hrow⟩, hbL⟩; dsimp only at he hrow; subst he; have BL := Lib.hid (HB.out.trans ((hbL.alloc hbL.size (.cells #[.int .i64 G.cols, .slice ga gn gcp, .int .i64 G.rws, .int .i64 G.trn] 24)).mono HB.out.size)); clear hrow hbL))
      | (go_at_call 10; refine (live10_calls _).mono ?_; rintro e w8 ⟨rfl, hb8⟩))
    go_ret
    exact ⟨rfl, BL.out.trans (hb8.mono BL.out.size)⟩
  · obtain rfl : ge = 0 := by simpa using hge
    obtain ⟨rk1, rk2, rk3, rk4⟩ := rowD_ok (F := F) (ls := ls) (Y := Y) (by rw [← hR])
    rw [← hR] at rk1 rk2 rk3 rk4
    obtain ⟨ez1, ez2, _, _⟩ := early_zero (rowD_zero (F := F) (ls := ls) (Y := Y) (by rw [← hR])).1
    obtain ⟨fc, fx, fr, ft⟩ := F
    obtain ⟨gc, gx, gr, gt⟩ := G
    dsimp only at rk1 rk2 rk3 rk4 ez2
    obtain ⟨c, rfl⟩ := Int.eq_ofNat_of_zero_le (show 0 ≤ fc by have := ok_cols ez1; dsimp only at this; omega)
    subst rk2 rk3 rk4
    have hckg : checkP (c : Int) gx (fr + 1) (ft + ((c : Int) + 1)) = true := rk1
    obtain ⟨hckf, _, _, hTx, hTy, hRow, hNear⟩ := absorb_near HW.out.1 HW.out.2.1 HW.out.2.2 hR.symm
    dsimp only at hTy hNear
    have hml : (m : Int) = (c : Int) := by have := hl.len; omega
    obtain rfl : m = c := by omega
    have h1c := hTx.h1
    have h6c := hTx.h6
    obtain ⟨s, hs⟩ : ∃ s, tsz m = s := ⟨_, rfl⟩
    have hsb := tsz_bounds h1c h6c
    rw [hs] at hsb
    obtain ⟨k, hk⟩ : ∃ k, m + 1 = k := ⟨_, rfl⟩
    have hki : (m : Int) + 1 = (k : Int) := by omega
    have hkw : IntKind.i64.wrap (k : Int) = (k : Int) := IntWalk.i64_in _ (by omega)
    have HNE := Lib.hid hNear
    rw [hk] at HNE
    -- the four lists
    have LF := gramL_ok (c := m) (A := 420) _ hTx.lines
    have LG := gramL_ok (c := m) (A := 420) _ hTy.lines
    rw [linesD_len, hs] at LF LG
    have hpr := hRow.prs
    dsimp only at hpr
    rw [hs] at hpr
    have hpb : ∀ j, j < s → Bd ((prs ((ls ++ [Y]).map fv)).getD j 0) (p2 ((859 : Nat) : Int)) := fun j hj => bd_p2_mono (hRow.pbd _ (getD_memQ (by dsimp only; omega))) (by omega)
    have GF := Lib.hid (fun W hW => gfactor_calls m 420 fr ft a n cap fx W hW hckf hTx.lines (by omega))
    have GG := Lib.hid (fun W ga gn gcp hW => gfactor_calls m 420 (fr + 1) (ft + ((m : Int) + 1)) ga gn gcp gx W hW hckg hTy.lines (by omega))
    have GR := Lib.hid (fun W hW => grow_calls b m d y 420 ls Y W hW HY.out h1c h6c hRow.fn hRow.bd (by omega))
    have e5 : ft + ((m : Int) + 1) = ft + (m : Int) + 1 := by omega
    rw [e5] at AR GG
    generalize gramL m (linesD fx m) = qf at *
    generalize gramL m (linesD gx m) = qg at *
    generalize prs ((ls ++ [Y]).map fv) = qr at *
    have PF := Lib.hid (show ∀ j, j < s → Bd (qf.getD j 0) (p2 ((859 : Nat) : Int)) from fun j hj => bd_p2_mono (LF.2 j hj) (by omega))
    have PG := Lib.hid (show ∀ j, j < s → Bd (qg.getD j 0) (p2 ((860 : Nat) : Int)) from fun j hj => bd_p2_mono (LG.2 j hj) (by omega))
    have PR := Lib.hid hpb
    have LQ := Lib.hid (And.intro LF.1 (And.intro hpr LG.1))
    have PS := Lib.hid (show ∀ j, j < s → Bd ((addL qf qr).getD j 0) (p2 ((860 : Nat) : Int)) from fun j hj => by
      rw [addL_get LF.1 hpr hj]
      exact bd_add_p2 (PF.out j hj) (PR.out j hj))
    have HS := Lib.hid hs
    clear h hl hy hR hB hB1 rk1 ez1 ez2 hckf hckg hge hml e5 hTx hTy hRow hNear LF LG hpr hpb hs HW HY
    go_enter Try.func3, Try.ntmps3
    go_upto_region 3 with (fail)
    rw [← hW2]
    clear hW2
    go_cut [5, 6] from 28 to 33 (fun s5 s6 wx => FacCut W2 ⟨(m : Int), gx, fr + 1, ft + (m : Int) + 1⟩ 0 s5 s6 wx)
    case first =>
      obtain ⟨c0, c1, c2, c3, _, _, _, _⟩ := C3.out
      obtain ⟨d0, d1⟩ := D3.out
      go_wp2_with (go_at_call 11; go_must (refine (AR.out _ (HR.out.below HB.out) (HL.out.below HB.out)).mono ?_; rintro e wL ⟨⟨ga, gn, gcp, he, hrow⟩, hbL⟩; dsimp only at he hrow; subst he))
      go_meet
      case rel => exact ⟨_, rfl, rfl, FacAt.new (F := ⟨(m : Int), gx, fr + 1, ft + (m : Int) + 1⟩) hrow, hbL.alloc hbL.size _⟩
    case rest =>
      obtain ⟨b5, rfl, rfl, F5, B5⟩ := hcut
      obtain ⟨W5, rfl⟩ : ∃ x, x = wc := ⟨_, rfl⟩
      have B5' := Lib.hid (HB.out.trans (B5.mono HB.out.size))
      have C5 := Lib.hid (C3.out.below B5)
      have D5 := Lib.hid (D3.out.below B5)
      obtain ⟨fa, fn, fcp, fC, fR⟩ := F5
      have FC := Lib.hid fC
      have FR := Lib.hid fR
      have HR5 := Lib.hid (HR.out.below B5'.out)
      have HL5 := Lib.hid (HL.out.below B5'.out)
      obtain ⟨c0, c1, c2, c3, _, _, _, _⟩ := C5.out
      obtain ⟨d0, d1⟩ := D5.out
      obtain ⟨x0, x1, x2, x3, _, _, _, _⟩ := FC.out
      clear fC fR AR C3 D3
      go_wp2_with (first
        | (go_at_call_of 12 (Value.agg #[.int .i64 (m : Int), .slice a n cap, .int .i64 fr, .int .i64 ft]); go_must (refine (GF.out _ HR5.out).mono ?_; rintro e w6 ⟨⟨v, rfl, hv⟩, hb6⟩; obtain ⟨pa, pc, hpv, _, _⟩ := hv.form; rw [LQ.out.1] at hpv; subst hpv; have Q6 := Lib.hid hv.dql; have B6 := Lib.hid hb6; have C6 := Lib.hid (C5.out.below hb6); have FC6 := Lib.hid (FC.out.below hb6); have D6 := Lib.hid (D5.out.below hb6); clear c0 c1 c2 c3 d0 d1 x0 x1 x2 x3 hb6 hv; obtain ⟨c0, c1, c2, c3, _, _, _, _⟩ := C6.out; obtain ⟨d0, d1⟩ := D6.out; obtain ⟨x0, x1, x2, x3, _, _, _, _⟩ := FC6.out))
        | (go_at_call 13; go_must (refine (GR.out _ (HL5.out.below B6.out)).mono ?_; rintro e w7 ⟨⟨v, rfl, hv⟩, hb7⟩; obtain ⟨ra, rc, hpv, _, _⟩ := hv.form; rw [LQ.out.2.1] at hpv; subst hpv; have R7 := Lib.hid hv.dql; have Q7 := Lib.hid (Q6.out.below hb7); have B7 := Lib.hid (B6.out.trans (hb7.mono B6.out.size)); have C7 := Lib.hid (C6.out.below hb7); have FC7 := Lib.hid (FC6.out.below hb7); clear c0 c1 c2 c3 d0 d1 x0 x1 x2 x3 hb7 hv; obtain ⟨c0, c1, c2, c3, _, _, _, _⟩ := C7.out; obtain ⟨x0, x1, x2, x3, _, _, _, _⟩ := FC7.out))
        | (go_at_call 14; go_must (refine (gadd_calls pa ra s pc rc 859 2148 qf qr w7 Q7.out R7.out (by omega) PF.out PR.out (by omega)).mono ?_; rintro e w8 ⟨⟨v, rfl, hv⟩, hb8⟩; obtain ⟨sa, sc, hpv, _, _⟩ := hv.form; rw [addL_len LQ.out.1 LQ.out.2.1] at hpv; subst hpv; have S8 := Lib.hid hv.dql; have B8 := Lib.hid (B7.out.trans (hb8.mono B7.out.size)); have C8 := Lib.hid (C7.out.below hb8); have FC8 := Lib.hid (FC7.out.below hb8); clear c0 c1 c2 c3 x0 x1 x2 x3 hb8 hv; obtain ⟨c0, c1, c2, c3, _, _, _, _⟩ := C8.out; obtain ⟨x0, x1, x2, x3, _, _, _, _⟩ := FC8.out))
        | (go_at_call 12; go_must (refine (GG.out _ _ _ _ (FR.out.below B8.out)).mono ?_; rintro e w9 ⟨⟨v, rfl, hv⟩, hb9⟩; obtain ⟨ga, gc, hpv, _, _⟩ := hv.form; rw [LQ.out.2.2] at hpv; subst hpv; have G9 := Lib.hid hv.dql; have S9 := Lib.hid (S8.out.below hb9); have B9 := Lib.hid (B8.out.trans (hb9.mono B8.out.size)); have C9 := Lib.hid (C8.out.below hb9); clear c0 c1 c2 c3 x0 x1 x2 x3 hb9 hv; obtain ⟨c0, c1, c2, c3, _, _, _, _⟩ := C9.out))
        | (go_at_call 15; go_must (refine (echeck_calls m k s 860 sa sa ga sc sc gc (addL qf qr) (addL qf qr) qg w9 S9.out S9.out G9.out h1c h6c HS.out.symm PS.out PS.out PG.out (by omega) (by omega) (fun us hN i j hij hj => HNE.out us 860 (by omega) hN i j hij hj)).mono ?_; rintro e w10 ⟨rfl, hb10⟩; have B10 := Lib.hid (B9.out.trans (hb10.mono B9.out.size)); clear c0 c1 c2 c3 hb10))
        | (go_at_call 10; refine (live10_calls _).mono ?_; rintro e w11 ⟨rfl, hb11⟩))
      go_ret
      exact ⟨rfl, (B5'.out.trans (B10.out.mono B5'.out.size)).trans (hb11.mono (by have := B5'.out.size; have := B10.out.size; omega))⟩
end Go.Proofs.Ytnboegeljaplbaa
