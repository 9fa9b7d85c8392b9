/- ShedMay, walked. -/
import Derived.Test.YtfohknalldelfaaDoorLl
import Derived.Test.YtfohknalldelfaaDoorOj
import Derived.Test.YtfohknalldelfaaDoorOh
namespace Go.Proofs.YtfohknalldelfaaDoor
open Go.RowKit Lv Go.Shelf
open Ieee (double Format Datum Toward)
attribute [local go_sem] Oper.semAt_some run_store_float drewN_alloc drewN_setCell

theorem sRow_refused {F : FacD} {ls : List (Option Nat)} {Y : Option Nat} (h : (sRowD F ls Y).2 ≠ 0) : (sRowD F ls Y).1 = fac0 := by
  by_cases c1 : sEarlyD F ls Y = 0
  · rw [sRowD_line c1] at h ⊢
    by_cases c2 : (shedD F (ls ++ [Y])).2 = 0
    · rw [if_neg (by simpa using c2)] at h; exact absurd rfl h
    · rw [if_pos c2]
  · rw [sRowD_early c1]
/-- THE PLAIN LAW of a row's diagonal -/
theorem sRow_shrinks {F G : FacD} {ls : List (Option Nat)} {Y : Option Nat} {c : Nat} (hc : F.cols = (c : Int)) (h : sRowD F ls Y = (G, 0)) : ∀ i, i ≤ c → GeD (G.xs.getD (offs c i) none) (F.xs.getD (offs c i) none) := by
  obtain ⟨k1, k2⟩ := sRowD_zero (by rw [h])
  rw [sRowD_line k1, if_neg (by simpa using k2)] at h
  have hG := (Prod.mk.inj h).1
  rw [← hG]
  exact shed_shrinks hc k2
/-- a diagonal that has not grown -/
theorem ged_not_gt {x z : Nat} {X Z : Option Nat} (hx : FW x X) (hz : FW z Z) (h : GeD X Z) : (FloatKind.f64.format.order x z == some Ordering.gt) = false := by
  obtain ⟨f, g, rfl, rfl, h1, h2⟩ := h
  obtain ⟨e1, _⟩ := ab_some hx.2
  obtain ⟨e2, _⟩ := ab_some hz.2
  subst e1 e2
  have n1 : nan f = false := by unfold Lv.nan; exact decide_eq_false (by omega)
  have n2 : nan g = false := by unfold Lv.nan; exact decide_eq_false (by omega)
  refine (order_gt n1 n2 (by omega) (by omega)).trans (decide_eq_false ?_)
  rw [key_pos (by omega), key_pos (by omega)]
  omega

set_option maxRecDepth 100000 in
set_option maxHeartbeats 4000000 in
theorem shedMay_walk (w : World) (a0 a1 a2 : Addr) (LD : Laid w a0 a1 a2) (F : FacD) (a : Option Addr) (n cap : Nat) (h : Row w (.slice a n cap) F.xs) (ls : List (Option Nat)) (Y : Option Nat) (b : Option Addr) (m d y : Nat) (hl : Row w (.slice b m d) ls) (hy : FW y Y) :
    Calls Tryd.prog 6 #[.agg #[.int .i64 F.cols, .slice a n cap, .int .i64 F.rws, .int .i64 F.trn], .agg #[.slice b m d, .float .f64 y]] w fun e w' => e = .returned (.bool true) ∧ Below w.heap.size w w' := by
  have hB1 := (Below.refl w.heap.size w).alloc (Nat.le_refl _) (.cells #[.int .i64 F.cols, .slice a n cap, .int .i64 F.rws, .int .i64 F.trn] 24)
  have hB := hB1.alloc (by simp) (.cells #[.slice b m d, .float .f64 y] 33)
  have HR := Lib.hid h
  have HLD := Lib.hid LD
  clear LD
  have HL := Lib.hid hl
  have HB := Lib.hid hB
  have HB1 := Lib.hid hB1
  by_cases h1 : 60 < n
  · have h1i : (60 : Int) < (n : Int) := by omega
    clear h hl hy hB1
    go_enter Tryd.func6, Tryd.ntmps6
    go_wp2_with (go_at_call 9; refine (live11_calls _ a0 a1 a2 (HLD.out.below hB)).mono ?_; rintro e w6 ⟨rfl, hb6⟩)
    go_ret
    exact ⟨rfl, hB.trans (hb6.mono (by simp; omega))⟩
  have h1i : ¬ (60 : Int) < (n : Int) := by omega
  by_cases h2 : 20 < m
  · have h2i : (20 : Int) < (m : Int) := by omega
    clear h hl hy hB1
    go_enter Tryd.func6, Tryd.ntmps6
    go_wp2_with (go_at_call 9; refine (live11_calls _ a0 a1 a2 (HLD.out.below hB)).mono ?_; rintro e w6 ⟨rfl, hb6⟩)
    go_ret
    exact ⟨rfl, hB.trans (hb6.mono (by simp; omega))⟩
  have h2i : ¬ (20 : Int) < (m : Int) := by omega
  have C3 := Lib.hid ((Cells4.new w (.int .i64 F.cols) (.slice a n cap) (.int .i64 F.rws) (.int .i64 F.trn) 24).alloc (.cells #[.slice b m d, .float .f64 y] 33))
  have hd3 : Cel2 ((w.alloc (.cells #[.int .i64 F.cols, .slice a n cap, .int .i64 F.rws, .int .i64 F.trn] 24)).alloc (.cells #[.slice b m d, .float .f64 y] 33)) (w.heap.size + 1) (.slice b m d) (.float .f64 y) := by
    have := Cel2.new (w.alloc (.cells #[.int .i64 F.cols, .slice a n cap, .int .i64 F.rws, .int .i64 F.trn] 24)) (.slice b m d) (.float .f64 y) 33
    simpa using this
  have D3 := Lib.hid hd3
  clear hd3
  have AR := Lib.hid (fun W ld hF hL => srow_calls F a b n cap m d y ls W a0 a1 a2 ld hF hL hy)
  obtain ⟨R, hR⟩ : ∃ R, R = sRowD F ls Y := ⟨_, rfl⟩
  rw [← hR] at AR
  obtain ⟨G, ge⟩ := R
  obtain ⟨W2, hW2⟩ : ∃ x, x = (w.alloc (.cells #[.int .i64 F.cols, .slice a n cap, .int .i64 F.rws, .int .i64 F.trn] 24)).alloc (.cells #[.slice b m d, .float .f64 y] 33) := ⟨_, rfl⟩
  rw [← hW2] at C3 D3 HB
  by_cases hge : ge ≠ 0
  · have r1 := sRow_refused (F := F) (ls := ls) (Y := Y) (by rw [← hR]; exact hge)
    rw [← hR] at r1
    dsimp only at r1
    subst r1
    have hne : (ge != 0) = true := by simpa using hge
    clear h hl hy hR hB hB1
    go_enter Tryd.func6, Tryd.ntmps6
    go_upto_region 3 with (fail)
    rw [← hW2]
    clear hW2
    go_cut [5, 6] from 19 to 24 (fun s5 s6 wx => FacCut W2 fac0 ge s5 s6 wx)
    case first =>
      obtain ⟨c0, c1, c2, c3, _, _, _, _⟩ := C3.out
      obtain ⟨d0, d1⟩ := D3.out
      go_wp2_with (go_at_call 13; go_must (refine (AR.out _ (HLD.out.below HB.out) (HR.out.below HB.out) (HL.out.below HB.out)).mono ?_; rintro e wL ⟨⟨ga, gn, gcp, he, hrow⟩, hbL⟩; dsimp only at he hrow; subst he))
      go_meet
      case rel => exact ⟨_, rfl, rfl, FacAt.new (F := fac0) hrow, hbL.alloc hbL.size _⟩
    case rest =>
      obtain ⟨b5, rfl, rfl, F5, B5⟩ := hcut
      obtain ⟨W5, rfl⟩ : ∃ x, x = wc := ⟨_, rfl⟩
      have B5' := Lib.hid (HB.out.trans (B5.mono HB.out.size))
      have C5 := Lib.hid (C3.out.below B5)
      have D5 := Lib.hid (D3.out.below B5)
      obtain ⟨fa, fn, fcp, fC, fR⟩ := F5
      have FC := Lib.hid fC
      have FR := Lib.hid fR
      obtain ⟨c0, c1, c2, c3, _, _, _, _⟩ := C5.out
      obtain ⟨d0, d1⟩ := D5.out
      obtain ⟨x0, x1, x2, x3, _, _, _, _⟩ := FC.out
      clear fC fR AR
      go_wp2_with (first
        | (go_at_call 12; go_must (refine (rsame7_calls fac0 fa none fn 0 fcp 0 _ FR.out (row_nil _)).mono ?_; rintro e w7 ⟨rfl, hb7⟩; have B7 := Lib.hid (B5'.out.trans (hb7.mono B5'.out.size)); clear hb7))
        | (go_at_call 9; refine (live11_calls _ a0 a1 a2 (HLD.out.below B7.out)).mono ?_; rintro e w8 ⟨rfl, hb8⟩))
      go_ret
      exact ⟨rfl, B7.out.trans (hb8.mono B7.out.size)⟩
  · obtain rfl : ge = 0 := by simpa using hge
    obtain ⟨rk1, rk2, rk3, rk4⟩ := sRowD_ok (F := F) (ls := ls) (Y := Y) (by rw [← hR])
    rw [← hR] at rk1 rk2 rk3 rk4
    obtain ⟨ez1, ez2, _, _⟩ := early_zero (sEarly_zero (sRowD_zero (F := F) (ls := ls) (Y := Y) (by rw [← hR])).1).1
    obtain ⟨fc, fx, fr, ft⟩ := F
    obtain ⟨gc, gx, gr, gt⟩ := G
    dsimp only at rk1 rk2 rk3 rk4 ez2
    obtain ⟨c, rfl⟩ := Int.eq_ofNat_of_zero_le (show 0 ≤ fc by have := ok_cols ez1; dsimp only at this; omega)
    subst rk2 rk3 rk4
    have hckf : checkP (c : Int) fx fr ft = true := ez1
    have hckg : checkP (c : Int) gx (fr - 1) (ft + ((c : Int) + 1)) = true := rk1
    obtain ⟨k1, k6, hxl, _⟩ := check_parts hckf
    obtain ⟨r0, r1, t0, t1⟩ := ok_rt hckf
    have GR := Lib.hid (sRow_shrinks (F := ⟨(c : Int), fx, fr, ft⟩) (c := c) rfl hR.symm)
    have CKF := Lib.hid (fun W hW => (by have := check_calls (c : Int) fr ft a n cap fx W hW; rw [hckf] at this; exact this : Calls Tryd.prog 18 #[.agg #[.int .i64 (c : Int), .slice a n cap, .int .i64 fr, .int .i64 ft]] W fun e w' => e = .returned (.bool true) ∧ Below W.heap.size W w'))
    have CKG := Lib.hid (fun W b m d hW => (by have := check_calls (c : Int) (fr - 1) (ft + ((c : Int) + 1)) b m d gx W hW; rw [hckg] at this; exact this : Calls Tryd.prog 18 #[.agg #[.int .i64 (c : Int), .slice b m d, .int .i64 (fr - 1), .int .i64 (ft + ((c : Int) + 1))]] W fun e w' => e = .returned (.bool true) ∧ Below W.heap.size W w'))
    have GTF := Lib.hid (fun W (hW : Row W (.slice a n cap) fx) k (hk : k ≤ c) => get_calls c k k fr ft a n cap fx W hW hckf hk hk (Nat.le_refl _))
    have GTG := Lib.hid (fun W b m d (hW : Row W (.slice b m d) gx) k (hk : k ≤ c) => get_calls c k k (fr - 1) (ft + ((c : Int) + 1)) b m d gx W hW hckg hk hk (Nat.le_refl _))
    have hml : (m : Int) = (c : Int) := by have := hl.len; omega
    obtain rfl : m = c := by omega
    have e5 : ft + ((m : Int) + 1) = ft + (m : Int) + 1 := by omega
    rw [e5] at CKG GTG AR
    clear h hl hy hR hB hB1 rk1 ez1 ez2 hckf hckg hxl hge hml e5
    go_enter Tryd.func6, Tryd.ntmps6
    go_upto_region 3 with (fail)
    rw [← hW2]
    clear hW2
    go_cut [5, 6] from 19 to 24 (fun s5 s6 wx => FacCut W2 ⟨(m : Int), gx, fr - 1, ft + (m : Int) + 1⟩ 0 s5 s6 wx)
    case first =>
      obtain ⟨c0, c1, c2, c3, _, _, _, _⟩ := C3.out
      obtain ⟨d0, d1⟩ := D3.out
      go_wp2_with (go_at_call 13; go_must (refine (AR.out _ (HLD.out.below HB.out) (HR.out.below HB.out) (HL.out.below HB.out)).mono ?_; rintro e wL ⟨⟨ga, gn, gcp, he, hrow⟩, hbL⟩; dsimp only at he hrow; subst he))
      go_meet
      case rel => exact ⟨_, rfl, rfl, FacAt.new (F := ⟨(m : Int), gx, fr - 1, ft + (m : Int) + 1⟩) hrow, hbL.alloc hbL.size _⟩
    case rest =>
      obtain ⟨b5, rfl, rfl, F5, B5⟩ := hcut
      obtain ⟨W5, rfl⟩ : ∃ x, x = wc := ⟨_, rfl⟩
      have B5' := Lib.hid (HB.out.trans (B5.mono HB.out.size))
      have C5 := Lib.hid (C3.out.below B5)
      have D5 := Lib.hid (D3.out.below B5)
      obtain ⟨fa, fn, fcp, fC, fR⟩ := F5
      have FC := Lib.hid fC
      have FR := Lib.hid fR
      have HR5 := Lib.hid (HR.out.below B5'.out)
      obtain ⟨c0, c1, c2, c3, _, _, _, _⟩ := C5.out
      obtain ⟨d0, d1⟩ := D5.out
      obtain ⟨x0, x1, x2, x3, _, _, _, _⟩ := FC.out
      clear fC fR AR C3 D3
      go_wp2_with (first
        | (go_at_call_of 18 (Value.agg #[.int .i64 (m : Int), .slice a n cap, .int .i64 fr, .int .i64 ft]); go_must (refine (CKF.out _ HR5.out).mono ?_; rintro e w6 ⟨rfl, hb6⟩; have B6 := Lib.hid hb6; have C6 := Lib.hid (C5.out.below hb6); have FC6 := Lib.hid (FC.out.below hb6); have D6 := Lib.hid (D5.out.below hb6); clear c0 c1 c2 c3 d0 d1 x0 x1 x2 x3 hb6; obtain ⟨c0, c1, c2, c3, _, _, _, _⟩ := C6.out; obtain ⟨d0, d1⟩ := D6.out; obtain ⟨x0, x1, x2, x3, _, _, _, _⟩ := FC6.out))
        | (go_at_call 18; go_must (refine (CKG.out _ _ _ _ (FR.out.below B6.out)).mono ?_; rintro e w7 ⟨rfl, hb7⟩; have B7 := Lib.hid (B6.out.trans (hb7.mono B6.out.size)); have C7 := Lib.hid (C6.out.below hb7); have FC7 := Lib.hid (FC6.out.below hb7); have D7 := Lib.hid (D6.out.below hb7); clear c0 c1 c2 c3 d0 d1 x0 x1 x2 x3 hb7; obtain ⟨c0, c1, c2, c3, _, _, _, _⟩ := C7.out; obtain ⟨d0, d1⟩ := D7.out; obtain ⟨x0, x1, x2, x3, _, _, _, _⟩ := FC7.out)))
      have HR7 := Lib.hid (HR5.out.below B7.out)
      have FR7 := Lib.hid (FR.out.below B7.out)
      have B7' := Lib.hid (B5'.out.trans (B7.out.mono B5'.out.size))
      have S7 := B7'.out.size
      clear c0 c1 c2 c3 d0 d1 x0 x1 x2 x3 CKF CKG
      go_loopw [7] (fun s wr => ∃ k : Nat, s = .int .i64 (k : Int) ∧ k ≤ m + 1 ∧ Hid (Below w7.heap.size w7 wr)) (fun s _ => m + 1 - (intOf s).toNat)
      case atStart => exact ⟨0, rfl, Nat.zero_le _, Below.refl _ _⟩
      case round =>
        obtain ⟨k, rfl, hk, HL8⟩ := hrel
        have C9 := Lib.hid (C7.out.below HL8.out)
        have X9 := Lib.hid (FC7.out.below HL8.out)
        obtain ⟨c0, c1, c2, c3, _, _, _, _⟩ := C9.out
        obtain ⟨x0, x1, x2, x3, _, _, _, _⟩ := X9.out
        by_cases hlt : k ≤ m
        · have hi : (k : Int) ≤ (m : Int) := by omega
          have BD := Lib.hid ((Below.refl wr.heap.size wr).drew)
          have GRK := Lib.hid (GR.out k hlt)
          have HRr := Lib.hid (HR7.out.below HL8.out)
          have FRr := Lib.hid (FR7.out.below HL8.out)
          go_wp2
          go_region_held3 (fun w' => w'.cell? ⟨w.heap.size, 0, none⟩ = some (.int .i64 (m : Int)) ∧ w'.cell? ⟨w.heap.size, 1, none⟩ = some (.slice a n cap) ∧ w'.cell? ⟨w.heap.size, 2, none⟩ = some (.int .i64 fr) ∧ w'.cell? ⟨w.heap.size, 3, none⟩ = some (.int .i64 ft) ∧ w'.cell? ⟨b5, 0, none⟩ = some (.int .i64 (m : Int)) ∧ w'.cell? ⟨b5, 1, none⟩ = some (.slice fa fn fcp) ∧ w'.cell? ⟨b5, 2, none⟩ = some (.int .i64 (fr - 1)) ∧ w'.cell? ⟨b5, 3, none⟩ = some (.int .i64 (ft + (m : Int) + 1)))
            (first
              | with_reducible exact ⟨(C9.out.below BP.out).c0, (C9.out.below BP.out).c1, (C9.out.below BP.out).c2, (C9.out.below BP.out).c3, (X9.out.below BP.out).c0, (X9.out.below BP.out).c1, (X9.out.below BP.out).c2, (X9.out.below BP.out).c3⟩
              | with_reducible exact ⟨(C9.out.below BQ.out).c0, (C9.out.below BQ.out).c1, (C9.out.below BQ.out).c2, (C9.out.below BQ.out).c3, (X9.out.below BQ.out).c0, (X9.out.below BQ.out).c1, (X9.out.below BQ.out).c2, (X9.out.below BQ.out).c3⟩
              | with_reducible exact ⟨(C9.out.below BD.out).c0, (C9.out.below BD.out).c1, (C9.out.below BD.out).c2, (C9.out.below BD.out).c3, (X9.out.below BD.out).c0, (X9.out.below BD.out).c1, (X9.out.below BD.out).c2, (X9.out.below BD.out).c3⟩
              | go_keep)
            (first
              | (go_at_call_of 19 (Value.agg #[.int .i64 (m : Int), .slice a n cap, .int .i64 fr, .int .i64 ft]); go_must ((with_reducible refine (GTF.out _ (HRr.out.below (by first | with_reducible exact BD.out | with_reducible exact BQ.out)) k hlt).mono ?_); rintro e wp ⟨⟨x, rfl, hx⟩, hbp⟩; rw [Nat.sub_self, Nat.add_zero] at hx; have HX := Lib.hid hx; (first | (with_reducible have BP' := BQ.out.trans (hbp.mono BQ.out.size)) | (with_reducible have BP' := BD.out.trans (hbp.mono BD.out.size))); have BP := Lib.hid BP'; (first | (have hcmp := ged_not_gt HZ.out HX.out GRK.out) | skip); clear BP' hx hbp))
              | (go_at_call 19; go_must ((with_reducible refine (GTG.out _ _ _ _ (FRr.out.below (by first | with_reducible exact BD.out | with_reducible exact BP.out)) k hlt).mono ?_); rintro e wq ⟨⟨z, rfl, hz⟩, hbq⟩; rw [Nat.sub_self, Nat.add_zero] at hz; have HZ := Lib.hid hz; (first | (with_reducible have BQ' := BP.out.trans (hbq.mono BP.out.size)) | (with_reducible have BQ' := BD.out.trans (hbq.mono BD.out.size))); have BQ := Lib.hid BQ'; (first | (have hcmp := ged_not_gt HZ.out HX.out GRK.out) | skip); clear BQ' hz hbq)))
          go_wp2
          go_roundw
          case rel => exact ⟨k + 1, by go_num, by omega, Lib.hid (by first | with_reducible exact HL8.out.trans (BP.out.mono HL8.out.size) | with_reducible exact HL8.out.trans (BQ.out.mono HL8.out.size))⟩
          case measure => simp [intOf]; omega
        · have hi : ¬ (k : Int) ≤ (m : Int) := by omega
          go_wp2_with (go_at_call 9; refine (live11_calls _ a0 a1 a2 (HLD.out.below (B7'.out.trans (HL8.out.mono S7)))).mono ?_; rintro e wv ⟨rfl, hbv⟩)
          go_ret
          exact ⟨rfl, (B7'.out.trans (HL8.out.mono S7)).trans (hbv.mono (by have := HL8.out.size; omega))⟩
end Go.Proofs.YtfohknalldelfaaDoor
