/- MergeNew, walked. -/
import Derived.Test.YtaabfjfaljhjmaaMj
import Derived.Test.YtaabfjfaljhjmaaOh
namespace Go.Proofs.Ytaabfjfaljhjmaa
open Go.RowKit Lv Go.Shelf
open Ieee (double Format Datum Toward)
attribute [local go_sem] Oper.semAt_some run_store_float drewN_alloc drewN_setCell

set_option maxRecDepth 100000 in
set_option maxHeartbeats 4000000 in
theorem mergeNew_walk (w : World) (F : FacD) (a : Option Addr) (n cap : Nat) (h : Row w (.slice a n cap) F.xs) :
    Calls Try.prog 6 #[.agg #[.int .i64 F.cols, .slice a n cap, .int .i64 F.rws, .int .i64 F.trn]] w fun e w' => e = .returned (.bool true) ∧ Below w.heap.size w w' := by
  have hB := (Below.refl w.heap.size w).alloc (Nat.le_refl _) (.cells #[.int .i64 F.cols, .slice a n cap, .int .i64 F.rws, .int .i64 F.trn] 24)
  have HR := Lib.hid h
  have HB := Lib.hid hB
  by_cases h1 : 60 < n
  · have h1i : (60 : Int) < (n : Int) := by omega
    clear h
    go_enter Try.func6, Try.ntmps6
    go_wp2_with (go_at_call 13; refine (live13_calls _).mono ?_; rintro e w6 ⟨rfl, hb6⟩)
    go_ret
    exact ⟨rfl, hB.trans (hb6.mono (by simp))⟩
  have h1i : ¬ (60 : Int) < (n : Int) := by omega
  have CK := check_calls F.cols F.rws F.trn a n cap F.xs _ (h.below hB)
  cases hok : F.ok
  · rw [show checkP F.cols F.xs F.rws F.trn = false from hok] at CK
    have LH := Lib.hid CK
    clear CK h
    go_enter Try.func6, Try.ntmps6
    go_wp2_with (first | (go_at_call 22; refine LH.out.mono ?_; rintro e w1 ⟨rfl, hb⟩; have hC := Lib.hid (HB.out.trans (hb.mono (by simp)))) | (go_at_call 13; refine (live13_calls _).mono ?_; rintro e w6 ⟨rfl, hb6⟩))
    go_ret
    exact ⟨rfl, hC.out.trans (hb6.mono hC.out.size)⟩
  rw [show checkP F.cols F.xs F.rws F.trn = true from hok] at CK
  have LH := Lib.hid CK
  have C3 := Lib.hid (Cells4.new w (.int .i64 F.cols) (.slice a n cap) (.int .i64 F.rws) (.int .i64 F.trn) 24)
  obtain ⟨fc, fx, fr, ft⟩ := F
  dsimp only at *
  have hck : checkP fc fx fr ft = true := hok
  obtain ⟨c, rfl⟩ := Int.eq_ofNat_of_zero_le (show 0 ≤ fc by have := ok_cols hok; dsimp only at this; omega)
  obtain ⟨k1, k6, hxl, _⟩ := check_parts hck
  obtain ⟨r0, r1, t0, t1⟩ := ok_rt hck
  have PL := Lib.hid (two_new hck (row_words h))
  have hn := h.len
  have NW := Lib.hid (fun W => new_in c W k1 k6)
  have T1 := Lib.hid (fun W b m d hA hN => two_calls ⟨(c : Int), fx, fr, ft⟩ (newD c) a b n cap m d W hA hN)
  have T2 := Lib.hid (fun W b m d hA hN => two_calls (newD c) ⟨(c : Int), fx, fr, ft⟩ b a m d n cap W hN hA)
  have CST := Lib.hid (fun w => cost_calls (c : Int) w)
  have GT := Lib.hid (fun W (hW : Row W (.slice a n cap) fx) k (hk : k ≤ c) => get_calls c k k fr ft a n cap fx W hW hck hk hk (Nat.le_refl _))
  obtain ⟨z3, z28⟩ := sizeI_in (c := (c : Int)) (by omega) (by omega)
  obtain ⟨R1, hR1⟩ : ∃ R, R = twoD ⟨(c : Int), fx, fr, ft⟩ (newD c) := ⟨_, rfl⟩
  obtain ⟨R2, hR2⟩ : ∃ R, R = twoD (newD c) ⟨(c : Int), fx, fr, ft⟩ := ⟨_, rfl⟩
  rw [← hR1] at T1
  rw [← hR2] at T2
  have PL1 := PL.out
  rw [← hR1, ← hR2] at PL1
  have PLH := Lib.hid PL1
  obtain ⟨G1, e1⟩ := R1
  obtain ⟨G2, e2⟩ := R2
  have HK := Lib.hid (And.intro hxl (And.intro hn (And.intro k1 k6)))
  have hDc : (newD c).cols = (c : Int) := rfl
  have hDr : (newD c).rws = 0 := rfl
  have hDt : (newD c).trn = 0 := rfl
  generalize newD c = D at *
  obtain ⟨dc, dx, dr, dt⟩ := D
  dsimp only at hDc hDr hDt
  subst hDc hDr hDt
  clear CK hR1 hR2 PL PL1 h hB hok hck hxl hn h1 k1
  go_enter Try.func6, Try.ntmps6
  go_upto_region 3 with (go_at_call 22; refine LH.out.mono ?_; rintro e w1 ⟨rfl, hb⟩; have B1 := Lib.hid (HB.out.trans (hb.mono (by simp))); have E3 := Lib.hid (C3.out.below hb); obtain ⟨c0, c1, c2, c3, _, _, _, _⟩ := E3.out; clear hb)
  go_cut [3, 4] from 20 to 25 (fun s3 s4 wx => FacCut w1 ⟨(c : Int), dx, 0, 0⟩ 0 s3 s4 wx)
  case first =>
    go_wp2_with (go_at_call 24; go_must (refine (NW.out _).mono ?_; rintro e wL ⟨⟨ga, gn, gcp, he, hrow⟩, hbL⟩; dsimp only at he hrow; subst he))
    go_meet
    case rel => exact ⟨_, rfl, rfl, FacAt.new (F := ⟨(c : Int), dx, 0, 0⟩) hrow, hbL.alloc hbL.size _⟩
  case rest =>
    obtain ⟨b3, rfl, rfl, F3, B3⟩ := hcut
    obtain ⟨W3, rfl⟩ : ∃ x, x = wc := ⟨_, rfl⟩
    have B3' := Lib.hid (B1.out.trans (B3.mono B1.out.size))
    have E4 := Lib.hid (E3.out.below B3)
    clear c0 c1 c2 c3 E3
    go_upto_region 4 with (fail)
    go_cut [5, 6] from 26 to 31 (fun s5 s6 wx => FacCut W3 G1 e1 s5 s6 wx)
    case first =>
      obtain ⟨fa, fn, fcp, fC, fR⟩ := F3
      obtain ⟨d0, d1, d2, d3, _, _, _, _⟩ := fC
      obtain ⟨c0, c1, c2, c3, _, _, _, _⟩ := E4.out
      have FR := Lib.hid fR
      clear fR
      dsimp only at d0 d1 d2 d3
      go_wp2_with (go_at_call 14; go_must (refine (T1.out _ _ _ _ (HR.out.below B3'.out) FR.out).mono ?_; rintro e wL ⟨⟨ga, gn, gcp, he, hrow⟩, hbL⟩; dsimp only at he hrow; subst he))
      go_meet
      case rel => exact ⟨_, rfl, rfl, FacAt.new (F := G1) hrow, hbL.alloc hbL.size _⟩
    case rest =>
      obtain ⟨b5, rfl, rfl, F5, B5⟩ := hcut
      obtain ⟨W5, rfl⟩ : ∃ x, x = wc := ⟨_, rfl⟩
      have B5' := Lib.hid (B3'.out.trans (B5.mono B3'.out.size))
      have E5 := Lib.hid (E4.out.below B5)
      have F3 := F3.below B5
      clear E4
      go_upto_region 5 with (fail)
      go_cut [7, 8] from 32 to 37 (fun s7 s8 wx => FacCut W5 G2 e2 s7 s8 wx)
      case first =>
        obtain ⟨fa, fn, fcp, fC, fR⟩ := F3
        obtain ⟨d0, d1, d2, d3, _, _, _, _⟩ := fC
        obtain ⟨c0, c1, c2, c3, _, _, _, _⟩ := E5.out
        have FR := Lib.hid fR
        clear fR F5
        dsimp only at d0 d1 d2 d3
        go_wp2_with (go_at_call 14; go_must (refine (T2.out _ _ _ _ (HR.out.below B5'.out) FR.out).mono ?_; rintro e wL ⟨⟨ga, gn, gcp, he, hrow⟩, hbL⟩; dsimp only at he hrow; subst he))
        go_meet
        case rel => exact ⟨_, rfl, rfl, FacAt.new (F := G2) hrow, hbL.alloc hbL.size _⟩
      case rest =>
        obtain ⟨b7, rfl, rfl, F7, B7⟩ := hcut
        obtain ⟨W7, rfl⟩ : ∃ x, x = wc := ⟨_, rfl⟩
        have B7' := Lib.hid (B5'.out.trans (B7.mono B5'.out.size))
        have E7 := Lib.hid (E5.out.below B7)
        have F5 := F5.below B7
        have HR7 := Lib.hid (HR.out.below B7'.out)
        clear E5 F3 T1 T2 NW LH
        obtain ⟨z, hz⟩ : ∃ z, z = sizeI (c : Int) := ⟨_, rfl⟩
        rw [← hz] at CST PLH z3 z28
        have hwr : IntKind.i64.wrap (ft + z) = ft + z := IntWalk.i64_in _ (by omega)
        by_cases hfl : 4096 < ft + z
        · obtain ⟨q1, q2⟩ := PLH.out.1 hfl
          simp only [Prod.mk.injEq] at q1 q2
          obtain ⟨rfl, rfl⟩ := q1
          obtain ⟨rfl, rfl⟩ := q2
          obtain ⟨c0, c1, c2, c3, _, _, _, _⟩ := E7.out
          clear hz F5 F7
          go_wp2
          go_quiet ((go_at_call 17; exact Calls.quiet_of_same (quiet_same (CST.out _))))
          clear hwr
          go_wp2_with (go_at_call 13; refine (live13_calls _).mono ?_; rintro e w8 ⟨rfl, hb8⟩)
          go_ret
          exact ⟨rfl, (below_drewN B7'.out _).trans (hb8.mono B7'.out.size)⟩
        · obtain ⟨⟨ys, q1, q2⟩, q3⟩ := PLH.out.2 (by omega)
          simp only [Prod.mk.injEq] at q1
          obtain ⟨rfl, rfl⟩ := q1
          obtain ⟨fa, fn, fcp, fC, fR⟩ := F5
          dsimp only at fC fR
          have hfn : fn = n := by have k1 := fR.len; have k2 := HK.out.2.1; have k3 := q2.1; omega
          obtain rfl : n = fn := hfn.symm
          have FR := Lib.hid fR
          have FC := Lib.hid fC
          have Q2 := Lib.hid q2
          have Q3 := Lib.hid q3
          obtain ⟨c0, c1, c2, c3, _, _, _, _⟩ := E7.out
          obtain ⟨d0, d1, d2, d3, _, _, _, _⟩ := FC.out
          clear hz fR fC q2 q3 hfn
          go_wp2
          go_quiet ((go_at_call 17; exact Calls.quiet_of_same (quiet_same (CST.out _))))
          clear hwr
          go_wp2_with (go_at_call 25; go_must (refine (requal_calls fa a n fcp cap ys fx _ (FR.out.below (below_drewN (Below.refl _ _) _)) (HR7.out.below (below_drewN (Below.refl _ _) _)) Q2.out).mono ?_; rintro e w8 ⟨rfl, hb8⟩; have B8 := Lib.hid ((below_drewN (Below.refl W7.heap.size W7) nq).trans (hb8.mono (Nat.le_refl _))); have E8 := Lib.hid (E7.out.below B8.out); have FC8 := Lib.hid (FC.out.below B8.out); clear c0 c1 c2 c3 d0 d1 d2 d3 hb8; obtain ⟨c0, c1, c2, c3, _, _, _, _⟩ := E8.out; obtain ⟨d0, d1, d2, d3, _, _, _, _⟩ := FC8.out))
          obtain ⟨g2a, g2n, g2c, GC, GR⟩ := F7
          have GCH := Lib.hid (GC.below B8.out)
          have GRH := Lib.hid (GR.below B8.out)
          have HR8 := Lib.hid (HR7.out.below B8.out)
          have B8' := Lib.hid (B7'.out.trans (B8.out.mono B7'.out.size))
          have S8 := B8'.out.size
          clear GC GR c0 c1 c2 c3 d0 d1 d2 d3
          go_loopw [9] (fun s wr => ∃ k : Nat, s = .int .i64 (k : Int) ∧ k ≤ c + 1 ∧ Hid (Below w8.heap.size w8 wr ∧ ∀ i, i < k → ¬ Zr (fx.getD (offs c i) none))) (fun s _ => c + 1 - (intOf s).toNat)
          case atStart => exact ⟨0, rfl, Nat.zero_le _, Below.refl _ _, fun i hi => absurd hi (Nat.not_lt_zero i)⟩
          case round =>
            obtain ⟨k, rfl, hk, HL⟩ := hrel
            have E9 := Lib.hid (E8.out.below HL.out.1)
            obtain ⟨c0, c1, c2, c3, _, _, _, _⟩ := E9.out
            by_cases hlt : k ≤ c
            · have hi : (k : Int) ≤ (c : Int) := by omega
              by_cases hzr : Zr (fx.getD (offs c k) none)
              · have HZ := Lib.hid hzr
                clear hzr
                go_wp2_with (first
                  | (go_at_call 23; go_must (refine (GT.out _ (HR8.out.below HL.out.1) k hlt).mono ?_; rintro e w9 ⟨⟨x, rfl, hx⟩, hb9⟩; rw [Nat.sub_self, Nat.add_zero] at hx; have hz0 := zr_order_t hx HZ.out; have B9 := Lib.hid (HL.out.1.trans (hb9.mono HL.out.1.size)); clear hb9 hx))
                  | (go_at_call 13; refine (live13_calls _).mono ?_; rintro e wv ⟨rfl, hbv⟩))
                go_ret
                exact ⟨rfl, (B8'.out.trans (B9.out.mono S8)).trans (hbv.mono (by have := B9.out.size; omega))⟩
              · have HZ := Lib.hid hzr
                clear hzr
                go_wp2_with (first
                  | (go_at_call 23; go_must (refine (GT.out _ (HR8.out.below HL.out.1) k hlt).mono ?_; rintro e w9 ⟨⟨x, rfl, hx⟩, hb9⟩; rw [Nat.sub_self, Nat.add_zero] at hx; have hz0 := zr_order_f hx HZ.out; have B9 := Lib.hid (HL.out.1.trans (hb9.mono HL.out.1.size)); clear hb9 hx)))
                go_roundw
                case rel => exact ⟨k + 1, by go_num, by omega, B9.out, fun i hi => by
                  by_cases e : i = k
                  · rw [e]; exact HZ.out
                  · exact HL.out.2 i (by omega)⟩
                case measure => simp [intOf]; omega
            · have hi : ¬ (k : Int) ≤ (c : Int) := by omega
              obtain ⟨zs, q4, q5⟩ := Q3.out fun i hi => HL.out.2 i (by omega)
              simp only [Prod.mk.injEq] at q4
              obtain ⟨rfl, rfl⟩ := q4
              have Q5 := Lib.hid q5
              have hgn : g2n = n := by have k1 := GRH.out.len; have k2 := HK.out.2.1; have k3 := q5.1; dsimp only at k1; omega
              obtain rfl : n = g2n := hgn.symm
              have GC9 := Lib.hid (GCH.out.below HL.out.1)
              obtain ⟨d0, d1, d2, d3, _, _, _, _⟩ := GC9.out
              clear q5 hgn Q3
              dsimp only at d0 d1 d2 d3
              go_wp2_with (first
                | (go_at_call 25; go_must (refine (requal_calls g2a a n g2c cap zs fx _ (GRH.out.below HL.out.1) (HR8.out.below HL.out.1) Q5.out).mono ?_; rintro e wa ⟨rfl, hba⟩; have BA := Lib.hid (HL.out.1.trans (hba.mono HL.out.1.size)); have EA := Lib.hid (E8.out.below BA.out); have GCA := Lib.hid (GCH.out.below BA.out); clear c0 c1 c2 c3 d0 d1 d2 d3 hba; obtain ⟨c0, c1, c2, c3, _, _, _, _⟩ := EA.out; obtain ⟨d0, d1, d2, d3, _, _, _, _⟩ := GCA.out))
                | (go_at_call 13; refine (live13_calls _).mono ?_; rintro e wv ⟨rfl, hbv⟩))
              go_ret
              exact ⟨rfl, (B8'.out.trans (BA.out.mono S8)).trans (hbv.mono (by have := BA.out.size; omega))⟩
end Go.Proofs.Ytaabfjfaljhjmaa
