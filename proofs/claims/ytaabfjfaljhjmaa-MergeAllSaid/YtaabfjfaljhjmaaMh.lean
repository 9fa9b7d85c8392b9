/- Factors merged one behind the other: the program's All and the reference's; the reference's Few. -/
import Derived.Test.YtaabfjfaljhjmaaMg
import Derived.Deep.RegionWith
import Derived.Deep.RegionHeld3
import Derived.Deep.CutRange
namespace Go.Proofs.Ytaabfjfaljhjmaa
open Go.RowKit Lv Go.Shelf
open Ieee (double Format Datum Toward)
attribute [local go_sem] Oper.semAt_some run_store_float drewN_alloc drewN_setCell

set_option maxRecDepth 100000 in
set_option maxHeartbeats 2000000 in
theorem mall_calls (t : Option Addr) (tn tc : Nat) (Fs : List FacD) (w : World) (hl : Fcs w (.slice t tn tc) Fs) :
    Calls Try.prog 20 #[.slice t tn tc] w fun e w' => FacE (mallD Fs) e w' ∧ Below w.heap.size w w' := by
  obtain ⟨hn1, hn2, hn3⟩ := hl.len
  have hB := (Below.refl w.heap.size w).alloc (Nat.le_refl _) (.cells #[.int .i64 0, .slice none 0 0, .int .i64 0, .int .i64 0] 24)
  have HB := Lib.hid hB
  have HS := Lib.hid hl
  by_cases h0 : tn = 0
  · have e : mallD Fs = (fac0, 4) := by
      obtain rfl := List.length_eq_zero_iff.1 (hn1.trans h0)
      rfl
    rw [e]
    have hz : ((tn : Int) == 0) = true := by simp; omega
    clear hl e hn1 h0
    go_enter Try.func20, Try.ntmps20
    go_wp2
    exact bodyPost_ret (v := .tuple #[facZ, .int .i64 4]) (by simp [results, Try.results20, go_sem, facZ]) rfl ⟨facE_no _ rfl, HB.out⟩
  · have hz : ((tn : Int) == 0) = false := by simp; omega
    have hp : (0 : Int) < (tn : Int) := by omega
    match Fs, hn1 with
    | [], hn1 => simp at hn1; omega
    | A :: Bs, hn1 =>
      obtain ⟨blk, off, rfl, hc⟩ := hl.at (by omega)
      obtain ⟨b, m, d, k1, k2, k3, k4, k5⟩ := hc 0 (by omega)
      simp only [List.getD_cons_zero, Nat.zero_mul, Nat.add_zero] at k1 k2 k3 k4 k5
      have hblk := cell_lt k1
      have HK5 := Lib.hid k5
      have CA := fun W (hW : Row W (.slice b m d) A.xs) => check_calls A.cols A.rws A.trn b m d A.xs W hW
      clear hc k5 hl h0
      cases hA : A.ok
      · have e : mallD (A :: Bs) = (fac0, 1) := by show (if A.ok = false then (fac0, (1 : Int)) else mfold A Bs) = _; rw [if_pos hA]
        rw [e]
        have CA : ∀ W, Row W (.slice b m d) A.xs → Calls Try.prog 22 #[.agg #[.int .i64 A.cols, .slice b m d, .int .i64 A.rws, .int .i64 A.trn]] W fun e w' => e = .returned (.bool false) ∧ Below W.heap.size W w' := fun W hW => by have := CA W hW; rw [show checkP A.cols A.xs A.rws A.trn = false from hA] at this; exact this
        have CA2 := Lib.hid CA
        obtain ⟨ac, ax, ar, atn⟩ := A
        clear CA hA e hn1
        dsimp only at *
        go_enter Try.func20, Try.ntmps20
        go_wp2_with (go_at_call 22; refine (CA2.out _ (HK5.out.below HB.out)).mono ?_; rintro e w1 ⟨rfl, hb⟩; obtain ⟨hq, hf⟩ := bcell hb; have hC := Lib.hid (HB.out.trans (hb.mono (by simp))))
        exact bodyPost_ret (v := .tuple #[facZ, .int .i64 1]) (by simp [results, Try.results20, go_sem, hq, facZ]) rfl ⟨facE_no _ rfl, below_put4 hC.out (by omega) _ _ _ _⟩
      · have e : mallD (A :: Bs) = mfold A Bs := by show (if A.ok = false then (fac0, (1 : Int)) else mfold A Bs) = _; rw [if_neg (by rw [hA]; decide)]
        rw [e]
        have CA : ∀ W, Row W (.slice b m d) A.xs → Calls Try.prog 22 #[.agg #[.int .i64 A.cols, .slice b m d, .int .i64 A.rws, .int .i64 A.trn]] W fun e w' => e = .returned (.bool true) ∧ Below W.heap.size W w' := fun W hW => by have := CA W hW; rw [show checkP A.cols A.xs A.rws A.trn = true from hA] at this; exact this
        have CA2 := Lib.hid CA
        have FC := fun (W : World) (a' : Option Addr) (j k : Nat) (hW : Row W (.slice b m d) A.xs) (hW' : Fcs W (.slice a' j k) Bs) => fold_calls A b a' m d j k Bs W hW hW'
        have hn1i : ((tn - 1 : Nat) : Int) = (tn : Int) - 1 := by omega
        generalize mfold A Bs = R at *
        obtain ⟨⟨gc, gx, gr, gt⟩, ge⟩ := R
        have FC2 := Lib.hid FC
        obtain ⟨ac, ax, ar, atn⟩ := A
        have Z0 := Cells4.new w (.int .i64 0) (.slice none 0 0) (.int .i64 0) (.int .i64 0) 24
        have HZ0 := Lib.hid Z0
        clear CA hA e hn1 FC Z0
        dsimp only at *
        have ht1 : (1 : Int) ≤ (tn : Int) := by omega
        have ht2 : 1 ≤ tn := by omega
        by_cases hcap : tc = 1
        · subst hcap
          obtain rfl : tn = 1 := by omega
          go_enter Try.func20, Try.ntmps20
          go_wp2_with (go_at_call 22; refine (CA2.out _ (HK5.out.below HB.out)).mono ?_; rintro e w1 ⟨rfl, hb⟩; have hC := Lib.hid (HB.out.trans (hb.mono (by simp))); have q1 := (hC.out.cell (p := ⟨blk, off, none⟩) hblk).trans k1; have q2 := (hC.out.cell (p := ⟨blk, off + 1, none⟩) hblk).trans k2; have q3 := (hC.out.cell (p := ⟨blk, off + 2, none⟩) hblk).trans k3; have q4 := (hC.out.cell (p := ⟨blk, off + 3, none⟩) hblk).trans k4; have HZ1 := Lib.hid (HZ0.out.below hb); obtain ⟨z0, z1, z2, z3, zf0, zf1, zf2, zf3⟩ := HZ1.out; clear hb)
          have HKd : Row w1.drew (.slice b m d) ax := (HK5.out.below hC.out).below (Below.refl _ _).drew
          have HSd : Fcs w1.drew (.slice (some ⟨blk, off, none⟩) 0 0) Bs := ((HS.out.below hC.out).below (Below.refl _ _).drew).tail (.inl rfl)
          have HD := Lib.hid (And.intro HKd HSd)
          clear HKd HSd
          go_region_with (go_at_call 46; go_must (refine (FC2.out w1.drew (some ⟨blk, off, none⟩) 0 0 HD.out.1 HD.out.2).mono ?_; rintro e wL ⟨⟨ga, gn, gcp, rfl, hrow⟩, hbL⟩; have hz1 := hbL.size; have BL := Lib.hid ((hC.out.trans ((Below.refl _ _).drew.mono hC.out.size)).trans (hbL.mono (by simp; exact hC.out.size))); have E1 := Lib.hid ((HZ1.out.below (Below.refl _ _).drew).below hbL); obtain ⟨y0, y1, y2, y3, yf0, yf1, yf2, yf3⟩ := E1.out; have RL := Lib.hid hrow; clear hrow hbL))
          all_goals go_wp2
          all_goals
            have P4 := E1.out.put (.int .i64 gc) (.slice ga gn gcp) (.int .i64 gr) (.int .i64 gt)
            exact bodyPost_ret (v := .tuple #[.agg #[.int .i64 gc, .slice ga gn gcp, .int .i64 gr, .int .i64 gt], .int .i64 ge]) (by simp [results, Try.results20, go_sem, P4.c0, P4.c1, P4.c2, P4.c3]) rfl ⟨⟨ga, gn, gcp, rfl, RL.out.put4 E1.out slice_ne _ _ _ _⟩, below_put4 BL.out (by omega) _ _ _ _⟩
        · go_enter Try.func20, Try.ntmps20
          go_wp2_with (go_at_call 22; refine (CA2.out _ (HK5.out.below HB.out)).mono ?_; rintro e w1 ⟨rfl, hb⟩; have hC := Lib.hid (HB.out.trans (hb.mono (by simp))); have q1 := (hC.out.cell (p := ⟨blk, off, none⟩) hblk).trans k1; have q2 := (hC.out.cell (p := ⟨blk, off + 1, none⟩) hblk).trans k2; have q3 := (hC.out.cell (p := ⟨blk, off + 2, none⟩) hblk).trans k3; have q4 := (hC.out.cell (p := ⟨blk, off + 3, none⟩) hblk).trans k4; have HZ1 := Lib.hid (HZ0.out.below hb); obtain ⟨z0, z1, z2, z3, zf0, zf1, zf2, zf3⟩ := HZ1.out; clear hb)
          have HKd : Row w1.drew (.slice b m d) ax := (HK5.out.below hC.out).below (Below.refl _ _).drew
          have HSd : Fcs w1.drew (.slice (some ⟨blk, off + 4, none⟩) (tn - 1) (tc - 1)) Bs := ((HS.out.below hC.out).below (Below.refl _ _).drew).tail (.inr rfl)
          have HD := Lib.hid (And.intro HKd HSd)
          clear HKd HSd
          go_region_with (go_at_call 46; go_must (refine (FC2.out w1.drew (some ⟨blk, off + 4, none⟩) (tn - 1) (tc - 1) HD.out.1 HD.out.2).mono ?_; rintro e wL ⟨⟨ga, gn, gcp, rfl, hrow⟩, hbL⟩; have hz1 := hbL.size; have BL := Lib.hid ((hC.out.trans ((Below.refl _ _).drew.mono hC.out.size)).trans (hbL.mono (by simp; exact hC.out.size))); have E1 := Lib.hid ((HZ1.out.below (Below.refl _ _).drew).below hbL); obtain ⟨y0, y1, y2, y3, yf0, yf1, yf2, yf3⟩ := E1.out; have RL := Lib.hid hrow; clear hrow hbL))
          all_goals go_wp2
          all_goals
            have P4 := E1.out.put (.int .i64 gc) (.slice ga gn gcp) (.int .i64 gr) (.int .i64 gt)
            exact bodyPost_ret (v := .tuple #[.agg #[.int .i64 gc, .slice ga gn gcp, .int .i64 gr, .int .i64 gt], .int .i64 ge]) (by simp [results, Try.results20, go_sem, P4.c0, P4.c1, P4.c2, P4.c3]) rfl ⟨⟨ga, gn, gcp, rfl, RL.out.put4 E1.out slice_ne _ _ _ _⟩, below_put4 BL.out (by omega) _ _ _ _⟩
end Go.Proofs.Ytaabfjfaljhjmaa
