/- Two factors merged: the program's loop over the rows. -/
import Derived.Test.YtgmaljikjkbdlaaMc
import Derived.LoopTactic
namespace Go.Proofs.Ytgmaljikjkbdlaa
open Go.RowKit Lv Go.Shelf
open Ieee (double Format Datum Toward)
attribute [local go_sem high] run_maxI

attribute [local go_sem] Oper.semAt_some run_store_float drewN_alloc drewN_setCell

theorem line_calls (c i : Nat) (rws trn : Int) (a : Option Addr) (n cap : Nat) (xs : List (Option Nat)) (w : World) (h : Row w (.slice a n cap) xs) (hok : checkP (c : Int) xs rws trn = true) (hi : i ≤ c) :
    Calls Try.prog 64 #[.agg #[.int .i64 (c : Int), .slice a n cap, .int .i64 rws, .int .i64 trn], .int .i64 (i : Int)] w fun e w' => (∃ v, e = .returned v ∧ OwnV w' w.heap.size v (lineP xs c i)) ∧ Below w.heap.size w w' := by
  obtain ⟨hc1, hc6⟩ := checkP_cols hok
  have hxl := checkP_len hok
  have hb := tsz_bounds (c := c) (by omega) (by omega)
  have hn := h.len
  obtain ⟨tb, tf, rfl, htb, _⟩ := h.shape (by omega)
  subst hn
  refine (line_yes c i rws trn tb tf cap xs w (by omega) (by omega) hi hxl h hok).mono ?_
  rintro e w' ⟨v, rfl, ho, hb⟩
  exact ⟨⟨v, rfl, ho⟩, hb⟩

/-- behind the statement that rotates a row in -/
def TwoCut (w : World) (B : FacD) (b : Option Addr) (m d : Nat) (r : FacD × Bool) (s9 : Value) (W : World) : Prop :=
  ∃ ga gn gcp, s9 = .bool r.2 ∧ TwoAt w W r.1 B ga gn gcp b m d

set_option maxRecDepth 100000 in
set_option maxHeartbeats 4000000 in
theorem two_yes (c : Nat) (ax bx : List (Option Nat)) (ar atn br bt : Int) (a b : Option Addr) (n ac m d : Nat) (w : World) (h : Row w (.slice a n ac) ax) (h' : Row w (.slice b m d) bx) (hno : twoEarly ⟨c, ax, ar, atn⟩ ⟨c, bx, br, bt⟩ = 0) (R : FacD × Bool) (hR : twoLoop c bx (c + 1) 0 ⟨c, ax, ar, atn⟩ = R) :
    Calls Try.prog 41 #[.agg #[.int .i64 (c : Int), .slice a n ac, .int .i64 ar, .int .i64 atn], .agg #[.int .i64 (c : Int), .slice b m d, .int .i64 br, .int .i64 bt]] w fun e w' => FacE (if R.2 = false then (fac0, 2) else (⟨c, R.1.xs, ar + br, max atn bt + sizeI c⟩, 0)) e w' ∧ Below w.heap.size w w' := by
  obtain ⟨hA, hB, _, hr, ht⟩ := two_zero hno
  dsimp only at hr ht
  obtain ⟨hc1, hc6⟩ := ok_cols hA
  dsimp only at hc1 hc6
  obtain ⟨p0, p1, p2, p3⟩ := ok_rows hA
  obtain ⟨q0, q1, q2, q3⟩ := ok_rows hB
  dsimp only at p0 p1 p2 p3 q0 q1 q2 q3
  obtain ⟨y3, y28⟩ := sizeI_in hc1 hc6
  have CA : ∀ W, Row W (.slice a n ac) ax → Calls Try.prog 39 #[.agg #[.int .i64 (c : Int), .slice a n ac, .int .i64 ar, .int .i64 atn]] W fun e w' => e = .returned (.bool true) ∧ Below W.heap.size W w' := fun W hW => by have := check_calls (c : Int) ar atn a n ac ax W hW; rw [show checkP (c : Int) ax ar atn = true from hA] at this; exact this
  have CB : ∀ W, Row W (.slice b m d) bx → Calls Try.prog 39 #[.agg #[.int .i64 (c : Int), .slice b m d, .int .i64 br, .int .i64 bt]] W fun e w' => e = .returned (.bool true) ∧ Below W.heap.size W w' := fun W hW => by have := check_calls (c : Int) br bt b m d bx W hW; rw [show checkP (c : Int) bx br bt = true from hB] at this; exact this
  have CA := Lib.hid CA
  have CB := Lib.hid CB
  have CS := Lib.hid (fun w => cost_calls (c : Int) w)
  have HRR := Lib.hid hR
  have HBok := Lib.hid (show checkP (c : Int) bx br bt = true from hB)
  have hmx : 0 ≤ max atn bt ∧ max atn bt ≤ 4096 := by omega
  obtain ⟨hm0, hm1⟩ := hmx
  have hr' : ¬ 200 < ar + br := by omega
  have ht' : ¬ 4096 < max atn bt + sizeI (c : Int) := by omega
  clear hA hB hno hR
  generalize sizeI (c : Int) = sz at *
  have T := TwoAt.start w ⟨c, ax, ar, atn⟩ ⟨c, bx, br, bt⟩ a n ac b m d h h'
  dsimp only at T
  go_enter Try.func41, Try.ntmps41
  go_wp2
  generalize (((w.alloc (.cells #[.int .i64 (c : Int), .slice a n ac, .int .i64 ar, .int .i64 atn] 36)).alloc (.cells #[.int .i64 (c : Int), .slice b m d, .int .i64 br, .int .i64 bt] 36)).alloc (.cells #[.int .i64 0, .slice none 0 0, .int .i64 0, .int .i64 0] 36)) = W0 at *
  have HT0 := Lib.hid T
  have HT := Lib.hid (T.keep ((Below.refl _ _).drew))
  obtain ⟨a0, a1, a2, a3, _, _, _, _⟩ := T.ca
  obtain ⟨b0, b1, b2, b3, _, _, _, _⟩ := T.cb
  clear T h h'
  go_region
  clear a0 a1 a2 a3 b0 b1 b2 b3 HT0
  generalize W0.drew = W at *
  obtain ⟨a0, a1, a2, a3, _, _, _, _⟩ := HT.out.ca
  obtain ⟨b0, b1, b2, b3, _, _, _, _⟩ := HT.out.cb
  obtain ⟨z0, z1, z2, z3, zf0, zf1, zf2, zf3⟩ := HT.out.cz
  have hsz := HT.out.cz.lt
  go_wp2_with (first | (go_at_call_of 39 (Value.agg #[.int .i64 (c : Int), .slice a n ac, .int .i64 ar, .int .i64 atn]); go_must (refine (CA.out _ HT.out.ra).mono ?_; rintro e w1 ⟨rfl, hb1⟩; have HT1 := Lib.hid (HT.out.keep hb1); clear a0 a1 a2 a3 b0 b1 b2 b3 z0 z1 z2 z3 zf0 zf1 zf2 zf3; obtain ⟨a0, a1, a2, a3, _, _, _, _⟩ := HT1.out.ca; obtain ⟨b0, b1, b2, b3, _, _, _, _⟩ := HT1.out.cb; obtain ⟨z0, z1, z2, z3, zf0, zf1, zf2, zf3⟩ := HT1.out.cz; clear hb1)) | (go_at_call 39; go_must (refine (CB.out _ HT1.out.rb).mono ?_; rintro e w2 ⟨rfl, hb2⟩; have HT2 := Lib.hid (HT1.out.keep hb2); clear a0 a1 a2 a3 b0 b1 b2 b3 z0 z1 z2 z3 zf0 zf1 zf2 zf3; obtain ⟨a0, a1, a2, a3, _, _, _, _⟩ := HT2.out.ca; obtain ⟨b0, b1, b2, b3, _, _, _, _⟩ := HT2.out.cb; obtain ⟨z0, z1, z2, z3, zf0, zf1, zf2, zf3⟩ := HT2.out.cz; clear hb2)) | (go_at_call 47; refine (CS.out _).mono ?_; rintro e w' ⟨rfl, rfl⟩))
  clear a0 a1 a2 a3 b0 b1 b2 b3 z0 z1 z2 z3 zf0 zf1 zf2 zf3 CA CB HT1 HT
  go_loopw [52] (fun s52 wr => ∃ (i : Nat) (gx : List (Option Nat)) (ga : Option Addr) (gn gcp : Nat), s52 = .int .i64 (i : Int) ∧ i ≤ c + 1 ∧ Hid (twoLoop c bx (c + 1 - i) i ⟨c, gx, ar, atn⟩ = R ∧ TwoAt w wr ⟨c, gx, ar, atn⟩ ⟨c, bx, br, bt⟩ ga gn gcp b m d)) (fun s52 _ => c + 1 - (intOf s52).toNat)
  case atStart => exact ⟨0, ax, a, n, ac, rfl, Nat.zero_le _, HRR.out, HT2.out⟩
  case round =>
    obtain ⟨i, gx, ga, gn, gcp, rfl, hi, HI⟩ := hrel
    have TI := HI.out.2
    obtain ⟨a0, a1, a2, a3, af0, af1, af2, af3⟩ := TI.ca
    obtain ⟨b0, b1, b2, b3, _, _, _, _⟩ := TI.cb
    obtain ⟨z0, z1, z2, z3, zf0, zf1, zf2, zf3⟩ := TI.cz
    dsimp only at a0 a1 a2 a3 b0 b1 b2 b3
    have hlz := TI.cz.lt
    have hla : w.heap.size < wr.heap.size := by omega
    have hlb : w.heap.size + 1 < wr.heap.size := by omega
    clear TI
    by_cases hic : i ≤ c
    · have hii : (i : Int) < (c : Int) + 1 := by omega
      have eL := HI.out.1
      rw [show c + 1 - i = (c - i) + 1 by omega] at eL
      have ST := two_step eL
      have LN := Lib.hid (fun W (hW : Row W (.slice b m d) bx) => line_calls c i br bt b m d bx W hW HBok.out hic)
      have AL := Lib.hid (fun a b n cap m d w => ALine_calls ⟨c, gx, ar, atn⟩ i a b n cap m d (lineP bx c i) w)
      clear eL
      generalize lineD ⟨c, gx, ar, atn⟩ (lineP bx c i) i = r at *
      go_wp2
      go_cut [9, 52] from 52 to 67 (fun s9 s52 wx => s52 = .int .i64 (i : Int) ∧ TwoCut w ⟨c, bx, br, bt⟩ b m d r s9 wx)
      case first =>
        rename_i J K' hJ hK'
        have TD := Lib.hid (HI.out.2.keep (Below.refl _ _).drew)
        clear ST
        go_region_with (first
          | (go_at_call 64; go_must (refine (LN.out _ TD.out.rb).mono ?_; rintro e wL ⟨⟨vL, rfl, hownL⟩, hbL⟩; obtain ⟨oa, on, oc, hvL⟩ := hownL.row.form; subst hvL; have RL := Lib.hid hownL.row; have TL := Lib.hid (TD.out.keep hbL); obtain ⟨k0, k1, k2, k3, _, _, _, _⟩ := TL.out.ca; clear hownL hbL))
          | (go_at_call 63; go_must (refine (AL.out _ _ _ _ _ _ _ TL.out.ra RL.out).mono ?_; rintro e wA ⟨⟨pa, pn, pcp, rfl, hrowA⟩, hbA⟩; have TA := Lib.hid (TL.out.keep hbA); obtain ⟨l0, l1, l2, l3, lf0, lf1, lf2, lf3⟩ := TA.out.ca; have RA := Lib.hid hrowA; clear hrowA hbA)))
        all_goals
          refine hK' _ _ (Met.intro (hJ _ _ ?_))
          (repeat apply Exists.intro)
          refine ⟨?_, rfl⟩
          refine ⟨rfl, ?_⟩
          unfold TwoCut
          refine ⟨pa, pn, pcp, rfl, ?_⟩
          exact ⟨TA.out.ca.put _ _ _ _, TA.out.cb.put_other (by omega) _ _ _ _, TA.out.cz.put_other (by omega) _ _ _ _, RA.out.put4 TA.out.ca slice_ne _ _ _ _, TA.out.rb.put4 TA.out.ca slice_ne _ _ _ _, below_put4 TA.out.below (Nat.le_refl _) _ _ _ _⟩
      case rest =>
        obtain ⟨rfl, gb, gm, gd, rfl, TC⟩ := hcut
        have HTC := Lib.hid TC
        obtain ⟨k0, k1, k2, k3, kf0, kf1, kf2, kf3⟩ := TC.ca
        obtain ⟨m0, m1, m2, m3, _, _, _, _⟩ := TC.cb
        obtain ⟨l0, l1, l2, l3, lf0, lf1, lf2, lf3⟩ := TC.cz
        clear TC
        rcases ST with ⟨e2, eR⟩ | ⟨gy, eL, eR⟩
        · subst eR
          rw [e2]
          clear e2
          go_wp2
          exact bodyPost_ret (v := .tuple #[facZ, .int .i64 2]) (by simp [results, Try.results41, go_sem, facZ, (HTC.out.cz.put (.int .i64 0) (.slice none 0 0) (.int .i64 0) (.int .i64 0)).c0, (HTC.out.cz.put (.int .i64 0) (.slice none 0 0) (.int .i64 0) (.int .i64 0)).c1, (HTC.out.cz.put (.int .i64 0) (.slice none 0 0) (.int .i64 0) (.int .i64 0)).c2, (HTC.out.cz.put (.int .i64 0) (.slice none 0 0) (.int .i64 0) (.int .i64 0)).c3]) rfl ⟨facE_no _ rfl, below_put4 HTC.out.below (by omega) _ _ _ _⟩
        · subst eL
          have ER := Lib.hid eR
          clear eR
          go_wp2
          refine ⟨⟨i + 1, gy, gb, gm, gd, by go_num, by omega, ?_, HTC.out⟩, by simp [intOf]; omega⟩
          have := ER.out
          rw [show c + 1 - (i + 1) = c - i by omega]
          exact this
    · obtain rfl : i = c + 1 := by omega
      have hii : ¬ ((c + 1 : Nat) : Int) < (c : Int) + 1 := by omega
      have hii' : ¬ (c : Int) + 1 < (c : Int) + 1 := by omega
      have eR := HI.out.1
      rw [Nat.sub_self] at eR
      obtain rfl : R = (⟨c, gx, ar, atn⟩, true) := eR.symm
      have HT := Lib.hid HI.out.2
      clear HI eR
      go_wp2
      go_region_with (go_at_call 47; refine (CS.out _).mono ?_; rintro e w' ⟨rfl, rfl⟩)
      all_goals
        go_wp2
        have E2 : Cells4 ((wr.setCell ⟨w.heap.size, 2, none⟩ (.int .i64 (ar + br))).setCell ⟨w.heap.size, 3, none⟩ (.int .i64 (max atn bt + sz))) w.heap.size (.int .i64 (c : Int)) (.slice ga gn gcp) (.int .i64 (ar + br)) (.int .i64 (max atn bt + sz)) :=
          ⟨cell_set_off (cell_set_off a0 (by decide)) (by decide), cell_set_off (cell_set_off a1 (by decide)) (by decide), cell_set_off (cell_set_eq a2) (by decide), cell_set_eq (cell_set_off a3 (by decide)), frozen_set (frozen_set af0), frozen_set (frozen_set af1), frozen_set (frozen_set af2), frozen_set (frozen_set af3)⟩
        have E4 := (HT.out.cz.set (b' := w.heap.size) (o := 2) (v := .int .i64 (ar + br)) (by omega)).set (b' := w.heap.size) (o := 3) (v := .int .i64 (max atn bt + sz)) (by omega)
        have RE : Row ((wr.setCell ⟨w.heap.size, 2, none⟩ (.int .i64 (ar + br))).setCell ⟨w.heap.size, 3, none⟩ (.int .i64 (max atn bt + sz))) (.slice ga gn gcp) gx :=
          (HT.out.ra.setAt HT.out.ca.c2 (fun _ e => by cases e) _).setAt (cell_set_off (o := 2) (v := .int .i64 (ar + br)) HT.out.ca.c3 (by decide)) (fun _ e => by cases e) _
        have P4 := E4.put (.int .i64 (c : Int)) (.slice ga gn gcp) (.int .i64 (ar + br)) (.int .i64 (max atn bt + sz))
        refine bodyPost_ret (v := .tuple #[.agg #[.int .i64 (c : Int), .slice ga gn gcp, .int .i64 (ar + br), .int .i64 (max atn bt + sz)], .int .i64 0]) (by simp [results, Try.results41, go_sem, P4.c0, P4.c1, P4.c2, P4.c3]) rfl ⟨⟨ga, gn, gcp, rfl, (RE.put4 E4 slice_ne _ _ _ _).below (Below.refl _ _).drew⟩, ?_⟩
        exact (below_put4 ((HT.out.below.setCell (p := ⟨w.heap.size, 2, none⟩) (Nat.le_refl _) _).setCell (p := ⟨w.heap.size, 3, none⟩) (Nat.le_refl _) _) (by omega) _ _ _ _).drew

/-- the program's Two -/
theorem two_calls (A B : FacD) (a b : Option Addr) (n c m d : Nat) (w : World) (h : Row w (.slice a n c) A.xs) (h' : Row w (.slice b m d) B.xs) :
    Calls Try.prog 41 #[.agg #[.int .i64 A.cols, .slice a n c, .int .i64 A.rws, .int .i64 A.trn], .agg #[.int .i64 B.cols, .slice b m d, .int .i64 B.rws, .int .i64 B.trn]] w fun e w' => FacE (twoD A B) e w' ∧ Below w.heap.size w w' := by
  by_cases he : twoEarly A B = 0
  · rw [twoD_loop he rfl]
    obtain ⟨hA, hB, hc, _, _⟩ := two_zero he
    obtain ⟨h1, h6⟩ := ok_cols hA
    obtain ⟨ac, ax, ar, atn⟩ := A
    obtain ⟨bc, bx, br, bt⟩ := B
    dsimp only at hc h1 h6 h h' ⊢
    subst hc
    obtain ⟨k, rfl⟩ := Int.eq_ofNat_of_zero_le (show 0 ≤ ac by omega)
    exact two_yes k ax bx ar atn br bt a b n c m d w h h' he _ rfl
  · exact two_no A B a b n c m d w h h' he
end Go.Proofs.Ytgmaljikjkbdlaa
