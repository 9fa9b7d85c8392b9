/- A ridge: the program's loop over the columns. A ridge: the reference's loop over the columns. -/
import Derived.Test.YtnboegeljaplbaaGreatSi
import Derived.LoopTactic
namespace Go.Proofs.YtnboegeljaplbaaGreat
open Go.RowKit Lv Go.Shelf
open Ieee (double Format Datum Toward)
attribute [local go_sem] Oper.semAt_some run_store_float drewN_alloc drewN_setCell

theorem ridge_none {F : FacD} {mu : Option Nat} (h : ridgeEarly F mu = none) : F.ok = true ∧ outF mu = false ∧ sgnF mu = false ∧ zeroF mu = false ∧ ¬ 4096 < F.trn + F.cols * (F.cols + 1) := by
  unfold ridgeEarly at h
  by_cases h1 : F.ok = false
  · rw [if_pos h1] at h; cases h
  · rw [if_neg h1] at h
    cases h2 : (outF mu || sgnF mu) with
    | true => rw [h2, if_pos rfl] at h; cases h
    | false =>
      rw [h2, if_neg (by decide)] at h
      cases h3 : zeroF mu with
      | true => rw [h3, if_pos rfl] at h; cases h
      | false =>
        rw [h3, if_neg (by decide)] at h
        by_cases h4 : 4096 < F.trn + F.cols * (F.cols + 1)
        · rw [if_pos h4] at h; cases h
        · rw [Bool.or_eq_false_iff] at h2
          exact ⟨by simpa using h1, h2.1, h2.2, rfl, h4⟩
theorem ridgeD_none {F : FacD} {mu : Option Nat} (h : ridgeEarly F mu = none) {R : FacD × Bool} (hR : ridgeLoop F.cols.toNat mu F.cols.toNat 0 F = R) : ridgeD F mu = if R.2 = false then (fac0, 2) else (⟨R.1.cols, R.1.xs, R.1.rws, F.trn + F.cols * (F.cols + 1)⟩, 0) := by
  unfold ridgeD
  rw [h, hR]

theorem own_made (W : World) (B c : Nat) (hB : B ≤ W.heap.size) (hc : c ≤ 6) : OwnV (W.alloc (.cells (madeCells #[.float .f64 0] (c + 1)) 42)) B (.slice (some ⟨W.heap.size, 0, none⟩) (c + 1) (c + 1)) (List.replicate (c + 1) (some 0)) := by
  refine ⟨List.replicate (c + 1) (.float .f64 0), ⟨by simp, .inr ⟨W.heap.size, c + 1, madeCells #[.float .f64 0] (c + 1), by simp, by omega, ?_, by simp, by unfold maxLen; omega, by rw [size_madeCells]; simp, ?_⟩⟩, Vals.zeros (c + 1)⟩
  · exact World.alloc_heap_new W _
  · rw [toList_madeCells_one]; simp
theorem row_made (W : World) (c j y : Nat) {mu : Option Nat} (hc : c ≤ 6) (hy : FW y mu) : Row ((W.alloc (.cells (madeCells #[.float .f64 0] (c + 1)) 42)).setCell ⟨W.heap.size, j, none⟩ (.float .f64 y)) (.slice (some ⟨W.heap.size, 0, none⟩) (c + 1) (c + 1)) (ridgeL c j mu) :=
  ((own_made W W.heap.size c (Nat.le_refl _) hc).set (by simp) j hy).row
theorem row_made' (W : World) (c j y : Nat) {mu : Option Nat} (hc : c ≤ 6) (hy : FW y mu) : Row (W.alloc (.cells ((madeCells #[.float .f64 0] (c + 1)).setIfInBounds j (.float .f64 y)) 42)) (.slice (some ⟨W.heap.size, 0, none⟩) (c + 1) (c + 1)) (ridgeL c j mu) := by
  have := row_made W c j y hc hy
  rw [World.setCell_alloc_at _ _ _ _ _ rfl] at this
  exact this
theorem made_at (c j : Nat) (h : j < c + 1) : (madeCells #[.float .f64 0] (c + 1))[j]? = some (Value.float .f64 0) := by
  rw [← Array.getElem?_toList, toList_madeCells_one, List.getElem?_replicate, if_pos h]

/-- what stands at the loop's head -/
structure GInv (w : World) (b b4 : Nat) (c : Nat) (rws trn : Int) (R : FacD × Bool) (mu : Option Nat) (W : World) (j : Nat) (gx : List (Option Nat)) (a : Option Addr) (n cap : Nat) : Prop where
  c2 : Cells4 W b (.int .i64 (c : Int)) (.slice a n cap) (.int .i64 rws) (.int .i64 trn)
  c4 : Cells4 W b4 (.int .i64 0) (.slice none 0 0) (.int .i64 0) (.int .i64 0)
  row : Row W (.slice a n cap) gx
  eq : ridgeLoop c mu (c - j) j ⟨c, gx, rws, trn⟩ = R
  below : Below w.heap.size w W
theorem ridge_step {c j : Nat} {mu : Option Nat} {gx : List (Option Nat)} {rws trn : Int} {R : FacD × Bool} (hj : j < c) (h : ridgeLoop c mu (c - j) j ⟨c, gx, rws, trn⟩ = R) :
    ((lineD ⟨c, gx, rws, trn⟩ (ridgeL c j mu) j).2 = false ∧ R = (fac0, false)) ∨ (∃ gy, lineD ⟨c, gx, rws, trn⟩ (ridgeL c j mu) j = (⟨c, gy, rws, trn⟩, true) ∧ ridgeLoop c mu (c - (j + 1)) (j + 1) ⟨c, gy, rws, trn⟩ = R) := by
  rw [show c - j = (c - (j + 1)) + 1 by omega] at h
  unfold ridgeLoop at h
  cases h2 : (lineD ⟨c, gx, rws, trn⟩ (ridgeL c j mu) j).2 with
  | false => rw [if_pos h2] at h; exact .inl ⟨rfl, h.symm⟩
  | true =>
    rw [if_neg (by rw [h2]; decide)] at h
    obtain ⟨_, e1, e2, e3, _⟩ := lineD_ok h2
    dsimp only at e1 e2 e3
    generalize lineD ⟨c, gx, rws, trn⟩ (ridgeL c j mu) j = G at *
    obtain ⟨⟨a1, a2, a3, a4⟩, a5⟩ := G
    dsimp only at *
    subst e1 e2 e3 h2
    exact .inr ⟨a2, rfl, h⟩

set_option maxRecDepth 100000 in
set_option maxHeartbeats 2000000 in
theorem aridge_yes (c : Nat) (xs : List (Option Nat)) (rws trn : Int) (a : Option Addr) (n cap y : Nat) {mu : Option Nat} (w : World) (h : Row w (.slice a n cap) xs) (hy : FW y mu) (R : FacD × Bool) (hno : ridgeEarly ⟨c, xs, rws, trn⟩ mu = none) (hR : ridgeLoop c mu c 0 ⟨c, xs, rws, trn⟩ = R) :
    Calls Tryz.prog 15 #[.agg #[.int .i64 (c : Int), .slice a n cap, .int .i64 rws, .int .i64 trn], .float .f64 y] w fun e w' => FacE (if R.2 = false then (fac0, 2) else (⟨R.1.cols, R.1.xs, R.1.rws, trn + (c : Int) * ((c : Int) + 1)⟩, 0)) e w' ∧ Below w.heap.size w w' := by
  have hB := ((Below.refl w.heap.size w).alloc (Nat.le_refl _) (.cells #[.int .i64 (c : Int), .slice a n cap, .int .i64 rws, .int .i64 trn] 28)).alloc (by simp) (.cells #[.int .i64 0, .slice none 0 0, .int .i64 0, .int .i64 0] 28)
  have L := check_calls (c : Int) rws trn a n cap xs _ (h.below hB)
  have HB := Lib.hid hB
  have HR := Lib.hid h
  obtain ⟨hok, ho, hs, hzz, hf⟩ := ridge_none hno
  have hok' : checkP (c : Int) xs rws trn = true := hok
  rw [hok'] at L
  have LH := Lib.hid L
  obtain ⟨hc1, hc6⟩ := checkP_cols hok'
  obtain ⟨r0, r1, t0, t1⟩ := ok_rows hok
  obtain ⟨s2, s42⟩ := cols_sq hc1 hc6
  have CO := Lib.hid (fun W => out_calls y hy.1 W)
  rw [outW_F hy, ho] at CO
  have CS := Lib.hid (fun W => signbit_calls y hy.1 W)
  rw [sgn_word hy ho, hs] at CS
  have hz0 := is_zero' y hy.1
  rw [zeroW_F hy, hzz] at hz0
  have HY := Lib.hid hy
  have HRR := Lib.hid hR
  obtain ⟨i0, hin, hiz0, hiz1, hiz2⟩ := info_parts infoF
  have hmk := fun W => run_make (P := Tryz.prog) W 26 42 i0 _ Tryz.underlying26 hin hiz0 .i64 .i64 ((c : Int) + 1) ((c : Int) + 1) (by omega) (by omega) (by rw [hiz2]; omega) (by omega)
  rw [show ((c : Int) + 1).toNat = c + 1 by omega, hiz1, Nat.mul_one] at hmk
  clear hno hR L h hy hB hok hok' ho hs hzz hin hiz0 hiz1 hiz2
  have hB := HB
  clear HB
  dsimp only at *
  go_enter Tryz.func15, Tryz.ntmps15
  go_wp2_with (first | (go_at_call 28; refine LH.out.mono ?_; rintro e w1 ⟨rfl, hb⟩; obtain ⟨hq, hf⟩ := bcell hb; have hz := hb.size; simp at hz; have hz1 : w.heap.size < w1.heap.size := (by omega); have hz2 : w.heap.size + 1 < w1.heap.size := (by omega); have hC := Lib.hid (hB.out.trans (hb.mono (by simp; omega)))) | (go_at_call 44; refine (CO.out _).mono ?_; rintro e w3 ⟨rfl, rfl⟩) | (go_at_call 45; refine (CS.out _).mono ?_; rintro e w3 ⟨rfl, rfl⟩))
  have C2 : Cells4 w1 w.heap.size (.int .i64 (c : Int)) (.slice a n cap) (.int .i64 rws) (.int .i64 trn) := ((Cells4.new w (.int .i64 (c : Int)) (.slice a n cap) (.int .i64 rws) (.int .i64 trn) 28).alloc (.cells #[.int .i64 0, .slice none 0 0, .int .i64 0, .int .i64 0] 28)).below hb
  have C4 : Cells4 w1 (w.heap.size + 1) (.int .i64 0) (.slice none 0 0) (.int .i64 0) (.int .i64 0) := by
    have := (Cells4.new (w.alloc (.cells #[.int .i64 (c : Int), .slice a n cap, .int .i64 rws, .int .i64 trn] 28)) (.int .i64 0) (.slice none 0 0) (.int .i64 0) (.int .i64 0) 28).below hb
    simpa using this
  have IN : GInv w w.heap.size (w.heap.size + 1) c rws trn R mu w1 0 xs a n cap := ⟨C2, C4, HR.out.below hC.out, HRR.out, hC.out⟩
  clear C2 C4 hq hf hb
  go_loopw [43] (fun s43 wr => ∃ (j : Nat) (gx : List (Option Nat)) (a' : Option Addr) (n' cap' : Nat), s43 = .int .i64 (j : Int) ∧ j ≤ c ∧ GInv w w.heap.size (w.heap.size + 1) c rws trn R mu wr j gx a' n' cap') (fun s43 _ => c - (intOf s43).toNat)
  case atStart => exact ⟨0, _, a, n, cap, rfl, Nat.zero_le _, IN⟩
  case round =>
    obtain ⟨j, gx, a', n', cap', rfl, hj, I⟩ := hrel
    have HI := Lib.hid I
    obtain ⟨c20, c21, c22, c23, f20, f21, f22, f23⟩ := I.c2
    obtain ⟨c40, c41, c42, c43, f40, f41, f42, f43⟩ := I.c4
    have hs1 := I.below.size
    have hl4 := I.c4.lt
    have hl2 : w.heap.size < wr.heap.size := by omega
    clear I
    by_cases hjc : j < c
    · have hji : (j : Int) < (c : Int) := by omega
      have hji1 : (j : Int) < (c : Int) + 1 := by omega
      have hmj := made_at c j (by omega)
      have AL := Lib.hid (fun w h h' => ALine_calls ⟨c, gx, rws, trn⟩ j a' (some ⟨wr.heap.size, 0, none⟩) n' cap' (c + 1) (c + 1) (ridgeL c j mu) w h h')
      have ST := ridge_step hjc HI.out.eq
      dsimp only at AL
      have hbm : Below w.heap.size w (wr.alloc (.cells ((madeCells #[.float .f64 0] (c + 1)).setIfInBounds j (.float .f64 y)) 42)) := HI.out.below.alloc hs1 _
      have HBM := Lib.hid hbm
      clear hbm
      rcases ST with ⟨e2, eR⟩ | ⟨gy, eL, eR⟩
      · have AL2 := AL
        rw [show lineD ⟨c, gx, rws, trn⟩ (ridgeL c j mu) j = (fac0, false) by rw [← lineD_no e2, ← e2]] at AL2
        clear AL e2
        subst eR
        go_wp2_with (go_at_call 46; go_must (refine (AL2.out _ (HI.out.row.alloc _) (row_made' wr c j y (by omega) HY.out)).mono ?_; rintro e wL ⟨⟨ga, gn, gcp, rfl, hrow⟩, hbL⟩; have BL := Lib.hid (HBM.out.trans (hbL.mono (by simp; omega))); obtain ⟨m0, m1, m2, m3, n0, n1, n2, n3⟩ := (HI.out.c4.alloc _).below hbL; have hzL := hbL.size; simp at hzL; have hzN : w.heap.size + 1 < wL.heap.size := (by omega); have hzM : w.heap.size < wL.heap.size := (by omega); have E4 := Lib.hid ((HI.out.c4.alloc _).below hbL)))
        have P4 := E4.out.put (.int .i64 0) (.slice none 0 0) (.int .i64 0) (.int .i64 0)
        have P5 := P4.alloc (.cells #[.int .i64 fac0.cols, .slice ga gn gcp, .int .i64 fac0.rws, .int .i64 fac0.trn] 28)
        exact bodyPost_ret (v := .tuple #[facZ, .int .i64 2]) (by simp [results, Tryz.results15, go_sem, facZ, P4.c0, P4.c1, P4.c2, P4.c3, hzN]) rfl ⟨facE_no _ rfl, (below_put4 BL.out (by omega) _ _ _ _).alloc (by simp; omega) _⟩
      · have AL2 := AL
        rw [eL] at AL2
        clear AL eL
        have ER := Lib.hid eR
        clear eR
        go_wp2_with (go_at_call 46; go_must (refine (AL2.out _ (HI.out.row.alloc _) (row_made' wr c j y (by omega) HY.out)).mono ?_; rintro e wL ⟨⟨ga, gn, gcp, rfl, hrow⟩, hbL⟩; have BL := Lib.hid (HBM.out.trans (hbL.mono (by simp; omega))); have E2 := Lib.hid ((HI.out.c2.alloc _).below hbL); have E4 := Lib.hid ((HI.out.c4.alloc _).below hbL); obtain ⟨k0, k1, k2, k3, l0, l1, l2, l3⟩ := E2.out; have hzL := hbL.size; simp at hzL; have hzM : w.heap.size < wL.heap.size := (by omega); have hzN : w.heap.size + 1 < wL.heap.size := (by omega)))
        have P2 := E2.out.put (.int .i64 (c : Int)) (.slice ga gn gcp) (.int .i64 rws) (.int .i64 trn)
        have P4 := E4.out.put_other (b' := w.heap.size) (by omega) (.int .i64 (c : Int)) (.slice ga gn gcp) (.int .i64 rws) (.int .i64 trn)
        go_roundw
        case rel => exact ⟨j + 1, gy, ga, gn, gcp, by go_num, by omega, P2.alloc _, P4.alloc _, (hrow.put4 E2.out slice_ne _ _ _ _).alloc _, ER.out, (below_put4 BL.out (Nat.le_refl _) _ _ _ _).alloc (by simp; omega) _⟩
        case measure => simp [intOf]; omega
    · obtain rfl : j = c := by omega
      have eR := HI.out.eq
      rw [Nat.sub_self] at eR
      obtain rfl : R = (⟨j, gx, rws, trn⟩, true) := eR.symm
      go_wp2
      have a0 := cell_set_eq (v := .int .i64 (trn + (j : Int) * ((j : Int) + 1))) c23
      have E2 : Cells4 (wr.setCell ⟨w.heap.size, 3, none⟩ (.int .i64 (trn + (j : Int) * ((j : Int) + 1)))) w.heap.size (.int .i64 (j : Int)) (.slice a' n' cap') (.int .i64 rws) (.int .i64 (trn + (j : Int) * ((j : Int) + 1))) :=
        ⟨cell_set_off c20 (by decide), cell_set_off c21 (by decide), cell_set_off c22 (by decide), a0, frozen_set f20, frozen_set f21, frozen_set f22, frozen_set f23⟩
      have E4 := HI.out.c4.set (b' := w.heap.size) (o := 3) (v := .int .i64 (trn + (j : Int) * ((j : Int) + 1))) (by omega)
      have RE := HI.out.row.setAt c23 (fun _ e => by cases e) (.int .i64 (trn + (j : Int) * ((j : Int) + 1)))
      have P4 := E4.put (.int .i64 (j : Int)) (.slice a' n' cap') (.int .i64 rws) (.int .i64 (trn + (j : Int) * ((j : Int) + 1)))
      refine bodyPost_ret (v := .tuple #[.agg #[.int .i64 (j : Int), .slice a' n' cap', .int .i64 rws, .int .i64 (trn + (j : Int) * ((j : Int) + 1))], .int .i64 0]) (by simp [results, Tryz.results15, go_sem, P4.c0, P4.c1, P4.c2, P4.c3]) rfl ⟨⟨a', n', cap', rfl, RE.put4 E4 slice_ne _ _ _ _⟩, ?_⟩
      exact below_put4 (HI.out.below.setCell (p := ⟨w.heap.size, 3, none⟩) (Nat.le_refl _) _) (by omega) _ _ _ _

/-- the program's Ridge -/
theorem aridge_calls (F : FacD) (a : Option Addr) (n cap y : Nat) {mu : Option Nat} (w : World) (h : Row w (.slice a n cap) F.xs) (hy : FW y mu) :
    Calls Tryz.prog 15 #[.agg #[.int .i64 F.cols, .slice a n cap, .int .i64 F.rws, .int .i64 F.trn], .float .f64 y] w fun e w' => FacE (ridgeD F mu) e w' ∧ Below w.heap.size w w' := by
  cases hr : ridgeEarly F mu with
  | some r => rw [ridgeD_some hr]; exact ARidge_no F a n cap y w h hy r hr
  | none =>
    rw [ridgeD_none hr rfl]
    obtain ⟨cols, xs, rws, trn⟩ := F
    obtain ⟨hok, _⟩ := ridge_none hr
    obtain ⟨h1, h6⟩ := ok_cols hok
    dsimp only at h1 h6 h ⊢
    obtain ⟨c, rfl⟩ := Int.eq_ofNat_of_zero_le (show 0 ≤ cols by omega)
    exact aridge_yes c xs rws trn a n cap y w h hy _ hr rfl
end Go.Proofs.YtnboegeljaplbaaGreat
namespace Go.Proofs.YtnboegeljaplbaaGreat
open Go.RowKit Lv Go.Shelf
open Ieee (double Format Datum Toward)
attribute [local go_sem] Oper.semAt_some run_store_float drewN_alloc drewN_setCell

end Go.Proofs.YtnboegeljaplbaaGreat
