/- A row taken out: the reference's Row, walked. -/
import Derived.Test.YtfohknalldelfaaDoorTj
namespace Go.Proofs.YtfohknalldelfaaDoor
open Go.RowKit Lv Go.Shelf
open Ieee (double Format Datum Toward)
attribute [local go_sem] Oper.semAt_some run_store_float drewN_alloc drewN_setCell

set_option maxRecDepth 100000 in
set_option maxHeartbeats 1000000 in
/-- what the reference refuses -/
theorem rsrow_no (F : FacD) (a b : Option Addr) (n cap m d y : Nat) (ls : List (Option Nat)) {Y : Option Nat} (w : World) (h : Row w (.slice a n cap) F.xs) (hl : Row w (.slice b m d) ls) (hy : FW y Y) (hno : sEarlyD F ls Y ≠ 0) :
    Calls Tryd.prog 14 #[.agg #[.int .i64 F.cols, .slice a n cap, .int .i64 F.rws, .int .i64 F.trn], .agg #[.slice b m d, .float .f64 y]] w fun e w' => FacE (sRowD F ls Y) e w' ∧ Below w.heap.size w w' := by
  have hB := (((Below.refl w.heap.size w).alloc (Nat.le_refl _) (.cells #[.int .i64 F.cols, .slice a n cap, .int .i64 F.rws, .int .i64 F.trn] 24)).alloc (by simp) (.cells #[.slice b m d, .float .f64 y] 33)).alloc (by simp; omega) (.cells #[.int .i64 0, .slice none 0 0, .int .i64 0, .int .i64 0] 24)
  have L := rearly_calls F a b n cap m d y ls _ (h.below hB) (hl.below hB) hy
  obtain ⟨g0, g3⟩ := early_range F ls Y
  have HB := Lib.hid hB
  rw [sRowD_early hno]
  by_cases he : earlyD F ls Y = 0
  · obtain ⟨hok, _, _, _⟩ := early_zero he
    rw [he] at L
    have LH := Lib.hid L
    obtain ⟨hc1, hc6⟩ := ok_cols hok
    obtain ⟨r0, r1, t0, t1⟩ := ok_rows hok
    have e3 : sEarlyD F ls Y = if F.rws = 0 then 5 else if 4096 < F.trn + F.cols + 1 then 6 else 0 := by
      unfold sEarlyD; rw [if_neg (by simpa using he)]
    rw [e3] at hno ⊢
    obtain ⟨cols, xs, rws, trn⟩ := F
    dsimp only at *
    by_cases hr : rws = 0
    · have hr2 : (rws == 0) = true := by simpa using hr
      rw [if_pos hr]
      clear he e3 L h hl hy hno hok hB hr g0 g3
      have hB := HB
      clear HB
      go_enter Tryd.func14, Tryd.ntmps14
      go_wp2_with (first | (go_at_call 34; refine LH.out.mono ?_; rintro e w1 ⟨rfl, hb⟩; obtain ⟨hq, hf⟩ := bcell hb; have hz := hb.size; simp at hz; have hz1 : w.heap.size < w1.heap.size := (by omega); have hz2 : w.heap.size + 1 < w1.heap.size := (by omega); have hz3 : w.heap.size + 1 + 1 < w1.heap.size := (by omega); have hC := Lib.hid (hB.out.trans (hb.mono (by simp; omega)))))
      exact bodyPost_ret (v := .tuple #[facZ, .int .i64 5]) (by simp [results, Tryd.results14, go_sem, hq, facZ]) rfl ⟨facE_no _ rfl, below_put4 hC.out (by omega) _ _ _ _⟩
    · have hr2 : (rws == 0) = false := by simpa using hr
      rw [if_neg hr] at hno ⊢
      by_cases ht : 4096 < trn + cols + 1
      · rw [if_pos ht]
        clear he e3 L h hl hy hno hok hB hr g0 g3
        have hB := HB
        clear HB
        go_enter Tryd.func14, Tryd.ntmps14
        go_wp2_with (first | (go_at_call 34; refine LH.out.mono ?_; rintro e w1 ⟨rfl, hb⟩; obtain ⟨hq, hf⟩ := bcell hb; have hz := hb.size; simp at hz; have hz1 : w.heap.size < w1.heap.size := (by omega); have hz2 : w.heap.size + 1 < w1.heap.size := (by omega); have hz3 : w.heap.size + 1 + 1 < w1.heap.size := (by omega); have hC := Lib.hid (hB.out.trans (hb.mono (by simp; omega)))))
        exact bodyPost_ret (v := .tuple #[facZ, .int .i64 6]) (by simp [results, Tryd.results14, go_sem, hq, facZ]) rfl ⟨facE_no _ rfl, below_put4 hC.out (by omega) _ _ _ _⟩
      · rw [if_neg ht] at hno
        exact absurd rfl hno
  · have e4 : sEarlyD F ls Y = earlyD F ls Y := by unfold sEarlyD; rw [if_pos he]
    rw [e4]
    have hne : (earlyD F ls Y != 0) = true := by simpa using he
    have LH := Lib.hid L
    clear L
    generalize earlyD F ls Y = x at *
    obtain ⟨cols, xs, rws, trn⟩ := F
    dsimp only at *
    clear he h hl hy hno hB e4
    have hB := HB
    clear HB
    go_enter Tryd.func14, Tryd.ntmps14
    go_wp2_with (first | (go_at_call 34; refine LH.out.mono ?_; rintro e w1 ⟨rfl, hb⟩; obtain ⟨hq, hf⟩ := bcell hb; have hz := hb.size; simp at hz; have hz1 : w.heap.size < w1.heap.size := (by omega); have hz2 : w.heap.size + 1 < w1.heap.size := (by omega); have hz3 : w.heap.size + 1 + 1 < w1.heap.size := (by omega); have hC := Lib.hid (hB.out.trans (hb.mono (by simp; omega)))))
    exact bodyPost_ret (v := .tuple #[facZ, .int .i64 x]) (by simp [results, Tryd.results14, go_sem, hq, facZ]) rfl ⟨facE_no _ rfl, below_put4 hC.out (by omega) _ _ _ _⟩

set_option maxRecDepth 100000 in
set_option maxHeartbeats 4000000 in
theorem rsrow_yes (F : FacD) (a b : Option Addr) (n cap m d y : Nat) (ls : List (Option Nat)) {Y : Option Nat} (w : World) (h : Row w (.slice a n cap) F.xs) (hl : Row w (.slice b m d) ls) (hy : FW y Y) (he : sEarlyD F ls Y = 0) :
    Calls Tryd.prog 14 #[.agg #[.int .i64 F.cols, .slice a n cap, .int .i64 F.rws, .int .i64 F.trn], .agg #[.slice b m d, .float .f64 y]] w fun e w' => FacE (sRowD F ls Y) e w' ∧ Below w.heap.size w w' := by
  obtain ⟨he1, hr0, ht⟩ := sEarly_zero he
  obtain ⟨hok, hmc0, ho1, ho2⟩ := early_zero he1
  have hr2 : (F.rws == 0) = false := by simpa using hr0
  clear hr0
  rw [sRowD_line he]
  have hB := (((Below.refl w.heap.size w).alloc (Nat.le_refl _) (.cells #[.int .i64 F.cols, .slice a n cap, .int .i64 F.rws, .int .i64 F.trn] 24)).alloc (by simp) (.cells #[.slice b m d, .float .f64 y] 33)).alloc (by simp; omega) (.cells #[.int .i64 0, .slice none 0 0, .int .i64 0, .int .i64 0] 24)
  have L := rearly_calls F a b n cap m d y ls _ (h.below hB) (hl.below hB) hy
  have hm := hl.len
  rw [he1] at L
  have LH := Lib.hid L
  obtain ⟨hc1, hc6⟩ := ok_cols hok
  have hmc : (m : Int) = F.cols := by rw [← hm]; exact hmc0
  obtain ⟨r0, r1, t0, t1⟩ := ok_rows hok
  have HB := Lib.hid hB
  have h0 : 0 < m := by omega
  have h9 : m ≤ 900 := by omega
  have HL := Lib.hid hl
  have HR := Lib.hid h
  have HY := Lib.hid hy
  have HM := Lib.hid hm
  have hlk : (shedD F (ls ++ [Y])).2 = 0 → (shedD F (ls ++ [Y])).1.rws = F.rws ∧ (shedD F (ls ++ [Y])).1.trn = F.trn := fun hh => ⟨(shedD_keeps hh).2.2.1, (shedD_keeps hh).2.2.2.1⟩
  have LK := Lib.hid hlk
  have hcd := shedD_codes F (ls ++ [Y])
  have AL := Lib.hid (fun a b n cap m d w => rsLine_calls F a b n cap m d (ls ++ [Y]) w)
  obtain ⟨lb, lo, rfl, hlb, _⟩ := hl.shape h0
  generalize shedD F (ls ++ [Y]) = G at *
  obtain ⟨cols, xs, rws, trn⟩ := F
  obtain ⟨⟨gc, gx, gr, gt⟩, ge⟩ := G
  dsimp only at *
  clear he he1 hok hmc0 ho1 ho2 hB L hm hmc h hl hy hlk
  have hB := HB
  clear HB
  go_enter Tryd.func14, Tryd.ntmps14
  go_wp2_with (first | (go_at_call 34; refine LH.out.mono ?_; rintro e w1 ⟨rfl, hb⟩; obtain ⟨hq, hf⟩ := bcell hb; have hz := hb.size; simp at hz; have hz1 : w.heap.size < w1.heap.size := (by omega); have hz2 : w.heap.size + 1 < w1.heap.size := (by omega); have hz3 : w.heap.size + 1 + 1 < w1.heap.size := (by omega); have hC := Lib.hid (hB.out.trans (hb.mono (by simp; omega)))))
  have C2 : Cells4 w1 w.heap.size (.int .i64 cols) (.slice a n cap) (.int .i64 rws) (.int .i64 trn) := (((Cells4.new w (.int .i64 cols) (.slice a n cap) (.int .i64 rws) (.int .i64 trn) 24).alloc (.cells #[.slice (some ⟨lb, lo, none⟩) m d, .float .f64 y] 33)).alloc (.cells #[.int .i64 0, .slice none 0 0, .int .i64 0, .int .i64 0] 24)).below hb
  have HC2 := Lib.hid C2
  obtain ⟨e20, e21, e22, e23, f20, f21, f22, f23⟩ := C2
  have e30 : w1.cell? ⟨w.heap.size + 1, 0, none⟩ = some (.slice (some ⟨lb, lo, none⟩) m d) := (hq _ _ (by simp)).trans (by simp [go_sem])
  have e31 : w1.cell? ⟨w.heap.size + 1, 1, none⟩ = some (.float .f64 y) := (hq _ _ (by simp)).trans (by simp [go_sem])
  have C4 : Cells4 w1 (w.heap.size + 1 + 1) (.int .i64 0) (.slice none 0 0) (.int .i64 0) (.int .i64 0) := by
    have := (Cells4.new ((w.alloc (.cells #[.int .i64 cols, .slice a n cap, .int .i64 rws, .int .i64 trn] 24)).alloc (.cells #[.slice (some ⟨lb, lo, none⟩) m d, .float .f64 y] 33)) (.int .i64 0) (.slice none 0 0) (.int .i64 0) (.int .i64 0) 24).below hb
    simpa using this
  have HC4 := Lib.hid C4
  have HR1 := Lib.hid (HR.out.below hC.out)
  have HL1 := Lib.hid (HL.out.below hC.out)
  clear hq hf hb C4 f20 f21 f22 f23
  go_cut [6, 7] from 27 to 33 (fun s8 s7 wx => ∃ b7 : Nat, s7 = .pointer (some ⟨b7, 0, none⟩) ∧ SRowCut w b7 (w.heap.size + 1 + 1) ⟨cols, xs, rws, trn⟩ ⟨gc, gx, gr, gt⟩ a n cap s8 ge wx)
  case first =>
    -- A8
    rename_i J K' hJ hK'
    go_region_held3 (fun w' => w'.cell? ⟨w.heap.size, 0, none⟩ = some (.int .i64 cols) ∧ w'.cell? ⟨w.heap.size, 1, none⟩ = some (.slice a n cap) ∧ w'.cell? ⟨w.heap.size, 2, none⟩ = some (.int .i64 rws) ∧ w'.cell? ⟨w.heap.size, 3, none⟩ = some (.int .i64 trn) ∧ w'.cell? ⟨w.heap.size + 1, 0, none⟩ = some (.slice (some ⟨lb, lo, none⟩) m d) ∧ w'.cell? ⟨w.heap.size + 1, 1, none⟩ = some (.float .f64 y))
      (first
        | with_reducible exact six_keep e20 e21 e22 e23 e30 e31 (by solve | (repeat' (first | ((with_reducible refine Hid.out ?_); with_reducible assumption) | with_reducible exact Below.refl _ _ | with_reducible refine Below.drew ?_ | with_reducible refine allocS ?_ _ | with_reducible refine setS ?_ ?_ _ | with_reducible exact Nat.le_refl _ | omega | with_reducible refine sizeS ?_)))
        | go_keep)
      (first
        | (go_at_call 22; go_must (refine (rentries_calls _ m d y ls _ (HL1.out.below (by solve | (repeat' (first | ((with_reducible refine Hid.out ?_); with_reducible assumption) | with_reducible exact Below.refl _ _ | with_reducible refine Below.drew ?_ | with_reducible refine allocS ?_ _ | with_reducible refine setS ?_ ?_ _ | with_reducible exact Nat.le_refl _ | omega | with_reducible refine sizeS ?_)))) HY.out h0 h9).mono ?_; rintro e wC ⟨vC, rfl, hownC, hbC⟩; obtain ⟨oa, on, oc, hvA⟩ := hownC.row.form; subst hvA; have RA := Lib.hid hownC.row; have BC : Hid (Below w1.heap.size w1 wC) := hidI (thenS (by solve | (repeat' (first | ((with_reducible refine Hid.out ?_); with_reducible assumption) | with_reducible exact Below.refl _ _ | with_reducible refine Below.drew ?_ | with_reducible refine allocS ?_ _ | with_reducible refine setS ?_ ?_ _ | with_reducible exact Nat.le_refl _ | omega | with_reducible refine sizeS ?_))) hbC); have kC := BC.out.size; (first | (refine fact1 (p := Cells4 wC w1.heap.size (.int .i64 0) (.slice none 0 0) (.int .i64 0) (.int .i64 0)) (Cells4.below ?_ hbC) ?_; (focus (solve | (repeat' (first | ((with_reducible refine Hid.out ?_); with_reducible assumption) | ((with_reducible refine cel_new' ?_); (first | rfl | (simp; done) | (simp; omega))) | with_reducible refine celD ?_ | with_reducible refine Cells4.alloc ?_ _)))); intro ZC) | skip); clear hownC hbC))
        | (go_at_call 11; go_must (refine (AL.out _ _ _ _ _ _ _ (HR1.out.below (by solve | (repeat' (first | ((with_reducible refine Hid.out ?_); with_reducible assumption) | with_reducible exact Below.refl _ _ | with_reducible refine Below.drew ?_ | with_reducible refine allocS ?_ _ | with_reducible refine setS ?_ ?_ _ | with_reducible exact Nat.le_refl _ | omega | with_reducible refine sizeS ?_)))) (by solve | (repeat' (first | ((with_reducible refine Hid.out ?_); with_reducible assumption) | ((with_reducible refine row_one' HY.out ?_); (first | rfl | (simp; done) | (simp; omega))) | with_reducible refine rowDr ?_ | with_reducible refine Row.alloc ?_ _)))).mono ?_; rintro e wL ⟨⟨ga, gn, gcp, rfl, hrowL⟩, hbL⟩; have BL : Hid (Below w1.heap.size w1 wL) := hidI (thenS (by solve | (repeat' (first | ((with_reducible refine Hid.out ?_); with_reducible assumption) | with_reducible exact Below.refl _ _ | with_reducible refine Below.drew ?_ | with_reducible refine allocS ?_ _ | with_reducible refine setS ?_ ?_ _ | with_reducible exact Nat.le_refl _ | omega | with_reducible refine sizeS ?_))) hbL); have RL := Lib.hid hrowL; have kL := BL.out.size; (first | (refine fact1 (p := Cells4 wL w1.heap.size (.int .i64 0) (.slice none 0 0) (.int .i64 0) (.int .i64 0)) (Cells4.below ?_ hbL) ?_; (focus (solve | (repeat' (first | ((with_reducible refine Hid.out ?_); with_reducible assumption) | ((with_reducible refine cel_new' ?_); (first | rfl | (simp; done) | (simp; omega))) | with_reducible refine celD ?_ | with_reducible refine Cells4.alloc ?_ _)))); intro ZL; obtain ⟨y0, y1, y2, y3, yf0, yf1, yf2, yf3⟩ := ZL.out) | (refine fact1 (p := Cells4 wL wC.heap.size (.int .i64 0) (.slice none 0 0) (.int .i64 0) (.int .i64 0)) (Cells4.below ?_ hbL) ?_; (focus (solve | (repeat' (first | ((with_reducible refine Hid.out ?_); with_reducible assumption) | ((with_reducible refine cel_new' ?_); (first | rfl | (simp; done) | (simp; omega))) | with_reducible refine celD ?_ | with_reducible refine Cells4.alloc ?_ _)))); intro ZL; obtain ⟨y0, y1, y2, y3, yf0, yf1, yf2, yf3⟩ := ZL.out) | skip); clear hrowL hbL)))
    all_goals (try simp only [Act.put, List.getElem_toArray, List.getElem_cons_succ, List.getElem_cons_zero, List.setIfInBounds_toArray, List.set_cons_succ, List.set_cons_zero])
    all_goals
      refine hK' _ _ (Met.intro (hJ _ _ ?_))
      (repeat apply Exists.intro)
      refine ⟨?_, rfl⟩
      have D4 := HC4.out.below BL.out
      have D2 := HC2.out.below BL.out
      have hBL := hC.out.trans (BL.out.mono (Nat.le_of_lt hz1))
      (first
        | (refine ⟨wL.heap.size, rfl, ?_⟩; unfold SRowCut; with_reducible exact ⟨ga, gn, gcp, rfl, Cells4.new wL _ _ _ _ _, RL.out.alloc _, D4.alloc _, D2.alloc _, by omega, hBL.alloc (by omega) _⟩)
        | (refine ⟨_, rfl, ?_⟩; unfold SRowCut; with_reducible exact ⟨ga, gn, gcp, rfl, ZL.out.put _ _ _ _, RL.out.put4 ZL.out slice_ne _ _ _ _, D4.put_other (by omega) _ _ _ _, D2.put_other (by omega) _ _ _ _, by omega, below_put4 hBL (by omega) _ _ _ _⟩))
    -- B8
  case rest =>
    obtain ⟨b7, rfl, ga, gn, gcp, rfl, D7, RL, D4, D2, hb47, BL⟩ := hcut
    have HD7 := Lib.hid D7
    have HD4 := Lib.hid D4
    have HD2 := Lib.hid D2
    have HRL := Lib.hid RL
    obtain ⟨k0, k1, k2, k3, l0, l1, l2, l3⟩ := D7
    obtain ⟨m0, m1, m2, m3, n0, n1, n2, n3⟩ := D4
    obtain ⟨i0, i1, i2, i3, j0, j1, j2, j3⟩ := D2
    clear RL e20 e21 e22 e23 e30 e31
    dsimp only at *
    by_cases hge : ge = 0
    · subst hge
      obtain ⟨rfl, rfl⟩ := LK.out rfl
      have a0 := cell_set_eq (v := .int .i64 (gr - 1)) k2
      have a1 := cell_set_off (o := 2) (v := .int .i64 (gr - 1)) k3 (by decide)
      have a2 := cell_set_off (o := 2) (v := .int .i64 (gr - 1)) k0 (by decide)
      have a3 := cell_set_off (o := 2) (v := .int .i64 (gr - 1)) k1 (by decide)
      have hb7 : b7 ≠ w.heap.size := by omega
      have hb7l : w.heap.size ≤ b7 := by omega
      have q0 := cell_set_ne (b := b7) (o := 2) (v := .int .i64 (gr - 1)) i0 hb7
      have q3 := cell_set_ne (b := b7) (o := 2) (v := .int .i64 (gr - 1)) i3 hb7
      go_wp2
      rw [show gt + cols + 1 = gt + (cols + 1) by omega]
      have E2 : Cells4 ((wc.setCell ⟨b7, 2, none⟩ (.int .i64 (gr - 1))).setCell ⟨b7, 3, none⟩ (.int .i64 (gt + (cols + 1)))) b7 (.int .i64 gc) (.slice ga gn gcp) (.int .i64 (gr - 1)) (.int .i64 (gt + (cols + 1))) :=
        ⟨cell_set_off a2 (by decide), cell_set_off a3 (by decide), cell_set_off a0 (by decide), cell_set_eq a1, frozen_set (frozen_set l0), frozen_set (frozen_set l1), frozen_set (frozen_set l2), frozen_set (frozen_set l3)⟩
      have E4 := (HD4.out.set (b' := b7) (o := 2) (v := .int .i64 (gr - 1)) (by omega)).set (b' := b7) (o := 3) (v := .int .i64 (gt + (cols + 1))) (by omega)
      have RE : Row ((wc.setCell ⟨b7, 2, none⟩ (.int .i64 (gr - 1))).setCell ⟨b7, 3, none⟩ (.int .i64 (gt + (cols + 1)))) (.slice ga gn gcp) gx :=
        (HRL.out.setAt HD7.out.c2 (fun _ e => by cases e) _).setAt a1 (fun _ e => by cases e) _
      have P4 := E4.put (.int .i64 gc) (.slice ga gn gcp) (.int .i64 (gr - 1)) (.int .i64 (gt + (cols + 1)))
      refine bodyPost_ret (v := .tuple #[.agg #[.int .i64 gc, .slice ga gn gcp, .int .i64 (gr - 1), .int .i64 (gt + (cols + 1))], .int .i64 0]) (by simp [results, Tryd.results14, go_sem, P4.c0, P4.c1, P4.c2, P4.c3]) rfl ⟨⟨ga, gn, gcp, rfl, RE.put4 E4 (fun _ e => by cases e) _ _ _ _⟩, ?_⟩
      exact below_put4 ((BL.setCell (p := ⟨b7, 2, none⟩) hb7l _).setCell (p := ⟨b7, 3, none⟩) hb7l _) (by omega) _ _ _ _
    · have hgb : (ge != 0) = true := by simpa using hge
      have HGE := Lib.hid hge
      clear hge
      go_wp2
      exact bodyPost_ret (v := .tuple #[facZ, .int .i64 ge]) (by simp [results, Tryd.results14, go_sem, facZ, (HD4.out.put (.int .i64 0) (.slice none 0 0) (.int .i64 0) (.int .i64 0)).c0, (HD4.out.put (.int .i64 0) (.slice none 0 0) (.int .i64 0) (.int .i64 0)).c1, (HD4.out.put (.int .i64 0) (.slice none 0 0) (.int .i64 0) (.int .i64 0)).c2, (HD4.out.put (.int .i64 0) (.slice none 0 0) (.int .i64 0) (.int .i64 0)).c3]) rfl ⟨facE_no _ rfl, below_put4 BL (by omega) _ _ _ _⟩
theorem rsrow_calls (F : FacD) (a b : Option Addr) (n cap m d y : Nat) (ls : List (Option Nat)) {Y : Option Nat} (w : World) (h : Row w (.slice a n cap) F.xs) (hl : Row w (.slice b m d) ls) (hy : FW y Y) :
    Calls Tryd.prog 14 #[.agg #[.int .i64 F.cols, .slice a n cap, .int .i64 F.rws, .int .i64 F.trn], .agg #[.slice b m d, .float .f64 y]] w fun e w' => FacE (sRowD F ls Y) e w' ∧ Below w.heap.size w w' := by
  by_cases he : sEarlyD F ls Y = 0
  · exact rsrow_yes F a b n cap m d y ls w h hl hy he
  · exact rsrow_no F a b n cap m d y ls w h hl hy he
end Go.Proofs.YtfohknalldelfaaDoor
