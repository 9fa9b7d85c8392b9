/- A row taken out: the reference's Row, walked. Rows taken out one by one: the program's All, the reference's, walked. Layer 11's own examples, walked. Rows taken out part by part, plainly. ShedTells, walked. -/
import Derived.Test.YtfohknalldelfaaDoorTj
import Derived.Test.YtfohknalldelfaaDoorSm
import Derived.Test.YtfohknalldelfaaDoorSo
import Derived.Deep.CutRange
import Derived.Test.YtfohknalldelfaaDoorAa
namespace Go.Proofs.YtfohknalldelfaaDoor
open Go.RowKit Lv Go.Shelf
open Ieee (double Format Datum Toward)
attribute [local go_sem] Oper.semAt_some run_store_float drewN_alloc drewN_setCell

set_option maxRecDepth 100000 in
set_option maxHeartbeats 1000000 in
/-- what the reference refuses -/
theorem rsrow_no (F : FacD) (a b : Option Addr) (n cap m d y : Nat) (ls : List (Option Nat)) {Y : Option Nat} (w : World) (h : Row w (.slice a n cap) F.xs) (hl : Row w (.slice b m d) ls) (hy : FW y Y) (hno : sEarlyD F ls Y ≠ 0) :
    Calls Tryd.prog 14 #[.agg #[.int .i64 F.cols, .slice a n cap, .int .i64 F.rws, .int .i64 F.trn], .agg #[.slice b m d, .float .f64 y]] w fun e w' => FacE (sRowD F ls Y) e w' ∧ Below w.heap.size w w' := by
  have hB := (((Below.refl w.heap.size w).alloc (Nat.le_refl _) (.cells #[.int .i64 F.cols, .slice a n cap, .int .i64 F.rws, .int .i64 F.trn] 24)).alloc (by simp) (.cells #[.slice b m d, .float .f64 y] 33)).alloc (by simp; omega) (.cells #[.int .i64 0, .slice none 0 0, .int .i64 0, .int .i64 0] 24)
  have L := rearly_calls F a b n cap m d y ls _ (h.below hB) (hl.below hB) hy
  obtain ⟨g0, g3⟩ := early_range F ls Y
  have HB := Lib.hid hB
  rw [sRowD_early hno]
  by_cases he : earlyD F ls Y = 0
  · obtain ⟨hok, _, _, _⟩ := early_zero he
    rw [he] at L
    have LH := Lib.hid L
    obtain ⟨hc1, hc6⟩ := ok_cols hok
    obtain ⟨r0, r1, t0, t1⟩ := ok_rows hok
    have e3 : sEarlyD F ls Y = if F.rws = 0 then 5 else if 4096 < F.trn + F.cols + 1 then 6 else 0 := by
      unfold sEarlyD; rw [if_neg (by simpa using he)]
    rw [e3] at hno ⊢
    obtain ⟨cols, xs, rws, trn⟩ := F
    dsimp only at *
    by_cases hr : rws = 0
    · have hr2 : (rws == 0) = true := by simpa using hr
      rw [if_pos hr]
      clear he e3 L h hl hy hno hok hB hr g0 g3
      have hB := HB
      clear HB
      go_enter Tryd.func14, Tryd.ntmps14
      go_wp2_with (first | (go_at_call 34; refine LH.out.mono ?_; rintro e w1 ⟨rfl, hb⟩; obtain ⟨hq, hf⟩ := bcell hb; have hz := hb.size; simp at hz; have hz1 : w.heap.size < w1.heap.size := (by omega); have hz2 : w.heap.size + 1 < w1.heap.size := (by omega); have hz3 : w.heap.size + 1 + 1 < w1.heap.size := (by omega); have hC := Lib.hid (hB.out.trans (hb.mono (by simp; omega)))))
      exact bodyPost_ret (v := .tuple #[facZ, .int .i64 5]) (by simp [results, Tryd.results14, go_sem, hq, facZ]) rfl ⟨facE_no _ rfl, below_put4 hC.out (by omega) _ _ _ _⟩
    · have hr2 : (rws == 0) = false := by simpa using hr
      rw [if_neg hr] at hno ⊢
      by_cases ht : 4096 < trn + cols + 1
      · rw [if_pos ht]
        clear he e3 L h hl hy hno hok hB hr g0 g3
        have hB := HB
        clear HB
        go_enter Tryd.func14, Tryd.ntmps14
        go_wp2_with (first | (go_at_call 34; refine LH.out.mono ?_; rintro e w1 ⟨rfl, hb⟩; obtain ⟨hq, hf⟩ := bcell hb; have hz := hb.size; simp at hz; have hz1 : w.heap.size < w1.heap.size := (by omega); have hz2 : w.heap.size + 1 < w1.heap.size := (by omega); have hz3 : w.heap.size + 1 + 1 < w1.heap.size := (by omega); have hC := Lib.hid (hB.out.trans (hb.mono (by simp; omega)))))
        exact bodyPost_ret (v := .tuple #[facZ, .int .i64 6]) (by simp [results, Tryd.results14, go_sem, hq, facZ]) rfl ⟨facE_no _ rfl, below_put4 hC.out (by omega) _ _ _ _⟩
      · rw [if_neg ht] at hno
        exact absurd rfl hno
  · have e4 : sEarlyD F ls Y = earlyD F ls Y := by unfold sEarlyD; rw [if_pos he]
    rw [e4]
    have hne : (earlyD F ls Y != 0) = true := by simpa using he
    have LH := Lib.hid L
    clear L
    generalize earlyD F ls Y = x at *
    obtain ⟨cols, xs, rws, trn⟩ := F
    dsimp only at *
    clear he h hl hy hno hB e4
    have hB := HB
    clear HB
    go_enter Tryd.func14, Tryd.ntmps14
    go_wp2_with (first | (go_at_call 34; refine LH.out.mono ?_; rintro e w1 ⟨rfl, hb⟩; obtain ⟨hq, hf⟩ := bcell hb; have hz := hb.size; simp at hz; have hz1 : w.heap.size < w1.heap.size := (by omega); have hz2 : w.heap.size + 1 < w1.heap.size := (by omega); have hz3 : w.heap.size + 1 + 1 < w1.heap.size := (by omega); have hC := Lib.hid (hB.out.trans (hb.mono (by simp; omega)))))
    exact bodyPost_ret (v := .tuple #[facZ, .int .i64 x]) (by simp [results, Tryd.results14, go_sem, hq, facZ]) rfl ⟨facE_no _ rfl, below_put4 hC.out (by omega) _ _ _ _⟩

set_option maxRecDepth 100000 in
set_option maxHeartbeats 4000000 in
theorem rsrow_yes (F : FacD) (a b : Option Addr) (n cap m d y : Nat) (ls : List (Option Nat)) {Y : Option Nat} (w : World) (h : Row w (.slice a n cap) F.xs) (hl : Row w (.slice b m d) ls) (hy : FW y Y) (he : sEarlyD F ls Y = 0) :
    Calls Tryd.prog 14 #[.agg #[.int .i64 F.cols, .slice a n cap, .int .i64 F.rws, .int .i64 F.trn], .agg #[.slice b m d, .float .f64 y]] w fun e w' => FacE (sRowD F ls Y) e w' ∧ Below w.heap.size w w' := by
  obtain ⟨he1, hr0, ht⟩ := sEarly_zero he
  obtain ⟨hok, hmc0, ho1, ho2⟩ := early_zero he1
  have hr2 : (F.rws == 0) = false := by simpa using hr0
  clear hr0
  rw [sRowD_line he]
  have hB := (((Below.refl w.heap.size w).alloc (Nat.le_refl _) (.cells #[.int .i64 F.cols, .slice a n cap, .int .i64 F.rws, .int .i64 F.trn] 24)).alloc (by simp) (.cells #[.slice b m d, .float .f64 y] 33)).alloc (by simp; omega) (.cells #[.int .i64 0, .slice none 0 0, .int .i64 0, .int .i64 0] 24)
  have L := rearly_calls F a b n cap m d y ls _ (h.below hB) (hl.below hB) hy
  have hm := hl.len
  rw [he1] at L
  have LH := Lib.hid L
  obtain ⟨hc1, hc6⟩ := ok_cols hok
  have hmc : (m : Int) = F.cols := by rw [← hm]; exact hmc0
  obtain ⟨r0, r1, t0, t1⟩ := ok_rows hok
  have HB := Lib.hid hB
  have h0 : 0 < m := by omega
  have h9 : m ≤ 900 := by omega
  have HL := Lib.hid hl
  have HR := Lib.hid h
  have HY := Lib.hid hy
  have HM := Lib.hid hm
  have hlk : (shedD F (ls ++ [Y])).2 = 0 → (shedD F (ls ++ [Y])).1.rws = F.rws ∧ (shedD F (ls ++ [Y])).1.trn = F.trn := fun hh => ⟨(shedD_keeps hh).2.2.1, (shedD_keeps hh).2.2.2.1⟩
  have LK := Lib.hid hlk
  have hcd := shedD_codes F (ls ++ [Y])
  have AL := Lib.hid (fun a b n cap m d w => rsLine_calls F a b n cap m d (ls ++ [Y]) w)
  obtain ⟨lb, lo, rfl, hlb, _⟩ := hl.shape h0
  generalize shedD F (ls ++ [Y]) = G at *
  obtain ⟨cols, xs, rws, trn⟩ := F
  obtain ⟨⟨gc, gx, gr, gt⟩, ge⟩ := G
  dsimp only at *
  clear he he1 hok hmc0 ho1 ho2 hB L hm hmc h hl hy hlk
  have hB := HB
  clear HB
  go_enter Tryd.func14, Tryd.ntmps14
  go_wp2_with (first | (go_at_call 34; refine LH.out.mono ?_; rintro e w1 ⟨rfl, hb⟩; obtain ⟨hq, hf⟩ := bcell hb; have hz := hb.size; simp at hz; have hz1 : w.heap.size < w1.heap.size := (by omega); have hz2 : w.heap.size + 1 < w1.heap.size := (by omega); have hz3 : w.heap.size + 1 + 1 < w1.heap.size := (by omega); have hC := Lib.hid (hB.out.trans (hb.mono (by simp; omega)))))
  have C2 : Cells4 w1 w.heap.size (.int .i64 cols) (.slice a n cap) (.int .i64 rws) (.int .i64 trn) := (((Cells4.new w (.int .i64 cols) (.slice a n cap) (.int .i64 rws) (.int .i64 trn) 24).alloc (.cells #[.slice (some ⟨lb, lo, none⟩) m d, .float .f64 y] 33)).alloc (.cells #[.int .i64 0, .slice none 0 0, .int .i64 0, .int .i64 0] 24)).below hb
  have HC2 := Lib.hid C2
  obtain ⟨e20, e21, e22, e23, f20, f21, f22, f23⟩ := C2
  have e30 : w1.cell? ⟨w.heap.size + 1, 0, none⟩ = some (.slice (some ⟨lb, lo, none⟩) m d) := (hq _ _ (by simp)).trans (by simp [go_sem])
  have e31 : w1.cell? ⟨w.heap.size + 1, 1, none⟩ = some (.float .f64 y) := (hq _ _ (by simp)).trans (by simp [go_sem])
  have C4 : Cells4 w1 (w.heap.size + 1 + 1) (.int .i64 0) (.slice none 0 0) (.int .i64 0) (.int .i64 0) := by
    have := (Cells4.new ((w.alloc (.cells #[.int .i64 cols, .slice a n cap, .int .i64 rws, .int .i64 trn] 24)).alloc (.cells #[.slice (some ⟨lb, lo, none⟩) m d, .float .f64 y] 33)) (.int .i64 0) (.slice none 0 0) (.int .i64 0) (.int .i64 0) 24).below hb
    simpa using this
  have HC4 := Lib.hid C4
  have HR1 := Lib.hid (HR.out.below hC.out)
  have HL1 := Lib.hid (HL.out.below hC.out)
  clear hq hf hb C4 f20 f21 f22 f23
  go_cut [6, 7] from 27 to 33 (fun s8 s7 wx => ∃ b7 : Nat, s7 = .pointer (some ⟨b7, 0, none⟩) ∧ SRowCut w b7 (w.heap.size + 1 + 1) ⟨cols, xs, rws, trn⟩ ⟨gc, gx, gr, gt⟩ a n cap s8 ge wx)
  case first =>
    -- A8
    rename_i J K' hJ hK'
    go_region_held3 (fun w' => w'.cell? ⟨w.heap.size, 0, none⟩ = some (.int .i64 cols) ∧ w'.cell? ⟨w.heap.size, 1, none⟩ = some (.slice a n cap) ∧ w'.cell? ⟨w.heap.size, 2, none⟩ = some (.int .i64 rws) ∧ w'.cell? ⟨w.heap.size, 3, none⟩ = some (.int .i64 trn) ∧ w'.cell? ⟨w.heap.size + 1, 0, none⟩ = some (.slice (some ⟨lb, lo, none⟩) m d) ∧ w'.cell? ⟨w.heap.size + 1, 1, none⟩ = some (.float .f64 y))
      (first
        | with_reducible exact six_keep e20 e21 e22 e23 e30 e31 (by solve | (repeat' (first | ((with_reducible refine Hid.out ?_); with_reducible assumption) | with_reducible exact Below.refl _ _ | with_reducible refine Below.drew ?_ | with_reducible refine allocS ?_ _ | with_reducible refine setS ?_ ?_ _ | with_reducible exact Nat.le_refl _ | omega | with_reducible refine sizeS ?_)))
        | go_keep)
      (first
        | (go_at_call 22; go_must (refine (rentries_calls _ m d y ls _ (HL1.out.below (by solve | (repeat' (first | ((with_reducible refine Hid.out ?_); with_reducible assumption) | with_reducible exact Below.refl _ _ | with_reducible refine Below.drew ?_ | with_reducible refine allocS ?_ _ | with_reducible refine setS ?_ ?_ _ | with_reducible exact Nat.le_refl _ | omega | with_reducible refine sizeS ?_)))) HY.out h0 h9).mono ?_; rintro e wC ⟨vC, rfl, hownC, hbC⟩; obtain ⟨oa, on, oc, hvA⟩ := hownC.row.form; subst hvA; have RA := Lib.hid hownC.row; have BC : Hid (Below w1.heap.size w1 wC) := hidI (thenS (by solve | (repeat' (first | ((with_reducible refine Hid.out ?_); with_reducible assumption) | with_reducible exact Below.refl _ _ | with_reducible refine Below.drew ?_ | with_reducible refine allocS ?_ _ | with_reducible refine setS ?_ ?_ _ | with_reducible exact Nat.le_refl _ | omega | with_reducible refine sizeS ?_))) hbC); have kC := BC.out.size; (first | (refine fact1 (p := Cells4 wC w1.heap.size (.int .i64 0) (.slice none 0 0) (.int .i64 0) (.int .i64 0)) (Cells4.below ?_ hbC) ?_; (focus (solve | (repeat' (first | ((with_reducible refine Hid.out ?_); with_reducible assumption) | ((with_reducible refine cel_new' ?_); (first | rfl | (simp; done) | (simp; omega))) | with_reducible refine celD ?_ | with_reducible refine Cells4.alloc ?_ _)))); intro ZC) | skip); clear hownC hbC))
        | (go_at_call 11; go_must (refine (AL.out _ _ _ _ _ _ _ (HR1.out.below (by solve | (repeat' (first | ((with_reducible refine Hid.out ?_); with_reducible assumption) | with_reducible exact Below.refl _ _ | with_reducible refine Below.drew ?_ | with_reducible refine allocS ?_ _ | with_reducible refine setS ?_ ?_ _ | with_reducible exact Nat.le_refl _ | omega | with_reducible refine sizeS ?_)))) (by solve | (repeat' (first | ((with_reducible refine Hid.out ?_); with_reducible assumption) | ((with_reducible refine row_one' HY.out ?_); (first | rfl | (simp; done) | (simp; omega))) | with_reducible refine rowDr ?_ | with_reducible refine Row.alloc ?_ _)))).mono ?_; rintro e wL ⟨⟨ga, gn, gcp, rfl, hrowL⟩, hbL⟩; have BL : Hid (Below w1.heap.size w1 wL) := hidI (thenS (by solve | (repeat' (first | ((with_reducible refine Hid.out ?_); with_reducible assumption) | with_reducible exact Below.refl _ _ | with_reducible refine Below.drew ?_ | with_reducible refine allocS ?_ _ | with_reducible refine setS ?_ ?_ _ | with_reducible exact Nat.le_refl _ | omega | with_reducible refine sizeS ?_))) hbL); have RL := Lib.hid hrowL; have kL := BL.out.size; (first | (refine fact1 (p := Cells4 wL w1.heap.size (.int .i64 0) (.slice none 0 0) (.int .i64 0) (.int .i64 0)) (Cells4.below ?_ hbL) ?_; (focus (solve | (repeat' (first | ((with_reducible refine Hid.out ?_); with_reducible assumption) | ((with_reducible refine cel_new' ?_); (first | rfl | (simp; done) | (simp; omega))) | with_reducible refine celD ?_ | with_reducible refine Cells4.alloc ?_ _)))); intro ZL; obtain ⟨y0, y1, y2, y3, yf0, yf1, yf2, yf3⟩ := ZL.out) | (refine fact1 (p := Cells4 wL wC.heap.size (.int .i64 0) (.slice none 0 0) (.int .i64 0) (.int .i64 0)) (Cells4.below ?_ hbL) ?_; (focus (solve | (repeat' (first | ((with_reducible refine Hid.out ?_); with_reducible assumption) | ((with_reducible refine cel_new' ?_); (first | rfl | (simp; done) | (simp; omega))) | with_reducible refine celD ?_ | with_reducible refine Cells4.alloc ?_ _)))); intro ZL; obtain ⟨y0, y1, y2, y3, yf0, yf1, yf2, yf3⟩ := ZL.out) | skip); clear hrowL hbL)))
    all_goals (try simp only [Act.put, List.getElem_toArray, List.getElem_cons_succ, List.getElem_cons_zero, List.setIfInBounds_toArray, List.set_cons_succ, List.set_cons_zero])
    all_goals
      refine hK' _ _ (Met.intro (hJ _ _ ?_))
      (repeat apply Exists.intro)
      refine ⟨?_, rfl⟩
      have D4 := HC4.out.below BL.out
      have D2 := HC2.out.below BL.out
      have hBL := hC.out.trans (BL.out.mono (Nat.le_of_lt hz1))
      (first
        | (refine ⟨wL.heap.size, rfl, ?_⟩; unfold SRowCut; with_reducible exact ⟨ga, gn, gcp, rfl, Cells4.new wL _ _ _ _ _, RL.out.alloc _, D4.alloc _, D2.alloc _, by omega, hBL.alloc (by omega) _⟩)
        | (refine ⟨_, rfl, ?_⟩; unfold SRowCut; with_reducible exact ⟨ga, gn, gcp, rfl, ZL.out.put _ _ _ _, RL.out.put4 ZL.out slice_ne _ _ _ _, D4.put_other (by omega) _ _ _ _, D2.put_other (by omega) _ _ _ _, by omega, below_put4 hBL (by omega) _ _ _ _⟩))
    -- B8
  case rest =>
    obtain ⟨b7, rfl, ga, gn, gcp, rfl, D7, RL, D4, D2, hb47, BL⟩ := hcut
    have HD7 := Lib.hid D7
    have HD4 := Lib.hid D4
    have HD2 := Lib.hid D2
    have HRL := Lib.hid RL
    obtain ⟨k0, k1, k2, k3, l0, l1, l2, l3⟩ := D7
    obtain ⟨m0, m1, m2, m3, n0, n1, n2, n3⟩ := D4
    obtain ⟨i0, i1, i2, i3, j0, j1, j2, j3⟩ := D2
    clear RL e20 e21 e22 e23 e30 e31
    dsimp only at *
    by_cases hge : ge = 0
    · subst hge
      obtain ⟨rfl, rfl⟩ := LK.out rfl
      have a0 := cell_set_eq (v := .int .i64 (gr - 1)) k2
      have a1 := cell_set_off (o := 2) (v := .int .i64 (gr - 1)) k3 (by decide)
      have a2 := cell_set_off (o := 2) (v := .int .i64 (gr - 1)) k0 (by decide)
      have a3 := cell_set_off (o := 2) (v := .int .i64 (gr - 1)) k1 (by decide)
      have hb7 : b7 ≠ w.heap.size := by omega
      have hb7l : w.heap.size ≤ b7 := by omega
      have q0 := cell_set_ne (b := b7) (o := 2) (v := .int .i64 (gr - 1)) i0 hb7
      have q3 := cell_set_ne (b := b7) (o := 2) (v := .int .i64 (gr - 1)) i3 hb7
      go_wp2
      rw [show gt + cols + 1 = gt + (cols + 1) by omega]
      have E2 : Cells4 ((wc.setCell ⟨b7, 2, none⟩ (.int .i64 (gr - 1))).setCell ⟨b7, 3, none⟩ (.int .i64 (gt + (cols + 1)))) b7 (.int .i64 gc) (.slice ga gn gcp) (.int .i64 (gr - 1)) (.int .i64 (gt + (cols + 1))) :=
        ⟨cell_set_off a2 (by decide), cell_set_off a3 (by decide), cell_set_off a0 (by decide), cell_set_eq a1, frozen_set (frozen_set l0), frozen_set (frozen_set l1), frozen_set (frozen_set l2), frozen_set (frozen_set l3)⟩
      have E4 := (HD4.out.set (b' := b7) (o := 2) (v := .int .i64 (gr - 1)) (by omega)).set (b' := b7) (o := 3) (v := .int .i64 (gt + (cols + 1))) (by omega)
      have RE : Row ((wc.setCell ⟨b7, 2, none⟩ (.int .i64 (gr - 1))).setCell ⟨b7, 3, none⟩ (.int .i64 (gt + (cols + 1)))) (.slice ga gn gcp) gx :=
        (HRL.out.setAt HD7.out.c2 (fun _ e => by cases e) _).setAt a1 (fun _ e => by cases e) _
      have P4 := E4.put (.int .i64 gc) (.slice ga gn gcp) (.int .i64 (gr - 1)) (.int .i64 (gt + (cols + 1)))
      refine bodyPost_ret (v := .tuple #[.agg #[.int .i64 gc, .slice ga gn gcp, .int .i64 (gr - 1), .int .i64 (gt + (cols + 1))], .int .i64 0]) (by simp [results, Tryd.results14, go_sem, P4.c0, P4.c1, P4.c2, P4.c3]) rfl ⟨⟨ga, gn, gcp, rfl, RE.put4 E4 (fun _ e => by cases e) _ _ _ _⟩, ?_⟩
      exact below_put4 ((BL.setCell (p := ⟨b7, 2, none⟩) hb7l _).setCell (p := ⟨b7, 3, none⟩) hb7l _) (by omega) _ _ _ _
    · have hgb : (ge != 0) = true := by simpa using hge
      have HGE := Lib.hid hge
      clear hge
      go_wp2
      exact bodyPost_ret (v := .tuple #[facZ, .int .i64 ge]) (by simp [results, Tryd.results14, go_sem, facZ, (HD4.out.put (.int .i64 0) (.slice none 0 0) (.int .i64 0) (.int .i64 0)).c0, (HD4.out.put (.int .i64 0) (.slice none 0 0) (.int .i64 0) (.int .i64 0)).c1, (HD4.out.put (.int .i64 0) (.slice none 0 0) (.int .i64 0) (.int .i64 0)).c2, (HD4.out.put (.int .i64 0) (.slice none 0 0) (.int .i64 0) (.int .i64 0)).c3]) rfl ⟨facE_no _ rfl, below_put4 BL (by omega) _ _ _ _⟩
theorem rsrow_calls (F : FacD) (a b : Option Addr) (n cap m d y : Nat) (ls : List (Option Nat)) {Y : Option Nat} (w : World) (h : Row w (.slice a n cap) F.xs) (hl : Row w (.slice b m d) ls) (hy : FW y Y) :
    Calls Tryd.prog 14 #[.agg #[.int .i64 F.cols, .slice a n cap, .int .i64 F.rws, .int .i64 F.trn], .agg #[.slice b m d, .float .f64 y]] w fun e w' => FacE (sRowD F ls Y) e w' ∧ Below w.heap.size w w' := by
  by_cases he : sEarlyD F ls Y = 0
  · exact rsrow_yes F a b n cap m d y ls w h hl hy he
  · exact rsrow_no F a b n cap m d y ls w h hl hy he
end Go.Proofs.YtfohknalldelfaaDoor
namespace Go.Proofs.YtfohknalldelfaaDoor
open Go.RowKit Lv Go.Shelf
open Ieee (double Format Datum Toward)
attribute [local go_sem] Oper.semAt_some run_store_float drewN_alloc drewN_setCell

/-- rows taken out one by one, k of them already -/
def sAllLoop : Nat → FacD → List RowD → FacD × Int × Int
  | k, F, [] => (F, (k : Int), 0)
  | k, F, r :: rs => if (sRowD F r.1 r.2).2 ≠ 0 then (F, (k : Int), (sRowD F r.1 r.2).2) else sAllLoop (k + 1) (sRowD F r.1 r.2).1 rs
def sAllD (F : FacD) (rs : List RowD) : FacD × Int × Int := if F.ok = false then (fac0, 0, 1) else sAllLoop 0 F rs
theorem sall_step {k : Nat} {G : FacD} {rs : List RowD} {R : FacD × Int × Int} (hk : k < rs.length) (h : sAllLoop k G (rs.drop k) = R) :
    ((sRowD G (rs.getD k ([], none)).1 (rs.getD k ([], none)).2).2 ≠ 0 ∧ R = (G, (k : Int), (sRowD G (rs.getD k ([], none)).1 (rs.getD k ([], none)).2).2)) ∨
    ((sRowD G (rs.getD k ([], none)).1 (rs.getD k ([], none)).2).2 = 0 ∧ sAllLoop (k + 1) (sRowD G (rs.getD k ([], none)).1 (rs.getD k ([], none)).2).1 (rs.drop (k + 1)) = R) := by
  have e : rs.getD k ([], none) = rs[k] := by rw [List.getD_eq_getElem?_getD, List.getElem?_eq_getElem hk]; rfl
  rw [e]
  rw [List.drop_eq_getElem_cons hk] at h
  unfold sAllLoop at h
  by_cases h2 : (sRowD G rs[k].1 rs[k].2).2 ≠ 0
  · rw [if_pos h2] at h; exact .inl ⟨h2, h.symm⟩
  · rw [if_neg h2] at h; exact .inr ⟨by simpa using h2, h⟩

/-- what stands at the loop's head -/
structure SNInv (w : World) (R : FacD × Int × Int) (rs : List RowD) (t : Option Addr) (tn tc : Nat) (W : World) (k : Nat) (G : FacD) (a : Option Addr) (n cap : Nat) : Prop where
  c2 : Cells4 W w.heap.size (.int .i64 G.cols) (.slice a n cap) (.int .i64 G.rws) (.int .i64 G.trn)
  c4 : Cells4 W (w.heap.size + 1) (.int .i64 0) (.slice none 0 0) (.int .i64 0) (.int .i64 0)
  row : Row W (.slice a n cap) G.xs
  rws : Rws W (.slice t tn tc) rs
  eq : sAllLoop k G (rs.drop k) = R
  below : Below w.heap.size w W

set_option maxRecDepth 100000 in
set_option maxHeartbeats 2000000 in
theorem sall_calls (F : FacD) (a t : Option Addr) (n cap tn tc : Nat) (rs : List RowD) (w : World) (a0 a1 a2 : Addr) (LD : Laid w a0 a1 a2) (h : Row w (.slice a n cap) F.xs) (hl : Rws w (.slice t tn tc) rs) :
    Calls Tryd.prog 16 #[.agg #[.int .i64 F.cols, .slice a n cap, .int .i64 F.rws, .int .i64 F.trn], .slice t tn tc] w fun e w' => FacN (sAllD F rs) e w' ∧ Below w.heap.size w w' := by
  have hB := ((Below.refl w.heap.size w).alloc (Nat.le_refl _) (.cells #[.int .i64 F.cols, .slice a n cap, .int .i64 F.rws, .int .i64 F.trn] 24)).alloc (by simp) (.cells #[.int .i64 0, .slice none 0 0, .int .i64 0, .int .i64 0] 24)
  have L := check_calls F.cols F.rws F.trn a n cap F.xs _ (h.below hB)
  have HB := Lib.hid hB
  have HR := Lib.hid h
  have HS := Lib.hid hl
  have HLD := Lib.hid LD
  clear LD
  obtain ⟨hn1, hn2⟩ := hl.len
  have HN := Lib.hid hn1
  obtain ⟨res, hres⟩ : ∃ res, res = sAllD F rs := ⟨_, rfl⟩
  rw [← hres]
  unfold sAllD at hres
  by_cases h1 : F.ok = false
  · rw [if_pos h1] at hres
    subst hres
    rw [show checkP F.cols F.xs F.rws F.trn = false from h1] at L
    have LH := Lib.hid L
    obtain ⟨cols, xs, rws, trn⟩ := F
    clear h1 L h hl hB hn1
    have hB := HB
    clear HB
    dsimp only at *
    go_enter Tryd.func16, Tryd.ntmps16
    go_wp2_with (first | (go_at_call 18; refine LH.out.mono ?_; rintro e w1 ⟨rfl, hb⟩; obtain ⟨hq, hf⟩ := bcell hb; have hC := Lib.hid (hB.out.trans (hb.mono (by simp; omega)))))
    exact bodyPost_ret (v := .tuple #[facZ, .int .i64 0, .int .i64 1]) (by simp [results, Tryd.results16, go_sem, hq, facZ]) rfl ⟨facN_no _ _ rfl, below_put4 hC.out (by omega) _ _ _ _⟩
  · have hok : F.ok = true := by simpa using h1
    rw [if_neg h1] at hres
    rw [show checkP F.cols F.xs F.rws F.trn = true from hok] at L
    have LH := Lib.hid L
    have HRES := Lib.hid hres
    clear h1 L h hl hB hn1 hok hres
    have hB := HB
    clear HB
    go_enter Tryd.func16, Tryd.ntmps16
    go_wp2_with (first | (go_at_call 18; refine LH.out.mono ?_; rintro e w1 ⟨rfl, hb⟩; obtain ⟨hq, hf⟩ := bcell hb; have hz := hb.size; simp at hz; have hz1 : w.heap.size < w1.heap.size := (by omega); have hz2 : w.heap.size + 1 < w1.heap.size := (by omega); have hC := Lib.hid (hB.out.trans (hb.mono (by simp; omega)))))
    have C2 : Cells4 w1 w.heap.size (.int .i64 F.cols) (.slice a n cap) (.int .i64 F.rws) (.int .i64 F.trn) := ((Cells4.new w (.int .i64 F.cols) (.slice a n cap) (.int .i64 F.rws) (.int .i64 F.trn) 24).alloc (.cells #[.int .i64 0, .slice none 0 0, .int .i64 0, .int .i64 0] 24)).below hb
    have C4 : Cells4 w1 (w.heap.size + 1) (.int .i64 0) (.slice none 0 0) (.int .i64 0) (.int .i64 0) := by
      have := (Cells4.new (w.alloc (.cells #[.int .i64 F.cols, .slice a n cap, .int .i64 F.rws, .int .i64 F.trn] 24)) (.int .i64 0) (.slice none 0 0) (.int .i64 0) (.int .i64 0) 24).below hb
      simpa using this
    have IN : SNInv w res rs t tn tc w1 0 F a n cap := ⟨C2, C4, HR.out.below hC.out, HS.out.below hC.out, HRES.out.symm, hC.out⟩
    clear C2 C4 hq hf hb
    go_loopw [17] (fun s17 wr => ∃ (k : Nat) (G : FacD) (a' : Option Addr) (n' cap' : Nat), s17 = .int .i64 (k : Int) ∧ k ≤ tn ∧ SNInv w res rs t tn tc wr k G a' n' cap') (fun s17 _ => tn - (intOf s17).toNat)
    case atStart => exact ⟨0, F, a, n, cap, rfl, Nat.zero_le _, IN⟩
    case round =>
      obtain ⟨k, G, a', n', cap', rfl, hk, I⟩ := hrel
      have HI := Lib.hid I
      obtain ⟨c20, c21, c22, c23, f20, f21, f22, f23⟩ := I.c2
      obtain ⟨c40, c41, c42, c43, f40, f41, f42, f43⟩ := I.c4
      have hs1 := I.below.size
      have hl4 := I.c4.lt
      have hl2 : w.heap.size < wr.heap.size := by omega
      clear I
      by_cases hkn : k < tn
      · have hki : (k : Int) < (tn : Int) := by omega
        obtain ⟨blk, off, rfl, hc⟩ := HI.out.rws.at (by omega)
        obtain ⟨b, m, d, y, k1, k2, k3, k4⟩ := hc k hkn
        have HK3 := Lib.hid k3
        have HK4 := Lib.hid k4
        clear hc k3 k4
        have ST := sall_step (by rw [HN.out]; exact hkn) HI.out.eq
        have AR := fun W ld h h' => srow_calls G a' b n' cap' m d y (rs.getD k ([], none)).1 (Y := (rs.getD k ([], none)).2) W a0 a1 a2 ld h h' HK4.out
        have HI3 := Lib.hid (HI.out.below)
        have HI4 := Lib.hid (HI.out.c4)
        have HI2 := Lib.hid (HI.out.c2)
        have HIr := Lib.hid (HI.out.row)
        clear HI
        generalize sRowD G (rs.getD k ([], none)).1 (rs.getD k ([], none)).2 = D at *
        obtain ⟨⟨gc, gx, gr, gt⟩, ge⟩ := D
        obtain ⟨cc, cx, cr, ct⟩ := G
        dsimp only at *
        have AR2 := Lib.hid AR
        clear AR
        rcases ST with ⟨e2, eR⟩ | ⟨e2, eR⟩
        · have hne : (ge != 0) = true := by simpa using e2
          subst eR
          clear e2
          go_wp2_with (go_at_call 13; go_must (refine (AR2.out _ (HLD.out.below (HI3.out.alloc hs1 _)) (HIr.out.alloc _) (HK3.out.alloc _)).mono ?_; rintro e wL ⟨⟨ga, gn, gcp, rfl, hrow⟩, hbL⟩; have BL := Lib.hid ((HI3.out.alloc hs1 (.cells #[.slice b m d, .float .f64 y] 33)).trans (hbL.mono (by simp; omega))); have E2 := Lib.hid ((HI2.out.alloc _).below hbL); have E4 := Lib.hid ((HI4.out.alloc _).below hbL); obtain ⟨m0, m1, m2, m3, n0, n1, n2, n3⟩ := E4.out; obtain ⟨q0, q1, q2, q3, u0, u1, u2, u3⟩ := E2.out; have hzL := hbL.size; simp at hzL; have hzM : w.heap.size < wL.heap.size := (by omega); have hzN : w.heap.size + 1 < wL.heap.size := (by omega); have hrO := Lib.hid ((HIr.out.alloc (.cells #[.slice b m d, .float .f64 y] 33)).below hbL)))
          have P4 := E4.out.put (.int .i64 cc) (.slice a' n' cap') (.int .i64 cr) (.int .i64 ct)
          exact bodyPost_ret (v := .tuple #[.agg #[.int .i64 cc, .slice a' n' cap', .int .i64 cr, .int .i64 ct], .int .i64 (k : Int), .int .i64 ge]) (by simp [results, Tryd.results16, go_sem, P4.c0, P4.c1, P4.c2, P4.c3, hzN]) rfl ⟨⟨a', n', cap', rfl, (hrO.out.put4 E4.out slice_ne _ _ _ _).alloc _⟩, (below_put4 BL.out (by omega) _ _ _ _).alloc (by simp; omega) _⟩
        · subst e2
          have ER := Lib.hid eR
          clear eR
          go_wp2_with (go_at_call 13; go_must (refine (AR2.out _ (HLD.out.below (HI3.out.alloc hs1 _)) (HIr.out.alloc _) (HK3.out.alloc _)).mono ?_; rintro e wL ⟨⟨ga, gn, gcp, rfl, hrow⟩, hbL⟩; have BL := Lib.hid ((HI3.out.alloc hs1 (.cells #[.slice b m d, .float .f64 y] 33)).trans (hbL.mono (by simp; omega))); have E2 := Lib.hid ((HI2.out.alloc _).below hbL); have E4 := Lib.hid ((HI4.out.alloc _).below hbL); obtain ⟨q0, q1, q2, q3, u0, u1, u2, u3⟩ := E2.out; have hzL := hbL.size; simp at hzL; have hzM : w.heap.size < wL.heap.size := (by omega); have hzN : w.heap.size + 1 < wL.heap.size := (by omega); have HRW := Lib.hid hrow; clear hrow))
          have P2 := E2.out.put (.int .i64 gc) (.slice ga gn gcp) (.int .i64 gr) (.int .i64 gt)
          have P4 := E4.out.put_other (b' := w.heap.size) (by omega) (.int .i64 gc) (.slice ga gn gcp) (.int .i64 gr) (.int .i64 gt)
          have BB := (below_put4 BL.out (Nat.le_refl _) (.int .i64 gc) (.slice ga gn gcp) (.int .i64 gr) (.int .i64 gt)).alloc (by simp; omega) (.cells #[.int .i64 gc, .slice ga gn gcp, .int .i64 gr, .int .i64 gt] 24)
          go_roundw
          case rel => exact ⟨k + 1, ⟨gc, gx, gr, gt⟩, ga, gn, gcp, by go_num, by omega, P2.alloc _, P4.alloc _, (HRW.out.put4 E2.out slice_ne _ _ _ _).alloc _, HS.out.below BB, ER.out, BB⟩
          case measure => simp [intOf]; omega
      · obtain rfl : k = tn := by omega
        have eR := HI.out.eq
        rw [List.drop_of_length_le (by rw [HN.out]; exact Nat.le_refl _)] at eR
        obtain rfl : res = (G, (k : Int), 0) := eR.symm
        have hrO := Lib.hid HI.out.row
        have E4 := Lib.hid HI.out.c4
        have BL := Lib.hid HI.out.below
        clear eR HRES HI
        obtain ⟨cc, cx, cr, ct⟩ := G
        dsimp only at *
        go_wp2
        have P4 := E4.out.put (.int .i64 cc) (.slice a' n' cap') (.int .i64 cr) (.int .i64 ct)
        exact bodyPost_ret (v := .tuple #[.agg #[.int .i64 cc, .slice a' n' cap', .int .i64 cr, .int .i64 ct], .int .i64 (k : Int), .int .i64 0]) (by simp [results, Tryd.results16, go_sem, P4.c0, P4.c1, P4.c2, P4.c3]) rfl ⟨⟨a', n', cap', rfl, hrO.out.put4 E4.out slice_ne _ _ _ _⟩, below_put4 BL.out (by omega) _ _ _ _⟩

set_option maxRecDepth 100000 in
set_option maxHeartbeats 2000000 in
theorem rsall_calls (F : FacD) (a t : Option Addr) (n cap tn tc : Nat) (rs : List RowD) (w : World) (h : Row w (.slice a n cap) F.xs) (hl : Rws w (.slice t tn tc) rs) :
    Calls Tryd.prog 17 #[.agg #[.int .i64 F.cols, .slice a n cap, .int .i64 F.rws, .int .i64 F.trn], .slice t tn tc] w fun e w' => FacN (sAllD F rs) e w' ∧ Below w.heap.size w w' := by
  have hB := ((Below.refl w.heap.size w).alloc (Nat.le_refl _) (.cells #[.int .i64 F.cols, .slice a n cap, .int .i64 F.rws, .int .i64 F.trn] 24)).alloc (by simp) (.cells #[.int .i64 0, .slice none 0 0, .int .i64 0, .int .i64 0] 24)
  have L := rcheck_calls F.cols F.rws F.trn a n cap F.xs _ (h.below hB)
  have HB := Lib.hid hB
  have HR := Lib.hid h
  have HS := Lib.hid hl
  obtain ⟨hn1, hn2⟩ := hl.len
  have HN := Lib.hid hn1
  obtain ⟨res, hres⟩ : ∃ res, res = sAllD F rs := ⟨_, rfl⟩
  rw [← hres]
  unfold sAllD at hres
  by_cases h1 : F.ok = false
  · rw [if_pos h1] at hres
    subst hres
    rw [show checkP F.cols F.xs F.rws F.trn = false from h1] at L
    have LH := Lib.hid L
    obtain ⟨cols, xs, rws, trn⟩ := F
    clear h1 L h hl hB hn1
    have hB := HB
    clear HB
    dsimp only at *
    go_enter Tryd.func17, Tryd.ntmps17
    go_wp2_with (first | (go_at_call 27; refine LH.out.mono ?_; rintro e w1 ⟨rfl, hb⟩; obtain ⟨hq, hf⟩ := bcell hb; have hC := Lib.hid (hB.out.trans (hb.mono (by simp; omega)))))
    exact bodyPost_ret (v := .tuple #[facZ, .int .i64 0, .int .i64 1]) (by simp [results, Tryd.results17, go_sem, hq, facZ]) rfl ⟨facN_no _ _ rfl, below_put4 hC.out (by omega) _ _ _ _⟩
  · have hok : F.ok = true := by simpa using h1
    rw [if_neg h1] at hres
    rw [show checkP F.cols F.xs F.rws F.trn = true from hok] at L
    have LH := Lib.hid L
    have HRES := Lib.hid hres
    clear h1 L h hl hB hn1 hok hres
    have hB := HB
    clear HB
    go_enter Tryd.func17, Tryd.ntmps17
    go_wp2_with (first | (go_at_call 27; refine LH.out.mono ?_; rintro e w1 ⟨rfl, hb⟩; obtain ⟨hq, hf⟩ := bcell hb; have hz := hb.size; simp at hz; have hz1 : w.heap.size < w1.heap.size := (by omega); have hz2 : w.heap.size + 1 < w1.heap.size := (by omega); have hC := Lib.hid (hB.out.trans (hb.mono (by simp; omega)))))
    have C2 : Cells4 w1 w.heap.size (.int .i64 F.cols) (.slice a n cap) (.int .i64 F.rws) (.int .i64 F.trn) := ((Cells4.new w (.int .i64 F.cols) (.slice a n cap) (.int .i64 F.rws) (.int .i64 F.trn) 24).alloc (.cells #[.int .i64 0, .slice none 0 0, .int .i64 0, .int .i64 0] 24)).below hb
    have C4 : Cells4 w1 (w.heap.size + 1) (.int .i64 0) (.slice none 0 0) (.int .i64 0) (.int .i64 0) := by
      have := (Cells4.new (w.alloc (.cells #[.int .i64 F.cols, .slice a n cap, .int .i64 F.rws, .int .i64 F.trn] 24)) (.int .i64 0) (.slice none 0 0) (.int .i64 0) (.int .i64 0) 24).below hb
      simpa using this
    have IN : SNInv w res rs t tn tc w1 0 F a n cap := ⟨C2, C4, HR.out.below hC.out, HS.out.below hC.out, HRES.out.symm, hC.out⟩
    clear C2 C4 hq hf hb
    go_loopw [7] (fun s7 wr => ∃ (k : Nat) (G : FacD) (a' : Option Addr) (n' cap' : Nat), s7 = .int .i64 (k : Int) ∧ k ≤ tn ∧ SNInv w res rs t tn tc wr k G a' n' cap') (fun s7 _ => tn - (intOf s7).toNat)
    case atStart => exact ⟨0, F, a, n, cap, rfl, Nat.zero_le _, IN⟩
    case round =>
      obtain ⟨k, G, a', n', cap', rfl, hk, I⟩ := hrel
      have HI := Lib.hid I
      obtain ⟨c20, c21, c22, c23, f20, f21, f22, f23⟩ := I.c2
      obtain ⟨c40, c41, c42, c43, f40, f41, f42, f43⟩ := I.c4
      have hs1 := I.below.size
      have hl4 := I.c4.lt
      have hl2 : w.heap.size < wr.heap.size := by omega
      clear I
      by_cases hkn : k < tn
      · have hki : (k : Int) < (tn : Int) := by omega
        obtain ⟨blk, off, rfl, hc⟩ := HI.out.rws.at (by omega)
        obtain ⟨b, m, d, y, k1, k2, k3, k4⟩ := hc k hkn
        have HK3 := Lib.hid k3
        have HK4 := Lib.hid k4
        clear hc k3 k4
        have ST := sall_step (by rw [HN.out]; exact hkn) HI.out.eq
        have AR := fun W h h' => rsrow_calls G a' b n' cap' m d y (rs.getD k ([], none)).1 (Y := (rs.getD k ([], none)).2) W h h' HK4.out
        have HI3 := Lib.hid (HI.out.below)
        have HI4 := Lib.hid (HI.out.c4)
        have HI2 := Lib.hid (HI.out.c2)
        have HIr := Lib.hid (HI.out.row)
        clear HI
        generalize sRowD G (rs.getD k ([], none)).1 (rs.getD k ([], none)).2 = D at *
        obtain ⟨⟨gc, gx, gr, gt⟩, ge⟩ := D
        obtain ⟨cc, cx, cr, ct⟩ := G
        dsimp only at *
        have AR2 := Lib.hid AR
        clear AR
        have hbk : blk < wr.heap.size := cell_lt k1
        go_wp2
        go_cut [8, 9] from 20 to 34 (fun s8 s9 wx => AllCut wr ge ⟨gc, gx, gr, gt⟩ s8 s9 wx)
        case first =>
          rename_i J K' hJ hK'
          have b0 : Below wr.heap.size wr wr.drew := (Below.refl _ _).drew
          have b1 : Below wr.heap.size wr (wr.alloc (.cells #[.int .i64 0, .slice none 0 0, .int .i64 0, .int .i64 0] 24)).drew := ((Below.refl wr.heap.size wr).alloc (Nat.le_refl _) _).drew
          have z1 : Cells4 (wr.alloc (.cells #[.int .i64 0, .slice none 0 0, .int .i64 0, .int .i64 0] 24)).drew wr.heap.size (.int .i64 0) (.slice none 0 0) (.int .i64 0) (.int .i64 0) := (Cells4.new wr _ _ _ _ 24).below ((Below.refl _ _).drew)
          have B0 := Lib.hid (And.intro b0 (And.intro b1 z1))
          clear b0 b1 z1 ST
          go_region_held3 (fun w' => w'.cell? ⟨w.heap.size, 0, none⟩ = some (.int .i64 cc) ∧ w'.cell? ⟨w.heap.size, 1, none⟩ = some (.slice a' n' cap') ∧ w'.cell? ⟨w.heap.size, 2, none⟩ = some (.int .i64 cr) ∧ w'.cell? ⟨w.heap.size, 3, none⟩ = some (.int .i64 ct) ∧ w'.cell? ⟨blk, off + k * 2, none⟩ = some (.slice b m d) ∧ w'.cell? ⟨blk, off + k * 2 + 1, none⟩ = some (.float .f64 y))
            (first
            | with_reducible exact ⟨((BL.out).cell (p := ⟨w.heap.size, 0, none⟩) hl2).trans c20, ((BL.out).cell (p := ⟨w.heap.size, 1, none⟩) hl2).trans c21, ((BL.out).cell (p := ⟨w.heap.size, 2, none⟩) hl2).trans c22, ((BL.out).cell (p := ⟨w.heap.size, 3, none⟩) hl2).trans c23, ((BL.out).cell (p := ⟨blk, off + k * 2, none⟩) hbk).trans k1, ((BL.out).cell (p := ⟨blk, off + k * 2 + 1, none⟩) hbk).trans k2⟩
            | with_reducible exact ⟨((BL.out.alloc BL.out.size _).cell (p := ⟨w.heap.size, 0, none⟩) hl2).trans c20, ((BL.out.alloc BL.out.size _).cell (p := ⟨w.heap.size, 1, none⟩) hl2).trans c21, ((BL.out.alloc BL.out.size _).cell (p := ⟨w.heap.size, 2, none⟩) hl2).trans c22, ((BL.out.alloc BL.out.size _).cell (p := ⟨w.heap.size, 3, none⟩) hl2).trans c23, ((BL.out.alloc BL.out.size _).cell (p := ⟨blk, off + k * 2, none⟩) hbk).trans k1, ((BL.out.alloc BL.out.size _).cell (p := ⟨blk, off + k * 2 + 1, none⟩) hbk).trans k2⟩
            | with_reducible exact ⟨((B0.out.2.1).cell (p := ⟨w.heap.size, 0, none⟩) hl2).trans c20, ((B0.out.2.1).cell (p := ⟨w.heap.size, 1, none⟩) hl2).trans c21, ((B0.out.2.1).cell (p := ⟨w.heap.size, 2, none⟩) hl2).trans c22, ((B0.out.2.1).cell (p := ⟨w.heap.size, 3, none⟩) hl2).trans c23, ((B0.out.2.1).cell (p := ⟨blk, off + k * 2, none⟩) hbk).trans k1, ((B0.out.2.1).cell (p := ⟨blk, off + k * 2 + 1, none⟩) hbk).trans k2⟩
            | with_reducible exact ⟨((B0.out.1).cell (p := ⟨w.heap.size, 0, none⟩) hl2).trans c20, ((B0.out.1).cell (p := ⟨w.heap.size, 1, none⟩) hl2).trans c21, ((B0.out.1).cell (p := ⟨w.heap.size, 2, none⟩) hl2).trans c22, ((B0.out.1).cell (p := ⟨w.heap.size, 3, none⟩) hl2).trans c23, ((B0.out.1).cell (p := ⟨blk, off + k * 2, none⟩) hbk).trans k1, ((B0.out.1).cell (p := ⟨blk, off + k * 2 + 1, none⟩) hbk).trans k2⟩
            | with_reducible exact ⟨((below_put4 BL.out (Nat.le_refl _) _ _ _ _).cell (p := ⟨w.heap.size, 0, none⟩) hl2).trans c20, ((below_put4 BL.out (Nat.le_refl _) _ _ _ _).cell (p := ⟨w.heap.size, 1, none⟩) hl2).trans c21, ((below_put4 BL.out (Nat.le_refl _) _ _ _ _).cell (p := ⟨w.heap.size, 2, none⟩) hl2).trans c22, ((below_put4 BL.out (Nat.le_refl _) _ _ _ _).cell (p := ⟨w.heap.size, 3, none⟩) hl2).trans c23, ((below_put4 BL.out (Nat.le_refl _) _ _ _ _).cell (p := ⟨blk, off + k * 2, none⟩) hbk).trans k1, ((below_put4 BL.out (Nat.le_refl _) _ _ _ _).cell (p := ⟨blk, off + k * 2 + 1, none⟩) hbk).trans k2⟩
            | with_reducible exact ⟨((below_put4 (BL.out.alloc BL.out.size _) (Nat.le_refl _) _ _ _ _).cell (p := ⟨w.heap.size, 0, none⟩) hl2).trans c20, ((below_put4 (BL.out.alloc BL.out.size _) (Nat.le_refl _) _ _ _ _).cell (p := ⟨w.heap.size, 1, none⟩) hl2).trans c21, ((below_put4 (BL.out.alloc BL.out.size _) (Nat.le_refl _) _ _ _ _).cell (p := ⟨w.heap.size, 2, none⟩) hl2).trans c22, ((below_put4 (BL.out.alloc BL.out.size _) (Nat.le_refl _) _ _ _ _).cell (p := ⟨w.heap.size, 3, none⟩) hl2).trans c23, ((below_put4 (BL.out.alloc BL.out.size _) (Nat.le_refl _) _ _ _ _).cell (p := ⟨blk, off + k * 2, none⟩) hbk).trans k1, ((below_put4 (BL.out.alloc BL.out.size _) (Nat.le_refl _) _ _ _ _).cell (p := ⟨blk, off + k * 2 + 1, none⟩) hbk).trans k2⟩
            | go_keep)
            (first
              | (go_at_call 14; go_must (refine (AR2.out _ (HIr.out.below (by first | with_reducible exact B0.out.1 | with_reducible exact B0.out.2.1)) (HK3.out.below (by first | with_reducible exact B0.out.1 | with_reducible exact B0.out.2.1))).mono ?_; rintro e wL ⟨⟨ga, gn, gcp, rfl, hrowL⟩, hbL⟩; have BL' : Below wr.heap.size wr wL := (by first | with_reducible exact B0.out.1.trans (hbL.mono (by simp)) | with_reducible exact B0.out.2.1.trans (hbL.mono (by simp))); have hszL := BL'.size; have hLz0 : w.heap.size < wL.heap.size := (by omega); have hLzb : blk < wL.heap.size := (by omega); have hLzr : wr.heap.size ≤ wL.heap.size := (by omega); (first | ((with_reducible have yy := B0.out.2.2.below hbL); have YL := Lib.hid yy; obtain ⟨y0, y1, y2, y3, yf0, yf1, yf2, yf3⟩ := yy) | (have YN : True := trivial)); have BL := Lib.hid BL'; have RL := Lib.hid hrowL; clear BL' hrowL hbL)))
          all_goals
            refine hK' _ _ (Met.intro (hJ _ _ ?_))
            (repeat apply Exists.intro)
            refine ⟨?_, rfl⟩
            have hwL := BL.out.size
            unfold AllCut
            (first
              | (refine ⟨wL.heap.size, ga, gn, gcp, rfl, rfl, ?_⟩; with_reducible exact ⟨Cells4.new wL _ _ _ _ _, RL.out.alloc _, BL.out.alloc hwL _, hwL⟩)
              | (refine ⟨wr.heap.size, ga, gn, gcp, rfl, rfl, ?_⟩; with_reducible exact ⟨YL.out.put _ _ _ _, RL.out.put4 YL.out slice_ne _ _ _ _, below_put4 BL.out (Nat.le_refl _) _ _ _ _, Nat.le_refl _⟩))
        case rest =>
          obtain ⟨b8, ga, gn, gcp, rfl, rfl, D8, RL, BW, hb8⟩ := hcut
          have E2 := Lib.hid (HI2.out.below BW)
          have E4 := Lib.hid (HI4.out.below BW)
          have E8 := Lib.hid D8
          have hrO := Lib.hid (HIr.out.below BW)
          have HRW := Lib.hid RL
          obtain ⟨q0, q1, q2, q3, u0, u1, u2, u3⟩ := E2.out
          obtain ⟨m0, m1, m2, m3, n0, n1, n2, n3⟩ := E4.out
          obtain ⟨p0, p1, p2, p3, v0, v1, v2, v3⟩ := D8
          have BL := Lib.hid (HI3.out.trans (BW.mono hs1))
          have hb8w : w.heap.size ≠ b8 := by omega
          clear RL
          dsimp only at *
          rcases ST with ⟨e2, eR⟩ | ⟨e2, eR⟩
          · have hne : (ge != 0) = true := by simpa using e2
            subst eR
            clear e2
            go_wp2
            have P4 := E4.out.put (.int .i64 cc) (.slice a' n' cap') (.int .i64 cr) (.int .i64 ct)
            exact bodyPost_ret (v := .tuple #[.agg #[.int .i64 cc, .slice a' n' cap', .int .i64 cr, .int .i64 ct], .int .i64 (k : Int), .int .i64 ge]) (by simp [results, Tryd.results17, go_sem, P4.c0, P4.c1, P4.c2, P4.c3]) rfl ⟨⟨a', n', cap', rfl, hrO.out.put4 E4.out slice_ne _ _ _ _⟩, below_put4 BL.out (by omega) _ _ _ _⟩
          · subst e2
            have ER := Lib.hid eR
            clear eR
            go_wp2
            have P2 := E2.out.put (.int .i64 gc) (.slice ga gn gcp) (.int .i64 gr) (.int .i64 gt)
            have P4 := E4.out.put_other (b' := w.heap.size) (by omega) (.int .i64 gc) (.slice ga gn gcp) (.int .i64 gr) (.int .i64 gt)
            have BB := below_put4 BL.out (Nat.le_refl _) (.int .i64 gc) (.slice ga gn gcp) (.int .i64 gr) (.int .i64 gt)
            refine ⟨⟨k + 1, ⟨gc, gx, gr, gt⟩, ga, gn, gcp, by go_num, by omega, P2, P4, HRW.out.put4 E2.out slice_ne _ _ _ _, HS.out.below BB, ER.out, BB⟩, by simp [intOf]; omega⟩
      · obtain rfl : k = tn := by omega
        have eR := HI.out.eq
        rw [List.drop_of_length_le (by rw [HN.out]; exact Nat.le_refl _)] at eR
        obtain rfl : res = (G, (k : Int), 0) := eR.symm
        have hrO := Lib.hid HI.out.row
        have E4 := Lib.hid HI.out.c4
        have BL := Lib.hid HI.out.below
        clear eR HRES HI
        obtain ⟨cc, cx, cr, ct⟩ := G
        dsimp only at *
        go_wp2
        have P4 := E4.out.put (.int .i64 cc) (.slice a' n' cap') (.int .i64 cr) (.int .i64 ct)
        exact bodyPost_ret (v := .tuple #[.agg #[.int .i64 cc, .slice a' n' cap', .int .i64 cr, .int .i64 ct], .int .i64 (k : Int), .int .i64 0]) (by simp [results, Tryd.results17, go_sem, P4.c0, P4.c1, P4.c2, P4.c3]) rfl ⟨⟨a', n', cap', rfl, hrO.out.put4 E4.out slice_ne _ _ _ _⟩, below_put4 BL.out (by omega) _ _ _ _⟩
end Go.Proofs.YtfohknalldelfaaDoor
namespace Go.Proofs.YtfohknalldelfaaDoor
open Go.RowKit Lv Go.Shelf
open Ieee (double Format Datum Toward)
attribute [local go_sem] Oper.semAt_some run_store_float drewN_alloc drewN_setCell

abbrev Gf : FacD := ⟨1, [some 4617315517961601024, some 4607182418800017408, some 4611686018427387904], 2, 4⟩
abbrev Gg : FacD := ⟨1, [some 4616189618054758400, some 4602678819172646912, some 4611400002350042842], 1, 6⟩
abbrev Gd : FacD := ⟨1, [some 4617315517961601024, some 4607182418800017408, some 4611686018427387904], 0, 0⟩
abbrev Gh : FacD := ⟨1, [some 4617315517961601024, some 4607182418800017408, some 4611686018427387904], 0, 8⟩
theorem shed_a : sRowD Gf [some 4613937818241073152] (some 4607182418800017408) = (Gg, 0) := by decide +kernel
theorem shed_b : sRowD Gf [some 4617315517961601024] (some 0) = (fac0, 8) := by decide +kernel
theorem shed_c : sRowD Gf [] (some 0) = (fac0, 3) := by decide +kernel
theorem shed_d : sRowD Gd [some 4613937818241073152] (some 0) = (fac0, 5) := by decide +kernel
theorem shed_e : sAllD Gf [([some 0], some 0), ([some 0], some 0), ([some 0], some 0)] = (Gh, 2, 5) := by decide +kernel
theorem shed_z : shedD Gf [some 4607182418800017408] = (fac0, 1) := by decide +kernel

theorem rws_three (W : World) : Rws ((((W.alloc (.cells #[.float .f64 0] 31)).alloc (.cells #[.float .f64 0] 31)).alloc (.cells #[.float .f64 0] 31)).alloc (.cells #[.slice (some ⟨W.heap.size, 0, none⟩) 1 1, .float .f64 0, .slice (some ⟨W.heap.size + 1, 0, none⟩) 1 1, .float .f64 0, .slice (some ⟨W.heap.size + 1 + 1, 0, none⟩) 1 1, .float .f64 0] 33)) (.slice (some ⟨W.heap.size + 1 + 1 + 1, 0, none⟩) 3 3) [([some 0], some 0), ([some 0], some 0), ([some 0], some 0)] := by
  refine ⟨_, _, rfl, Nat.le_refl _, by unfold maxLen; simp, .inr ⟨W.heap.size + 1 + 1 + 1, 0, rfl, fun i hi => ?_⟩⟩
  have h1 := (((row_one W 0 fw_zero).alloc (.cells #[.float .f64 0] 31)).alloc (.cells #[.float .f64 0] 31)).alloc (.cells #[.slice (some ⟨W.heap.size, 0, none⟩) 1 1, .float .f64 0, .slice (some ⟨W.heap.size + 1, 0, none⟩) 1 1, .float .f64 0, .slice (some ⟨W.heap.size + 1 + 1, 0, none⟩) 1 1, .float .f64 0] 33)
  have h2 := ((row_one' (w := W.alloc (.cells #[.float .f64 0] 31)) (k := W.heap.size + 1) fw_zero (by simp)).alloc (.cells #[.float .f64 0] 31)).alloc (.cells #[.slice (some ⟨W.heap.size, 0, none⟩) 1 1, .float .f64 0, .slice (some ⟨W.heap.size + 1, 0, none⟩) 1 1, .float .f64 0, .slice (some ⟨W.heap.size + 1 + 1, 0, none⟩) 1 1, .float .f64 0] 33)
  have h3 := (row_one' (w := (W.alloc (.cells #[.float .f64 0] 31)).alloc (.cells #[.float .f64 0] 31)) (k := W.heap.size + 1 + 1) fw_zero (by simp)).alloc (.cells #[.slice (some ⟨W.heap.size, 0, none⟩) 1 1, .float .f64 0, .slice (some ⟨W.heap.size + 1, 0, none⟩) 1 1, .float .f64 0, .slice (some ⟨W.heap.size + 1 + 1, 0, none⟩) 1 1, .float .f64 0] 33)
  match i, hi with
  | 0, _ => exact ⟨_, _, _, 0, by simp [go_sem], by simp [go_sem], h1, fw_zero⟩
  | 1, _ => exact ⟨_, _, _, 0, by simp [go_sem], by simp [go_sem], h2, fw_zero⟩
  | 2, _ => exact ⟨_, _, _, 0, by simp [go_sem], by simp [go_sem], h3, fw_zero⟩

set_option maxRecDepth 100000 in
set_option maxHeartbeats 4000000 in
theorem live11_calls (w : World) (a0 a1 a2 : Addr) (LD : Laid w a0 a1 a2) : Calls Tryd.prog 9 #[] w fun e w' => e = .returned (.bool true) ∧ Below w.heap.size w w' := by
  have HLD := Lib.hid LD
  clear LD
  go_enter Tryd.func9, Tryd.ntmps9
  go_upto_region 1 with (fail)
  go_cut [1] from 15 to 16 (fun s1 wx => ∃ b1 : Nat, s1 = .pointer (some ⟨b1, 0, none⟩) ∧ FacAt wx b1 Gf ∧ Below w.heap.size w wx)
  case first =>
    go_wp2
    go_meet
    case rel => exact ⟨_, rfl, FacAt.new' (F := Gf) (row_lits w [4617315517961601024, 4607182418800017408, 4611686018427387904] (by decide) 3 rfl (by decide)) (by simp), ((Below.refl _ _).alloc (Nat.le_refl _) _).alloc (by simp) _⟩
  case rest =>
    obtain ⟨b1, rfl, F1, B1⟩ := hcut
    obtain ⟨W1, rfl⟩ : ∃ x, x = wc := ⟨_, rfl⟩
    have L1 := Lib.hid (HLD.out.below B1)

    go_upto_region 2 with (fail)
    go_cut [2, 3] from 17 to 23 (fun s2 s3 wx => ∃ b2 : Nat, s2 = .pointer (some ⟨b2, 0, none⟩) ∧ s3 = .int .i64 0 ∧ FacAt wx b2 Gg ∧ Below W1.heap.size W1 wx)
    case first =>
      obtain ⟨fa, fn, fc, fC, fR⟩ := F1
      obtain ⟨c0, c1, c2, c3, _, _, _, _⟩ := fC
      have FR := Lib.hid fR
      have hsz := cell_lt c0
      clear fR
      dsimp only at c0 c1 c2 c3
      go_wp2_with (go_at_call 13; go_must (refine (srow_calls Gf fa _ fn fc 1 1 _ [some 4613937818241073152] (Y := some 4607182418800017408) _ a0 a1 a2 (L1.out.below ((Below.refl _ _).alloc (Nat.le_refl _) _)) (FR.out.alloc _) (row_lits _ [4613937818241073152] (by decide) 1 rfl (by decide)) (fw_lit 4607182418800017408 (by unfold W64; decide) (by decide))).mono ?_; rintro e wL ⟨⟨ga, gn, gcp, he, hrow⟩, hbL⟩; rw [shed_a] at he hrow; dsimp only at he hrow; subst he))
      go_meet
      case rel => exact ⟨_, rfl, rfl, FacAt.new (F := Gg) hrow, (((Below.refl _ _).alloc (Nat.le_refl _) _).trans (hbL.mono (by simp))).alloc (by have := hbL.size; simp at this; omega) _⟩
    case rest =>
      obtain ⟨b2, rfl, rfl, F2, B2⟩ := hcut
      obtain ⟨W2, rfl⟩ : ∃ x, x = wc := ⟨_, rfl⟩
      have F1 := F1.below B2
      have L2 := Lib.hid (L1.out.below B2)
      go_upto_region 3 with (fail)
      go_cut [4, 5] from 24 to 30 (fun s4 s5 wx => ∃ b4 : Nat, s4 = .pointer (some ⟨b4, 0, none⟩) ∧ s5 = .int .i64 8 ∧ FacAt wx b4 fac0 ∧ Below W2.heap.size W2 wx)
      case first =>
        obtain ⟨fa, fn, fc, fC, fR⟩ := F1
        obtain ⟨c0, c1, c2, c3, _, _, _, _⟩ := fC
        have FR := Lib.hid fR
        have hsz := cell_lt c0
        clear fR
        dsimp only at c0 c1 c2 c3
        go_wp2_with (go_at_call 13; go_must (refine (srow_calls Gf fa _ fn fc 1 1 _ [some 4617315517961601024] (Y := some 0) _ a0 a1 a2 (L2.out.below ((Below.refl _ _).alloc (Nat.le_refl _) _)) (FR.out.alloc _) (row_lits _ [4617315517961601024] (by decide) 1 rfl (by decide)) fw_zero).mono ?_; rintro e wL ⟨⟨ga, gn, gcp, he, hrow⟩, hbL⟩; rw [shed_b] at he hrow; dsimp only at he hrow; subst he))
        go_meet
        case rel => exact ⟨_, rfl, rfl, FacAt.new (F := fac0) hrow, (((Below.refl _ _).alloc (Nat.le_refl _) _).trans (hbL.mono (by simp))).alloc (by have := hbL.size; simp at this; omega) _⟩
      case rest =>
        obtain ⟨b4, rfl, rfl, F4, B4⟩ := hcut
        obtain ⟨W4, rfl⟩ : ∃ x, x = wc := ⟨_, rfl⟩
        have F1 := F1.below B4
        have F2 := F2.below B4
        have L4 := Lib.hid (L2.out.below B4)
        go_upto_region 4 with (fail)
        go_cut [6, 7] from 31 to 36 (fun s6 s7 wx => ∃ b6 : Nat, s6 = .pointer (some ⟨b6, 0, none⟩) ∧ s7 = .int .i64 3 ∧ FacAt wx b6 fac0 ∧ Below W4.heap.size W4 wx)
        case first =>
          obtain ⟨fa, fn, fc, fC, fR⟩ := F1
          obtain ⟨c0, c1, c2, c3, _, _, _, _⟩ := fC
          have FR := Lib.hid fR
          have hsz := cell_lt c0
          clear fR
          dsimp only at c0 c1 c2 c3
          go_wp2_with (go_at_call 13; go_must (refine (srow_calls Gf fa _ fn fc 0 0 _ [] (Y := some 0) _ a0 a1 a2 L4.out FR.out (row_nil _) fw_zero).mono ?_; rintro e wL ⟨⟨ga, gn, gcp, he, hrow⟩, hbL⟩; rw [shed_c] at he hrow; dsimp only at he hrow; subst he))
          go_meet
          case rel => exact ⟨_, rfl, rfl, FacAt.new (F := fac0) hrow, hbL.alloc hbL.size _⟩
        case rest =>
          obtain ⟨b6, rfl, rfl, F6, B6⟩ := hcut
          obtain ⟨W6, rfl⟩ : ∃ x, x = wc := ⟨_, rfl⟩
          have F1 := F1.below B6
          have F2 := F2.below B6
          have L6 := Lib.hid (L4.out.below B6)
          go_upto_region 5 with (fail)
          go_cut [8, 9] from 37 to 44 (fun s8 s9 wx => ∃ b8 : Nat, s8 = .pointer (some ⟨b8, 0, none⟩) ∧ s9 = .int .i64 5 ∧ FacAt wx b8 fac0 ∧ Below W6.heap.size W6 wx)
          case first =>
            clear F1
            go_wp2_with (go_at_call 13; go_must (refine (srow_calls Gd _ _ 3 3 1 1 _ [some 4613937818241073152] (Y := some 0) _ a0 a1 a2 (L6.out.below (((Below.refl _ _).alloc (Nat.le_refl _) _).alloc (by simp) _)) ((row_lits W6 [4617315517961601024, 4607182418800017408, 4611686018427387904] (by decide) 3 rfl (by decide)).alloc _) (by have := row_lits (W6.alloc (.cells #[.float .f64 4617315517961601024, .float .f64 4607182418800017408, .float .f64 4611686018427387904] 31)) [4613937818241073152] (by decide) 1 rfl (by decide); simpa using this) fw_zero).mono ?_; rintro e wL ⟨⟨ga, gn, gcp, he, hrow⟩, hbL⟩; rw [shed_d] at he hrow; dsimp only at he hrow; subst he))
            go_meet
            case rel => exact ⟨_, rfl, rfl, FacAt.new (F := fac0) hrow, ((((Below.refl _ _).alloc (Nat.le_refl _) _).alloc (by simp) _).trans (hbL.mono (by simp; omega))).alloc (by have := hbL.size; simp at this; omega) _⟩
          case rest =>
            obtain ⟨b8, rfl, rfl, F8, B8⟩ := hcut
            obtain ⟨W8, rfl⟩ : ∃ x, x = wc := ⟨_, rfl⟩
            have F1 := F1.below B8
            have F2 := F2.below B8
            have L8 := Lib.hid (L6.out.below B8)
            go_upto_region 6 with (fail)
            go_cut [10, 11, 12] from 45 to 57 (fun s10 s11 s12 wx => ∃ b10 : Nat, s10 = .pointer (some ⟨b10, 0, none⟩) ∧ s11 = .int .i64 2 ∧ s12 = .int .i64 5 ∧ FacAt wx b10 Gh ∧ Below W8.heap.size W8 wx)
            case first =>
              obtain ⟨fa, fn, fc, fC, fR⟩ := F1
              obtain ⟨c0, c1, c2, c3, _, _, _, _⟩ := fC
              have FR := Lib.hid fR
              have hsz := cell_lt c0
              clear fR
              dsimp only at c0 c1 c2 c3
              go_wp2_with (go_at_call 16; go_must (refine (sall_calls Gf fa _ fn fc 3 3 [([some 0], some 0), ([some 0], some 0), ([some 0], some 0)] _ a0 a1 a2 (L8.out.below (((((Below.refl _ _).alloc (Nat.le_refl _) _).alloc (by simp) _).alloc (by simp; omega) _).alloc (by simp; omega) _)) ((((FR.out.alloc _).alloc _).alloc _).alloc _) (rws_three W8)).mono ?_; rintro e wL ⟨⟨ga, gn, gcp, he, hrow⟩, hbL⟩; rw [shed_e] at he hrow; dsimp only at he hrow; subst he))
              go_meet
              case rel => exact ⟨_, rfl, rfl, rfl, FacAt.new (F := Gh) hrow, ((((((Below.refl _ _).alloc (Nat.le_refl _) _).alloc (by simp) _).alloc (by simp; omega) _).alloc (by simp; omega) _).trans (hbL.mono (by simp; omega))).alloc (by have := hbL.size; simp at this; omega) _⟩
            case rest =>
              obtain ⟨b10, rfl, rfl, rfl, F10, B10⟩ := hcut
              obtain ⟨W10, rfl⟩ : ∃ x, x = wc := ⟨_, rfl⟩
              have F1 := F1.below B10
              have F2 := F2.below B10
              have L10 := Lib.hid (L8.out.below B10)
              go_upto_region 7 with (fail)
              go_cut [13, 14] from 58 to 63 (fun s13 s14 wx => ∃ b13 : Nat, s13 = .pointer (some ⟨b13, 0, none⟩) ∧ s14 = .int .i64 1 ∧ FacAt wx b13 fac0 ∧ Below W10.heap.size W10 wx)
              case first =>
                obtain ⟨fa, fn, fc, fC, fR⟩ := F1
                obtain ⟨c0, c1, c2, c3, _, _, _, _⟩ := fC
                have FR := Lib.hid fR
                have hsz := cell_lt c0
                clear fR
                dsimp only at c0 c1 c2 c3
                go_wp2_with (go_at_call 10; go_must (refine (sLine_calls Gf fa _ fn fc 1 1 [some 4607182418800017408] _ a0 a1 a2 (L10.out.below ((Below.refl _ _).alloc (Nat.le_refl _) _)) (FR.out.alloc _) (row_lits _ [4607182418800017408] (by decide) 1 rfl (by decide))).mono ?_; rintro e wL ⟨⟨ga, gn, gcp, he, hrow⟩, hbL⟩; rw [shed_z] at he hrow; dsimp only at he hrow; subst he))
                go_meet
                case rel => exact ⟨_, rfl, rfl, FacAt.new (F := fac0) hrow, (((Below.refl _ _).alloc (Nat.le_refl _) _).trans (hbL.mono (by simp))).alloc (by have := hbL.size; simp at this; omega) _⟩
              case rest =>
                obtain ⟨b13, rfl, rfl, F13, B13⟩ := hcut
                obtain ⟨W13, rfl⟩ : ∃ x, x = wc := ⟨_, rfl⟩
                have F2 := F2.below B13
                have F10 := F10.below B13
                have HB := Lib.hid ((((((B1.trans (B2.mono B1.size)).trans (B4.mono (by have := B1.size; have := B2.size; omega))).trans (B6.mono (by have := B1.size; have := B2.size; have := B4.size; omega))).trans (B8.mono (by have := B1.size; have := B2.size; have := B4.size; have := B6.size; omega))).trans (B10.mono (by have := B1.size; have := B2.size; have := B4.size; have := B6.size; have := B8.size; omega))).trans (B13.mono (by have := B1.size; have := B2.size; have := B4.size; have := B6.size; have := B8.size; have := B10.size; omega)))
                clear F1 F4 F6 F8 F13 B1 B2 B4 B6 B8 B10 B13
                obtain ⟨ga, gn, gc, gC, gR⟩ := F2
                obtain ⟨g0, g1, g2, g3, _, _, _, _⟩ := gC
                obtain ⟨gb, go, rfl, rfl, gx, gy, gz⟩ := row_three gR
                obtain ⟨ka, kn, kc, kC, kR⟩ := F10
                obtain ⟨k0, k1, k2, k3, _, _, _, _⟩ := kC
                obtain ⟨kb, ko, rfl, rfl, kx, ky, kz⟩ := row_three kR
                dsimp only at g0 g1 g2 g3 k0 k1 k2 k3
                clear gR kR
                go_wp2
                go_ret
                exact ⟨rfl, HB.out⟩
end Go.Proofs.YtfohknalldelfaaDoor
namespace Go.Proofs.YtfohknalldelfaaDoor
open Go.RowKit Lv Go.Shelf
open Ieee (double Format Datum Toward)
attribute [local go_sem] Oper.semAt_some run_store_float drewN_alloc drewN_setCell

theorem sRowD_zero {F : FacD} {ls : List (Option Nat)} {Y : Option Nat} (h : (sRowD F ls Y).2 = 0) : sEarlyD F ls Y = 0 ∧ (shedD F (ls ++ [Y])).2 = 0 := by
  by_cases h1 : sEarlyD F ls Y = 0
  · rw [sRowD_line h1] at h
    by_cases h2 : (shedD F (ls ++ [Y])).2 = 0
    · exact ⟨h1, h2⟩
    · rw [if_pos h2] at h; exact absurd h h2
  · rw [sRowD_early h1] at h; exact absurd h h1
theorem sRowD_ok {F : FacD} {ls : List (Option Nat)} {Y : Option Nat} (h : (sRowD F ls Y).2 = 0) : (sRowD F ls Y).1.ok = true ∧ (sRowD F ls Y).1.cols = F.cols ∧ (sRowD F ls Y).1.rws = F.rws - 1 ∧ (sRowD F ls Y).1.trn = F.trn + (F.cols + 1) := by
  obtain ⟨h1, h2⟩ := sRowD_zero h
  obtain ⟨e1, e2, e3⟩ := sEarly_zero h1
  obtain ⟨hok, _⟩ := early_zero e1
  obtain ⟨k1, k2, k3, k4, _⟩ := shedD_keeps h2
  obtain ⟨r0, r1, t0, t1⟩ := ok_rows hok
  obtain ⟨c1, c6⟩ := ok_cols hok
  rw [sRowD_line h1, if_neg (by simpa using h2)]
  refine ⟨?_, k2, rfl, rfl⟩
  exact checkP_rt k1 (by dsimp only; omega) (by dsimp only; omega) (by dsimp only; omega) (by dsimp only; omega)

theorem sall_part : ∀ (xs ys : List RowD) (k : Nat) (F : FacD) (G : FacD) (n : Int), sAllLoop k F (xs ++ ys) = (G, n, 0) → F.ok = true →
    ∃ P : FacD, sAllLoop k F xs = (P, ((k + xs.length : Nat) : Int), 0) ∧ sAllLoop (k + xs.length) P ys = (G, n, 0) ∧ P.ok = true
  | [], ys, k, F, G, n, h, hok => ⟨F, rfl, h, hok⟩
  | r :: xs, ys, k, F, G, n, h, hok => by
    rw [List.cons_append] at h
    unfold sAllLoop at h
    by_cases h2 : (sRowD F r.1 r.2).2 ≠ 0
    · rw [if_pos h2] at h
      simp only [Prod.mk.injEq] at h
      exact absurd h.2.2 h2
    · rw [if_neg h2] at h
      have h3 : (sRowD F r.1 r.2).2 = 0 := by simpa using h2
      obtain ⟨P, p1, p2, p3⟩ := sall_part xs ys (k + 1) _ G n h (sRowD_ok h3).1
      refine ⟨P, ?_, ?_, p3⟩
      · unfold sAllLoop
        rw [if_neg h2, p1]
        congr 2
        simp only [List.length_cons]
        omega
      · rw [List.length_cons, show k + (xs.length + 1) = k + 1 + xs.length by omega]
        exact p2
theorem sall_shift : ∀ (ys : List RowD) (k j : Nat) (F G : FacD) (n : Int), sAllLoop k F ys = (G, n, 0) → n = ((k + ys.length : Nat) : Int) ∧ sAllLoop j F ys = (G, ((j + ys.length : Nat) : Int), 0)
  | [], k, j, F, G, n, h => by
    unfold sAllLoop at h ⊢
    simp only [Prod.mk.injEq] at h
    obtain ⟨rfl, rfl, _⟩ := h
    exact ⟨rfl, rfl⟩
  | r :: ys, k, j, F, G, n, h => by
    unfold sAllLoop at h ⊢
    by_cases h2 : (sRowD F r.1 r.2).2 ≠ 0
    · rw [if_pos h2] at h
      simp only [Prod.mk.injEq] at h
      exact absurd h.2.2 h2
    · rw [if_neg h2] at h ⊢
      obtain ⟨e1, e2⟩ := sall_shift ys (k + 1) (j + 1) _ G n h
      refine ⟨by rw [e1, List.length_cons]; congr 1; omega, ?_⟩
      rw [e2, List.length_cons]
      congr 2
      simp only [Int.natCast_inj]
      omega
/-- THE PLAIN LAW of All: part by part -/
theorem sall_cut {F G : FacD} {rs : List RowD} {n : Int} (h : sAllD F rs = (G, n, 0)) (k : Nat) (hk : k ≤ rs.length) :
    ∃ P : FacD, sAllD F (rs.take k) = (P, (k : Int), 0) ∧ sAllD P (rs.drop k) = (G, ((rs.length - k : Nat) : Int), 0) := by
  unfold sAllD at h
  by_cases h1 : F.ok = false
  · rw [if_pos h1] at h
    simp only [Prod.mk.injEq] at h
    exact absurd h.2.2 (by decide)
  · rw [if_neg h1] at h
    have hok : F.ok = true := by simpa using h1
    rw [← List.take_append_drop k rs] at h
    obtain ⟨P, p1, p2, p3⟩ := sall_part _ _ _ _ _ _ h hok
    rw [Nat.zero_add, List.length_take, Nat.min_eq_left hk] at p1 p2
    refine ⟨P, by unfold sAllD; rw [if_neg h1]; exact p1, ?_⟩
    obtain ⟨_, e2⟩ := sall_shift _ _ 0 _ _ _ p2
    unfold sAllD
    rw [if_neg (by rw [p3]; decide), e2, Nat.zero_add, List.length_drop]


set_option maxRecDepth 100000 in
set_option maxHeartbeats 1000000 in
theorem shedTells_walk (w : World) (a0 a1 a2 : Addr) (LD : Laid w a0 a1 a2) (F : FacD) (a : Option Addr) (n cap : Nat) (h : Row w (.slice a n cap) F.xs) (ls : List (Option Nat)) (Y : Option Nat) (b : Option Addr) (m d y : Nat) (hl : Row w (.slice b m d) ls) (hy : FW y Y) :
    Calls Tryd.prog 4 #[.agg #[.int .i64 F.cols, .slice a n cap, .int .i64 F.rws, .int .i64 F.trn], .agg #[.slice b m d, .float .f64 y]] w fun e w' => e = .returned (.bool true) ∧ Below w.heap.size w w' := by
  have hB := ((Below.refl w.heap.size w).alloc (Nat.le_refl _) (.cells #[.int .i64 F.cols, .slice a n cap, .int .i64 F.rws, .int .i64 F.trn] 24)).alloc (by simp) (.cells #[.slice b m d, .float .f64 y] 33)
  have HR := Lib.hid h
  have HLD := Lib.hid LD
  clear LD
  have HL := Lib.hid hl
  by_cases hbig : 60 < n ∨ 20 < m
  · by_cases h1 : 60 < n
    · have h1i : (60 : Int) < (n : Int) := by omega
      clear h hl
      go_enter Tryd.func4, Tryd.ntmps4
      go_wp2_with (go_at_call 9; refine (live11_calls _ a0 a1 a2 (HLD.out.below (hB))).mono ?_; rintro e w1 ⟨rfl, hb⟩)
      go_ret
      exact ⟨rfl, hB.trans (hb.mono (by simp; omega))⟩
    · have h1i : ¬ (60 : Int) < (n : Int) := by omega
      have h2i : (20 : Int) < (m : Int) := by omega
      clear h hl hbig
      go_enter Tryd.func4, Tryd.ntmps4
      go_wp2_with (go_at_call 9; refine (live11_calls _ a0 a1 a2 (HLD.out.below (hB))).mono ?_; rintro e w1 ⟨rfl, hb⟩)
      go_ret
      exact ⟨rfl, hB.trans (hb.mono (by simp; omega))⟩
  · have h1i : ¬ (60 : Int) < (n : Int) := by omega
    have h2i : ¬ (20 : Int) < (m : Int) := by omega
    have C3 := Lib.hid ((Cells4.new w (.int .i64 F.cols) (.slice a n cap) (.int .i64 F.rws) (.int .i64 F.trn) 24).alloc (.cells #[.slice b m d, .float .f64 y] 33))
    have C4 : Hid (((w.alloc (.cells #[.int .i64 F.cols, .slice a n cap, .int .i64 F.rws, .int .i64 F.trn] 24)).alloc (.cells #[.slice b m d, .float .f64 y] 33)).cell? ⟨w.heap.size + 1, 0, none⟩ = some (.slice b m d) ∧ ((w.alloc (.cells #[.int .i64 F.cols, .slice a n cap, .int .i64 F.rws, .int .i64 F.trn] 24)).alloc (.cells #[.slice b m d, .float .f64 y] 33)).cell? ⟨w.heap.size + 1, 1, none⟩ = some (.float .f64 y)) := by
      unfold Hid
      constructor <;> simp [go_sem]
    have HB := Lib.hid hB
    have A1 := Lib.hid (fun W ld h h' => srow_calls F a b n cap m d y ls W a0 a1 a2 ld h h' hy)
    have A2 := Lib.hid (fun W h h' => rsrow_calls F a b n cap m d y ls W h h' hy)
    clear h hl hbig hB hy
    generalize sRowD F ls Y = G at *
    obtain ⟨G, t⟩ := G
    have htt : (t == t) = true := by simp
    go_enter Tryd.func4, Tryd.ntmps4
    go_wp2_with (first
      | (go_at_call 13; go_must (refine (A1.out _ (HLD.out.below HB.out) (HR.out.below HB.out) (HL.out.below HB.out)).mono ?_; rintro e w1 ⟨⟨ga, gn, gcp, rfl, hr1⟩, hb1⟩; have B1 := Lib.hid (HB.out.trans (hb1.mono (by simp; omega))); have R1 := Lib.hid hr1; have D1 := C3.out.below hb1; obtain ⟨c0, c1, c2, c3, _, _, _, _⟩ := D1; have E1 := Lib.hid (C3.out.below hb1); have hz1 := hb1.size; simp at hz1; have hy1 : w.heap.size < w1.heap.size := (by omega); have hx1 : w.heap.size + 1 < w1.heap.size := (by omega); have f0 := (hb1.cell (p := ⟨w.heap.size + 1, 0, none⟩) (by simp)).trans C4.out.1; have f1 := (hb1.cell (p := ⟨w.heap.size + 1, 1, none⟩) (by simp)).trans C4.out.2; clear hr1 hb1))
      | (go_at_call 14; go_must (refine (A2.out _ ((HR.out.below B1.out).alloc _) ((HL.out.below B1.out).alloc _)).mono ?_; rintro e w2 ⟨⟨ka, kn, kcp, rfl, hr2⟩, hb2⟩; have B2 := Lib.hid ((B1.out.alloc (by omega) (.cells #[.int .i64 G.cols, .slice ga gn gcp, .int .i64 G.rws, .int .i64 G.trn] 24)).trans (hb2.mono (by simp; omega))); have R1b := Lib.hid ((R1.out.alloc (.cells #[.int .i64 G.cols, .slice ga gn gcp, .int .i64 G.rws, .int .i64 G.trn] 24)).below hb2); have R2 := Lib.hid hr2; have D2 := (Cells4.new w1 (.int .i64 G.cols) (.slice ga gn gcp) (.int .i64 G.rws) (.int .i64 G.trn) 24).below hb2; obtain ⟨d0, d1, d2, d3, _, _, _, _⟩ := D2; have hz2 := hb2.size; simp at hz2; have hy2 : w1.heap.size < w2.heap.size := (by omega); clear hr2 hb2))
      | (go_at_call 12; go_must (refine (rsame7_calls G ga ka gn kn gcp kcp _ (R1b.out.alloc _) (R2.out.alloc _)).mono ?_; rintro e w3 ⟨rfl, hb3⟩; have B3 := Lib.hid ((B2.out.alloc (by omega) (.cells #[.int .i64 G.cols, .slice ka kn kcp, .int .i64 G.rws, .int .i64 G.trn] 24)).trans (hb3.mono (by simp; omega))); have hz3 := hb3.size; simp at hz3))
      | (go_at_call 9; refine (live11_calls _ a0 a1 a2 (HLD.out.below (B3.out))).mono ?_; rintro e w4 ⟨rfl, hb4⟩))
    go_ret
    exact ⟨by simp, B3.out.trans (hb4.mono (by omega))⟩
end Go.Proofs.YtfohknalldelfaaDoor
