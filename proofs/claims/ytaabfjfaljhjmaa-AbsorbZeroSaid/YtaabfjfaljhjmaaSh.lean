/- A row absorbed: the reference's Row where it comes to its Line. -/
import Derived.Test.YtaabfjfaljhjmaaSg
namespace Go.Proofs.Ytaabfjfaljhjmaa
open Go.RowKit Lv Go.Shelf
open Ieee (double Format Datum Toward)
attribute [local go_sem] Oper.semAt_some run_store_float drewN_alloc drewN_setCell

set_option maxRecDepth 100000 in
set_option maxHeartbeats 4000000 in
theorem rarow_yes (F : FacD) (a b : Option Addr) (n cap m d y : Nat) (ls : List (Option Nat)) {Y : Option Nat} (w : World) (h : Row w (.slice a n cap) F.xs) (hl : Row w (.slice b m d) ls) (hy : FW y Y) (he : earlyD F ls Y = 0) (hfu : fullD F = false) :
    Calls Try.prog 30 #[.agg #[.int .i64 F.cols, .slice a n cap, .int .i64 F.rws, .int .i64 F.trn], .agg #[.slice b m d, .float .f64 y]] w fun e w' => FacE (rowD F ls Y) e w' ∧ Below w.heap.size w w' := by
  obtain ⟨hok, hmc0, ho1, ho2⟩ := early_zero he
  rw [rowD_line he hfu]
  have hB := (((Below.refl w.heap.size w).alloc (Nat.le_refl _) (.cells #[.int .i64 F.cols, .slice a n cap, .int .i64 F.rws, .int .i64 F.trn] 24)).alloc (by simp) (.cells #[.slice b m d, .float .f64 y] 45)).alloc (by simp; omega) (.cells #[.int .i64 0, .slice none 0 0, .int .i64 0, .int .i64 0] 24)
  have L := rearly_calls F a b n cap m d y ls _ (h.below hB) (hl.below hB) hy
  have hm := hl.len
  rw [he] at L
  have LH := Lib.hid L
  obtain ⟨hc1, hc6⟩ := ok_cols hok
  have hmc : (m : Int) = F.cols := by rw [← hm]; exact hmc0
  obtain ⟨r0, r1, t0, t1⟩ := ok_rows hok
  have HB := Lib.hid hB
  unfold fullD at hfu
  rw [Bool.or_eq_false_iff] at hfu
  obtain ⟨hr, ht⟩ := hfu
  have hr : ¬ F.rws = 200 := by simpa using hr
  have hr3 : F.rws < 200 := by omega
  have ht : ¬ 4096 < F.trn + (F.cols + 1) := by simpa using ht
  have ht2 : ¬ 4096 < F.trn + F.cols + 1 := by omega
  have h0 : 0 < m := by omega
  have h9 : m ≤ 900 := by omega
  have HL := Lib.hid hl
  have HR := Lib.hid h
  have HY := Lib.hid hy
  have AL := Lib.hid (fun a b n cap m d w => rALine_calls F 0 a b n cap m d (ls ++ [Y]) w)
  obtain ⟨lb, lo, rfl, hlb, hlm⟩ := hl.shape h0
  generalize lineD F (ls ++ [Y]) 0 = G at *
  obtain ⟨cols, xs, rws, trn⟩ := F
  obtain ⟨⟨gc, gx, gr, gt⟩, gb⟩ := G
  dsimp only at *
  have HTR := Lib.hid (show trn + cols + 1 = trn + (cols + 1) by omega)
  clear he hok hmc0 ho1 ho2 hB L hm hmc hr h hl hy ht hlm
  have hB := HB
  clear HB
  go_enter Try.func30, Try.ntmps30
  go_wp2_with (first | (go_at_call 36; refine LH.out.mono ?_; rintro e w1 ⟨rfl, hb⟩; obtain ⟨hq, hf⟩ := bcell hb; have hz := hb.size; simp at hz; have hz1 : w.heap.size < w1.heap.size := (by omega); have hz2 : w.heap.size + 1 < w1.heap.size := (by omega); have hz3 : w.heap.size + 1 + 1 < w1.heap.size := (by omega); have hC := Lib.hid (hB.out.trans (hb.mono (by simp; omega)))))
  have C2 : Cells4 w1 w.heap.size (.int .i64 cols) (.slice a n cap) (.int .i64 rws) (.int .i64 trn) := (((Cells4.new w (.int .i64 cols) (.slice a n cap) (.int .i64 rws) (.int .i64 trn) 24).alloc (.cells #[.slice (some ⟨lb, lo, none⟩) m d, .float .f64 y] 45)).alloc (.cells #[.int .i64 0, .slice none 0 0, .int .i64 0, .int .i64 0] 24)).below hb
  have HC2 := Lib.hid C2
  obtain ⟨e20, e21, e22, e23, f20, f21, f22, f23⟩ := C2
  have e30 : w1.cell? ⟨w.heap.size + 1, 0, none⟩ = some (.slice (some ⟨lb, lo, none⟩) m d) := (hq _ _ (by simp)).trans (by simp [go_sem])
  have e31 : w1.cell? ⟨w.heap.size + 1, 1, none⟩ = some (.float .f64 y) := (hq _ _ (by simp)).trans (by simp [go_sem])
  have C4 : Cells4 w1 (w.heap.size + 1 + 1) (.int .i64 0) (.slice none 0 0) (.int .i64 0) (.int .i64 0) := by
    have := (Cells4.new ((w.alloc (.cells #[.int .i64 cols, .slice a n cap, .int .i64 rws, .int .i64 trn] 24)).alloc (.cells #[.slice (some ⟨lb, lo, none⟩) m d, .float .f64 y] 45)) (.int .i64 0) (.slice none 0 0) (.int .i64 0) (.int .i64 0) 24).below hb
    simpa using this
  have HC4 := Lib.hid C4
  have HR1 := Lib.hid (HR.out.below hC.out)
  have HL1 := Lib.hid (HL.out.below hC.out)
  clear hq hf hb C4 f20 f21 f22 f23
  go_cut [7, 8] from 29 to 50 (fun s7 s8 wx => ∃ b7 : Nat, s7 = .pointer (some ⟨b7, 0, none⟩) ∧ RRowCut w b7 (w.heap.size + 1 + 1) ⟨cols, xs, rws, trn⟩ ⟨gc, gx, gr, gt⟩ a n cap s8 gb wx)
  case first =>
    rename_i J K' hJ hK'
    have b0 : Below w1.heap.size w1 w1.drew := (Below.refl _ _).drew
    have b1 : Below w1.heap.size w1 (w1.alloc (.cells #[.int .i64 0, .slice none 0 0, .int .i64 0, .int .i64 0] 24)).drew := ((Below.refl w1.heap.size w1).alloc (Nat.le_refl _) _).drew
    have z1 : Cells4 (w1.alloc (.cells #[.int .i64 0, .slice none 0 0, .int .i64 0, .int .i64 0] 24)).drew w1.heap.size (.int .i64 0) (.slice none 0 0) (.int .i64 0) (.int .i64 0) := (Cells4.new w1 _ _ _ _ 24).below ((Below.refl _ _).drew)
    have B0 := Lib.hid (And.intro b0 (And.intro b1 z1))
    clear b0 b1 z1
    go_region_held3 (fun w' => w'.cell? ⟨w.heap.size, 0, none⟩ = some (.int .i64 cols) ∧ w'.cell? ⟨w.heap.size, 1, none⟩ = some (.slice a n cap) ∧ w'.cell? ⟨w.heap.size, 2, none⟩ = some (.int .i64 rws) ∧ w'.cell? ⟨w.heap.size, 3, none⟩ = some (.int .i64 trn) ∧ w'.cell? ⟨w.heap.size + 1, 0, none⟩ = some (.slice (some ⟨lb, lo, none⟩) m d) ∧ w'.cell? ⟨w.heap.size + 1, 1, none⟩ = some (.float .f64 y))
      (first
        | with_reducible exact ⟨((BL.out).cell (p := ⟨w.heap.size, 0, none⟩) hz1).trans e20, ((BL.out).cell (p := ⟨w.heap.size, 1, none⟩) hz1).trans e21, ((BL.out).cell (p := ⟨w.heap.size, 2, none⟩) hz1).trans e22, ((BL.out).cell (p := ⟨w.heap.size, 3, none⟩) hz1).trans e23, ((BL.out).cell (p := ⟨w.heap.size + 1, 0, none⟩) hz2).trans e30, ((BL.out).cell (p := ⟨w.heap.size + 1, 1, none⟩) hz2).trans e31⟩
        | with_reducible exact ⟨((BC.out).cell (p := ⟨w.heap.size, 0, none⟩) hz1).trans e20, ((BC.out).cell (p := ⟨w.heap.size, 1, none⟩) hz1).trans e21, ((BC.out).cell (p := ⟨w.heap.size, 2, none⟩) hz1).trans e22, ((BC.out).cell (p := ⟨w.heap.size, 3, none⟩) hz1).trans e23, ((BC.out).cell (p := ⟨w.heap.size + 1, 0, none⟩) hz2).trans e30, ((BC.out).cell (p := ⟨w.heap.size + 1, 1, none⟩) hz2).trans e31⟩
        | with_reducible exact ⟨((BL.out.alloc BL.out.size _).cell (p := ⟨w.heap.size, 0, none⟩) hz1).trans e20, ((BL.out.alloc BL.out.size _).cell (p := ⟨w.heap.size, 1, none⟩) hz1).trans e21, ((BL.out.alloc BL.out.size _).cell (p := ⟨w.heap.size, 2, none⟩) hz1).trans e22, ((BL.out.alloc BL.out.size _).cell (p := ⟨w.heap.size, 3, none⟩) hz1).trans e23, ((BL.out.alloc BL.out.size _).cell (p := ⟨w.heap.size + 1, 0, none⟩) hz2).trans e30, ((BL.out.alloc BL.out.size _).cell (p := ⟨w.heap.size + 1, 1, none⟩) hz2).trans e31⟩
        | with_reducible exact ⟨((BC.out.alloc BC.out.size _).cell (p := ⟨w.heap.size, 0, none⟩) hz1).trans e20, ((BC.out.alloc BC.out.size _).cell (p := ⟨w.heap.size, 1, none⟩) hz1).trans e21, ((BC.out.alloc BC.out.size _).cell (p := ⟨w.heap.size, 2, none⟩) hz1).trans e22, ((BC.out.alloc BC.out.size _).cell (p := ⟨w.heap.size, 3, none⟩) hz1).trans e23, ((BC.out.alloc BC.out.size _).cell (p := ⟨w.heap.size + 1, 0, none⟩) hz2).trans e30, ((BC.out.alloc BC.out.size _).cell (p := ⟨w.heap.size + 1, 1, none⟩) hz2).trans e31⟩
        | with_reducible exact ⟨((B0.out.2.1).cell (p := ⟨w.heap.size, 0, none⟩) hz1).trans e20, ((B0.out.2.1).cell (p := ⟨w.heap.size, 1, none⟩) hz1).trans e21, ((B0.out.2.1).cell (p := ⟨w.heap.size, 2, none⟩) hz1).trans e22, ((B0.out.2.1).cell (p := ⟨w.heap.size, 3, none⟩) hz1).trans e23, ((B0.out.2.1).cell (p := ⟨w.heap.size + 1, 0, none⟩) hz2).trans e30, ((B0.out.2.1).cell (p := ⟨w.heap.size + 1, 1, none⟩) hz2).trans e31⟩
        | with_reducible exact ⟨((B0.out.1).cell (p := ⟨w.heap.size, 0, none⟩) hz1).trans e20, ((B0.out.1).cell (p := ⟨w.heap.size, 1, none⟩) hz1).trans e21, ((B0.out.1).cell (p := ⟨w.heap.size, 2, none⟩) hz1).trans e22, ((B0.out.1).cell (p := ⟨w.heap.size, 3, none⟩) hz1).trans e23, ((B0.out.1).cell (p := ⟨w.heap.size + 1, 0, none⟩) hz2).trans e30, ((B0.out.1).cell (p := ⟨w.heap.size + 1, 1, none⟩) hz2).trans e31⟩
        | with_reducible exact ⟨((below_put4 BL.out BC.out.size _ _ _ _).cell (p := ⟨w.heap.size, 0, none⟩) hz1).trans e20, ((below_put4 BL.out BC.out.size _ _ _ _).cell (p := ⟨w.heap.size, 1, none⟩) hz1).trans e21, ((below_put4 BL.out BC.out.size _ _ _ _).cell (p := ⟨w.heap.size, 2, none⟩) hz1).trans e22, ((below_put4 BL.out BC.out.size _ _ _ _).cell (p := ⟨w.heap.size, 3, none⟩) hz1).trans e23, ((below_put4 BL.out BC.out.size _ _ _ _).cell (p := ⟨w.heap.size + 1, 0, none⟩) hz2).trans e30, ((below_put4 BL.out BC.out.size _ _ _ _).cell (p := ⟨w.heap.size + 1, 1, none⟩) hz2).trans e31⟩
        | with_reducible exact ⟨((below_put4 BL.out (Nat.le_refl _) _ _ _ _).cell (p := ⟨w.heap.size, 0, none⟩) hz1).trans e20, ((below_put4 BL.out (Nat.le_refl _) _ _ _ _).cell (p := ⟨w.heap.size, 1, none⟩) hz1).trans e21, ((below_put4 BL.out (Nat.le_refl _) _ _ _ _).cell (p := ⟨w.heap.size, 2, none⟩) hz1).trans e22, ((below_put4 BL.out (Nat.le_refl _) _ _ _ _).cell (p := ⟨w.heap.size, 3, none⟩) hz1).trans e23, ((below_put4 BL.out (Nat.le_refl _) _ _ _ _).cell (p := ⟨w.heap.size + 1, 0, none⟩) hz2).trans e30, ((below_put4 BL.out (Nat.le_refl _) _ _ _ _).cell (p := ⟨w.heap.size + 1, 1, none⟩) hz2).trans e31⟩
        | go_keep)
      (first
        | (go_at_call 39; go_must (refine (rentries_calls _ m d y ls _ (HL1.out.below (by first | with_reducible exact B0.out.1 | with_reducible exact B0.out.2.1)) HY.out h0 h9).mono ?_; rintro e wC ⟨vC, rfl, hownC, hbC⟩; obtain ⟨oa, on, oc, hvA⟩ := hownC.row.form; subst hvA; have RA := Lib.hid hownC.row; have BC' : Below w1.heap.size w1 wC := (by first | with_reducible exact B0.out.1.trans (hbC.mono (by simp)) | with_reducible exact B0.out.2.1.trans (hbC.mono (by simp))); have hsz := BC'.size; have hCz0 : w.heap.size < wC.heap.size := (by omega); have hCz1 : w.heap.size + 1 < wC.heap.size := (by omega); (first | ((with_reducible have zz := B0.out.2.2.below hbC); have ZC := Lib.hid zz; obtain ⟨z0, z1, z2, z3, zf0, zf1, zf2, zf3⟩ := zz) | (have ZN : True := trivial)); have BC := Lib.hid BC'; clear BC' hownC hbC))
        | (go_at_call 28; go_must (refine (AL.out _ _ _ _ _ _ _ (HR1.out.below (by first | with_reducible exact BC.out | with_reducible exact BC.out.alloc BC.out.size _)) (by first | with_reducible exact RA.out | with_reducible exact RA.out.alloc _)).mono ?_; rintro e wL ⟨⟨ga, gn, gcp, rfl, hrowL⟩, hbL⟩; have BL' : Below w1.heap.size w1 wL := (by first | with_reducible exact BC.out.trans (hbL.mono BC.out.size) | with_reducible exact (BC.out.alloc BC.out.size (.cells #[.int .i64 0, .slice none 0 0, .int .i64 0, .int .i64 0] 24)).trans (hbL.mono (by have := BC.out.size; simp; omega))); have hszL := BL'.size; have hLz0 : w.heap.size < wL.heap.size := (by omega); have hLz1 : w.heap.size + 1 < wL.heap.size := (by omega); have hLz2 : w.heap.size + 1 + 1 < wL.heap.size := (by omega); (first | ((with_reducible have yy := ZC.out.below hbL); have YL := Lib.hid yy; obtain ⟨y0, y1, y2, y3, yf0, yf1, yf2, yf3⟩ := yy) | ((with_reducible have yy := (Cells4.new wC (.int .i64 0) (.slice none 0 0) (.int .i64 0) (.int .i64 0) 24).below hbL); have YL := Lib.hid yy; obtain ⟨y0, y1, y2, y3, yf0, yf1, yf2, yf3⟩ := yy) | (have YN : True := trivial)); have BL := Lib.hid BL'; have RL := Lib.hid hrowL; clear BL' hrowL hbL)))
    all_goals
      refine hK' _ _ (Met.intro (hJ _ _ ?_))
      (repeat apply Exists.intro)
      refine ⟨?_, rfl⟩
      have D4 := HC4.out.below BL.out
      have D2 := HC2.out.below BL.out
      have hBL := hC.out.trans (BL.out.mono (Nat.le_of_lt hz1))
      have hwC := BC.out.size
      have hwL := BL.out.size
      (first
        | (refine ⟨wL.heap.size, rfl, ?_⟩; unfold RRowCut; with_reducible exact ⟨ga, gn, gcp, rfl, Cells4.new wL _ _ _ _ _, RL.out.alloc _, D4.alloc _, D2.alloc _, by omega, hBL.alloc (by omega) _⟩)
        | (refine ⟨wC.heap.size, rfl, ?_⟩; unfold RRowCut; with_reducible exact ⟨ga, gn, gcp, rfl, YL.out.put _ _ _ _, RL.out.put4 YL.out slice_ne _ _ _ _, D4.put_other (by omega) _ _ _ _, D2.put_other (by omega) _ _ _ _, by omega, below_put4 hBL (by omega) _ _ _ _⟩)
        | (refine ⟨w1.heap.size, rfl, ?_⟩; unfold RRowCut; with_reducible exact ⟨ga, gn, gcp, rfl, YL.out.put _ _ _ _, RL.out.put4 YL.out slice_ne _ _ _ _, D4.put_other (by omega) _ _ _ _, D2.put_other (by omega) _ _ _ _, by omega, below_put4 hBL (by omega) _ _ _ _⟩))
  case rest =>
    obtain ⟨b7, rfl, ga, gn, gcp, rfl, D7, RL, D4, D2, hb47, BL⟩ := hcut
    have HD7 := Lib.hid D7
    have HD4 := Lib.hid D4
    have HD2 := Lib.hid D2
    have HRL := Lib.hid RL
    obtain ⟨k0, k1, k2, k3, l0, l1, l2, l3⟩ := D7
    obtain ⟨m0, m1, m2, m3, n0, n1, n2, n3⟩ := D4
    obtain ⟨i0, i1, i2, i3, j0, j1, j2, j3⟩ := D2
    clear RL e20 e21 e22 e23 e30 e31
    dsimp only at *
    cases gb
    · go_wp2
      exact bodyPost_ret (v := .tuple #[facZ, .int .i64 2]) (by simp [results, Try.results30, go_sem, facZ, (HD4.out.put (.int .i64 0) (.slice none 0 0) (.int .i64 0) (.int .i64 0)).c0, (HD4.out.put (.int .i64 0) (.slice none 0 0) (.int .i64 0) (.int .i64 0)).c1, (HD4.out.put (.int .i64 0) (.slice none 0 0) (.int .i64 0) (.int .i64 0)).c2, (HD4.out.put (.int .i64 0) (.slice none 0 0) (.int .i64 0) (.int .i64 0)).c3]) rfl ⟨facE_no _ rfl, below_put4 BL (by omega) _ _ _ _⟩
    · have a0 := cell_set_eq (v := .int .i64 (rws + 1)) k2
      have a1 := cell_set_off (o := 2) (v := .int .i64 (rws + 1)) k3 (by decide)
      have a2 := cell_set_off (o := 2) (v := .int .i64 (rws + 1)) k0 (by decide)
      have a3 := cell_set_off (o := 2) (v := .int .i64 (rws + 1)) k1 (by decide)
      have hb7 : b7 ≠ w.heap.size := by omega
      have hb7l : w.heap.size ≤ b7 := by omega
      have q0 := cell_set_ne (b := b7) (o := 2) (v := .int .i64 (rws + 1)) i0 hb7
      have q3 := cell_set_ne (b := b7) (o := 2) (v := .int .i64 (rws + 1)) i3 hb7
      go_wp2
      rw [HTR.out]
      have E2 : Cells4 ((wc.setCell ⟨b7, 2, none⟩ (.int .i64 (rws + 1))).setCell ⟨b7, 3, none⟩ (.int .i64 (trn + (cols + 1)))) b7 (.int .i64 gc) (.slice ga gn gcp) (.int .i64 (rws + 1)) (.int .i64 (trn + (cols + 1))) :=
        ⟨cell_set_off a2 (by decide), cell_set_off a3 (by decide), cell_set_off a0 (by decide), cell_set_eq a1, frozen_set (frozen_set l0), frozen_set (frozen_set l1), frozen_set (frozen_set l2), frozen_set (frozen_set l3)⟩
      have E4 := (HD4.out.set (b' := b7) (o := 2) (v := .int .i64 (rws + 1)) (by omega)).set (b' := b7) (o := 3) (v := .int .i64 (trn + (cols + 1))) (by omega)
      have RE : Row ((wc.setCell ⟨b7, 2, none⟩ (.int .i64 (rws + 1))).setCell ⟨b7, 3, none⟩ (.int .i64 (trn + (cols + 1)))) (.slice ga gn gcp) gx :=
        (HRL.out.setAt HD7.out.c2 (fun _ e => by cases e) _).setAt a1 (fun _ e => by cases e) _
      have P4 := E4.put (.int .i64 gc) (.slice ga gn gcp) (.int .i64 (rws + 1)) (.int .i64 (trn + (cols + 1)))
      refine bodyPost_ret (v := .tuple #[.agg #[.int .i64 gc, .slice ga gn gcp, .int .i64 (rws + 1), .int .i64 (trn + (cols + 1))], .int .i64 0]) (by simp [results, Try.results30, go_sem, P4.c0, P4.c1, P4.c2, P4.c3]) rfl ⟨⟨ga, gn, gcp, rfl, RE.put4 E4 (fun _ e => by cases e) _ _ _ _⟩, ?_⟩
      exact below_put4 ((BL.setCell (p := ⟨b7, 2, none⟩) hb7l _).setCell (p := ⟨b7, 3, none⟩) hb7l _) (by omega) _ _ _ _

/-- the reference's Row -/
theorem rarow_calls (F : FacD) (a b : Option Addr) (n cap m d y : Nat) (ls : List (Option Nat)) {Y : Option Nat} (w : World) (h : Row w (.slice a n cap) F.xs) (hl : Row w (.slice b m d) ls) (hy : FW y Y) :
    Calls Try.prog 30 #[.agg #[.int .i64 F.cols, .slice a n cap, .int .i64 F.rws, .int .i64 F.trn], .agg #[.slice b m d, .float .f64 y]] w fun e w' => FacE (rowD F ls Y) e w' ∧ Below w.heap.size w w' := by
  by_cases he : earlyD F ls Y = 0
  · cases hf : fullD F with
    | true => exact rarow_no F a b n cap m d y ls w h hl hy (.inr hf)
    | false => exact rarow_yes F a b n cap m d y ls w h hl hy he hf
  · exact rarow_no F a b n cap m d y ls w h hl hy (.inl he)
end Go.Proofs.Ytaabfjfaljhjmaa
