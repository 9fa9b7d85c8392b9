/- A row absorbed: the program's Row where it comes to its Line. -/
import Derived.Test.YtmmligbkecilfaaGreatDoorSe
import Derived.Deep.CutRange
namespace Go.Proofs.YtmmligbkecilfaaGreatDoor
open Go.RowKit Lv Go.Shelf
open Ieee (double Format Datum Toward)
attribute [local go_sem] Oper.semAt_some run_store_float drewN_alloc drewN_setCell

theorem OwnV.base {w : World} {B : Nat} {v : Value} {xs : List (Option Nat)} (h : OwnV w B v xs) (k : Nat) (e : v.ownBlock = some k) : B ≤ k := by
  obtain ⟨vs, hown, hv⟩ := h
  rcases hown.2 with ⟨rfl, h0⟩ | ⟨g, cap, cur, rfl, h2, _⟩
  · simp [Value.ownBlock] at e
  · simp [Value.ownBlock] at e
    omega
/-- behind the statement that calls Line -/
def RowCut (w : World) (b4 : Nat) (G : FacD) (s7 : Value) (gb : Bool) (W : World) : Prop :=
  ∃ ga gn gcp, s7 = .bool gb ∧ Cells4 W w.heap.size (.int .i64 G.cols) (.slice ga gn gcp) (.int .i64 G.rws) (.int .i64 G.trn) ∧ Row W (.slice ga gn gcp) G.xs ∧ Cells4 W b4 (.int .i64 0) (.slice none 0 0) (.int .i64 0) (.int .i64 0) ∧ Below w.heap.size w W

set_option maxRecDepth 100000 in
set_option maxHeartbeats 4000000 in
theorem arow_yes (F : FacD) (a b : Option Addr) (n cap m d y : Nat) (ls : List (Option Nat)) {Y : Option Nat} (w : World) (h : Row w (.slice a n cap) F.xs) (hl : Row w (.slice b m d) ls) (hy : FW y Y) (he : earlyD F ls Y = 0) (hfu : fullD F = false) :
    Calls Tryz.prog 11 #[.agg #[.int .i64 F.cols, .slice a n cap, .int .i64 F.rws, .int .i64 F.trn], .agg #[.slice b m d, .float .f64 y]] w fun e w' => FacE (rowD F ls Y) e w' ∧ Below w.heap.size w w' := by
  obtain ⟨hok, hmc0, ho1, ho2⟩ := early_zero he
  rw [rowD_line he hfu]
  have hB := (((Below.refl w.heap.size w).alloc (Nat.le_refl _) (.cells #[.int .i64 F.cols, .slice a n cap, .int .i64 F.rws, .int .i64 F.trn] 24)).alloc (by simp) (.cells #[.slice b m d, .float .f64 y] 27)).alloc (by simp; omega) (.cells #[.int .i64 0, .slice none 0 0, .int .i64 0, .int .i64 0] 24)
  have L := check_calls F.cols F.rws F.trn a n cap F.xs _ (h.below hB)
  have hm := hl.len
  rw [show checkP F.cols F.xs F.rws F.trn = true from hok] at L
  have LH := Lib.hid L
  obtain ⟨hc1, hc6⟩ := ok_cols hok
  have hmc : (m : Int) = F.cols := by rw [← hm]; exact hmc0
  have hne : ((m : Int) != F.cols) = false := by simpa using hmc
  have CO := Lib.hid (fun W => out_calls y hy.1 W)
  rw [outW_F hy, ho2] at CO
  have CF : ∀ W, Below w.heap.size w W → Calls Tryz.prog 30 #[.slice b m d, .func (.func 31) #[] #[]] W fun e w' => e = .returned (.bool (ls.any outF)) ∧ W = w' := fun W hW => containsout_calls b m d ls W (hl.below hW)
  rw [ho1] at CF
  have CF := Lib.hid CF
  obtain ⟨r0, r1, t0, t1⟩ := ok_rows hok
  have HB := Lib.hid hB
  unfold fullD at hfu
  rw [Bool.or_eq_false_iff] at hfu
  obtain ⟨hr, ht⟩ := hfu
  have hr : ¬ F.rws = 200 := by simpa using hr
  have hr2 : (F.rws == 200) = false := by simpa using hr
  have ht : ¬ 4096 < F.trn + (F.cols + 1) := by simpa using ht
  have hr3 : F.rws < 200 := by omega
  have h0 : 0 < m := by omega
  have h9 : m ≤ 900 := by omega
  have HL := Lib.hid hl
  have HR := Lib.hid h
  have HY := Lib.hid hy
  have HM := Lib.hid hm
  have hlk : (lineD F (ls ++ [Y]) 0).2 = true → (lineD F (ls ++ [Y]) 0).1.rws = F.rws ∧ (lineD F (ls ++ [Y]) 0).1.trn = F.trn := fun hh => ⟨(lineD_ok hh).2.2.1, (lineD_ok hh).2.2.2.1⟩
  have LK := Lib.hid hlk
  have AL := Lib.hid (fun a b n cap m d w => ALine_calls F 0 a b n cap m d (ls ++ [Y]) w)
  obtain ⟨lb, lo, rfl, hlb, _⟩ := hl.shape h0
  generalize lineD F (ls ++ [Y]) 0 = G at *
  obtain ⟨cols, xs, rws, trn⟩ := F
  obtain ⟨⟨gc, gx, gr, gt⟩, gb⟩ := G
  dsimp only at *
  clear he hok hmc0 ho1 ho2 hB L hm hmc hr h hl hy hlk
  have hB := HB
  clear HB
  go_enter Tryz.func11, Tryz.ntmps11
  go_wp2_with (first | (go_at_call 29; refine LH.out.mono ?_; rintro e w1 ⟨rfl, hb⟩; obtain ⟨hq, hf⟩ := bcell hb; have hz := hb.size; simp at hz; have hz1 : w.heap.size < w1.heap.size := (by omega); have hz2 : w.heap.size + 1 < w1.heap.size := (by omega); have hz3 : w.heap.size + 1 + 1 < w1.heap.size := (by omega); have hC := Lib.hid (hB.out.trans (hb.mono (by simp; omega)))) | (go_at_call 30; refine (CF.out _ hC.out).mono ?_; rintro e w2 ⟨rfl, rfl⟩) | (go_at_call 31; refine (CO.out _).mono ?_; rintro e w3 ⟨rfl, rfl⟩))
  have C2 : Cells4 w1 w.heap.size (.int .i64 cols) (.slice a n cap) (.int .i64 rws) (.int .i64 trn) := (((Cells4.new w (.int .i64 cols) (.slice a n cap) (.int .i64 rws) (.int .i64 trn) 24).alloc (.cells #[.slice (some ⟨lb, lo, none⟩) m d, .float .f64 y] 27)).alloc (.cells #[.int .i64 0, .slice none 0 0, .int .i64 0, .int .i64 0] 24)).below hb
  obtain ⟨e20, e21, e22, e23, f20, f21, f22, f23⟩ := C2
  have e30 : w1.cell? ⟨w.heap.size + 1, 0, none⟩ = some (.slice (some ⟨lb, lo, none⟩) m d) := (hq _ _ (by simp)).trans (by simp [go_sem])
  have e31 : w1.cell? ⟨w.heap.size + 1, 1, none⟩ = some (.float .f64 y) := (hq _ _ (by simp)).trans (by simp [go_sem])
  have C4 : Cells4 w1 (w.heap.size + 1 + 1) (.int .i64 0) (.slice none 0 0) (.int .i64 0) (.int .i64 0) := by
    have := (Cells4.new ((w.alloc (.cells #[.int .i64 cols, .slice a n cap, .int .i64 rws, .int .i64 trn] 24)).alloc (.cells #[.slice (some ⟨lb, lo, none⟩) m d, .float .f64 y] 27)) (.int .i64 0) (.slice none 0 0) (.int .i64 0) (.int .i64 0) 24).below hb
    simpa using this
  have HC4 := Lib.hid C4
  have HR1 := Lib.hid (HR.out.below hC.out)
  have HL1 := Lib.hid (HL.out.below hC.out)
  clear hq hf hb C4
  go_cut [7] from 46 to 70 (fun s7 wx => RowCut w (w.heap.size + 1 + 1) ⟨gc, gx, gr, gt⟩ s7 gb wx)
  case first =>
    rename_i J K' hJ hK'
    have b0 : Below w1.heap.size w1 w1.drew := (Below.refl _ _).drew
    have b1 : Below w1.heap.size w1 (w1.alloc (.cells #[.float .f64 y] 25)).drew := ((Below.refl w1.heap.size w1).alloc (Nat.le_refl _) _).drew
    have o1 : Row (w1.alloc (.cells #[.float .f64 y] 25)).drew (.slice (some ⟨w1.heap.size, 0, none⟩) 1 1) [Y] := (row_one w1 y HY.out).below (Below.refl _ _).drew
    have B0 := Lib.hid (And.intro b0 (And.intro b1 o1))
    clear b0 b1 o1
    go_region_law
      (first
        | (go_simp; go_at_call 16; go_must (refine (clone_calls _ m d ls _ (HL1.out.below (by first | exact B0.out.1 | exact B0.out.2.1)) (by rw [HM.out]; exact h9)).mono ?_; rintro e wC ⟨vC, rfl, hownC, hbC⟩; have hzC := hbC.size; simp at hzC; have hzD : w.heap.size < wC.heap.size := (by omega); have hzE : w.heap.size + 1 < wC.heap.size := (by omega); have HO := Lib.hid hownC; have HBC := Lib.hid hbC; clear hownC hbC; have BC' : Below w1.heap.size w1 wC := (by first | exact B0.out.1.trans (HBC.out.mono (by simp)) | exact B0.out.2.1.trans (HBC.out.mono (by simp))); have qC0 := (BC'.cell (p := ⟨w.heap.size, 0, none⟩) hz1).trans e20; have qC1 := (BC'.cell (p := ⟨w.heap.size, 1, none⟩) hz1).trans e21; have qC2 := (BC'.cell (p := ⟨w.heap.size, 2, none⟩) hz1).trans e22; have qC3 := (BC'.cell (p := ⟨w.heap.size, 3, none⟩) hz1).trans e23; have qC4 := (BC'.cell (p := ⟨w.heap.size + 1, 0, none⟩) hz2).trans e30; have qC5 := (BC'.cell (p := ⟨w.heap.size + 1, 1, none⟩) hz2).trans e31; have BC := Lib.hid BC'; clear BC'))
        | (refine step_append_F rfl (.tmp 50) (.tmp 53) rfl w1.heap.size vC ls [Y] rfl ((HO.out.below ((Below.refl _ _).alloc (Nat.le_refl _) (.cells #[.float .f64 y] 25)) (Nat.le_refl _)).mono (by simp)) _ 1 1 rfl (row_one wC y HY.out) (by rw [HM.out]; simp; omega) rfl (by simp; omega) ?_; intro vA wA hownA hgA; have BA' : Below w1.heap.size w1 wA := (BC.out.alloc (by omega) (.cells #[.float .f64 y] 25)).grown hgA (by simp; omega) (fun k e => (HO.out.mono (by simp)).base k e); have qA0 := (BA'.cell (p := ⟨w.heap.size, 0, none⟩) hz1).trans e20; have qA1 := (BA'.cell (p := ⟨w.heap.size, 1, none⟩) hz1).trans e21; have qA2 := (BA'.cell (p := ⟨w.heap.size, 2, none⟩) hz1).trans e22; have qA3 := (BA'.cell (p := ⟨w.heap.size, 3, none⟩) hz1).trans e23; have qA4 := (BA'.cell (p := ⟨w.heap.size + 1, 0, none⟩) hz2).trans e30; have qA5 := (BA'.cell (p := ⟨w.heap.size + 1, 1, none⟩) hz2).trans e31; have BA := Lib.hid BA'; clear BA'; obtain ⟨oa, on, oc, hvA⟩ := hownA.row.form; subst hvA; have RA := Lib.hid hownA.row; clear hownA hgA)
        | (refine step_append_F rfl (.tmp 50) (.tmp 53) rfl w1.heap.size vC ls [Y] rfl (HO.out.mono (by simp)) _ 1 1 rfl (B0.out.2.2.below HBC.out) (by rw [HM.out]; simp; omega) rfl (by omega) ?_; intro vA wA hownA hgA; have BA' : Below w1.heap.size w1 wA := BC.out.grown hgA (by omega) (fun k e => (HO.out.mono (by simp)).base k e); have qA0 := (BA'.cell (p := ⟨w.heap.size, 0, none⟩) hz1).trans e20; have qA1 := (BA'.cell (p := ⟨w.heap.size, 1, none⟩) hz1).trans e21; have qA2 := (BA'.cell (p := ⟨w.heap.size, 2, none⟩) hz1).trans e22; have qA3 := (BA'.cell (p := ⟨w.heap.size, 3, none⟩) hz1).trans e23; have qA4 := (BA'.cell (p := ⟨w.heap.size + 1, 0, none⟩) hz2).trans e30; have qA5 := (BA'.cell (p := ⟨w.heap.size + 1, 1, none⟩) hz2).trans e31; have BA := Lib.hid BA'; clear BA'; obtain ⟨oa, on, oc, hvA⟩ := hownA.row.form; subst hvA; have RA := Lib.hid hownA.row; clear hownA hgA)
        | (go_simp; go_at_call 32; go_must (refine (AL.out _ _ _ _ _ _ _ (HR1.out.below BA.out) RA.out).mono ?_; rintro e wL ⟨⟨ga, gn, gcp, rfl, hrowL⟩, hbL⟩; have BL' := BA.out.trans (hbL.mono BA.out.size); obtain ⟨k0, k1, k2, k3, l0, l1, l2, l3⟩ : Cells4 wL w.heap.size (.int .i64 cols) (.slice a n cap) (.int .i64 rws) (.int .i64 trn) := Cells4.below ⟨e20, e21, e22, e23, f20, f21, f22, f23⟩ BL'; have BL := Lib.hid BL'; have RL := Lib.hid hrowL; clear BL' hrowL hbL)))
    all_goals simp only [Act.put, List.getElem_toArray, List.getElem_cons_succ, List.getElem_cons_zero, List.setIfInBounds_toArray, List.set_cons_succ, List.set_cons_zero]
    all_goals
      refine hK' _ _ (Met.intro (hJ _ _ ?_))
      (repeat apply Exists.intro)
      refine ⟨?_, rfl⟩
      have D2 : Cells4 wL w.heap.size (.int .i64 cols) (.slice a n cap) (.int .i64 rws) (.int .i64 trn) := ⟨k0, k1, k2, k3, l0, l1, l2, l3⟩
      exact ⟨ga, gn, gcp, rfl, D2.put _ _ _ _, RL.out.put4 D2 slice_ne _ _ _ _, (HC4.out.below BL.out).put_other (by omega) _ _ _ _, below_put4 (hC.out.trans (BL.out.mono (by omega))) (Nat.le_refl _) _ _ _ _⟩
  case rest =>
    obtain ⟨ga, gn, gcp, rfl, D2, RL, D4, BL⟩ := hcut
    have HD2 := Lib.hid D2
    have HD4 := Lib.hid D4
    have HRL := Lib.hid RL
    obtain ⟨k0, k1, k2, k3, l0, l1, l2, l3⟩ := D2
    obtain ⟨m0, m1, m2, m3, n0, n1, n2, n3⟩ := D4
    have hsz : w.heap.size + 1 + 1 ≠ w.heap.size := by omega
    clear RL e20 e21 e22 e23 f20 f21 f22 f23 e30 e31
    dsimp only at k0 k1 k2 k3
    cases gb
    · clear LK
      go_wp2
      exact bodyPost_ret (v := .tuple #[facZ, .int .i64 2]) (by simp [results, Tryz.results11, go_sem, facZ, (HD4.out.put (.int .i64 0) (.slice none 0 0) (.int .i64 0) (.int .i64 0)).c0, (HD4.out.put (.int .i64 0) (.slice none 0 0) (.int .i64 0) (.int .i64 0)).c1, (HD4.out.put (.int .i64 0) (.slice none 0 0) (.int .i64 0) (.int .i64 0)).c2, (HD4.out.put (.int .i64 0) (.slice none 0 0) (.int .i64 0) (.int .i64 0)).c3]) rfl ⟨facE_no _ rfl, below_put4 BL (by omega) _ _ _ _⟩
    · obtain ⟨rfl, rfl⟩ := LK.out rfl
      clear LK
      have a0 := cell_set_eq (v := .int .i64 (gr + 1)) k2
      have a1 := cell_set_off (o := 2) (v := .int .i64 (gr + 1)) k3 (by decide)
      have a2 := cell_set_off (o := 2) (v := .int .i64 (gr + 1)) k0 (by decide)
      have a3 := cell_set_off (o := 2) (v := .int .i64 (gr + 1)) k1 (by decide)
      have hgr : gr + 1 ≤ 200 := by omega
      go_wp2
      have E2 : Cells4 ((wc.setCell ⟨w.heap.size, 2, none⟩ (.int .i64 (gr + 1))).setCell ⟨w.heap.size, 3, none⟩ (.int .i64 (gt + (cols + 1)))) w.heap.size (.int .i64 gc) (.slice ga gn gcp) (.int .i64 (gr + 1)) (.int .i64 (gt + (cols + 1))) :=
        ⟨cell_set_off a2 (by decide), cell_set_off a3 (by decide), cell_set_off a0 (by decide), cell_set_eq a1, frozen_set (frozen_set l0), frozen_set (frozen_set l1), frozen_set (frozen_set l2), frozen_set (frozen_set l3)⟩
      have E4 := (HD4.out.set (b' := w.heap.size) (o := 2) (v := .int .i64 (gr + 1)) (by omega)).set (b' := w.heap.size) (o := 3) (v := .int .i64 (gt + (cols + 1))) (by omega)
      have RE : Row ((wc.setCell ⟨w.heap.size, 2, none⟩ (.int .i64 (gr + 1))).setCell ⟨w.heap.size, 3, none⟩ (.int .i64 (gt + (cols + 1)))) (.slice ga gn gcp) gx :=
        (HRL.out.setAt HD2.out.c2 (fun _ e => by cases e) _).setAt a1 (fun _ e => by cases e) _
      have P4 := E4.put (.int .i64 gc) (.slice ga gn gcp) (.int .i64 (gr + 1)) (.int .i64 (gt + (cols + 1)))
      refine bodyPost_ret (v := .tuple #[.agg #[.int .i64 gc, .slice ga gn gcp, .int .i64 (gr + 1), .int .i64 (gt + (cols + 1))], .int .i64 0]) (by simp [results, Tryz.results11, go_sem, P4.c0, P4.c1, P4.c2, P4.c3]) rfl ⟨⟨ga, gn, gcp, rfl, RE.put4 E4 (fun _ e => by cases e) _ _ _ _⟩, ?_⟩
      exact below_put4 ((BL.setCell (p := ⟨w.heap.size, 2, none⟩) (Nat.le_refl _) _).setCell (p := ⟨w.heap.size, 3, none⟩) (Nat.le_refl _) _) (by omega) _ _ _ _

/-- the program's Row -/
theorem arow_calls (F : FacD) (a b : Option Addr) (n cap m d y : Nat) (ls : List (Option Nat)) {Y : Option Nat} (w : World) (h : Row w (.slice a n cap) F.xs) (hl : Row w (.slice b m d) ls) (hy : FW y Y) :
    Calls Tryz.prog 11 #[.agg #[.int .i64 F.cols, .slice a n cap, .int .i64 F.rws, .int .i64 F.trn], .agg #[.slice b m d, .float .f64 y]] w fun e w' => FacE (rowD F ls Y) e w' ∧ Below w.heap.size w w' := by
  by_cases he : earlyD F ls Y = 0
  · cases hf : fullD F with
    | true => exact arow_no F a b n cap m d y ls w h hl hy (.inr hf)
    | false => exact arow_yes F a b n cap m d y ls w h hl hy he hf
  · exact arow_no F a b n cap m d y ls w h hl hy (.inl he)
end Go.Proofs.YtmmligbkecilfaaGreatDoor
