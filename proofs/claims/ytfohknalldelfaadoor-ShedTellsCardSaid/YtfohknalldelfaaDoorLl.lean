/- Rows taken out part by part, plainly. ShedTells, walked. -/
import Derived.Test.YtfohknalldelfaaDoorTm
import Derived.Test.YtfohknalldelfaaDoorAa
namespace Go.Proofs.YtfohknalldelfaaDoor
open Go.RowKit Lv Go.Shelf
open Ieee (double Format Datum Toward)
attribute [local go_sem] Oper.semAt_some run_store_float drewN_alloc drewN_setCell

theorem sRowD_zero {F : FacD} {ls : List (Option Nat)} {Y : Option Nat} (h : (sRowD F ls Y).2 = 0) : sEarlyD F ls Y = 0 ∧ (shedD F (ls ++ [Y])).2 = 0 := by
  by_cases h1 : sEarlyD F ls Y = 0
  · rw [sRowD_line h1] at h
    by_cases h2 : (shedD F (ls ++ [Y])).2 = 0
    · exact ⟨h1, h2⟩
    · rw [if_pos h2] at h; exact absurd h h2
  · rw [sRowD_early h1] at h; exact absurd h h1
theorem sRowD_ok {F : FacD} {ls : List (Option Nat)} {Y : Option Nat} (h : (sRowD F ls Y).2 = 0) : (sRowD F ls Y).1.ok = true ∧ (sRowD F ls Y).1.cols = F.cols ∧ (sRowD F ls Y).1.rws = F.rws - 1 ∧ (sRowD F ls Y).1.trn = F.trn + (F.cols + 1) := by
  obtain ⟨h1, h2⟩ := sRowD_zero h
  obtain ⟨e1, e2, e3⟩ := sEarly_zero h1
  obtain ⟨hok, _⟩ := early_zero e1
  obtain ⟨k1, k2, k3, k4, _⟩ := shedD_keeps h2
  obtain ⟨r0, r1, t0, t1⟩ := ok_rows hok
  obtain ⟨c1, c6⟩ := ok_cols hok
  rw [sRowD_line h1, if_neg (by simpa using h2)]
  refine ⟨?_, k2, rfl, rfl⟩
  exact checkP_rt k1 (by dsimp only; omega) (by dsimp only; omega) (by dsimp only; omega) (by dsimp only; omega)

theorem sall_part : ∀ (xs ys : List RowD) (k : Nat) (F : FacD) (G : FacD) (n : Int), sAllLoop k F (xs ++ ys) = (G, n, 0) → F.ok = true →
    ∃ P : FacD, sAllLoop k F xs = (P, ((k + xs.length : Nat) : Int), 0) ∧ sAllLoop (k + xs.length) P ys = (G, n, 0) ∧ P.ok = true
  | [], ys, k, F, G, n, h, hok => ⟨F, rfl, h, hok⟩
  | r :: xs, ys, k, F, G, n, h, hok => by
    rw [List.cons_append] at h
    unfold sAllLoop at h
    by_cases h2 : (sRowD F r.1 r.2).2 ≠ 0
    · rw [if_pos h2] at h
      simp only [Prod.mk.injEq] at h
      exact absurd h.2.2 h2
    · rw [if_neg h2] at h
      have h3 : (sRowD F r.1 r.2).2 = 0 := by simpa using h2
      obtain ⟨P, p1, p2, p3⟩ := sall_part xs ys (k + 1) _ G n h (sRowD_ok h3).1
      refine ⟨P, ?_, ?_, p3⟩
      · unfold sAllLoop
        rw [if_neg h2, p1]
        congr 2
        simp only [List.length_cons]
        omega
      · rw [List.length_cons, show k + (xs.length + 1) = k + 1 + xs.length by omega]
        exact p2
theorem sall_shift : ∀ (ys : List RowD) (k j : Nat) (F G : FacD) (n : Int), sAllLoop k F ys = (G, n, 0) → n = ((k + ys.length : Nat) : Int) ∧ sAllLoop j F ys = (G, ((j + ys.length : Nat) : Int), 0)
  | [], k, j, F, G, n, h => by
    unfold sAllLoop at h ⊢
    simp only [Prod.mk.injEq] at h
    obtain ⟨rfl, rfl, _⟩ := h
    exact ⟨rfl, rfl⟩
  | r :: ys, k, j, F, G, n, h => by
    unfold sAllLoop at h ⊢
    by_cases h2 : (sRowD F r.1 r.2).2 ≠ 0
    · rw [if_pos h2] at h
      simp only [Prod.mk.injEq] at h
      exact absurd h.2.2 h2
    · rw [if_neg h2] at h ⊢
      obtain ⟨e1, e2⟩ := sall_shift ys (k + 1) (j + 1) _ G n h
      refine ⟨by rw [e1, List.length_cons]; congr 1; omega, ?_⟩
      rw [e2, List.length_cons]
      congr 2
      simp only [Int.natCast_inj]
      omega
/-- THE PLAIN LAW of All: part by part -/
theorem sall_cut {F G : FacD} {rs : List RowD} {n : Int} (h : sAllD F rs = (G, n, 0)) (k : Nat) (hk : k ≤ rs.length) :
    ∃ P : FacD, sAllD F (rs.take k) = (P, (k : Int), 0) ∧ sAllD P (rs.drop k) = (G, ((rs.length - k : Nat) : Int), 0) := by
  unfold sAllD at h
  by_cases h1 : F.ok = false
  · rw [if_pos h1] at h
    simp only [Prod.mk.injEq] at h
    exact absurd h.2.2 (by decide)
  · rw [if_neg h1] at h
    have hok : F.ok = true := by simpa using h1
    rw [← List.take_append_drop k rs] at h
    obtain ⟨P, p1, p2, p3⟩ := sall_part _ _ _ _ _ _ h hok
    rw [Nat.zero_add, List.length_take, Nat.min_eq_left hk] at p1 p2
    refine ⟨P, by unfold sAllD; rw [if_neg h1]; exact p1, ?_⟩
    obtain ⟨_, e2⟩ := sall_shift _ _ 0 _ _ _ p2
    unfold sAllD
    rw [if_neg (by rw [p3]; decide), e2, Nat.zero_add, List.length_drop]


set_option maxRecDepth 100000 in
set_option maxHeartbeats 1000000 in
theorem shedTells_walk (w : World) (a0 a1 a2 : Addr) (LD : Laid w a0 a1 a2) (F : FacD) (a : Option Addr) (n cap : Nat) (h : Row w (.slice a n cap) F.xs) (ls : List (Option Nat)) (Y : Option Nat) (b : Option Addr) (m d y : Nat) (hl : Row w (.slice b m d) ls) (hy : FW y Y) :
    Calls Tryd.prog 4 #[.agg #[.int .i64 F.cols, .slice a n cap, .int .i64 F.rws, .int .i64 F.trn], .agg #[.slice b m d, .float .f64 y]] w fun e w' => e = .returned (.bool true) ∧ Below w.heap.size w w' := by
  have hB := ((Below.refl w.heap.size w).alloc (Nat.le_refl _) (.cells #[.int .i64 F.cols, .slice a n cap, .int .i64 F.rws, .int .i64 F.trn] 24)).alloc (by simp) (.cells #[.slice b m d, .float .f64 y] 33)
  have HR := Lib.hid h
  have HLD := Lib.hid LD
  clear LD
  have HL := Lib.hid hl
  by_cases hbig : 60 < n ∨ 20 < m
  · by_cases h1 : 60 < n
    · have h1i : (60 : Int) < (n : Int) := by omega
      clear h hl
      go_enter Tryd.func4, Tryd.ntmps4
      go_wp2_with (go_at_call 9; refine (live11_calls _ a0 a1 a2 (HLD.out.below (hB))).mono ?_; rintro e w1 ⟨rfl, hb⟩)
      go_ret
      exact ⟨rfl, hB.trans (hb.mono (by simp; omega))⟩
    · have h1i : ¬ (60 : Int) < (n : Int) := by omega
      have h2i : (20 : Int) < (m : Int) := by omega
      clear h hl hbig
      go_enter Tryd.func4, Tryd.ntmps4
      go_wp2_with (go_at_call 9; refine (live11_calls _ a0 a1 a2 (HLD.out.below (hB))).mono ?_; rintro e w1 ⟨rfl, hb⟩)
      go_ret
      exact ⟨rfl, hB.trans (hb.mono (by simp; omega))⟩
  · have h1i : ¬ (60 : Int) < (n : Int) := by omega
    have h2i : ¬ (20 : Int) < (m : Int) := by omega
    have C3 := Lib.hid ((Cells4.new w (.int .i64 F.cols) (.slice a n cap) (.int .i64 F.rws) (.int .i64 F.trn) 24).alloc (.cells #[.slice b m d, .float .f64 y] 33))
    have C4 : Hid (((w.alloc (.cells #[.int .i64 F.cols, .slice a n cap, .int .i64 F.rws, .int .i64 F.trn] 24)).alloc (.cells #[.slice b m d, .float .f64 y] 33)).cell? ⟨w.heap.size + 1, 0, none⟩ = some (.slice b m d) ∧ ((w.alloc (.cells #[.int .i64 F.cols, .slice a n cap, .int .i64 F.rws, .int .i64 F.trn] 24)).alloc (.cells #[.slice b m d, .float .f64 y] 33)).cell? ⟨w.heap.size + 1, 1, none⟩ = some (.float .f64 y)) := by
      unfold Hid
      constructor <;> simp [go_sem]
    have HB := Lib.hid hB
    have A1 := Lib.hid (fun W ld h h' => srow_calls F a b n cap m d y ls W a0 a1 a2 ld h h' hy)
    have A2 := Lib.hid (fun W h h' => rsrow_calls F a b n cap m d y ls W h h' hy)
    clear h hl hbig hB hy
    generalize sRowD F ls Y = G at *
    obtain ⟨G, t⟩ := G
    have htt : (t == t) = true := by simp
    go_enter Tryd.func4, Tryd.ntmps4
    go_wp2_with (first
      | (go_at_call 13; go_must (refine (A1.out _ (HLD.out.below HB.out) (HR.out.below HB.out) (HL.out.below HB.out)).mono ?_; rintro e w1 ⟨⟨ga, gn, gcp, rfl, hr1⟩, hb1⟩; have B1 := Lib.hid (HB.out.trans (hb1.mono (by simp; omega))); have R1 := Lib.hid hr1; have D1 := C3.out.below hb1; obtain ⟨c0, c1, c2, c3, _, _, _, _⟩ := D1; have E1 := Lib.hid (C3.out.below hb1); have hz1 := hb1.size; simp at hz1; have hy1 : w.heap.size < w1.heap.size := (by omega); have hx1 : w.heap.size + 1 < w1.heap.size := (by omega); have f0 := (hb1.cell (p := ⟨w.heap.size + 1, 0, none⟩) (by simp)).trans C4.out.1; have f1 := (hb1.cell (p := ⟨w.heap.size + 1, 1, none⟩) (by simp)).trans C4.out.2; clear hr1 hb1))
      | (go_at_call 14; go_must (refine (A2.out _ ((HR.out.below B1.out).alloc _) ((HL.out.below B1.out).alloc _)).mono ?_; rintro e w2 ⟨⟨ka, kn, kcp, rfl, hr2⟩, hb2⟩; have B2 := Lib.hid ((B1.out.alloc (by omega) (.cells #[.int .i64 G.cols, .slice ga gn gcp, .int .i64 G.rws, .int .i64 G.trn] 24)).trans (hb2.mono (by simp; omega))); have R1b := Lib.hid ((R1.out.alloc (.cells #[.int .i64 G.cols, .slice ga gn gcp, .int .i64 G.rws, .int .i64 G.trn] 24)).below hb2); have R2 := Lib.hid hr2; have D2 := (Cells4.new w1 (.int .i64 G.cols) (.slice ga gn gcp) (.int .i64 G.rws) (.int .i64 G.trn) 24).below hb2; obtain ⟨d0, d1, d2, d3, _, _, _, _⟩ := D2; have hz2 := hb2.size; simp at hz2; have hy2 : w1.heap.size < w2.heap.size := (by omega); clear hr2 hb2))
      | (go_at_call 12; go_must (refine (rsame7_calls G ga ka gn kn gcp kcp _ (R1b.out.alloc _) (R2.out.alloc _)).mono ?_; rintro e w3 ⟨rfl, hb3⟩; have B3 := Lib.hid ((B2.out.alloc (by omega) (.cells #[.int .i64 G.cols, .slice ka kn kcp, .int .i64 G.rws, .int .i64 G.trn] 24)).trans (hb3.mono (by simp; omega))); have hz3 := hb3.size; simp at hz3))
      | (go_at_call 9; refine (live11_calls _ a0 a1 a2 (HLD.out.below (B3.out))).mono ?_; rintro e w4 ⟨rfl, hb4⟩))
    go_ret
    exact ⟨by simp, B3.out.trans (hb4.mono (by omega))⟩
end Go.Proofs.YtfohknalldelfaaDoor
