/- A row absorbed: the reference's Row, walked. -/
import Derived.Test.YtaabfjfaljhjmaaSe
import Derived.Deep.CutRange
namespace Go.Proofs.Ytaabfjfaljhjmaa
open Go.RowKit Lv Go.Shelf
open Ieee (double Format Datum Toward)
attribute [local go_sem] Oper.semAt_some run_store_float drewN_alloc drewN_setCell

theorem early_range (F : FacD) (ls : List (Option Nat)) (Y : Option Nat) : 0 ≤ earlyD F ls Y ∧ earlyD F ls Y ≤ 3 := by
  unfold earlyD
  repeat' split
  all_goals omega

set_option maxRecDepth 100000 in
set_option maxHeartbeats 1000000 in
/-- what the reference refuses -/
theorem rarow_no (F : FacD) (a b : Option Addr) (n cap m d y : Nat) (ls : List (Option Nat)) {Y : Option Nat} (w : World) (h : Row w (.slice a n cap) F.xs) (hl : Row w (.slice b m d) ls) (hy : FW y Y) (hno : earlyD F ls Y ≠ 0 ∨ fullD F = true) :
    Calls Try.prog 30 #[.agg #[.int .i64 F.cols, .slice a n cap, .int .i64 F.rws, .int .i64 F.trn], .agg #[.slice b m d, .float .f64 y]] w fun e w' => FacE (rowD F ls Y) e w' ∧ Below w.heap.size w w' := by
  have hB := (((Below.refl w.heap.size w).alloc (Nat.le_refl _) (.cells #[.int .i64 F.cols, .slice a n cap, .int .i64 F.rws, .int .i64 F.trn] 24)).alloc (by simp) (.cells #[.slice b m d, .float .f64 y] 45)).alloc (by simp; omega) (.cells #[.int .i64 0, .slice none 0 0, .int .i64 0, .int .i64 0] 24)
  have L := rearly_calls F a b n cap m d y ls _ (h.below hB) (hl.below hB) hy
  obtain ⟨g0, g3⟩ := early_range F ls Y
  have HB := Lib.hid hB
  by_cases he : earlyD F ls Y = 0
  · obtain ⟨hok, _, _, _⟩ := early_zero he
    have e3 : fullD F = true := hno.resolve_left (fun hh => hh he)
    rw [rowD_full he e3]
    rw [he] at L
    have LH := Lib.hid L
    obtain ⟨hc1, hc6⟩ := ok_cols hok
    obtain ⟨r0, r1, t0, t1⟩ := ok_rows hok
    unfold fullD at e3
    obtain ⟨cols, xs, rws, trn⟩ := F
    dsimp only at *
    by_cases hr : rws = 200
    · have hr2 : 200 ≤ rws := by omega
      clear he e3 L h hl hy hno hok hB hr g0 g3
      have hB := HB
      clear HB
      go_enter Try.func30, Try.ntmps30
      go_wp2_with (first | (go_at_call 36; refine LH.out.mono ?_; rintro e w1 ⟨rfl, hb⟩; obtain ⟨hq, hf⟩ := bcell hb; have hz := hb.size; simp at hz; have hz1 : w.heap.size < w1.heap.size := (by omega); have hz2 : w.heap.size + 1 < w1.heap.size := (by omega); have hz3 : w.heap.size + 1 + 1 < w1.heap.size := (by omega); have hC := Lib.hid (hB.out.trans (hb.mono (by simp; omega)))))
      exact bodyPost_ret (v := .tuple #[facZ, .int .i64 6]) (by simp [results, Try.results30, go_sem, hq, facZ]) rfl ⟨facE_no _ rfl, below_put4 hC.out (by omega) _ _ _ _⟩
    · have hr2 : ¬ 200 ≤ rws := by omega
      have ht : 4096 < trn + (cols + 1) := by simpa [hr] using e3
      have ht2 : 4096 < trn + cols + 1 := by omega
      clear he e3 L h hl hy hno hok hB hr g0 g3 ht
      have hB := HB
      clear HB
      go_enter Try.func30, Try.ntmps30
      go_wp2_with (first | (go_at_call 36; refine LH.out.mono ?_; rintro e w1 ⟨rfl, hb⟩; obtain ⟨hq, hf⟩ := bcell hb; have hz := hb.size; simp at hz; have hz1 : w.heap.size < w1.heap.size := (by omega); have hz2 : w.heap.size + 1 < w1.heap.size := (by omega); have hz3 : w.heap.size + 1 + 1 < w1.heap.size := (by omega); have hC := Lib.hid (hB.out.trans (hb.mono (by simp; omega)))))
      exact bodyPost_ret (v := .tuple #[facZ, .int .i64 6]) (by simp [results, Try.results30, go_sem, hq, facZ]) rfl ⟨facE_no _ rfl, below_put4 hC.out (by omega) _ _ _ _⟩
  · rw [rowD_early rfl he]
    have hne : (earlyD F ls Y != 0) = true := by simpa using he
    have LH := Lib.hid L
    clear L
    generalize earlyD F ls Y = x at *
    obtain ⟨cols, xs, rws, trn⟩ := F
    dsimp only at *
    clear he h hl hy hno hB
    have hB := HB
    clear HB
    go_enter Try.func30, Try.ntmps30
    go_wp2_with (first | (go_at_call 36; refine LH.out.mono ?_; rintro e w1 ⟨rfl, hb⟩; obtain ⟨hq, hf⟩ := bcell hb; have hz := hb.size; simp at hz; have hz1 : w.heap.size < w1.heap.size := (by omega); have hz2 : w.heap.size + 1 < w1.heap.size := (by omega); have hz3 : w.heap.size + 1 + 1 < w1.heap.size := (by omega); have hC := Lib.hid (hB.out.trans (hb.mono (by simp; omega)))))
    exact bodyPost_ret (v := .tuple #[facZ, .int .i64 x]) (by simp [results, Try.results30, go_sem, hq, facZ]) rfl ⟨facE_no _ rfl, below_put4 hC.out (by omega) _ _ _ _⟩

/-- behind the statement that calls Line -/
def RRowCut (w : World) (b7 b4 : Nat) (F G : FacD) (a : Option Addr) (n cap : Nat) (s8 : Value) (gb : Bool) (W : World) : Prop :=
  ∃ ga gn gcp, s8 = .bool gb ∧ Cells4 W b7 (.int .i64 G.cols) (.slice ga gn gcp) (.int .i64 G.rws) (.int .i64 G.trn) ∧ Row W (.slice ga gn gcp) G.xs ∧ Cells4 W b4 (.int .i64 0) (.slice none 0 0) (.int .i64 0) (.int .i64 0) ∧
    Cells4 W w.heap.size (.int .i64 F.cols) (.slice a n cap) (.int .i64 F.rws) (.int .i64 F.trn) ∧ b4 < b7 ∧ Below w.heap.size w W
theorem Cells4.newRow {W : World} {a : Option Addr} {n cap : Nat} {xs : List (Option Nat)} (h : Row W (.slice a n cap) xs) (o : Obj) : Row (W.alloc o) (.slice a n cap) xs := h.alloc o
end Go.Proofs.Ytaabfjfaljhjmaa
