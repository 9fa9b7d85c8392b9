/- A row absorbed: the reference's Row, walked. A ridge, plainly; what is refused of it, and a ridge of 0, walked, of both. -/
import Derived.Test.YtnboegeljaplbaaGreatSe
import Derived.Deep.CutRange
namespace Go.Proofs.YtnboegeljaplbaaGreat
open Go.RowKit Lv Go.Shelf
open Ieee (double Format Datum Toward)
attribute [local go_sem] Oper.semAt_some run_store_float drewN_alloc drewN_setCell

theorem early_range (F : FacD) (ls : List (Option Nat)) (Y : Option Nat) : 0 ≤ earlyD F ls Y ∧ earlyD F ls Y ≤ 3 := by
  unfold earlyD
  repeat' split
  all_goals omega

/-- behind the statement that calls Line -/
def RRowCut (w : World) (b7 b4 : Nat) (F G : FacD) (a : Option Addr) (n cap : Nat) (s8 : Value) (gb : Bool) (W : World) : Prop :=
  ∃ ga gn gcp, s8 = .bool gb ∧ Cells4 W b7 (.int .i64 G.cols) (.slice ga gn gcp) (.int .i64 G.rws) (.int .i64 G.trn) ∧ Row W (.slice ga gn gcp) G.xs ∧ Cells4 W b4 (.int .i64 0) (.slice none 0 0) (.int .i64 0) (.int .i64 0) ∧
    Cells4 W w.heap.size (.int .i64 F.cols) (.slice a n cap) (.int .i64 F.rws) (.int .i64 F.trn) ∧ b4 < b7 ∧ Below w.heap.size w W
theorem Cells4.newRow {W : World} {a : Option Addr} {n cap : Nat} {xs : List (Option Nat)} (h : Row W (.slice a n cap) xs) (o : Obj) : Row (W.alloc o) (.slice a n cap) xs := h.alloc o
end Go.Proofs.YtnboegeljaplbaaGreat
namespace Go.Proofs.YtnboegeljaplbaaGreat
open Go.RowKit Lv Go.Shelf
open Ieee (double Format Datum Toward)
attribute [local go_sem] Oper.semAt_some run_store_float drewN_alloc drewN_setCell

/-- the line of a ridge -/
def ridgeL (c j : Nat) (mu : Option Nat) : List (Option Nat) := (List.replicate (c + 1) (some 0)).set j mu
/-- n lines of a ridge, from j on -/
def ridgeLoop (c : Nat) (mu : Option Nat) : Nat → Nat → FacD → FacD × Bool
  | 0, _, G => (G, true)
  | n + 1, j, G => if (lineD G (ridgeL c j mu) j).2 = false then (fac0, false) else ridgeLoop c mu n (j + 1) (lineD G (ridgeL c j mu) j).1
/-- is a ridge refused, or 0, ahead of all? -/
def ridgeEarly (F : FacD) (mu : Option Nat) : Option (FacD × Int) :=
  if F.ok = false then some (fac0, 1) else if (outF mu || sgnF mu) = true then some (fac0, 2) else if zeroF mu = true then some (F, 0)
  else if 4096 < F.trn + F.cols * (F.cols + 1) then some (fac0, 6) else none
def ridgeD (F : FacD) (mu : Option Nat) : FacD × Int :=
  match ridgeEarly F mu with
  | some r => r
  | none => if (ridgeLoop F.cols.toNat mu F.cols.toNat 0 F).2 = false then (fac0, 2)
      else (⟨(ridgeLoop F.cols.toNat mu F.cols.toNat 0 F).1.cols, (ridgeLoop F.cols.toNat mu F.cols.toNat 0 F).1.xs, (ridgeLoop F.cols.toNat mu F.cols.toNat 0 F).1.rws, F.trn + F.cols * (F.cols + 1)⟩, 0)
theorem ridgeD_some {F : FacD} {mu : Option Nat} {r : FacD × Int} (h : ridgeEarly F mu = some r) : ridgeD F mu = r := by unfold ridgeD; rw [h]
theorem cols_sq {c : Int} (h1 : 1 ≤ c) (h6 : c ≤ 6) : 2 ≤ c * (c + 1) ∧ c * (c + 1) ≤ 42 := by
  obtain ⟨n, rfl⟩ := Int.eq_ofNat_of_zero_le (show 0 ≤ c by omega)
  have : ∀ n : Nat, n < 7 → 1 ≤ n → 2 ≤ (n : Int) * ((n : Int) + 1) ∧ (n : Int) * ((n : Int) + 1) ≤ 42 := by decide +kernel
  exact this n (by omega) (by omega)
theorem is_zero' (b : Nat) (hb : W64 b) : (FloatKind.f64.format.order b 0 == some Ordering.eq) = decide (b % 9223372036854775808 = 0) := is_zero b hb


theorem sgn_word {y : Nat} {mu : Option Nat} (hy : FW y mu) (ho : outF mu = false) : decide (9223372036854775808 ≤ y) = sgnF mu := by
  obtain ⟨_, h⟩ := hy
  cases mu with
  | none => cases ho
  | some c => obtain ⟨rfl, _⟩ := ab_some h; rfl

set_option maxRecDepth 100000 in
set_option maxHeartbeats 1000000 in
/-- what the program answers at once -/
theorem ARidge_no (F : FacD) (a : Option Addr) (n cap y : Nat) {mu : Option Nat} (w : World) (h : Row w (.slice a n cap) F.xs) (hy : FW y mu) (r : FacD × Int) (hno : ridgeEarly F mu = some r) :
    Calls Tryz.prog 15 #[.agg #[.int .i64 F.cols, .slice a n cap, .int .i64 F.rws, .int .i64 F.trn], .float .f64 y] w fun e w' => FacE r e w' ∧ Below w.heap.size w w' := by
  have hB := ((Below.refl w.heap.size w).alloc (Nat.le_refl _) (.cells #[.int .i64 F.cols, .slice a n cap, .int .i64 F.rws, .int .i64 F.trn] 28)).alloc (by simp) (.cells #[.int .i64 0, .slice none 0 0, .int .i64 0, .int .i64 0] 28)
  have L := check_calls F.cols F.rws F.trn a n cap F.xs _ (h.below hB)
  have HB := Lib.hid hB
  have HR := Lib.hid h
  unfold ridgeEarly at hno
  by_cases h1 : F.ok = false
  · rw [if_pos h1] at hno
    obtain rfl := Option.some.inj hno
    rw [show checkP F.cols F.xs F.rws F.trn = false from h1] at L
    have LH := Lib.hid L
    obtain ⟨cols, xs, rws, trn⟩ := F
    clear h1 L h hy hB hno
    have hB := HB
    clear HB
    dsimp only at *
    go_enter Tryz.func15, Tryz.ntmps15
    go_wp2_with (first | (go_at_call 28; refine LH.out.mono ?_; rintro e w1 ⟨rfl, hb⟩; obtain ⟨hq, hf⟩ := bcell hb; have hz := hb.size; simp at hz; have hz1 : w.heap.size < w1.heap.size := (by omega); have hz2 : w.heap.size + 1 < w1.heap.size := (by omega); have hC := Lib.hid (hB.out.trans (hb.mono (by simp; omega)))))
    exact bodyPost_ret (v := .tuple #[facZ, .int .i64 1]) (by simp [results, Tryz.results15, go_sem, hq, facZ]) rfl ⟨facE_no _ rfl, below_put4 hC.out (by omega) _ _ _ _⟩
  · have hok : F.ok = true := by simpa using h1
    rw [if_neg h1] at hno
    rw [show checkP F.cols F.xs F.rws F.trn = true from hok] at L
    have LH := Lib.hid L
    obtain ⟨hc1, hc6⟩ := ok_cols hok
    obtain ⟨r0, r1, t0, t1⟩ := ok_rows hok
    obtain ⟨s2, s42⟩ := cols_sq hc1 hc6
    cases ho : outF mu
    · rw [ho, Bool.false_or] at hno
      have CO := Lib.hid (fun W => out_calls y hy.1 W)
      rw [outW_F hy] at CO
      have CS := Lib.hid (fun W => signbit_calls y hy.1 W)
      rw [ho] at CO
      cases hs : sgnF mu
      · rw [hs, if_neg (by decide)] at hno
        have hsb : Hid (decide (9223372036854775808 ≤ y) = false ∨ True) := .inr trivial
        have hsg : decide (9223372036854775808 ≤ y) = false := by rw [sgn_word hy ho, hs]
        rw [hsg] at CS
        have hz0 := is_zero' y hy.1
        rw [zeroW_F hy] at hz0
        cases hzz : zeroF mu
        · rw [hzz] at hno hz0
          rw [if_neg (by decide)] at hno
          by_cases hf : 4096 < F.trn + F.cols * (F.cols + 1)
          · rw [if_pos hf] at hno
            obtain rfl := Option.some.inj hno
            obtain ⟨cols, xs, rws, trn⟩ := F
            clear h1 L h hy hB hno hok ho hs hzz hsb
            have hB := HB
            clear HB
            dsimp only at *
            go_enter Tryz.func15, Tryz.ntmps15
            go_wp2_with (first | (go_at_call 28; refine LH.out.mono ?_; rintro e w1 ⟨rfl, hb⟩; obtain ⟨hq, hf⟩ := bcell hb; have hz := hb.size; simp at hz; have hz1 : w.heap.size < w1.heap.size := (by omega); have hz2 : w.heap.size + 1 < w1.heap.size := (by omega); have hC := Lib.hid (hB.out.trans (hb.mono (by simp; omega)))) | (go_at_call 44; refine (CO.out _).mono ?_; rintro e w3 ⟨rfl, rfl⟩) | (go_at_call 45; refine (CS.out _).mono ?_; rintro e w3 ⟨rfl, rfl⟩))
            exact bodyPost_ret (v := .tuple #[facZ, .int .i64 6]) (by simp [results, Tryz.results15, go_sem, hq, facZ]) rfl ⟨facE_no _ rfl, below_put4 hC.out (by omega) _ _ _ _⟩
          · rw [if_neg hf] at hno
            cases hno
        · rw [hzz] at hno hz0
          rw [if_pos rfl] at hno
          obtain rfl := Option.some.inj hno
          obtain ⟨cols, xs, rws, trn⟩ := F
          clear h1 L h hy hB hok ho hs hzz hsb
          have hB := HB
          clear HB hno
          dsimp only at *
          go_enter Tryz.func15, Tryz.ntmps15
          go_wp2_with (first | (go_at_call 28; refine LH.out.mono ?_; rintro e w1 ⟨rfl, hb⟩; obtain ⟨hq, hf⟩ := bcell hb; have hz := hb.size; simp at hz; have hz1 : w.heap.size < w1.heap.size := (by omega); have hz2 : w.heap.size + 1 < w1.heap.size := (by omega); have hC := Lib.hid (hB.out.trans (hb.mono (by simp; omega)))) | (go_at_call 44; refine (CO.out _).mono ?_; rintro e w3 ⟨rfl, rfl⟩) | (go_at_call 45; refine (CS.out _).mono ?_; rintro e w3 ⟨rfl, rfl⟩))
          have D := (Cells4.new (w.alloc (.cells #[.int .i64 cols, .slice a n cap, .int .i64 rws, .int .i64 trn] 28)) (.int .i64 0) (.slice none 0 0) (.int .i64 0) (.int .i64 0) 28).below hb
          have D2 : Cells4 w1 (w.heap.size + 1) (.int .i64 0) (.slice none 0 0) (.int .i64 0) (.int .i64 0) := by simpa using D
          exact bodyPost_ret (v := .tuple #[.agg #[.int .i64 cols, .slice a n cap, .int .i64 rws, .int .i64 trn], .int .i64 0]) (by simp [results, Tryz.results15, go_sem, hq]) rfl ⟨⟨a, n, cap, rfl, (HR.out.below hC.out).put4 D2 slice_ne _ _ _ _⟩, below_put4 hC.out (by omega) _ _ _ _⟩
      · rw [hs, if_pos rfl] at hno
        obtain rfl := Option.some.inj hno
        have hsg : decide (9223372036854775808 ≤ y) = true := by rw [sgn_word hy ho, hs]
        rw [hsg] at CS
        obtain ⟨cols, xs, rws, trn⟩ := F
        clear h1 L h hy hB hno hok ho hs
        have hB := HB
        clear HB
        dsimp only at *
        go_enter Tryz.func15, Tryz.ntmps15
        go_wp2_with (first | (go_at_call 28; refine LH.out.mono ?_; rintro e w1 ⟨rfl, hb⟩; obtain ⟨hq, hf⟩ := bcell hb; have hz := hb.size; simp at hz; have hz1 : w.heap.size < w1.heap.size := (by omega); have hz2 : w.heap.size + 1 < w1.heap.size := (by omega); have hC := Lib.hid (hB.out.trans (hb.mono (by simp; omega)))) | (go_at_call 44; refine (CO.out _).mono ?_; rintro e w3 ⟨rfl, rfl⟩) | (go_at_call 45; refine (CS.out _).mono ?_; rintro e w3 ⟨rfl, rfl⟩))
        exact bodyPost_ret (v := .tuple #[facZ, .int .i64 2]) (by simp [results, Tryz.results15, go_sem, hq, facZ]) rfl ⟨facE_no _ rfl, below_put4 hC.out (by omega) _ _ _ _⟩
    · rw [ho, Bool.true_or, if_pos rfl] at hno
      obtain rfl := Option.some.inj hno
      have CO := Lib.hid (fun W => out_calls y hy.1 W)
      rw [outW_F hy] at CO
      have CS := Lib.hid (fun W => signbit_calls y hy.1 W)
      rw [ho] at CO
      obtain ⟨cols, xs, rws, trn⟩ := F
      clear h1 L h hy hB hno hok ho
      have hB := HB
      clear HB
      dsimp only at *
      go_enter Tryz.func15, Tryz.ntmps15
      go_wp2_with (first | (go_at_call 28; refine LH.out.mono ?_; rintro e w1 ⟨rfl, hb⟩; obtain ⟨hq, hf⟩ := bcell hb; have hz := hb.size; simp at hz; have hz1 : w.heap.size < w1.heap.size := (by omega); have hz2 : w.heap.size + 1 < w1.heap.size := (by omega); have hC := Lib.hid (hB.out.trans (hb.mono (by simp; omega)))) | (go_at_call 44; refine (CO.out _).mono ?_; rintro e w3 ⟨rfl, rfl⟩) | (go_at_call 45; refine (CS.out _).mono ?_; rintro e w3 ⟨rfl, rfl⟩))
      exact bodyPost_ret (v := .tuple #[facZ, .int .i64 2]) (by simp [results, Tryz.results15, go_sem, hq, facZ]) rfl ⟨facE_no _ rfl, below_put4 hC.out (by omega) _ _ _ _⟩

end Go.Proofs.YtnboegeljaplbaaGreat
