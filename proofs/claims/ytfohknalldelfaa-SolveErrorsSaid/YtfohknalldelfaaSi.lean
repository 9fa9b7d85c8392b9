/- A ridge, plainly; what is refused of it, and a ridge of 0, walked, of both. -/
import Derived.Test.YtfohknalldelfaaSg
namespace Go.Proofs.Ytfohknalldelfaa
open Go.RowKit Lv Go.Shelf
open Ieee (double Format Datum Toward)
attribute [local go_sem] Oper.semAt_some run_store_float drewN_alloc drewN_setCell

/-- the line of a ridge -/
def ridgeL (c j : Nat) (mu : Option Nat) : List (Option Nat) := (List.replicate (c + 1) (some 0)).set j mu
/-- n lines of a ridge, from j on -/
def ridgeLoop (c : Nat) (mu : Option Nat) : Nat → Nat → FacD → FacD × Bool
  | 0, _, G => (G, true)
  | n + 1, j, G => if (lineD G (ridgeL c j mu) j).2 = false then (fac0, false) else ridgeLoop c mu n (j + 1) (lineD G (ridgeL c j mu) j).1
/-- is a ridge refused, or 0, ahead of all? -/
def ridgeEarly (F : FacD) (mu : Option Nat) : Option (FacD × Int) :=
  if F.ok = false then some (fac0, 1) else if (outF mu || sgnF mu) = true then some (fac0, 2) else if zeroF mu = true then some (F, 0)
  else if 4096 < F.trn + F.cols * (F.cols + 1) then some (fac0, 6) else none
def ridgeD (F : FacD) (mu : Option Nat) : FacD × Int :=
  match ridgeEarly F mu with
  | some r => r
  | none => if (ridgeLoop F.cols.toNat mu F.cols.toNat 0 F).2 = false then (fac0, 2)
      else (⟨(ridgeLoop F.cols.toNat mu F.cols.toNat 0 F).1.cols, (ridgeLoop F.cols.toNat mu F.cols.toNat 0 F).1.xs, (ridgeLoop F.cols.toNat mu F.cols.toNat 0 F).1.rws, F.trn + F.cols * (F.cols + 1)⟩, 0)
theorem ridgeD_some {F : FacD} {mu : Option Nat} {r : FacD × Int} (h : ridgeEarly F mu = some r) : ridgeD F mu = r := by unfold ridgeD; rw [h]
theorem cols_sq {c : Int} (h1 : 1 ≤ c) (h6 : c ≤ 6) : 2 ≤ c * (c + 1) ∧ c * (c + 1) ≤ 42 := by
  obtain ⟨n, rfl⟩ := Int.eq_ofNat_of_zero_le (show 0 ≤ c by omega)
  have : ∀ n : Nat, n < 7 → 1 ≤ n → 2 ≤ (n : Int) * ((n : Int) + 1) ∧ (n : Int) * ((n : Int) + 1) ≤ 42 := by decide +kernel
  exact this n (by omega) (by omega)
theorem is_zero' (b : Nat) (hb : W64 b) : (FloatKind.f64.format.order b 0 == some Ordering.eq) = decide (b % 9223372036854775808 = 0) := is_zero b hb


theorem sgn_word {y : Nat} {mu : Option Nat} (hy : FW y mu) (ho : outF mu = false) : decide (9223372036854775808 ≤ y) = sgnF mu := by
  obtain ⟨_, h⟩ := hy
  cases mu with
  | none => cases ho
  | some c => obtain ⟨rfl, _⟩ := ab_some h; rfl

set_option maxRecDepth 100000 in
set_option maxHeartbeats 1000000 in
/-- what the program answers at once -/
theorem ARidge_no (F : FacD) (a : Option Addr) (n cap y : Nat) {mu : Option Nat} (w : World) (h : Row w (.slice a n cap) F.xs) (hy : FW y mu) (r : FacD × Int) (hno : ridgeEarly F mu = some r) :
    Calls Try.prog 26 #[.agg #[.int .i64 F.cols, .slice a n cap, .int .i64 F.rws, .int .i64 F.trn], .float .f64 y] w fun e w' => FacE r e w' ∧ Below w.heap.size w w' := by
  have hB := ((Below.refl w.heap.size w).alloc (Nat.le_refl _) (.cells #[.int .i64 F.cols, .slice a n cap, .int .i64 F.rws, .int .i64 F.trn] 24)).alloc (by simp) (.cells #[.int .i64 0, .slice none 0 0, .int .i64 0, .int .i64 0] 24)
  have L := check_calls F.cols F.rws F.trn a n cap F.xs _ (h.below hB)
  have HB := Lib.hid hB
  have HR := Lib.hid h
  unfold ridgeEarly at hno
  by_cases h1 : F.ok = false
  · rw [if_pos h1] at hno
    obtain rfl := Option.some.inj hno
    rw [show checkP F.cols F.xs F.rws F.trn = false from h1] at L
    have LH := Lib.hid L
    obtain ⟨cols, xs, rws, trn⟩ := F
    clear h1 L h hy hB hno
    have hB := HB
    clear HB
    dsimp only at *
    go_enter Try.func26, Try.ntmps26
    go_wp2_with (first | (go_at_call 18; refine LH.out.mono ?_; rintro e w1 ⟨rfl, hb⟩; obtain ⟨hq, hf⟩ := bcell hb; have hz := hb.size; simp at hz; have hz1 : w.heap.size < w1.heap.size := (by omega); have hz2 : w.heap.size + 1 < w1.heap.size := (by omega); have hC := Lib.hid (hB.out.trans (hb.mono (by simp; omega)))))
    exact bodyPost_ret (v := .tuple #[facZ, .int .i64 1]) (by simp [results, Try.results26, go_sem, hq, facZ]) rfl ⟨facE_no _ rfl, below_put4 hC.out (by omega) _ _ _ _⟩
  · have hok : F.ok = true := by simpa using h1
    rw [if_neg h1] at hno
    rw [show checkP F.cols F.xs F.rws F.trn = true from hok] at L
    have LH := Lib.hid L
    obtain ⟨hc1, hc6⟩ := ok_cols hok
    obtain ⟨r0, r1, t0, t1⟩ := ok_rows hok
    obtain ⟨s2, s42⟩ := cols_sq hc1 hc6
    cases ho : outF mu
    · rw [ho, Bool.false_or] at hno
      have CO := Lib.hid (fun W => out_calls y hy.1 W)
      rw [outW_F hy] at CO
      have CS := Lib.hid (fun W => signbit_calls y hy.1 W)
      rw [ho] at CO
      cases hs : sgnF mu
      · rw [hs, if_neg (by decide)] at hno
        have hsb : Hid (decide (9223372036854775808 ≤ y) = false ∨ True) := .inr trivial
        have hsg : decide (9223372036854775808 ≤ y) = false := by rw [sgn_word hy ho, hs]
        rw [hsg] at CS
        have hz0 := is_zero' y hy.1
        rw [zeroW_F hy] at hz0
        cases hzz : zeroF mu
        · rw [hzz] at hno hz0
          rw [if_neg (by decide)] at hno
          by_cases hf : 4096 < F.trn + F.cols * (F.cols + 1)
          · rw [if_pos hf] at hno
            obtain rfl := Option.some.inj hno
            obtain ⟨cols, xs, rws, trn⟩ := F
            clear h1 L h hy hB hno hok ho hs hzz hsb
            have hB := HB
            clear HB
            dsimp only at *
            go_enter Try.func26, Try.ntmps26
            go_wp2_with (first | (go_at_call 18; refine LH.out.mono ?_; rintro e w1 ⟨rfl, hb⟩; obtain ⟨hq, hf⟩ := bcell hb; have hz := hb.size; simp at hz; have hz1 : w.heap.size < w1.heap.size := (by omega); have hz2 : w.heap.size + 1 < w1.heap.size := (by omega); have hC := Lib.hid (hB.out.trans (hb.mono (by simp; omega)))) | (go_at_call 43; refine (CO.out _).mono ?_; rintro e w3 ⟨rfl, rfl⟩) | (go_at_call 38; refine (CS.out _).mono ?_; rintro e w3 ⟨rfl, rfl⟩))
            exact bodyPost_ret (v := .tuple #[facZ, .int .i64 6]) (by simp [results, Try.results26, go_sem, hq, facZ]) rfl ⟨facE_no _ rfl, below_put4 hC.out (by omega) _ _ _ _⟩
          · rw [if_neg hf] at hno
            cases hno
        · rw [hzz] at hno hz0
          rw [if_pos rfl] at hno
          obtain rfl := Option.some.inj hno
          obtain ⟨cols, xs, rws, trn⟩ := F
          clear h1 L h hy hB hok ho hs hzz hsb
          have hB := HB
          clear HB hno
          dsimp only at *
          go_enter Try.func26, Try.ntmps26
          go_wp2_with (first | (go_at_call 18; refine LH.out.mono ?_; rintro e w1 ⟨rfl, hb⟩; obtain ⟨hq, hf⟩ := bcell hb; have hz := hb.size; simp at hz; have hz1 : w.heap.size < w1.heap.size := (by omega); have hz2 : w.heap.size + 1 < w1.heap.size := (by omega); have hC := Lib.hid (hB.out.trans (hb.mono (by simp; omega)))) | (go_at_call 43; refine (CO.out _).mono ?_; rintro e w3 ⟨rfl, rfl⟩) | (go_at_call 38; refine (CS.out _).mono ?_; rintro e w3 ⟨rfl, rfl⟩))
          have D := (Cells4.new (w.alloc (.cells #[.int .i64 cols, .slice a n cap, .int .i64 rws, .int .i64 trn] 24)) (.int .i64 0) (.slice none 0 0) (.int .i64 0) (.int .i64 0) 24).below hb
          have D2 : Cells4 w1 (w.heap.size + 1) (.int .i64 0) (.slice none 0 0) (.int .i64 0) (.int .i64 0) := by simpa using D
          exact bodyPost_ret (v := .tuple #[.agg #[.int .i64 cols, .slice a n cap, .int .i64 rws, .int .i64 trn], .int .i64 0]) (by simp [results, Try.results26, go_sem, hq]) rfl ⟨⟨a, n, cap, rfl, (HR.out.below hC.out).put4 D2 slice_ne _ _ _ _⟩, below_put4 hC.out (by omega) _ _ _ _⟩
      · rw [hs, if_pos rfl] at hno
        obtain rfl := Option.some.inj hno
        have hsg : decide (9223372036854775808 ≤ y) = true := by rw [sgn_word hy ho, hs]
        rw [hsg] at CS
        obtain ⟨cols, xs, rws, trn⟩ := F
        clear h1 L h hy hB hno hok ho hs
        have hB := HB
        clear HB
        dsimp only at *
        go_enter Try.func26, Try.ntmps26
        go_wp2_with (first | (go_at_call 18; refine LH.out.mono ?_; rintro e w1 ⟨rfl, hb⟩; obtain ⟨hq, hf⟩ := bcell hb; have hz := hb.size; simp at hz; have hz1 : w.heap.size < w1.heap.size := (by omega); have hz2 : w.heap.size + 1 < w1.heap.size := (by omega); have hC := Lib.hid (hB.out.trans (hb.mono (by simp; omega)))) | (go_at_call 43; refine (CO.out _).mono ?_; rintro e w3 ⟨rfl, rfl⟩) | (go_at_call 38; refine (CS.out _).mono ?_; rintro e w3 ⟨rfl, rfl⟩))
        exact bodyPost_ret (v := .tuple #[facZ, .int .i64 2]) (by simp [results, Try.results26, go_sem, hq, facZ]) rfl ⟨facE_no _ rfl, below_put4 hC.out (by omega) _ _ _ _⟩
    · rw [ho, Bool.true_or, if_pos rfl] at hno
      obtain rfl := Option.some.inj hno
      have CO := Lib.hid (fun W => out_calls y hy.1 W)
      rw [outW_F hy] at CO
      have CS := Lib.hid (fun W => signbit_calls y hy.1 W)
      rw [ho] at CO
      obtain ⟨cols, xs, rws, trn⟩ := F
      clear h1 L h hy hB hno hok ho
      have hB := HB
      clear HB
      dsimp only at *
      go_enter Try.func26, Try.ntmps26
      go_wp2_with (first | (go_at_call 18; refine LH.out.mono ?_; rintro e w1 ⟨rfl, hb⟩; obtain ⟨hq, hf⟩ := bcell hb; have hz := hb.size; simp at hz; have hz1 : w.heap.size < w1.heap.size := (by omega); have hz2 : w.heap.size + 1 < w1.heap.size := (by omega); have hC := Lib.hid (hB.out.trans (hb.mono (by simp; omega)))) | (go_at_call 43; refine (CO.out _).mono ?_; rintro e w3 ⟨rfl, rfl⟩) | (go_at_call 38; refine (CS.out _).mono ?_; rintro e w3 ⟨rfl, rfl⟩))
      exact bodyPost_ret (v := .tuple #[facZ, .int .i64 2]) (by simp [results, Try.results26, go_sem, hq, facZ]) rfl ⟨facE_no _ rfl, below_put4 hC.out (by omega) _ _ _ _⟩

set_option maxRecDepth 100000 in
set_option maxHeartbeats 1000000 in
/-- what the reference answers at once -/
theorem rARidge_no (F : FacD) (a : Option Addr) (n cap y : Nat) {mu : Option Nat} (w : World) (h : Row w (.slice a n cap) F.xs) (hy : FW y mu) (r : FacD × Int) (hno : ridgeEarly F mu = some r) :
    Calls Try.prog 27 #[.agg #[.int .i64 F.cols, .slice a n cap, .int .i64 F.rws, .int .i64 F.trn], .float .f64 y] w fun e w' => FacE r e w' ∧ Below w.heap.size w w' := by
  have hB := ((Below.refl w.heap.size w).alloc (Nat.le_refl _) (.cells #[.int .i64 F.cols, .slice a n cap, .int .i64 F.rws, .int .i64 F.trn] 24)).alloc (by simp) (.cells #[.int .i64 0, .slice none 0 0, .int .i64 0, .int .i64 0] 24)
  have L := rcheck_calls F.cols F.rws F.trn a n cap F.xs _ (h.below hB)
  have HB := Lib.hid hB
  have HR := Lib.hid h
  unfold ridgeEarly at hno
  by_cases h1 : F.ok = false
  · rw [if_pos h1] at hno
    obtain rfl := Option.some.inj hno
    rw [show checkP F.cols F.xs F.rws F.trn = false from h1] at L
    have LH := Lib.hid L
    obtain ⟨cols, xs, rws, trn⟩ := F
    clear h1 L h hy hB hno
    have hB := HB
    clear HB
    dsimp only at *
    go_enter Try.func27, Try.ntmps27
    go_wp2_with (first | (go_at_call 14; refine LH.out.mono ?_; rintro e w1 ⟨rfl, hb⟩; obtain ⟨hq, hf⟩ := bcell hb; have hz := hb.size; simp at hz; have hz1 : w.heap.size < w1.heap.size := (by omega); have hz2 : w.heap.size + 1 < w1.heap.size := (by omega); have hC := Lib.hid (hB.out.trans (hb.mono (by simp; omega)))))
    exact bodyPost_ret (v := .tuple #[facZ, .int .i64 1]) (by simp [results, Try.results27, go_sem, hq, facZ]) rfl ⟨facE_no _ rfl, below_put4 hC.out (by omega) _ _ _ _⟩
  · have hok : F.ok = true := by simpa using h1
    rw [if_neg h1] at hno
    rw [show checkP F.cols F.xs F.rws F.trn = true from hok] at L
    have LH := Lib.hid L
    obtain ⟨hc1, hc6⟩ := ok_cols hok
    obtain ⟨r0, r1, t0, t1⟩ := ok_rows hok
    obtain ⟨s2, s42⟩ := cols_sq hc1 hc6
    cases ho : outF mu
    · rw [ho, Bool.false_or] at hno
      have CO := Lib.hid (fun W => rIn_calls y hy.1 W)
      have hio : inW y = !outF mu := by rw [← outW_F hy]; unfold outW; rw [Bool.not_not]
      rw [hio] at CO
      obtain ⟨sq, sr, eS⟩ := splV_neg y
      have CS := Lib.hid (fun W => rSplit_calls y hy.1 W)
      rw [eS, neg_F hy] at CS
      generalize kindW y = ky at *
      rw [ho] at CO
      cases hs : sgnF mu
      · rw [hs, if_neg (by decide)] at hno
        have hsb : Hid (decide (9223372036854775808 ≤ y) = false ∨ True) := .inr trivial
        rw [hs] at CS
        have hz0 := is_zero' y hy.1
        rw [zeroW_F hy] at hz0
        cases hzz : zeroF mu
        · rw [hzz] at hno hz0
          rw [if_neg (by decide)] at hno
          by_cases hf : 4096 < F.trn + F.cols * (F.cols + 1)
          · rw [if_pos hf] at hno
            obtain rfl := Option.some.inj hno
            obtain ⟨cols, xs, rws, trn⟩ := F
            clear h1 L h hy hB hno hok ho hs hzz hsb
            have hB := HB
            clear HB
            dsimp only at *
            go_enter Try.func27, Try.ntmps27
            go_wp2_with (first | (go_at_call 14; refine LH.out.mono ?_; rintro e w1 ⟨rfl, hb⟩; obtain ⟨hq, hf⟩ := bcell hb; have hz := hb.size; simp at hz; have hz1 : w.heap.size < w1.heap.size := (by omega); have hz2 : w.heap.size + 1 < w1.heap.size := (by omega); have hC := Lib.hid (hB.out.trans (hb.mono (by simp; omega)))) | (go_at_call 32; refine (CS.out _).mono ?_; rintro e w3 ⟨rfl, rfl⟩) | (go_at_call 45; refine (CO.out _).mono ?_; rintro e w3 ⟨rfl, rfl⟩))
            exact bodyPost_ret (v := .tuple #[facZ, .int .i64 6]) (by simp [results, Try.results27, go_sem, hq, facZ]) rfl ⟨facE_no _ rfl, below_put4 hC.out (by omega) _ _ _ _⟩
          · rw [if_neg hf] at hno
            cases hno
        · rw [hzz] at hno hz0
          rw [if_pos rfl] at hno
          obtain rfl := Option.some.inj hno
          obtain ⟨cols, xs, rws, trn⟩ := F
          clear h1 L h hy hB hok ho hs hzz hsb
          have hB := HB
          clear HB hno
          dsimp only at *
          go_enter Try.func27, Try.ntmps27
          go_wp2_with (first | (go_at_call 14; refine LH.out.mono ?_; rintro e w1 ⟨rfl, hb⟩; obtain ⟨hq, hf⟩ := bcell hb; have hz := hb.size; simp at hz; have hz1 : w.heap.size < w1.heap.size := (by omega); have hz2 : w.heap.size + 1 < w1.heap.size := (by omega); have hC := Lib.hid (hB.out.trans (hb.mono (by simp; omega)))) | (go_at_call 32; refine (CS.out _).mono ?_; rintro e w3 ⟨rfl, rfl⟩) | (go_at_call 45; refine (CO.out _).mono ?_; rintro e w3 ⟨rfl, rfl⟩))
          have D := (Cells4.new (w.alloc (.cells #[.int .i64 cols, .slice a n cap, .int .i64 rws, .int .i64 trn] 24)) (.int .i64 0) (.slice none 0 0) (.int .i64 0) (.int .i64 0) 24).below hb
          have D2 : Cells4 w1 (w.heap.size + 1) (.int .i64 0) (.slice none 0 0) (.int .i64 0) (.int .i64 0) := by simpa using D
          exact bodyPost_ret (v := .tuple #[.agg #[.int .i64 cols, .slice a n cap, .int .i64 rws, .int .i64 trn], .int .i64 0]) (by simp [results, Try.results27, go_sem, hq]) rfl ⟨⟨a, n, cap, rfl, (HR.out.below hC.out).put4 D2 slice_ne _ _ _ _⟩, below_put4 hC.out (by omega) _ _ _ _⟩
      · rw [hs, if_pos rfl] at hno
        obtain rfl := Option.some.inj hno
        rw [hs] at CS
        obtain ⟨cols, xs, rws, trn⟩ := F
        clear h1 L h hy hB hno hok ho hs
        have hB := HB
        clear HB
        dsimp only at *
        go_enter Try.func27, Try.ntmps27
        go_wp2_with (first | (go_at_call 14; refine LH.out.mono ?_; rintro e w1 ⟨rfl, hb⟩; obtain ⟨hq, hf⟩ := bcell hb; have hz := hb.size; simp at hz; have hz1 : w.heap.size < w1.heap.size := (by omega); have hz2 : w.heap.size + 1 < w1.heap.size := (by omega); have hC := Lib.hid (hB.out.trans (hb.mono (by simp; omega)))) | (go_at_call 32; refine (CS.out _).mono ?_; rintro e w3 ⟨rfl, rfl⟩) | (go_at_call 45; refine (CO.out _).mono ?_; rintro e w3 ⟨rfl, rfl⟩))
        exact bodyPost_ret (v := .tuple #[facZ, .int .i64 2]) (by simp [results, Try.results27, go_sem, hq, facZ]) rfl ⟨facE_no _ rfl, below_put4 hC.out (by omega) _ _ _ _⟩
    · rw [ho, Bool.true_or, if_pos rfl] at hno
      obtain rfl := Option.some.inj hno
      have CO := Lib.hid (fun W => rIn_calls y hy.1 W)
      have hio : inW y = !outF mu := by rw [← outW_F hy]; unfold outW; rw [Bool.not_not]
      rw [hio] at CO
      obtain ⟨sq, sr, eS⟩ := splV_neg y
      have CS := Lib.hid (fun W => rSplit_calls y hy.1 W)
      rw [eS, neg_F hy] at CS
      generalize kindW y = ky at *
      rw [ho] at CO
      obtain ⟨cols, xs, rws, trn⟩ := F
      clear h1 L h hy hB hno hok ho
      have hB := HB
      clear HB
      dsimp only at *
      go_enter Try.func27, Try.ntmps27
      go_wp2_with (first | (go_at_call 14; refine LH.out.mono ?_; rintro e w1 ⟨rfl, hb⟩; obtain ⟨hq, hf⟩ := bcell hb; have hz := hb.size; simp at hz; have hz1 : w.heap.size < w1.heap.size := (by omega); have hz2 : w.heap.size + 1 < w1.heap.size := (by omega); have hC := Lib.hid (hB.out.trans (hb.mono (by simp; omega)))) | (go_at_call 32; refine (CS.out _).mono ?_; rintro e w3 ⟨rfl, rfl⟩) | (go_at_call 45; refine (CO.out _).mono ?_; rintro e w3 ⟨rfl, rfl⟩))
      exact bodyPost_ret (v := .tuple #[facZ, .int .i64 2]) (by simp [results, Try.results27, go_sem, hq, facZ]) rfl ⟨facE_no _ rfl, below_put4 hC.out (by omega) _ _ _ _⟩
end Go.Proofs.Ytfohknalldelfaa
