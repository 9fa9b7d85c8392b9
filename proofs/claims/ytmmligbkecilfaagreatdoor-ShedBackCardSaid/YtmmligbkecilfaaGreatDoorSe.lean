/- A row absorbed: the program's Row and the reference's, walked. -/
import Derived.Test.YtmmligbkecilfaaGreatDoorSd
namespace Go.Proofs.YtmmligbkecilfaaGreatDoor
open Go.RowKit Lv Go.Shelf
open Ieee (double Format Datum Toward)
attribute [local go_sem] Oper.semAt_some run_store_float drewN_alloc drewN_setCell

/-- a store into a cell that holds no float leaves what reads as floats -/
theorem Row.setAt {W : World} {v : Value} {xs : List (Option Nat)} (h : Row W v xs) {b o : Nat} {u : Value} (hc : W.cell? ⟨b, o, none⟩ = some u) (hu : ∀ x, u ≠ .float .f64 x) (v' : Value) : Row (W.setCell ⟨b, o, none⟩ v') v xs := by
  obtain ⟨a, cap', hv, h1, h2, h3⟩ := h
  refine ⟨a, cap', hv, h1, h2, ?_⟩
  rcases h3 with h3 | ⟨blk, off, ha, hcl⟩
  · exact .inl h3
  · refine .inr ⟨blk, off, ha, fun i hi => ?_⟩
    obtain ⟨x, hx1, hx2⟩ := hcl i hi
    refine ⟨x, ?_, hx2⟩
    by_cases e : b = blk ∧ o = off + i
    · obtain ⟨rfl, rfl⟩ := e
      rw [hx1] at hc
      exact absurd (Option.some.inj hc).symm (hu x)
    · by_cases e1 : b = blk
      · subst e1
        exact cell_set_off hx1 (fun e2 => e ⟨rfl, e2⟩)
      · exact cell_set_ne hx1 e1
/-- four stores into a factor's cells leave what reads as floats -/
theorem Row.put4 {W : World} {v : Value} {xs : List (Option Nat)} (h : Row W v xs) {b : Nat} {i j k : Int} {v1 : Value} (hc : Cells4 W b (.int .i64 i) v1 (.int .i64 j) (.int .i64 k)) (hv : ∀ x, v1 ≠ .float .f64 x) (u0 u1 u2 u3 : Value) :
    Row ((((W.setCell ⟨b, 0, none⟩ u0).setCell ⟨b, 1, none⟩ u1).setCell ⟨b, 2, none⟩ u2).setCell ⟨b, 3, none⟩ u3) v xs :=
  (((h.setAt hc.c0 (fun _ e => by cases e) u0).setAt (cell_set_off hc.c1 (by decide)) hv u1).setAt (cell_set_off (cell_set_off hc.c2 (by decide)) (by decide)) (fun _ e => by cases e) u2).setAt
    (cell_set_off (cell_set_off (cell_set_off hc.c3 (by decide)) (by decide)) (by decide)) (fun _ e => by cases e) u3
theorem below_put4 {w W : World} {b : Nat} (h : Below w.heap.size w W) (hb : w.heap.size ≤ b) (u0 u1 u2 u3 : Value) :
    Below w.heap.size w ((((W.setCell ⟨b, 0, none⟩ u0).setCell ⟨b, 1, none⟩ u1).setCell ⟨b, 2, none⟩ u2).setCell ⟨b, 3, none⟩ u3) :=
  (((h.setCell (p := ⟨b, 0, none⟩) hb _).setCell (p := ⟨b, 1, none⟩) hb _).setCell (p := ⟨b, 2, none⟩) hb _).setCell (p := ⟨b, 3, none⟩) hb _
theorem Cells4.put_other {W : World} {b b' : Nat} {u0 u1 u2 u3 : Value} (h : Cells4 W b u0 u1 u2 u3) (hne : b' ≠ b) (v0 v1 v2 v3 : Value) :
    Cells4 ((((W.setCell ⟨b', 0, none⟩ v0).setCell ⟨b', 1, none⟩ v1).setCell ⟨b', 2, none⟩ v2).setCell ⟨b', 3, none⟩ v3) b u0 u1 u2 u3 := (((h.set hne).set hne).set hne).set hne
theorem slice_ne {a : Option Addr} {n c : Nat} : ∀ x, Value.slice a n c ≠ .float .f64 x := fun _ e => by cases e
theorem rowD_early {F : FacD} {ls : List (Option Nat)} {Y : Option Nat} {x : Int} (h : earlyD F ls Y = x) (hx : x ≠ 0) : rowD F ls Y = (fac0, x) := by unfold rowD; rw [h, if_pos hx]
theorem rowD_full {F : FacD} {ls : List (Option Nat)} {Y : Option Nat} (h : earlyD F ls Y = 0) (hf : fullD F = true) : rowD F ls Y = (fac0, 6) := by unfold rowD; rw [h, if_neg (by decide), if_pos hf]
theorem facE_no (err : Int) {e : Ending} {w' : World} (h : e = .returned (.tuple #[facZ, .int .i64 err])) : FacE (fac0, err) e w' := ⟨none, 0, 0, h, row_nil _⟩

set_option maxRecDepth 100000 in
set_option maxHeartbeats 1000000 in
/-- what the program refuses -/
theorem arow_no (F : FacD) (a b : Option Addr) (n cap m d y : Nat) (ls : List (Option Nat)) {Y : Option Nat} (w : World) (h : Row w (.slice a n cap) F.xs) (hl : Row w (.slice b m d) ls) (hy : FW y Y) (hno : earlyD F ls Y ≠ 0 ∨ fullD F = true) :
    Calls Tryz.prog 11 #[.agg #[.int .i64 F.cols, .slice a n cap, .int .i64 F.rws, .int .i64 F.trn], .agg #[.slice b m d, .float .f64 y]] w fun e w' => FacE (rowD F ls Y) e w' ∧ Below w.heap.size w w' := by
  have hB := (((Below.refl w.heap.size w).alloc (Nat.le_refl _) (.cells #[.int .i64 F.cols, .slice a n cap, .int .i64 F.rws, .int .i64 F.trn] 24)).alloc (by simp) (.cells #[.slice b m d, .float .f64 y] 27)).alloc (by simp; omega) (.cells #[.int .i64 0, .slice none 0 0, .int .i64 0, .int .i64 0] 24)
  have L := check_calls F.cols F.rws F.trn a n cap F.xs _ (h.below hB)
  have hm := hl.len
  by_cases h1 : F.ok = false
  · have e : rowD F ls Y = (fac0, 1) := rowD_early (by unfold earlyD; rw [if_pos h1]) (by decide)
    rw [show checkP F.cols F.xs F.rws F.trn = false from h1] at L
    have LH := Lib.hid L
    rw [e]
    obtain ⟨cols, xs, rws, trn⟩ := F
    clear h1 e L h hl hy hm hno
    dsimp only at *
    go_enter Tryz.func11, Tryz.ntmps11
    go_wp2_with (first | (go_at_call 29; refine LH.out.mono ?_; rintro e w1 ⟨rfl, hb⟩; obtain ⟨hq, hf⟩ := bcell hb))
    have hC := hB.trans (hb.mono (by simp; omega))
    exact bodyPost_ret (v := .tuple #[facZ, .int .i64 1]) (by simp [results, Tryz.results11, go_sem, hq, facZ]) rfl ⟨facE_no _ rfl, (((hC.setCell (p := ⟨w.heap.size + 1 + 1, 0, none⟩) (by simp; omega) _).setCell (p := ⟨w.heap.size + 1 + 1, 1, none⟩) (by simp; omega) _).setCell (p := ⟨w.heap.size + 1 + 1, 2, none⟩) (by simp; omega) _).setCell (p := ⟨w.heap.size + 1 + 1, 3, none⟩) (by simp; omega) _⟩
  · have hok : F.ok = true := by simpa using h1
    rw [show checkP F.cols F.xs F.rws F.trn = true from hok] at L
    have LH := Lib.hid L
    obtain ⟨hc1, hc6⟩ := ok_cols hok
    have E0 : earlyD F ls Y = if (ls.length : Int) ≠ F.cols then 3 else if (ls.any outF || outF Y) = true then 2 else 0 := by
      unfold earlyD; rw [if_neg h1]
    by_cases h2 : (ls.length : Int) ≠ F.cols
    · have e : rowD F ls Y = (fac0, 3) := rowD_early (by rw [E0, if_pos h2]) (by decide)
      rw [e]
      rw [hm] at h2
      have hne : ((m : Int) != F.cols) = true := by simpa using h2
      obtain ⟨cols, xs, rws, trn⟩ := F
      clear h1 e E0 L h hl hy hm h2 hok hno
      dsimp only at *
      go_enter Tryz.func11, Tryz.ntmps11
      go_wp2_with (first | (go_at_call 29; refine LH.out.mono ?_; rintro e w1 ⟨rfl, hb⟩; obtain ⟨hq, hf⟩ := bcell hb; have hz := hb.size; simp at hz; have hz1 : w.heap.size < w1.heap.size := (by omega); have hz2 : w.heap.size + 1 < w1.heap.size := (by omega); have hz3 : w.heap.size + 1 + 1 < w1.heap.size := (by omega)))
      have hC := hB.trans (hb.mono (by simp; omega))
      exact bodyPost_ret (v := .tuple #[facZ, .int .i64 3]) (by simp [results, Tryz.results11, go_sem, hq, facZ]) rfl ⟨facE_no _ rfl, (((hC.setCell (p := ⟨w.heap.size + 1 + 1, 0, none⟩) (by simp; omega) _).setCell (p := ⟨w.heap.size + 1 + 1, 1, none⟩) (by simp; omega) _).setCell (p := ⟨w.heap.size + 1 + 1, 2, none⟩) (by simp; omega) _).setCell (p := ⟨w.heap.size + 1 + 1, 3, none⟩) (by simp; omega) _⟩
    · have e : earlyD F ls Y = if (ls.any outF || outF Y) = true then 2 else 0 := by rw [E0, if_neg h2]
      have hmc : (m : Int) = F.cols := by rw [← hm]; simpa using h2
      have hne : ((m : Int) != F.cols) = false := by simpa using hmc
      have CO := Lib.hid (fun W => out_calls y hy.1 W)
      rw [outW_F hy] at CO
      have CF : ∀ W, Below w.heap.size w W → Calls Tryz.prog 30 #[.slice b m d, .func (.func 31) #[] #[]] W fun e w' => e = .returned (.bool (ls.any outF)) ∧ W = w' := fun W hW => containsout_calls b m d ls W (hl.below hW)
      obtain ⟨r0, r1, t0, t1⟩ := ok_rows hok
      have HB := Lib.hid hB
      cases ho1 : ls.any outF
      · rw [ho1] at CF
        cases ho2 : outF Y
        · rw [ho2] at CO
          have e3 : fullD F = true := by
            rcases hno with hno | hno
            · rw [e, ho1, ho2, if_neg (by decide)] at hno; exact absurd rfl hno
            · exact hno
          have e2 : rowD F ls Y = (fac0, 6) := rowD_full (by rw [e, ho1, ho2]; rfl) e3
          rw [e2]
          unfold fullD at e3
          have CF := Lib.hid CF
          obtain ⟨cols, xs, rws, trn⟩ := F
          dsimp only at *
          by_cases hr : rws = 200
          · have hr2 : (rws == 200) = true := by simpa using hr
            clear h1 e E0 L h hl hy hm h2 hok hno hmc e2 e3 ho1 ho2 hB hr
            have hB := HB
            clear HB
            go_enter Tryz.func11, Tryz.ntmps11
            go_wp2_with (first | (go_at_call 29; refine LH.out.mono ?_; rintro e w1 ⟨rfl, hb⟩; obtain ⟨hq, hf⟩ := bcell hb; have hz := hb.size; simp at hz; have hz1 : w.heap.size < w1.heap.size := (by omega); have hz2 : w.heap.size + 1 < w1.heap.size := (by omega); have hz3 : w.heap.size + 1 + 1 < w1.heap.size := (by omega); have hC := Lib.hid (hB.out.trans (hb.mono (by simp; omega)))) | (go_at_call 30; refine (CF.out _ hC.out).mono ?_; rintro e w2 ⟨rfl, rfl⟩) | (go_at_call 31; refine (CO.out _).mono ?_; rintro e w3 ⟨rfl, rfl⟩))
            exact bodyPost_ret (v := .tuple #[facZ, .int .i64 6]) (by simp [results, Tryz.results11, go_sem, hq, facZ]) rfl ⟨facE_no _ rfl, (((hC.out.setCell (p := ⟨w.heap.size + 1 + 1, 0, none⟩) (by simp; omega) _).setCell (p := ⟨w.heap.size + 1 + 1, 1, none⟩) (by simp; omega) _).setCell (p := ⟨w.heap.size + 1 + 1, 2, none⟩) (by simp; omega) _).setCell (p := ⟨w.heap.size + 1 + 1, 3, none⟩) (by simp; omega) _⟩
          · have hr2 : (rws == 200) = false := by simpa using hr
            have ht : 4096 < trn + (cols + 1) := by simpa [hr] using e3
            clear h1 e E0 L h hl hy hm h2 hok hno hmc e2 e3 ho1 ho2 hB hr
            have hB := HB
            clear HB
            go_enter Tryz.func11, Tryz.ntmps11
            go_wp2_with (first | (go_at_call 29; refine LH.out.mono ?_; rintro e w1 ⟨rfl, hb⟩; obtain ⟨hq, hf⟩ := bcell hb; have hz := hb.size; simp at hz; have hz1 : w.heap.size < w1.heap.size := (by omega); have hz2 : w.heap.size + 1 < w1.heap.size := (by omega); have hz3 : w.heap.size + 1 + 1 < w1.heap.size := (by omega); have hC := Lib.hid (hB.out.trans (hb.mono (by simp; omega)))) | (go_at_call 30; refine (CF.out _ hC.out).mono ?_; rintro e w2 ⟨rfl, rfl⟩) | (go_at_call 31; refine (CO.out _).mono ?_; rintro e w3 ⟨rfl, rfl⟩))
            exact bodyPost_ret (v := .tuple #[facZ, .int .i64 6]) (by simp [results, Tryz.results11, go_sem, hq, facZ]) rfl ⟨facE_no _ rfl, (((hC.out.setCell (p := ⟨w.heap.size + 1 + 1, 0, none⟩) (by simp; omega) _).setCell (p := ⟨w.heap.size + 1 + 1, 1, none⟩) (by simp; omega) _).setCell (p := ⟨w.heap.size + 1 + 1, 2, none⟩) (by simp; omega) _).setCell (p := ⟨w.heap.size + 1 + 1, 3, none⟩) (by simp; omega) _⟩
        · rw [ho2] at CO
          have e2 : rowD F ls Y = (fac0, 2) := rowD_early (by rw [e, ho1, ho2]; rfl) (by decide)
          rw [e2]
          have CF := Lib.hid CF
          obtain ⟨cols, xs, rws, trn⟩ := F
          dsimp only at *
          clear h1 e E0 L h hl hy hm h2 hok hno hmc e2 ho1 ho2 hB
          have hB := HB
          clear HB
          go_enter Tryz.func11, Tryz.ntmps11
          go_wp2_with (first | (go_at_call 29; refine LH.out.mono ?_; rintro e w1 ⟨rfl, hb⟩; obtain ⟨hq, hf⟩ := bcell hb; have hz := hb.size; simp at hz; have hz1 : w.heap.size < w1.heap.size := (by omega); have hz2 : w.heap.size + 1 < w1.heap.size := (by omega); have hz3 : w.heap.size + 1 + 1 < w1.heap.size := (by omega); have hC := Lib.hid (hB.out.trans (hb.mono (by simp; omega)))) | (go_at_call 30; refine (CF.out _ hC.out).mono ?_; rintro e w2 ⟨rfl, rfl⟩) | (go_at_call 31; refine (CO.out _).mono ?_; rintro e w3 ⟨rfl, rfl⟩))
          exact bodyPost_ret (v := .tuple #[facZ, .int .i64 2]) (by simp [results, Tryz.results11, go_sem, hq, facZ]) rfl ⟨facE_no _ rfl, (((hC.out.setCell (p := ⟨w.heap.size + 1 + 1, 0, none⟩) (by simp; omega) _).setCell (p := ⟨w.heap.size + 1 + 1, 1, none⟩) (by simp; omega) _).setCell (p := ⟨w.heap.size + 1 + 1, 2, none⟩) (by simp; omega) _).setCell (p := ⟨w.heap.size + 1 + 1, 3, none⟩) (by simp; omega) _⟩
      · rw [ho1] at CF
        have e2 : rowD F ls Y = (fac0, 2) := rowD_early (by rw [e, ho1]; rfl) (by decide)
        rw [e2]
        have CF := Lib.hid CF
        obtain ⟨cols, xs, rws, trn⟩ := F
        dsimp only at *
        clear h1 e E0 L h hl hy hm h2 hok hno hmc e2 ho1 hB CO
        have hB := HB
        clear HB
        go_enter Tryz.func11, Tryz.ntmps11
        go_wp2_with (first | (go_at_call 29; refine LH.out.mono ?_; rintro e w1 ⟨rfl, hb⟩; obtain ⟨hq, hf⟩ := bcell hb; have hz := hb.size; simp at hz; have hz1 : w.heap.size < w1.heap.size := (by omega); have hz2 : w.heap.size + 1 < w1.heap.size := (by omega); have hz3 : w.heap.size + 1 + 1 < w1.heap.size := (by omega); have hC := Lib.hid (hB.out.trans (hb.mono (by simp; omega)))) | (go_at_call 30; refine (CF.out _ hC.out).mono ?_; rintro e w2 ⟨rfl, rfl⟩))
        exact bodyPost_ret (v := .tuple #[facZ, .int .i64 2]) (by simp [results, Tryz.results11, go_sem, hq, facZ]) rfl ⟨facE_no _ rfl, (((hC.out.setCell (p := ⟨w.heap.size + 1 + 1, 0, none⟩) (by simp; omega) _).setCell (p := ⟨w.heap.size + 1 + 1, 1, none⟩) (by simp; omega) _).setCell (p := ⟨w.heap.size + 1 + 1, 2, none⟩) (by simp; omega) _).setCell (p := ⟨w.heap.size + 1 + 1, 3, none⟩) (by simp; omega) _⟩
end Go.Proofs.YtmmligbkecilfaaGreatDoor
