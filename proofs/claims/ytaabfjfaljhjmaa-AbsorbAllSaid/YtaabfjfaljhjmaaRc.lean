/- What both Lines refuse at once. -/
import Derived.Test.YtaabfjfaljhjmaaRa
namespace Go.Proofs.Ytaabfjfaljhjmaa
open Go.RowKit Lv Go.Shelf
open Ieee (double Format Datum Toward)

theorem checkP_cols {cols : Int} {xs : List (Option Nat)} {rws trn : Int} (h : checkP cols xs rws trn = true) : 1 ≤ cols ∧ cols ≤ 6 := by
  unfold checkP at h
  simp at h
  omega

set_option maxRecDepth 100000 in
theorem ALine_no (cols rws trn fr : Int) (a b : Option Addr) (n cap m d : Nat) (xs : List (Option Nat)) (w : World) (h : Row w (.slice a n cap) xs)
    (hno : ¬ (checkP cols xs rws trn = true ∧ 0 ≤ fr ∧ fr ≤ cols ∧ (m : Int) = cols + 1)) :
    Calls Try.prog 27 #[.agg #[.int .i64 cols, .slice a n cap, .int .i64 rws, .int .i64 trn], .slice b m d, .int .i64 fr] w fun e w' => e = .returned (.tuple #[facZ, .bool false]) ∧ Below w.heap.size w w' := by
  have hr := (h.alloc (.cells #[.int .i64 cols, .slice a n cap, .int .i64 rws, .int .i64 trn] 24)).alloc (.cells #[.int .i64 0, .slice none 0 0, .int .i64 0, .int .i64 0] 24)
  have L := Lib.hid (And.intro (check_calls cols rws trn a n cap xs _ hr) (rcheck_calls cols rws trn a n cap xs _ hr))
  cases hc : checkP cols xs rws trn
  · rw [hc] at L
    clear h hr hno hc
    go_enter Try.func27, Try.ntmps27
    go_wp2_with (first | (go_at_call 22; refine L.out.1.mono ?_; rintro e w1 ⟨rfl, hb⟩; obtain ⟨hq, hf⟩ := bcell hb) | (go_at_call 41; refine L.out.2.mono ?_; rintro e w1 ⟨rfl, hb⟩; obtain ⟨hq, hf⟩ := bcell hb))
    have hB := (((Below.refl w.heap.size w).alloc (Nat.le_refl _) (.cells #[.int .i64 cols, .slice a n cap, .int .i64 rws, .int .i64 trn] 24)).alloc (by simp) (.cells #[.int .i64 0, .slice none 0 0, .int .i64 0, .int .i64 0] 24)).trans (hb.mono (by simp; omega))
    exact bodyPost_ret (v := .tuple #[facZ, .bool false]) (by simp [results, Try.results27, go_sem, hq, facZ]) rfl ⟨rfl, (((hB.setCell (p := ⟨w.heap.size + 1, 0, none⟩) (by simp) _).setCell (p := ⟨w.heap.size + 1, 1, none⟩) (by simp) _).setCell (p := ⟨w.heap.size + 1, 2, none⟩) (by simp) _).setCell (p := ⟨w.heap.size + 1, 3, none⟩) (by simp) _⟩
  · obtain ⟨hc1, hc6⟩ := checkP_cols hc
    rw [hc] at L
    by_cases f0 : fr < 0
    · clear h hr hno hc
      go_enter Try.func27, Try.ntmps27
      go_wp2_with (first | (go_at_call 22; refine L.out.1.mono ?_; rintro e w1 ⟨rfl, hb⟩; obtain ⟨hq, hf⟩ := bcell hb; have hz := hb.size; simp at hz; have hz1 : w.heap.size < w1.heap.size := (by omega)) | (go_at_call 41; refine L.out.2.mono ?_; rintro e w1 ⟨rfl, hb⟩; obtain ⟨hq, hf⟩ := bcell hb; have hz := hb.size; simp at hz; have hz1 : w.heap.size < w1.heap.size := (by omega)))
      have hB := (((Below.refl w.heap.size w).alloc (Nat.le_refl _) (.cells #[.int .i64 cols, .slice a n cap, .int .i64 rws, .int .i64 trn] 24)).alloc (by simp) (.cells #[.int .i64 0, .slice none 0 0, .int .i64 0, .int .i64 0] 24)).trans (hb.mono (by simp; omega))
      exact bodyPost_ret (v := .tuple #[facZ, .bool false]) (by simp [results, Try.results27, go_sem, hq, facZ]) rfl ⟨rfl, (((hB.setCell (p := ⟨w.heap.size + 1, 0, none⟩) (by simp) _).setCell (p := ⟨w.heap.size + 1, 1, none⟩) (by simp) _).setCell (p := ⟨w.heap.size + 1, 2, none⟩) (by simp) _).setCell (p := ⟨w.heap.size + 1, 3, none⟩) (by simp) _⟩
    · by_cases f1 : cols < fr
      · clear h hr hno hc
        go_enter Try.func27, Try.ntmps27
        go_wp2_with (first | (go_at_call 22; refine L.out.1.mono ?_; rintro e w1 ⟨rfl, hb⟩; obtain ⟨hq, hf⟩ := bcell hb; have hz := hb.size; simp at hz; have hz1 : w.heap.size < w1.heap.size := (by omega)) | (go_at_call 41; refine L.out.2.mono ?_; rintro e w1 ⟨rfl, hb⟩; obtain ⟨hq, hf⟩ := bcell hb; have hz := hb.size; simp at hz; have hz1 : w.heap.size < w1.heap.size := (by omega)))
        have hB := (((Below.refl w.heap.size w).alloc (Nat.le_refl _) (.cells #[.int .i64 cols, .slice a n cap, .int .i64 rws, .int .i64 trn] 24)).alloc (by simp) (.cells #[.int .i64 0, .slice none 0 0, .int .i64 0, .int .i64 0] 24)).trans (hb.mono (by simp; omega))
        exact bodyPost_ret (v := .tuple #[facZ, .bool false]) (by simp [results, Try.results27, go_sem, hq, facZ]) rfl ⟨rfl, (((hB.setCell (p := ⟨w.heap.size + 1, 0, none⟩) (by simp) _).setCell (p := ⟨w.heap.size + 1, 1, none⟩) (by simp) _).setCell (p := ⟨w.heap.size + 1, 2, none⟩) (by simp) _).setCell (p := ⟨w.heap.size + 1, 3, none⟩) (by simp) _⟩
      · have hne : ((m : Int) != cols + 1) = true := by
          simp only [bne_iff_ne, ne_eq]
          intro e
          exact hno ⟨hc, by omega, by omega, e⟩
        clear h hr hno hc
        go_enter Try.func27, Try.ntmps27
        go_wp2_with (first | (go_at_call 22; refine L.out.1.mono ?_; rintro e w1 ⟨rfl, hb⟩; obtain ⟨hq, hf⟩ := bcell hb; have hz := hb.size; simp at hz; have hz1 : w.heap.size < w1.heap.size := (by omega)) | (go_at_call 41; refine L.out.2.mono ?_; rintro e w1 ⟨rfl, hb⟩; obtain ⟨hq, hf⟩ := bcell hb; have hz := hb.size; simp at hz; have hz1 : w.heap.size < w1.heap.size := (by omega)))
        have hB := (((Below.refl w.heap.size w).alloc (Nat.le_refl _) (.cells #[.int .i64 cols, .slice a n cap, .int .i64 rws, .int .i64 trn] 24)).alloc (by simp) (.cells #[.int .i64 0, .slice none 0 0, .int .i64 0, .int .i64 0] 24)).trans (hb.mono (by simp; omega))
        exact bodyPost_ret (v := .tuple #[facZ, .bool false]) (by simp [results, Try.results27, go_sem, hq, facZ]) rfl ⟨rfl, (((hB.setCell (p := ⟨w.heap.size + 1, 0, none⟩) (by simp) _).setCell (p := ⟨w.heap.size + 1, 1, none⟩) (by simp) _).setCell (p := ⟨w.heap.size + 1, 2, none⟩) (by simp) _).setCell (p := ⟨w.heap.size + 1, 3, none⟩) (by simp) _⟩
set_option maxRecDepth 100000 in
theorem rALine_no (cols rws trn fr : Int) (a b : Option Addr) (n cap m d : Nat) (xs : List (Option Nat)) (w : World) (h : Row w (.slice a n cap) xs)
    (hno : ¬ (checkP cols xs rws trn = true ∧ 0 ≤ fr ∧ fr ≤ cols ∧ (m : Int) = cols + 1)) :
    Calls Try.prog 28 #[.agg #[.int .i64 cols, .slice a n cap, .int .i64 rws, .int .i64 trn], .slice b m d, .int .i64 fr] w fun e w' => e = .returned (.tuple #[facZ, .bool false]) ∧ Below w.heap.size w w' := by
  have hr := (h.alloc (.cells #[.int .i64 cols, .slice a n cap, .int .i64 rws, .int .i64 trn] 24)).alloc (.cells #[.int .i64 0, .slice none 0 0, .int .i64 0, .int .i64 0] 24)
  have L := Lib.hid (And.intro (check_calls cols rws trn a n cap xs _ hr) (rcheck_calls cols rws trn a n cap xs _ hr))
  cases hc : checkP cols xs rws trn
  · rw [hc] at L
    clear h hr hno hc
    go_enter Try.func28, Try.ntmps28
    go_wp2_with (first | (go_at_call 22; refine L.out.1.mono ?_; rintro e w1 ⟨rfl, hb⟩; obtain ⟨hq, hf⟩ := bcell hb) | (go_at_call 41; refine L.out.2.mono ?_; rintro e w1 ⟨rfl, hb⟩; obtain ⟨hq, hf⟩ := bcell hb))
    have hB := (((Below.refl w.heap.size w).alloc (Nat.le_refl _) (.cells #[.int .i64 cols, .slice a n cap, .int .i64 rws, .int .i64 trn] 24)).alloc (by simp) (.cells #[.int .i64 0, .slice none 0 0, .int .i64 0, .int .i64 0] 24)).trans (hb.mono (by simp; omega))
    exact bodyPost_ret (v := .tuple #[facZ, .bool false]) (by simp [results, Try.results28, go_sem, hq, facZ]) rfl ⟨rfl, (((hB.setCell (p := ⟨w.heap.size + 1, 0, none⟩) (by simp) _).setCell (p := ⟨w.heap.size + 1, 1, none⟩) (by simp) _).setCell (p := ⟨w.heap.size + 1, 2, none⟩) (by simp) _).setCell (p := ⟨w.heap.size + 1, 3, none⟩) (by simp) _⟩
  · obtain ⟨hc1, hc6⟩ := checkP_cols hc
    rw [hc] at L
    by_cases f0 : fr < 0
    · clear h hr hno hc
      go_enter Try.func28, Try.ntmps28
      go_wp2_with (first | (go_at_call 22; refine L.out.1.mono ?_; rintro e w1 ⟨rfl, hb⟩; obtain ⟨hq, hf⟩ := bcell hb; have hz := hb.size; simp at hz; have hz1 : w.heap.size < w1.heap.size := (by omega)) | (go_at_call 41; refine L.out.2.mono ?_; rintro e w1 ⟨rfl, hb⟩; obtain ⟨hq, hf⟩ := bcell hb; have hz := hb.size; simp at hz; have hz1 : w.heap.size < w1.heap.size := (by omega)))
      have hB := (((Below.refl w.heap.size w).alloc (Nat.le_refl _) (.cells #[.int .i64 cols, .slice a n cap, .int .i64 rws, .int .i64 trn] 24)).alloc (by simp) (.cells #[.int .i64 0, .slice none 0 0, .int .i64 0, .int .i64 0] 24)).trans (hb.mono (by simp; omega))
      exact bodyPost_ret (v := .tuple #[facZ, .bool false]) (by simp [results, Try.results28, go_sem, hq, facZ]) rfl ⟨rfl, (((hB.setCell (p := ⟨w.heap.size + 1, 0, none⟩) (by simp) _).setCell (p := ⟨w.heap.size + 1, 1, none⟩) (by simp) _).setCell (p := ⟨w.heap.size + 1, 2, none⟩) (by simp) _).setCell (p := ⟨w.heap.size + 1, 3, none⟩) (by simp) _⟩
    · by_cases f1 : cols < fr
      · clear h hr hno hc
        go_enter Try.func28, Try.ntmps28
        go_wp2_with (first | (go_at_call 22; refine L.out.1.mono ?_; rintro e w1 ⟨rfl, hb⟩; obtain ⟨hq, hf⟩ := bcell hb; have hz := hb.size; simp at hz; have hz1 : w.heap.size < w1.heap.size := (by omega)) | (go_at_call 41; refine L.out.2.mono ?_; rintro e w1 ⟨rfl, hb⟩; obtain ⟨hq, hf⟩ := bcell hb; have hz := hb.size; simp at hz; have hz1 : w.heap.size < w1.heap.size := (by omega)))
        have hB := (((Below.refl w.heap.size w).alloc (Nat.le_refl _) (.cells #[.int .i64 cols, .slice a n cap, .int .i64 rws, .int .i64 trn] 24)).alloc (by simp) (.cells #[.int .i64 0, .slice none 0 0, .int .i64 0, .int .i64 0] 24)).trans (hb.mono (by simp; omega))
        exact bodyPost_ret (v := .tuple #[facZ, .bool false]) (by simp [results, Try.results28, go_sem, hq, facZ]) rfl ⟨rfl, (((hB.setCell (p := ⟨w.heap.size + 1, 0, none⟩) (by simp) _).setCell (p := ⟨w.heap.size + 1, 1, none⟩) (by simp) _).setCell (p := ⟨w.heap.size + 1, 2, none⟩) (by simp) _).setCell (p := ⟨w.heap.size + 1, 3, none⟩) (by simp) _⟩
      · have hne : ((m : Int) != cols + 1) = true := by
          simp only [bne_iff_ne, ne_eq]
          intro e
          exact hno ⟨hc, by omega, by omega, e⟩
        clear h hr hno hc
        go_enter Try.func28, Try.ntmps28
        go_wp2_with (first | (go_at_call 22; refine L.out.1.mono ?_; rintro e w1 ⟨rfl, hb⟩; obtain ⟨hq, hf⟩ := bcell hb; have hz := hb.size; simp at hz; have hz1 : w.heap.size < w1.heap.size := (by omega)) | (go_at_call 41; refine L.out.2.mono ?_; rintro e w1 ⟨rfl, hb⟩; obtain ⟨hq, hf⟩ := bcell hb; have hz := hb.size; simp at hz; have hz1 : w.heap.size < w1.heap.size := (by omega)))
        have hB := (((Below.refl w.heap.size w).alloc (Nat.le_refl _) (.cells #[.int .i64 cols, .slice a n cap, .int .i64 rws, .int .i64 trn] 24)).alloc (by simp) (.cells #[.int .i64 0, .slice none 0 0, .int .i64 0, .int .i64 0] 24)).trans (hb.mono (by simp; omega))
        exact bodyPost_ret (v := .tuple #[facZ, .bool false]) (by simp [results, Try.results28, go_sem, hq, facZ]) rfl ⟨rfl, (((hB.setCell (p := ⟨w.heap.size + 1, 0, none⟩) (by simp) _).setCell (p := ⟨w.heap.size + 1, 1, none⟩) (by simp) _).setCell (p := ⟨w.heap.size + 1, 2, none⟩) (by simp) _).setCell (p := ⟨w.heap.size + 1, 3, none⟩) (by simp) _⟩
end Go.Proofs.Ytaabfjfaljhjmaa
