/- What both Lines refuse at once. A factor as data; both Lines by one word. -/
import Derived.Test.YtgmaljikjkbdlaaRa
import Derived.Test.YtgmaljikjkbdlaaR
import Derived.Test.YtgmaljikjkbdlaaRb
import Derived.Test.YtgmaljikjkbdlaaRd
namespace Go.Proofs.Ytgmaljikjkbdlaa
open Go.RowKit Lv Go.Shelf
open Ieee (double Format Datum Toward)

theorem checkP_cols {cols : Int} {xs : List (Option Nat)} {rws trn : Int} (h : checkP cols xs rws trn = true) : 1 ≤ cols ∧ cols ≤ 6 := by
  unfold checkP at h
  simp at h
  omega

set_option maxRecDepth 100000 in
theorem ALine_no (cols rws trn fr : Int) (a b : Option Addr) (n cap m d : Nat) (xs : List (Option Nat)) (w : World) (h : Row w (.slice a n cap) xs)
    (hno : ¬ (checkP cols xs rws trn = true ∧ 0 ≤ fr ∧ fr ≤ cols ∧ (m : Int) = cols + 1)) :
    Calls Try.prog 63 #[.agg #[.int .i64 cols, .slice a n cap, .int .i64 rws, .int .i64 trn], .slice b m d, .int .i64 fr] w fun e w' => e = .returned (.tuple #[facZ, .bool false]) ∧ Below w.heap.size w w' := by
  have hr := (h.alloc (.cells #[.int .i64 cols, .slice a n cap, .int .i64 rws, .int .i64 trn] 36)).alloc (.cells #[.int .i64 0, .slice none 0 0, .int .i64 0, .int .i64 0] 36)
  have L := Lib.hid (And.intro (check_calls cols rws trn a n cap xs _ hr) (rcheck_calls cols rws trn a n cap xs _ hr))
  cases hc : checkP cols xs rws trn
  · rw [hc] at L
    clear h hr hno hc
    go_enter Try.func63, Try.ntmps63
    go_wp2_with (first | (go_at_call 39; refine L.out.1.mono ?_; rintro e w1 ⟨rfl, hb⟩; obtain ⟨hq, hf⟩ := bcell hb) | (go_at_call 28; refine L.out.2.mono ?_; rintro e w1 ⟨rfl, hb⟩; obtain ⟨hq, hf⟩ := bcell hb))
    have hB := (((Below.refl w.heap.size w).alloc (Nat.le_refl _) (.cells #[.int .i64 cols, .slice a n cap, .int .i64 rws, .int .i64 trn] 36)).alloc (by simp) (.cells #[.int .i64 0, .slice none 0 0, .int .i64 0, .int .i64 0] 36)).trans (hb.mono (by simp; omega))
    exact bodyPost_ret (v := .tuple #[facZ, .bool false]) (by simp [results, Try.results63, go_sem, hq, facZ]) rfl ⟨rfl, (((hB.setCell (p := ⟨w.heap.size + 1, 0, none⟩) (by simp) _).setCell (p := ⟨w.heap.size + 1, 1, none⟩) (by simp) _).setCell (p := ⟨w.heap.size + 1, 2, none⟩) (by simp) _).setCell (p := ⟨w.heap.size + 1, 3, none⟩) (by simp) _⟩
  · obtain ⟨hc1, hc6⟩ := checkP_cols hc
    rw [hc] at L
    by_cases f0 : fr < 0
    · clear h hr hno hc
      go_enter Try.func63, Try.ntmps63
      go_wp2_with (first | (go_at_call 39; refine L.out.1.mono ?_; rintro e w1 ⟨rfl, hb⟩; obtain ⟨hq, hf⟩ := bcell hb; have hz := hb.size; simp at hz; have hz1 : w.heap.size < w1.heap.size := (by omega)) | (go_at_call 28; refine L.out.2.mono ?_; rintro e w1 ⟨rfl, hb⟩; obtain ⟨hq, hf⟩ := bcell hb; have hz := hb.size; simp at hz; have hz1 : w.heap.size < w1.heap.size := (by omega)))
      have hB := (((Below.refl w.heap.size w).alloc (Nat.le_refl _) (.cells #[.int .i64 cols, .slice a n cap, .int .i64 rws, .int .i64 trn] 36)).alloc (by simp) (.cells #[.int .i64 0, .slice none 0 0, .int .i64 0, .int .i64 0] 36)).trans (hb.mono (by simp; omega))
      exact bodyPost_ret (v := .tuple #[facZ, .bool false]) (by simp [results, Try.results63, go_sem, hq, facZ]) rfl ⟨rfl, (((hB.setCell (p := ⟨w.heap.size + 1, 0, none⟩) (by simp) _).setCell (p := ⟨w.heap.size + 1, 1, none⟩) (by simp) _).setCell (p := ⟨w.heap.size + 1, 2, none⟩) (by simp) _).setCell (p := ⟨w.heap.size + 1, 3, none⟩) (by simp) _⟩
    · by_cases f1 : cols < fr
      · clear h hr hno hc
        go_enter Try.func63, Try.ntmps63
        go_wp2_with (first | (go_at_call 39; refine L.out.1.mono ?_; rintro e w1 ⟨rfl, hb⟩; obtain ⟨hq, hf⟩ := bcell hb; have hz := hb.size; simp at hz; have hz1 : w.heap.size < w1.heap.size := (by omega)) | (go_at_call 28; refine L.out.2.mono ?_; rintro e w1 ⟨rfl, hb⟩; obtain ⟨hq, hf⟩ := bcell hb; have hz := hb.size; simp at hz; have hz1 : w.heap.size < w1.heap.size := (by omega)))
        have hB := (((Below.refl w.heap.size w).alloc (Nat.le_refl _) (.cells #[.int .i64 cols, .slice a n cap, .int .i64 rws, .int .i64 trn] 36)).alloc (by simp) (.cells #[.int .i64 0, .slice none 0 0, .int .i64 0, .int .i64 0] 36)).trans (hb.mono (by simp; omega))
        exact bodyPost_ret (v := .tuple #[facZ, .bool false]) (by simp [results, Try.results63, go_sem, hq, facZ]) rfl ⟨rfl, (((hB.setCell (p := ⟨w.heap.size + 1, 0, none⟩) (by simp) _).setCell (p := ⟨w.heap.size + 1, 1, none⟩) (by simp) _).setCell (p := ⟨w.heap.size + 1, 2, none⟩) (by simp) _).setCell (p := ⟨w.heap.size + 1, 3, none⟩) (by simp) _⟩
      · have hne : ((m : Int) != cols + 1) = true := by
          simp only [bne_iff_ne, ne_eq]
          intro e
          exact hno ⟨hc, by omega, by omega, e⟩
        clear h hr hno hc
        go_enter Try.func63, Try.ntmps63
        go_wp2_with (first | (go_at_call 39; refine L.out.1.mono ?_; rintro e w1 ⟨rfl, hb⟩; obtain ⟨hq, hf⟩ := bcell hb; have hz := hb.size; simp at hz; have hz1 : w.heap.size < w1.heap.size := (by omega)) | (go_at_call 28; refine L.out.2.mono ?_; rintro e w1 ⟨rfl, hb⟩; obtain ⟨hq, hf⟩ := bcell hb; have hz := hb.size; simp at hz; have hz1 : w.heap.size < w1.heap.size := (by omega)))
        have hB := (((Below.refl w.heap.size w).alloc (Nat.le_refl _) (.cells #[.int .i64 cols, .slice a n cap, .int .i64 rws, .int .i64 trn] 36)).alloc (by simp) (.cells #[.int .i64 0, .slice none 0 0, .int .i64 0, .int .i64 0] 36)).trans (hb.mono (by simp; omega))
        exact bodyPost_ret (v := .tuple #[facZ, .bool false]) (by simp [results, Try.results63, go_sem, hq, facZ]) rfl ⟨rfl, (((hB.setCell (p := ⟨w.heap.size + 1, 0, none⟩) (by simp) _).setCell (p := ⟨w.heap.size + 1, 1, none⟩) (by simp) _).setCell (p := ⟨w.heap.size + 1, 2, none⟩) (by simp) _).setCell (p := ⟨w.heap.size + 1, 3, none⟩) (by simp) _⟩
set_option maxRecDepth 100000 in
theorem rALine_no (cols rws trn fr : Int) (a b : Option Addr) (n cap m d : Nat) (xs : List (Option Nat)) (w : World) (h : Row w (.slice a n cap) xs)
    (hno : ¬ (checkP cols xs rws trn = true ∧ 0 ≤ fr ∧ fr ≤ cols ∧ (m : Int) = cols + 1)) :
    Calls Try.prog 65 #[.agg #[.int .i64 cols, .slice a n cap, .int .i64 rws, .int .i64 trn], .slice b m d, .int .i64 fr] w fun e w' => e = .returned (.tuple #[facZ, .bool false]) ∧ Below w.heap.size w w' := by
  have hr := (h.alloc (.cells #[.int .i64 cols, .slice a n cap, .int .i64 rws, .int .i64 trn] 36)).alloc (.cells #[.int .i64 0, .slice none 0 0, .int .i64 0, .int .i64 0] 36)
  have L := Lib.hid (And.intro (check_calls cols rws trn a n cap xs _ hr) (rcheck_calls cols rws trn a n cap xs _ hr))
  cases hc : checkP cols xs rws trn
  · rw [hc] at L
    clear h hr hno hc
    go_enter Try.func65, Try.ntmps65
    go_wp2_with (first | (go_at_call 39; refine L.out.1.mono ?_; rintro e w1 ⟨rfl, hb⟩; obtain ⟨hq, hf⟩ := bcell hb) | (go_at_call 28; refine L.out.2.mono ?_; rintro e w1 ⟨rfl, hb⟩; obtain ⟨hq, hf⟩ := bcell hb))
    have hB := (((Below.refl w.heap.size w).alloc (Nat.le_refl _) (.cells #[.int .i64 cols, .slice a n cap, .int .i64 rws, .int .i64 trn] 36)).alloc (by simp) (.cells #[.int .i64 0, .slice none 0 0, .int .i64 0, .int .i64 0] 36)).trans (hb.mono (by simp; omega))
    exact bodyPost_ret (v := .tuple #[facZ, .bool false]) (by simp [results, Try.results65, go_sem, hq, facZ]) rfl ⟨rfl, (((hB.setCell (p := ⟨w.heap.size + 1, 0, none⟩) (by simp) _).setCell (p := ⟨w.heap.size + 1, 1, none⟩) (by simp) _).setCell (p := ⟨w.heap.size + 1, 2, none⟩) (by simp) _).setCell (p := ⟨w.heap.size + 1, 3, none⟩) (by simp) _⟩
  · obtain ⟨hc1, hc6⟩ := checkP_cols hc
    rw [hc] at L
    by_cases f0 : fr < 0
    · clear h hr hno hc
      go_enter Try.func65, Try.ntmps65
      go_wp2_with (first | (go_at_call 39; refine L.out.1.mono ?_; rintro e w1 ⟨rfl, hb⟩; obtain ⟨hq, hf⟩ := bcell hb; have hz := hb.size; simp at hz; have hz1 : w.heap.size < w1.heap.size := (by omega)) | (go_at_call 28; refine L.out.2.mono ?_; rintro e w1 ⟨rfl, hb⟩; obtain ⟨hq, hf⟩ := bcell hb; have hz := hb.size; simp at hz; have hz1 : w.heap.size < w1.heap.size := (by omega)))
      have hB := (((Below.refl w.heap.size w).alloc (Nat.le_refl _) (.cells #[.int .i64 cols, .slice a n cap, .int .i64 rws, .int .i64 trn] 36)).alloc (by simp) (.cells #[.int .i64 0, .slice none 0 0, .int .i64 0, .int .i64 0] 36)).trans (hb.mono (by simp; omega))
      exact bodyPost_ret (v := .tuple #[facZ, .bool false]) (by simp [results, Try.results65, go_sem, hq, facZ]) rfl ⟨rfl, (((hB.setCell (p := ⟨w.heap.size + 1, 0, none⟩) (by simp) _).setCell (p := ⟨w.heap.size + 1, 1, none⟩) (by simp) _).setCell (p := ⟨w.heap.size + 1, 2, none⟩) (by simp) _).setCell (p := ⟨w.heap.size + 1, 3, none⟩) (by simp) _⟩
    · by_cases f1 : cols < fr
      · clear h hr hno hc
        go_enter Try.func65, Try.ntmps65
        go_wp2_with (first | (go_at_call 39; refine L.out.1.mono ?_; rintro e w1 ⟨rfl, hb⟩; obtain ⟨hq, hf⟩ := bcell hb; have hz := hb.size; simp at hz; have hz1 : w.heap.size < w1.heap.size := (by omega)) | (go_at_call 28; refine L.out.2.mono ?_; rintro e w1 ⟨rfl, hb⟩; obtain ⟨hq, hf⟩ := bcell hb; have hz := hb.size; simp at hz; have hz1 : w.heap.size < w1.heap.size := (by omega)))
        have hB := (((Below.refl w.heap.size w).alloc (Nat.le_refl _) (.cells #[.int .i64 cols, .slice a n cap, .int .i64 rws, .int .i64 trn] 36)).alloc (by simp) (.cells #[.int .i64 0, .slice none 0 0, .int .i64 0, .int .i64 0] 36)).trans (hb.mono (by simp; omega))
        exact bodyPost_ret (v := .tuple #[facZ, .bool false]) (by simp [results, Try.results65, go_sem, hq, facZ]) rfl ⟨rfl, (((hB.setCell (p := ⟨w.heap.size + 1, 0, none⟩) (by simp) _).setCell (p := ⟨w.heap.size + 1, 1, none⟩) (by simp) _).setCell (p := ⟨w.heap.size + 1, 2, none⟩) (by simp) _).setCell (p := ⟨w.heap.size + 1, 3, none⟩) (by simp) _⟩
      · have hne : ((m : Int) != cols + 1) = true := by
          simp only [bne_iff_ne, ne_eq]
          intro e
          exact hno ⟨hc, by omega, by omega, e⟩
        clear h hr hno hc
        go_enter Try.func65, Try.ntmps65
        go_wp2_with (first | (go_at_call 39; refine L.out.1.mono ?_; rintro e w1 ⟨rfl, hb⟩; obtain ⟨hq, hf⟩ := bcell hb; have hz := hb.size; simp at hz; have hz1 : w.heap.size < w1.heap.size := (by omega)) | (go_at_call 28; refine L.out.2.mono ?_; rintro e w1 ⟨rfl, hb⟩; obtain ⟨hq, hf⟩ := bcell hb; have hz := hb.size; simp at hz; have hz1 : w.heap.size < w1.heap.size := (by omega)))
        have hB := (((Below.refl w.heap.size w).alloc (Nat.le_refl _) (.cells #[.int .i64 cols, .slice a n cap, .int .i64 rws, .int .i64 trn] 36)).alloc (by simp) (.cells #[.int .i64 0, .slice none 0 0, .int .i64 0, .int .i64 0] 36)).trans (hb.mono (by simp; omega))
        exact bodyPost_ret (v := .tuple #[facZ, .bool false]) (by simp [results, Try.results65, go_sem, hq, facZ]) rfl ⟨rfl, (((hB.setCell (p := ⟨w.heap.size + 1, 0, none⟩) (by simp) _).setCell (p := ⟨w.heap.size + 1, 1, none⟩) (by simp) _).setCell (p := ⟨w.heap.size + 1, 2, none⟩) (by simp) _).setCell (p := ⟨w.heap.size + 1, 3, none⟩) (by simp) _⟩
end Go.Proofs.Ytgmaljikjkbdlaa
namespace Go.Proofs.Ytgmaljikjkbdlaa
open Go.RowKit Lv Go.Shelf
open Ieee (double Format Datum Toward)

/-- a factor as data -/
structure FacD where
  cols : Int
  xs : List (Option Nat)
  rws : Int
  trn : Int
deriving DecidableEq
def FacD.ok (F : FacD) : Bool := checkP F.cols F.xs F.rws F.trn
/-- the zero factor -/
def fac0 : FacD := ⟨0, [], 0, 0⟩

/-- a factor's value -/
def facW (F : FacD) (a : Option Addr) (n cap : Nat) : Value := .agg #[.int .i64 F.cols, .slice a n cap, .int .i64 F.rws, .int .i64 F.trn]

theorem row_nil (w : World) : Row w (.slice none 0 0) [] := ⟨none, 0, rfl, Nat.le_refl _, by unfold maxLen; omega, .inl ⟨rfl, fun _ => rfl⟩⟩
theorem Row.len {w : World} {a : Option Addr} {n cap : Nat} {xs : List (Option Nat)} (h : Row w (.slice a n cap) xs) : xs.length = n := by
  obtain ⟨_, _, hv, _⟩ := h
  simp only [Value.slice.injEq] at hv
  exact hv.2.1.symm
theorem Row.value {w : World} {v : Value} {xs : List (Option Nat)} (h : Row w v xs) : ∃ a cap, v = .slice a xs.length cap := by
  obtain ⟨a, cap, hv, _⟩ := h
  exact ⟨a, cap, hv⟩

/-- a factor and a bool -/
def FacB (G : FacD × Bool) (e : Ending) (w' : World) : Prop := ∃ a n cap, e = .returned (.tuple #[.agg #[.int .i64 G.1.cols, .slice a n cap, .int .i64 G.1.rws, .int .i64 G.1.trn], .bool G.2]) ∧ Row w' (.slice a n cap) G.1.xs
/-- a factor and an error -/
def FacE (G : FacD × Int) (e : Ending) (w' : World) : Prop := ∃ a n cap, e = .returned (.tuple #[.agg #[.int .i64 G.1.cols, .slice a n cap, .int .i64 G.1.rws, .int .i64 G.1.trn], .int .i64 G.2]) ∧ Row w' (.slice a n cap) G.1.xs

/-- a line rotated into a factor -/
def lineD (F : FacD) (ls : List (Option Nat)) (fr : Int) : FacD × Bool :=
  if F.ok = true ∧ 0 ≤ fr ∧ fr ≤ F.cols ∧ (ls.length : Int) = F.cols + 1 then
    match rlineP F.cols.toNat F.rws F.trn fr.toNat (F.xs, ls) with
    | none => (fac0, false)
    | some ys => (⟨F.cols, ys, F.rws, F.trn⟩, true)
  else (fac0, false)

theorem facB_no {e : Ending} {w' : World} (h : e = .returned (.tuple #[facZ, .bool false])) : FacB (fac0, false) e w' := ⟨none, 0, 0, h, row_nil _⟩

theorem checkP_len {c : Nat} {xs : List (Option Nat)} {rws trn : Int} (h : checkP (c : Int) xs rws trn = true) : xs.length = tsz c := by
  unfold checkP at h
  simp at h
  omega

theorem rALine_yes (c j : Nat) (rws trn : Int) (tb tf cap : Nat) (b : Option Addr) (d : Nat) (xs ls : List (Option Nat)) (w : World) (h : Row w (.slice (some ⟨tb, tf, none⟩) xs.length cap) xs) (hl : Row w (.slice b (c + 1) d) ls) (_hm : ls.length = c + 1) (hck : checkP (c : Int) xs rws trn = true)
    (h1 : 1 ≤ c) (h6 : c ≤ 6) (hj : j ≤ c) (hxl : xs.length = tsz c) (_htb : tb < w.heap.size) :
    Calls Try.prog 65 #[.agg #[.int .i64 (c : Int), .slice (some ⟨tb, tf, none⟩) xs.length cap, .int .i64 rws, .int .i64 trn], .slice b (c + 1) d, .int .i64 (j : Int)] w fun e w' =>
       LinePost (rlineP c rws trn j (xs, ls)) c rws trn e w' ∧ Below w.heap.size w w' := by
  exact raline_yes c j rws trn tb tf cap b d xs ls w h hl hck h1 h6 hj hxl
theorem ALine_yes (c j : Nat) (rws trn : Int) (tb tf cap : Nat) (b : Option Addr) (d : Nat) (xs ls : List (Option Nat)) (w : World) (h : Row w (.slice (some ⟨tb, tf, none⟩) xs.length cap) xs) (hl : Row w (.slice b (c + 1) d) ls) (hm : ls.length = c + 1) (hck : checkP (c : Int) xs rws trn = true)
    (h1 : 1 ≤ c) (h6 : c ≤ 6) (hj : j ≤ c) (hxl : xs.length = tsz c) (htb : tb < w.heap.size) :
    Calls Try.prog 63 #[.agg #[.int .i64 (c : Int), .slice (some ⟨tb, tf, none⟩) xs.length cap, .int .i64 rws, .int .i64 trn], .slice b (c + 1) d, .int .i64 (j : Int)] w fun e w' =>
       LinePost (rlineP c rws trn j (xs, ls)) c rws trn e w' ∧ Below w.heap.size w w' := by
  rw [← line_law h1 h6 rws trn hj hxl hm hck]; exact aline_yes c j rws trn tb tf cap b d xs ls w h hl hck h1 h6 hj hxl htb
theorem ALine_calls (F : FacD) (fr : Int) (a b : Option Addr) (n cap m d : Nat) (ls : List (Option Nat)) (w : World) (h : Row w (.slice a n cap) F.xs) (hl : Row w (.slice b m d) ls) :
    Calls Try.prog 63 #[.agg #[.int .i64 F.cols, .slice a n cap, .int .i64 F.rws, .int .i64 F.trn], .slice b m d, .int .i64 fr] w fun e w' => FacB (lineD F ls fr) e w' ∧ Below w.heap.size w w' := by
  obtain ⟨cols, xs, rws, trn⟩ := F
  have hm := hl.len
  replace h : Row w (.slice a n cap) xs := h
  by_cases hc : checkP cols xs rws trn = true ∧ 0 ≤ fr ∧ fr ≤ cols ∧ (m : Int) = cols + 1
  · have e : lineD ⟨cols, xs, rws, trn⟩ ls fr = match rlineP cols.toNat rws trn fr.toNat (xs, ls) with
      | none => (fac0, false)
      | some ys => (⟨cols, ys, rws, trn⟩, true) := by
      unfold lineD
      rw [if_pos (by rw [hm]; exact hc)]
    rw [e]
    obtain ⟨hck, h0, h1, h2⟩ := hc
    obtain ⟨hc1, hc6⟩ := checkP_cols hck
    obtain ⟨c, rfl⟩ := Int.eq_ofNat_of_zero_le (show 0 ≤ cols by omega)
    obtain ⟨j, rfl⟩ := Int.eq_ofNat_of_zero_le h0
    obtain rfl : m = c + 1 := by omega
    have hxl := checkP_len hck
    have hsz := tsz_bounds (c := c) (by omega) (by omega)
    have hn : xs.length = n := h.len
    obtain ⟨tb, tf, rfl, htb, _⟩ := h.shape (by omega)
    subst hn
    have L := ALine_yes c j rws trn tb tf cap b d xs ls w h hl hm hck (by omega) (by omega) (by omega) hxl htb
    refine L.mono ?_
    rintro e w' ⟨hp, hb⟩
    refine ⟨?_, hb⟩
    simp only [Int.toNat_natCast]
    cases hT : rlineP c rws trn j (xs, ls) with
    | none => rw [hT] at hp; exact facB_no hp
    | some ys =>
      rw [hT] at hp
      obtain ⟨v, rfl, hr⟩ := hp
      obtain ⟨a', cap', rfl⟩ := hr.value
      exact ⟨_, _, _, rfl, hr⟩
  · have e : lineD ⟨cols, xs, rws, trn⟩ ls fr = (fac0, false) := by
      unfold lineD
      rw [if_neg (by rw [hm]; exact hc)]
    rw [e]
    refine (ALine_no cols rws trn fr a b n cap m d xs w h hc).mono ?_
    rintro e w' ⟨hp, hb⟩
    exact ⟨facB_no hp, hb⟩
theorem rALine_calls (F : FacD) (fr : Int) (a b : Option Addr) (n cap m d : Nat) (ls : List (Option Nat)) (w : World) (h : Row w (.slice a n cap) F.xs) (hl : Row w (.slice b m d) ls) :
    Calls Try.prog 65 #[.agg #[.int .i64 F.cols, .slice a n cap, .int .i64 F.rws, .int .i64 F.trn], .slice b m d, .int .i64 fr] w fun e w' => FacB (lineD F ls fr) e w' ∧ Below w.heap.size w w' := by
  obtain ⟨cols, xs, rws, trn⟩ := F
  have hm := hl.len
  replace h : Row w (.slice a n cap) xs := h
  by_cases hc : checkP cols xs rws trn = true ∧ 0 ≤ fr ∧ fr ≤ cols ∧ (m : Int) = cols + 1
  · have e : lineD ⟨cols, xs, rws, trn⟩ ls fr = match rlineP cols.toNat rws trn fr.toNat (xs, ls) with
      | none => (fac0, false)
      | some ys => (⟨cols, ys, rws, trn⟩, true) := by
      unfold lineD
      rw [if_pos (by rw [hm]; exact hc)]
    rw [e]
    obtain ⟨hck, h0, h1, h2⟩ := hc
    obtain ⟨hc1, hc6⟩ := checkP_cols hck
    obtain ⟨c, rfl⟩ := Int.eq_ofNat_of_zero_le (show 0 ≤ cols by omega)
    obtain ⟨j, rfl⟩ := Int.eq_ofNat_of_zero_le h0
    obtain rfl : m = c + 1 := by omega
    have hxl := checkP_len hck
    have hsz := tsz_bounds (c := c) (by omega) (by omega)
    have hn : xs.length = n := h.len
    obtain ⟨tb, tf, rfl, htb, _⟩ := h.shape (by omega)
    subst hn
    have L := rALine_yes c j rws trn tb tf cap b d xs ls w h hl hm hck (by omega) (by omega) (by omega) hxl htb
    refine L.mono ?_
    rintro e w' ⟨hp, hb⟩
    refine ⟨?_, hb⟩
    simp only [Int.toNat_natCast]
    cases hT : rlineP c rws trn j (xs, ls) with
    | none => rw [hT] at hp; exact facB_no hp
    | some ys =>
      rw [hT] at hp
      obtain ⟨v, rfl, hr⟩ := hp
      obtain ⟨a', cap', rfl⟩ := hr.value
      exact ⟨_, _, _, rfl, hr⟩
  · have e : lineD ⟨cols, xs, rws, trn⟩ ls fr = (fac0, false) := by
      unfold lineD
      rw [if_neg (by rw [hm]; exact hc)]
    rw [e]
    refine (rALine_no cols rws trn fr a b n cap m d xs w h hc).mono ?_
    rintro e w' ⟨hp, hb⟩
    exact ⟨facB_no hp, hb⟩

/-- what comes of a line may be, and has as many columns -/
theorem lineD_ok {F : FacD} {ls : List (Option Nat)} {fr : Int} (h : (lineD F ls fr).2 = true) : (lineD F ls fr).1.ok = true ∧ (lineD F ls fr).1.cols = F.cols ∧ (lineD F ls fr).1.rws = F.rws ∧ (lineD F ls fr).1.trn = F.trn ∧ F.ok = true := by
  unfold lineD at h ⊢
  by_cases hc : F.ok = true ∧ 0 ≤ fr ∧ fr ≤ F.cols ∧ (ls.length : Int) = F.cols + 1
  · rw [if_pos hc] at h ⊢
    cases hT : rlineP F.cols.toNat F.rws F.trn fr.toNat (F.xs, ls) with
    | none => rw [hT] at h; cases h
    | some ys =>
      refine ⟨?_, rfl, rfl, rfl, hc.1⟩
      unfold rlineP at hT
      split at hT
      · cases hT
      · split at hT
        · rename_i hk
          obtain ⟨h1, h6⟩ := checkP_cols hc.1
          simp only [Option.some.injEq] at hT
          subst hT
          unfold FacD.ok
          rw [Int.toNat_of_nonneg (by omega)] at hk
          exact hk
        · cases hT
  · rw [if_neg hc] at h
    cases h
theorem lineD_no {F : FacD} {ls : List (Option Nat)} {fr : Int} (h : (lineD F ls fr).2 = false) : (lineD F ls fr).1 = fac0 := by
  unfold lineD at h ⊢
  split
  · rename_i hc
    rw [if_pos hc] at h
    cases hT : rlineP F.cols.toNat F.rws F.trn fr.toNat (F.xs, ls) with
    | none => rfl
    | some ys => rw [hT] at h; cases h
  · rfl
end Go.Proofs.Ytgmaljikjkbdlaa
