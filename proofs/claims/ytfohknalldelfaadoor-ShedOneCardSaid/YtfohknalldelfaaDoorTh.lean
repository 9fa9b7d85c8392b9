/- What shed.take and the reference's Line refuse at once; both whole; shed.Line. -/
import Derived.Test.YtfohknalldelfaaDoorTg
import Derived.Test.YtfohknalldelfaaDoorTc
import Derived.Test.YtfohknalldelfaaDoorRe
namespace Go.Proofs.YtfohknalldelfaaDoor
open Go.RowKit Lv Go.Shelf
open Ieee (double Format Datum Toward)

set_option maxRecDepth 100000 in
theorem take_no (cols rws trn : Int) (a b : Option Addr) (n cap m d : Nat) (xs : List (Option Nat)) (w : World) (a0 a1 a2 : Addr) (LD : Laid w a0 a1 a2) (h : Row w (.slice a n cap) xs)
    (hno : ¬ (checkP cols xs rws trn = true ∧ (m : Int) = cols + 1)) :
    Calls Tryd.prog 25 #[.agg #[.int .i64 cols, .slice a n cap, .int .i64 rws, .int .i64 trn], .slice b m d] w fun e w' => FacErr w.heap.size a0 a1 a2 (fac0, 1) e w' ∧ Below w.heap.size w w' := by
  have hr := (h.alloc (.cells #[.int .i64 cols, .slice a n cap, .int .i64 rws, .int .i64 trn] 24)).alloc (.cells #[.int .i64 0, .slice none 0 0, .int .i64 0, .int .i64 0] 24)
  have L := Lib.hid (check_calls cols rws trn a n cap xs _ hr)
  have HLD := Lib.hid LD
  have W6 : Hid (Cells4 ((w.alloc (.cells #[.int .i64 cols, .slice a n cap, .int .i64 rws, .int .i64 trn] 24)).alloc (.cells #[.int .i64 0, .slice none 0 0, .int .i64 0, .int .i64 0] 24)) (w.heap.size + 1) (.int .i64 0) (.slice none 0 0) (.int .i64 0) (.int .i64 0)) := by
    constructor <;> simp [go_sem]
  have W3 : Hid (Cells4 ((w.alloc (.cells #[.int .i64 cols, .slice a n cap, .int .i64 rws, .int .i64 trn] 24)).alloc (.cells #[.int .i64 0, .slice none 0 0, .int .i64 0, .int .i64 0] 24)) w.heap.size (.int .i64 cols) (.slice a n cap) (.int .i64 rws) (.int .i64 trn)) := by
    constructor <;> simp [go_sem]
  cases hc : checkP cols xs rws trn
  · rw [hc] at L
    clear h hr hno hc LD
    go_enter Tryd.func25, Tryd.ntmps25
    go_wp2_with (first | (go_at_call 18; refine L.out.mono ?_; rintro e w1 ⟨rfl, hb⟩; have C6 := W6.out.below hb; obtain ⟨c60, c61, c62, c63, f60, f61, f62, f63⟩ := C6; have HB := Lib.hid ((((Below.refl w.heap.size w).alloc (Nat.le_refl _) (.cells #[.int .i64 cols, .slice a n cap, .int .i64 rws, .int .i64 trn] 24)).alloc (by simp) (.cells #[.int .i64 0, .slice none 0 0, .int .i64 0, .int .i64 0] 24)).trans (hb.mono (by simp; omega))); have q0 := (HLD.out.below HB.out).g0))
    go_region
    go_wp2
    have P6 := (W6.out.below hb).put (.int .i64 0) (.slice none 0 0) (.int .i64 0) (.int .i64 0)
    refine bodyPost_ret (v := .tuple #[facZ, ErrD.arg.val a0 a1 a2]) (by simp [results, Tryd.results25, go_sem, P6.c0, P6.c1, P6.c2, P6.c3, facZ, ErrD.val]) rfl ⟨facErr_no _ _ _ _ _ _ rfl _, ?_⟩
    exact ((((HB.out.setCell (p := ⟨w.heap.size + 1, 0, none⟩) (by simp) _).setCell (p := ⟨w.heap.size + 1, 1, none⟩) (by simp) _).setCell (p := ⟨w.heap.size + 1, 2, none⟩) (by simp) _).setCell (p := ⟨w.heap.size + 1, 3, none⟩) (by simp) _).drew
  · obtain ⟨hc1, hc6⟩ := checkP_cols hc
    have hne : ((m : Int) != cols + 1) = true := by
      simp only [bne_iff_ne, ne_eq]
      intro e
      exact hno ⟨hc, e⟩
    rw [hc] at L
    clear h hr hno hc LD
    go_enter Tryd.func25, Tryd.ntmps25
    go_wp2_with (first | (go_at_call 18; refine L.out.mono ?_; rintro e w1 ⟨rfl, hb⟩; have C6 := W6.out.below hb; obtain ⟨c60, c61, c62, c63, f60, f61, f62, f63⟩ := C6; have hz := hb.size; simp at hz; have hz1 : w.heap.size < w1.heap.size := (by omega); have C3 := W3.out.below hb; obtain ⟨c30, c31, c32, c33, f30, f31, f32, f33⟩ := C3; have HB := Lib.hid ((((Below.refl w.heap.size w).alloc (Nat.le_refl _) (.cells #[.int .i64 cols, .slice a n cap, .int .i64 rws, .int .i64 trn] 24)).alloc (by simp) (.cells #[.int .i64 0, .slice none 0 0, .int .i64 0, .int .i64 0] 24)).trans (hb.mono (by simp; omega))); have q0 := (HLD.out.below HB.out).g0))
    go_region
    go_wp2
    have P6 := (W6.out.below hb).put (.int .i64 0) (.slice none 0 0) (.int .i64 0) (.int .i64 0)
    refine bodyPost_ret (v := .tuple #[facZ, ErrD.arg.val a0 a1 a2]) (by simp [results, Tryd.results25, go_sem, P6.c0, P6.c1, P6.c2, P6.c3, facZ, ErrD.val]) rfl ⟨facErr_no _ _ _ _ _ _ rfl _, ?_⟩
    exact ((((HB.out.setCell (p := ⟨w.heap.size + 1, 0, none⟩) (by simp) _).setCell (p := ⟨w.heap.size + 1, 1, none⟩) (by simp) _).setCell (p := ⟨w.heap.size + 1, 2, none⟩) (by simp) _).setCell (p := ⟨w.heap.size + 1, 3, none⟩) (by simp) _).drew

set_option maxRecDepth 100000 in
theorem rsline_no (cols rws trn : Int) (a b : Option Addr) (n cap m d : Nat) (xs : List (Option Nat)) (w : World) (h : Row w (.slice a n cap) xs)
    (hno : ¬ (checkP cols xs rws trn = true ∧ (m : Int) = cols + 1)) :
    Calls Tryd.prog 11 #[.agg #[.int .i64 cols, .slice a n cap, .int .i64 rws, .int .i64 trn], .slice b m d] w fun e w' => e = .returned (.tuple #[facZ, .int .i64 1]) ∧ Below w.heap.size w w' := by
  have hr := (h.alloc (.cells #[.int .i64 cols, .slice a n cap, .int .i64 rws, .int .i64 trn] 24)).alloc (.cells #[.int .i64 0, .slice none 0 0, .int .i64 0, .int .i64 0] 24)
  have L := Lib.hid (rcheck_calls cols rws trn a n cap xs _ hr)
  cases hc : checkP cols xs rws trn
  · rw [hc] at L
    clear h hr hno hc
    go_enter Tryd.func11, Tryd.ntmps11
    go_wp2_with (first | (go_at_call 27; refine L.out.mono ?_; rintro e w1 ⟨rfl, hb⟩; obtain ⟨hq, hf⟩ := bcell hb))
    have hB := (((Below.refl w.heap.size w).alloc (Nat.le_refl _) (.cells #[.int .i64 cols, .slice a n cap, .int .i64 rws, .int .i64 trn] 24)).alloc (by simp) (.cells #[.int .i64 0, .slice none 0 0, .int .i64 0, .int .i64 0] 24)).trans (hb.mono (by simp; omega))
    exact bodyPost_ret (v := .tuple #[facZ, .int .i64 1]) (by simp [results, Tryd.results11, go_sem, hq, facZ]) rfl ⟨rfl, (((hB.setCell (p := ⟨w.heap.size + 1, 0, none⟩) (by simp) _).setCell (p := ⟨w.heap.size + 1, 1, none⟩) (by simp) _).setCell (p := ⟨w.heap.size + 1, 2, none⟩) (by simp) _).setCell (p := ⟨w.heap.size + 1, 3, none⟩) (by simp) _⟩
  · obtain ⟨hc1, hc6⟩ := checkP_cols hc
    have hne : ((m : Int) != cols + 1) = true := by
      simp only [bne_iff_ne, ne_eq]
      intro e
      exact hno ⟨hc, e⟩
    rw [hc] at L
    clear h hr hno hc
    go_enter Tryd.func11, Tryd.ntmps11
    go_wp2_with (first | (go_at_call 27; refine L.out.mono ?_; rintro e w1 ⟨rfl, hb⟩; obtain ⟨hq, hf⟩ := bcell hb; have hz := hb.size; simp at hz; have hz1 : w.heap.size < w1.heap.size := (by omega)))
    have hB := (((Below.refl w.heap.size w).alloc (Nat.le_refl _) (.cells #[.int .i64 cols, .slice a n cap, .int .i64 rws, .int .i64 trn] 24)).alloc (by simp) (.cells #[.int .i64 0, .slice none 0 0, .int .i64 0, .int .i64 0] 24)).trans (hb.mono (by simp; omega))
    exact bodyPost_ret (v := .tuple #[facZ, .int .i64 1]) (by simp [results, Tryd.results11, go_sem, hq, facZ]) rfl ⟨rfl, (((hB.setCell (p := ⟨w.heap.size + 1, 0, none⟩) (by simp) _).setCell (p := ⟨w.heap.size + 1, 1, none⟩) (by simp) _).setCell (p := ⟨w.heap.size + 1, 2, none⟩) (by simp) _).setCell (p := ⟨w.heap.size + 1, 3, none⟩) (by simp) _⟩

theorem shedD_yes {c : Nat} {xs ls : List (Option Nat)} {rws trn : Int} (h : checkP (c : Int) xs rws trn = true) (hl : ls.length = c + 1) : shedD ⟨(c : Int), xs, rws, trn⟩ ls = shedR c rws trn (sfrom c (c + 1) 0 (xs, ls)) := by
  unfold shedD
  rw [if_pos ⟨h, by dsimp only; omega⟩]
  dsimp only
  rw [Int.toNat_natCast]
  cases sfrom c (c + 1) 0 (xs, ls) <;> rfl
theorem take_calls (F : FacD) (a b : Option Addr) (n cap m d : Nat) (ls : List (Option Nat)) (w : World) (a0 a1 a2 : Addr) (LD : Laid w a0 a1 a2) (h : Row w (.slice a n cap) F.xs) (hl : Row w (.slice b m d) ls) :
    Calls Tryd.prog 25 #[.agg #[.int .i64 F.cols, .slice a n cap, .int .i64 F.rws, .int .i64 F.trn], .slice b m d] w fun e w' => FacErr w.heap.size a0 a1 a2 (shedD F ls) e w' ∧ Below w.heap.size w w' := by
  obtain ⟨cols, xs, rws, trn⟩ := F
  have hm := hl.len
  replace h : Row w (.slice a n cap) xs := h
  by_cases hc : checkP cols xs rws trn = true ∧ (m : Int) = cols + 1
  · obtain ⟨hck, h2⟩ := hc
    obtain ⟨hc1, hc6⟩ := checkP_cols hck
    obtain ⟨c, rfl⟩ := Int.eq_ofNat_of_zero_le (show 0 ≤ cols by omega)
    obtain rfl : m = c + 1 := by omega
    have hxl := checkP_len hck
    have hsz := tsz_bounds (c := c) (by omega) (by omega)
    have hn : xs.length = n := h.len
    obtain ⟨tb, tf, rfl, htb, _⟩ := h.shape (by omega)
    subst hn
    rw [shedD_yes hck hm]
    exact take_yes c rws trn tb tf cap b d xs ls w a0 a1 a2 LD h hl hck (by omega) (by omega) hxl htb
  · have e : shedD ⟨cols, xs, rws, trn⟩ ls = (fac0, 1) := by
      unfold shedD
      rw [if_neg (by rw [hm]; exact hc)]
    rw [e]
    exact take_no cols rws trn a b n cap m d xs w a0 a1 a2 LD h hc
theorem rsLine_calls (F : FacD) (a b : Option Addr) (n cap m d : Nat) (ls : List (Option Nat)) (w : World) (h : Row w (.slice a n cap) F.xs) (hl : Row w (.slice b m d) ls) :
    Calls Tryd.prog 11 #[.agg #[.int .i64 F.cols, .slice a n cap, .int .i64 F.rws, .int .i64 F.trn], .slice b m d] w fun e w' => FacE (shedD F ls) e w' ∧ Below w.heap.size w w' := by
  obtain ⟨cols, xs, rws, trn⟩ := F
  have hm := hl.len
  replace h : Row w (.slice a n cap) xs := h
  by_cases hc : checkP cols xs rws trn = true ∧ (m : Int) = cols + 1
  · obtain ⟨hck, h2⟩ := hc
    obtain ⟨hc1, hc6⟩ := checkP_cols hck
    obtain ⟨c, rfl⟩ := Int.eq_ofNat_of_zero_le (show 0 ≤ cols by omega)
    obtain rfl : m = c + 1 := by omega
    have hxl := checkP_len hck
    have hsz := tsz_bounds (c := c) (by omega) (by omega)
    have hn : xs.length = n := h.len
    obtain ⟨tb, tf, rfl, htb, _⟩ := h.shape (by omega)
    subst hn
    rw [shedD_yes hck hm]
    exact rsline_yes c rws trn tb tf cap b d xs ls w h hl hck (by omega) (by omega) hxl
  · have e : shedD ⟨cols, xs, rws, trn⟩ ls = (fac0, 1) := by
      unfold shedD
      rw [if_neg (by rw [hm]; exact hc)]
    rw [e]
    refine (rsline_no cols rws trn a b n cap m d xs w h hc).mono ?_
    rintro e w' ⟨hp, hb⟩
    exact ⟨⟨none, 0, 0, hp, row_nil _⟩, hb⟩

set_option maxRecDepth 100000 in
theorem sLine_calls (F : FacD) (a b : Option Addr) (n cap m d : Nat) (ls : List (Option Nat)) (w : World) (a0 a1 a2 : Addr) (LD : Laid w a0 a1 a2) (h : Row w (.slice a n cap) F.xs) (hl : Row w (.slice b m d) ls) :
    Calls Tryd.prog 10 #[.agg #[.int .i64 F.cols, .slice a n cap, .int .i64 F.rws, .int .i64 F.trn], .slice b m d] w fun e w' => FacE (shedD F ls) e w' ∧ Below w.heap.size w w' := by
  have HH := Lib.hid (And.intro h (And.intro hl LD))
  generalize hR : shedD F ls = R
  have HR := Lib.hid hR
  have W6 : Hid (Cells4 ((w.alloc (.cells #[.int .i64 F.cols, .slice a n cap, .int .i64 F.rws, .int .i64 F.trn] 24)).alloc (.cells #[.int .i64 0, .slice none 0 0, .int .i64 0, .int .i64 0] 24)) (w.heap.size + 1) (.int .i64 0) (.slice none 0 0) (.int .i64 0) (.int .i64 0)) := by
    constructor <;> simp [go_sem]
  have W3 : Hid (Cells4 ((w.alloc (.cells #[.int .i64 F.cols, .slice a n cap, .int .i64 F.rws, .int .i64 F.trn] 24)).alloc (.cells #[.int .i64 0, .slice none 0 0, .int .i64 0, .int .i64 0] 24)) w.heap.size (.int .i64 F.cols) (.slice a n cap) (.int .i64 F.rws) (.int .i64 F.trn)) := by
    constructor <;> simp [go_sem]
  clear h hl LD hR
  go_enter Tryd.func10, Tryd.ntmps10
  go_wp2_with (first
    | (go_at_call 25; go_must (refine (take_calls F a b n cap m d ls _ a0 a1 a2 (HH.out.2.2.below (((Below.refl w.heap.size w).alloc (Nat.le_refl _) _).alloc (by simp) _)) ((HH.out.1.alloc _).alloc _) ((HH.out.2.1.alloc _).alloc _)).mono ?_; rw [HR.out]; rintro e w1 ⟨⟨E, a', n', cap', rfl, hE, hrow, hfar⟩, hb⟩; have C3 := (W3.out.below hb); obtain ⟨c30, c31, c32, c33, f30, f31, f32, f33⟩ := C3; have C6 := (W6.out.below hb); obtain ⟨c60, c61, c62, c63, f60, f61, f62, f63⟩ := C6)))
  have hsz := hb.size
  simp at hsz
  have C3s := (W3.out.below hb).put (.int .i64 R.1.cols) (.slice a' n' cap') (.int .i64 R.1.rws) (.int .i64 R.1.trn)
  have C6s := ((((W6.out.below hb).set (b' := w.heap.size) (o := 0) (v := .int .i64 R.1.cols) (by omega)).set (b' := w.heap.size) (o := 1) (v := .slice a' n' cap') (by omega)).set (b' := w.heap.size) (o := 2) (v := .int .i64 R.1.rws) (by omega)).set (b' := w.heap.size) (o := 3) (v := .int .i64 R.1.trn) (by omega)
  have HB := (((((((Below.refl w.heap.size w).alloc (Nat.le_refl _) (.cells #[.int .i64 F.cols, .slice a n cap, .int .i64 F.rws, .int .i64 F.trn] 24)).alloc (by simp) (.cells #[.int .i64 0, .slice none 0 0, .int .i64 0, .int .i64 0] 24)).trans (hb.mono (by simp; omega))).setCell (p := ⟨w.heap.size, 0, none⟩) (Nat.le_refl _) (.int .i64 R.1.cols)).setCell (p := ⟨w.heap.size, 1, none⟩) (Nat.le_refl _) (.slice a' n' cap')).setCell (p := ⟨w.heap.size, 2, none⟩) (Nat.le_refl _) (.int .i64 R.1.rws)).setCell (p := ⟨w.heap.size, 3, none⟩) (Nat.le_refl _) (.int .i64 R.1.trn)
  have HRW : Row ((((w1.setCell ⟨w.heap.size, 0, none⟩ (.int .i64 R.1.cols)).setCell ⟨w.heap.size, 1, none⟩ (.slice a' n' cap')).setCell ⟨w.heap.size, 2, none⟩ (.int .i64 R.1.rws)).setCell ⟨w.heap.size, 3, none⟩ (.int .i64 R.1.trn)) (.slice a' n' cap') R.1.xs := by
    have hne : ∀ p, a' = some p → w.heap.size ≠ p.block := fun p hp => by
      have := hfar p hp
      simp at this
      omega
    exact (((hrow.setAway hne).setAway hne).setAway hne).setAway hne
  have HEE := Lib.hid (And.intro hE (And.intro HRW hfar))
  clear c30 c31 c32 c33 f30 f31 f32 f33 c60 c61 c62 c63 f60 f61 f62 f63 W3 W6 hb hrow hE HRW hfar
  generalize ((((w1.setCell ⟨w.heap.size, 0, none⟩ (.int .i64 R.1.cols)).setCell ⟨w.heap.size, 1, none⟩ (.slice a' n' cap')).setCell ⟨w.heap.size, 2, none⟩ (.int .i64 R.1.rws)).setCell ⟨w.heap.size, 3, none⟩ (.int .i64 R.1.trn)) = ws at *
  obtain ⟨c30, c31, c32, c33, f30, f31, f32, f33⟩ := id C3s
  obtain ⟨c60, c61, c62, c63, f60, f61, f62, f63⟩ := id C6s
  have R1 := Lib.hid (fun W (hW : Below w.heap.size w W) => code_calls E a0 a1 a2 W (HH.out.2.2.below hW))
  have HB1 := Lib.hid HB
  have HC := Lib.hid (And.intro C3s C6s)
  have l3 := C3s.lt
  have l6 := C6s.lt
  clear HB C3s C6s
  go_region_with (go_at_call 26; go_must (refine (R1.out _ HB1.out.drew).mono ?_; rintro e w2 ⟨rfl, hb2⟩; have C3 := HC.out.1.below (((Below.refl _ _).drew).trans hb2); obtain ⟨p30, p31, p32, p33, q30, q31, q32, q33⟩ := C3; have C6 := HC.out.2.below (((Below.refl _ _).drew).trans hb2); obtain ⟨p60, p61, p62, p63, q60, q61, q62, q63⟩ := C6))
  all_goals
    go_wp2
    have P6 := (HC.out.2.below (((Below.refl _ _).drew).trans hb2)).put (.int .i64 R.1.cols) (.slice a' n' cap') (.int .i64 R.1.rws) (.int .i64 R.1.trn)
    have HB2 := (HB1.out.drew).trans (hb2.mono HB1.out.drew.size)
    have hne : ∀ p, a' = some p → w.heap.size + 1 ≠ p.block := fun p hp => by
      have := HEE.out.2.2 p hp
      simp at this
      omega
    have HR2 := HEE.out.2.1.below (((Below.refl _ _).drew).trans hb2)
    have hE := HEE.out.1
    refine bodyPost_ret (v := .tuple #[.agg #[.int .i64 R.1.cols, .slice a' n' cap', .int .i64 R.1.rws, .int .i64 R.1.trn], .int .i64 E.code]) (by simp [results, Tryd.results10, go_sem, P6.c0, P6.c1, P6.c2, P6.c3]) rfl ⟨⟨a', n', cap', by rw [hE], ?_⟩, ?_⟩
    · exact (((HR2.setAway hne).setAway hne).setAway hne).setAway hne
    · exact (((HB2.setCell (p := ⟨w.heap.size + 1, 0, none⟩) (by simp) _).setCell (p := ⟨w.heap.size + 1, 1, none⟩) (by simp) _).setCell (p := ⟨w.heap.size + 1, 2, none⟩) (by simp) _).setCell (p := ⟨w.heap.size + 1, 3, none⟩) (by simp) _
end Go.Proofs.YtfohknalldelfaaDoor
