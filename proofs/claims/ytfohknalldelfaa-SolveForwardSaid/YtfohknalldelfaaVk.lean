/- Solving, whole: both Backs, both Forwards, both Ridges; layer 16's own examples, walked. -/
import Derived.Test.YtfohknalldelfaaVj
import Derived.Test.YtfohknalldelfaaSo
namespace Go.Proofs.Ytfohknalldelfaa
open Go.RowKit Lv Go.Shelf
open Ieee (double Format Datum Toward)
attribute [local go_sem] Oper.semAt_some run_store_float drewN_alloc drewN_setCell

/-- what solve.Forward comes to -/
theorem forw_calls (F : FacD) (a b : Option Addr) (n cap m d : Nat) (vs : List (Option Nat)) (w : World) (h : Row w (.slice a n cap) F.xs) (hv : Row w (.slice b m d) vs) :
    Calls Try.prog 12 #[.agg #[.int .i64 F.cols, .slice a n cap, .int .i64 F.rws, .int .i64 F.trn], .slice b m d] w fun e w' => LstE (forwD F vs) e w' ∧ Below w.heap.size w w' := by
  have hB := (Below.refl w.heap.size w).alloc (Nat.le_refl _) (.cells #[.int .i64 F.cols, .slice a n cap, .int .i64 F.rws, .int .i64 F.trn] 24)
  have HB := Lib.hid hB
  have HR := Lib.hid h
  have hvl := hv.len
  have L := check_calls F.cols F.rws F.trn a n cap F.xs _ (h.below hB)
  have HC := Lib.hid (Cells4.new w (.int .i64 F.cols) (.slice a n cap) (.int .i64 F.rws) (.int .i64 F.trn) 24)
  cases hok : F.ok
  · have e : forwD F vs = ([], 1) := by unfold forwD; rw [if_pos (.inl hok)]
    rw [e]
    rw [show checkP F.cols F.xs F.rws F.trn = false from hok] at L
    have LH := Lib.hid L
    clear L h hv hB hok e hvl
    go_enter Try.func12, Try.ntmps12
    go_wp2
    go_step3
    go_wp2_with (go_at_call 18; go_must (refine LH.out.mono ?_; rintro e w1 ⟨rfl, hb⟩))
    rw [Exit.noGoto_ret]
    go_ret2
    exact ⟨⟨none, 0, 0, rfl, row_nil _⟩, HB.out.trans (hb.mono (by simp))⟩
  · rw [show checkP F.cols F.xs F.rws F.trn = true from hok] at L
    by_cases hm : (m : Int) ≠ F.cols
    · have e : forwD F vs = ([], 1) := by unfold forwD; rw [if_pos (.inr (by omega))]
      rw [e]
      have LH := Lib.hid L
      have hne : ((m : Int) != F.cols) = true := by simpa using hm
      clear L h hv hB hok e hvl hm
      go_enter Try.func12, Try.ntmps12
      go_wp2
      go_step3
      go_wp2_with (go_at_call 18; go_must (refine LH.out.mono ?_; rintro e w1 ⟨rfl, hb⟩; have C1 := Lib.hid (HC.out.below hb); obtain ⟨c0, c1, c2, c3, _, _, _, _⟩ := C1.out))
      rw [Exit.noGoto_ret]
      go_ret2
      exact ⟨⟨none, 0, 0, rfl, row_nil _⟩, HB.out.trans (hb.mono (by simp))⟩
    · obtain ⟨cols, xs, rws, trn⟩ := F
      have hck : checkP cols xs rws trn = true := hok
      obtain ⟨hc1, hc6⟩ := checkP_cols hck
      obtain ⟨c, rfl⟩ := Int.eq_ofNat_of_zero_le (show 0 ≤ cols by omega)
      dsimp only at h L HR HB HC hm ⊢
      obtain rfl : m = c := by omega
      have hno : ¬ ((⟨(m : Int), xs, rws, trn⟩ : FacD).ok = false ∨ (vs.length : Int) ≠ (⟨(m : Int), xs, rws, trn⟩ : FacD).cols) := by
        rintro (e | e)
        · rw [hok] at e; cases e
        · exact e (by dsimp only; omega)
      cases hs : singD xs m
      · have e : forwD ⟨(m : Int), xs, rws, trn⟩ vs = answD (forwT xs m vs m) := by unfold forwD; rw [if_neg hno]; dsimp only; rw [Int.toNat_natCast, if_neg (by rw [hs]; decide)]
        rw [e]
        exact forw_yes m rws trn a b n cap d xs vs w h hv hck hs
      · have e : forwD ⟨(m : Int), xs, rws, trn⟩ vs = ([], 7) := by unfold forwD; rw [if_neg hno]; dsimp only; rw [Int.toNat_natCast, if_pos hs]
        rw [e]
        have LH := Lib.hid L
        have SQ := Lib.hid (fun W hW => square_calls m rws trn a n cap xs W hW hck)
        have SG := Lib.hid (fun W B qb hW => by have := singular_calls B qb m xs W (by omega) hW; rw [hs] at this; exact this)
        have hne : ((m : Int) != (m : Int)) = false := by simp
        clear L h hv hB hok e hck hs hno hm hvl
        go_enter Try.func12, Try.ntmps12
        go_wp2
        go_step3
        go_wp2_with (first
          | (go_at_call 18; go_must (refine LH.out.mono ?_; rintro e w1 ⟨rfl, hb⟩; have B1 := Lib.hid (HB.out.trans (hb.mono (by simp))); have C1 := Lib.hid (HC.out.below hb); obtain ⟨c0, c1, c2, c3, _, _, _, _⟩ := C1.out; clear hb))
          | (go_at_call 19; go_must (refine (SQ.out _ (HR.out.below B1.out)).mono ?_; rintro e w2 ⟨⟨qb, xb, L, rfl, hsq, hqx, hq0, hx0, hx1, hq1, hown, hll, hlast, hsz⟩, hb2⟩; have S2 := Lib.hid hsq; have B2 := Lib.hid (B1.out.trans (hb2.mono B1.out.size)); clear c0 c1 c2 c3 hsq hown hlast))
          | (go_at_call 20; go_must (refine (SG.out _ _ qb S2.out).mono ?_; rintro e w3 ⟨rfl, rfl⟩)))
        rw [Exit.noGoto_ret]
        go_ret2
        exact ⟨⟨none, 0, 0, rfl, row_nil _⟩, B2.out⟩
/-- what the reference's Back comes to -/
theorem rback_calls (F : FacD) (a : Option Addr) (n cap : Nat) (w : World) (h : Row w (.slice a n cap) F.xs) :
    Calls Try.prog 8 #[.agg #[.int .i64 F.cols, .slice a n cap, .int .i64 F.rws, .int .i64 F.trn]] w fun e w' => LstE (backD F) e w' ∧ Below w.heap.size w w' := by
  have hB := (Below.refl w.heap.size w).alloc (Nat.le_refl _) (.cells #[.int .i64 F.cols, .slice a n cap, .int .i64 F.rws, .int .i64 F.trn] 24)
  have HB := Lib.hid hB
  have HR := Lib.hid h
  have L := rcheck_calls F.cols F.rws F.trn a n cap F.xs _ (h.below hB)
  have HC := Lib.hid (Cells4.new w (.int .i64 F.cols) (.slice a n cap) (.int .i64 F.rws) (.int .i64 F.trn) 24)
  cases hok : F.ok
  · have e : backD F = ([], 1) := by unfold backD; rw [if_pos hok]
    rw [e]
    rw [show checkP F.cols F.xs F.rws F.trn = false from hok] at L
    have LH := Lib.hid L
    clear L h hB hok e
    go_enter Try.func8, Try.ntmps8
    go_wp2_with (go_at_call 14; go_must (refine LH.out.mono ?_; rintro e w1 ⟨rfl, hb⟩))
    go_ret2
    exact ⟨⟨none, 0, 0, rfl, row_nil _⟩, HB.out.trans (hb.mono (by simp))⟩
  · obtain ⟨cols, xs, rws, trn⟩ := F
    have hck : checkP cols xs rws trn = true := hok
    obtain ⟨hc1, hc6⟩ := checkP_cols hck
    obtain ⟨c, rfl⟩ := Int.eq_ofNat_of_zero_le (show 0 ≤ cols by omega)
    dsimp only at h L HR HB HC ⊢
    cases hs : singD xs c
    · have e : backD ⟨(c : Int), xs, rws, trn⟩ = answD (backT xs c c) := by unfold backD; rw [if_neg (by rw [hok]; decide)]; dsimp only; rw [Int.toNat_natCast, if_neg (by rw [hs]; decide)]
      rw [e]
      exact rback_yes c rws trn a n cap xs w h hck hs
    · have e : backD ⟨(c : Int), xs, rws, trn⟩ = ([], 7) := by unfold backD; rw [if_neg (by rw [hok]; decide)]; dsimp only; rw [Int.toNat_natCast, if_pos hs]
      rw [e]
      rw [show checkP (c : Int) xs rws trn = true from hok] at L
      have LH := Lib.hid L
      have SG := Lib.hid (fun W hW => by have := rsing_calls c rws trn a n cap xs W hW hck; rw [hs] at this; exact this)
      clear L h hB hok e hck hs
      go_enter Try.func8, Try.ntmps8
      go_wp2_with (first
        | (go_at_call 14; go_must (refine LH.out.mono ?_; rintro e w1 ⟨rfl, hb⟩; have B1 := Lib.hid (HB.out.trans (hb.mono (by simp))); have C1 := Lib.hid (HC.out.below hb); obtain ⟨c0, c1, c2, c3, _, _, _, _⟩ := C1.out; clear hb))
        | (go_at_call 15; go_must (refine (SG.out _ (HR.out.below B1.out)).mono ?_; rintro e w2 ⟨rfl, hb2⟩; have B2 := Lib.hid (B1.out.trans (hb2.mono B1.out.size)); clear hb2)))
      go_ret2
      exact ⟨⟨none, 0, 0, rfl, row_nil _⟩, B2.out⟩
/-- what the reference's Forward comes to -/
theorem rforw_calls (F : FacD) (a b : Option Addr) (n cap m d : Nat) (vs : List (Option Nat)) (w : World) (h : Row w (.slice a n cap) F.xs) (hv : Row w (.slice b m d) vs) :
    Calls Try.prog 13 #[.agg #[.int .i64 F.cols, .slice a n cap, .int .i64 F.rws, .int .i64 F.trn], .slice b m d] w fun e w' => LstE (forwD F vs) e w' ∧ Below w.heap.size w w' := by
  have hB := (Below.refl w.heap.size w).alloc (Nat.le_refl _) (.cells #[.int .i64 F.cols, .slice a n cap, .int .i64 F.rws, .int .i64 F.trn] 24)
  have HB := Lib.hid hB
  have HR := Lib.hid h
  have hvl := hv.len
  have L := rcheck_calls F.cols F.rws F.trn a n cap F.xs _ (h.below hB)
  have HC := Lib.hid (Cells4.new w (.int .i64 F.cols) (.slice a n cap) (.int .i64 F.rws) (.int .i64 F.trn) 24)
  cases hok : F.ok
  · have e : forwD F vs = ([], 1) := by unfold forwD; rw [if_pos (.inl hok)]
    rw [e]
    rw [show checkP F.cols F.xs F.rws F.trn = false from hok] at L
    have LH := Lib.hid L
    clear L h hv hB hok e hvl
    go_enter Try.func13, Try.ntmps13
    go_wp2_with (go_at_call 14; go_must (refine LH.out.mono ?_; rintro e w1 ⟨rfl, hb⟩))
    go_ret2
    exact ⟨⟨none, 0, 0, rfl, row_nil _⟩, HB.out.trans (hb.mono (by simp))⟩
  · rw [show checkP F.cols F.xs F.rws F.trn = true from hok] at L
    by_cases hm : (m : Int) ≠ F.cols
    · have e : forwD F vs = ([], 1) := by unfold forwD; rw [if_pos (.inr (by omega))]
      rw [e]
      have LH := Lib.hid L
      have hne : ((m : Int) != F.cols) = true := by simpa using hm
      clear L h hv hB hok e hvl hm
      go_enter Try.func13, Try.ntmps13
      go_wp2_with (go_at_call 14; go_must (refine LH.out.mono ?_; rintro e w1 ⟨rfl, hb⟩; have C1 := Lib.hid (HC.out.below hb); obtain ⟨c0, c1, c2, c3, _, _, _, _⟩ := C1.out))
      go_ret2
      exact ⟨⟨none, 0, 0, rfl, row_nil _⟩, HB.out.trans (hb.mono (by simp))⟩
    · obtain ⟨cols, xs, rws, trn⟩ := F
      have hck : checkP cols xs rws trn = true := hok
      obtain ⟨hc1, hc6⟩ := checkP_cols hck
      obtain ⟨c, rfl⟩ := Int.eq_ofNat_of_zero_le (show 0 ≤ cols by omega)
      dsimp only at h L HR HB HC hm ⊢
      obtain rfl : m = c := by omega
      have hno : ¬ ((⟨(m : Int), xs, rws, trn⟩ : FacD).ok = false ∨ (vs.length : Int) ≠ (⟨(m : Int), xs, rws, trn⟩ : FacD).cols) := by
        rintro (e | e)
        · rw [hok] at e; cases e
        · exact e (by dsimp only; omega)
      cases hs : singD xs m
      · have e : forwD ⟨(m : Int), xs, rws, trn⟩ vs = answD (forwT xs m vs m) := by unfold forwD; rw [if_neg hno]; dsimp only; rw [Int.toNat_natCast, if_neg (by rw [hs]; decide)]
        rw [e]
        exact rforw_yes m rws trn a b n cap d xs vs w h hv hck hs
      · have e : forwD ⟨(m : Int), xs, rws, trn⟩ vs = ([], 7) := by unfold forwD; rw [if_neg hno]; dsimp only; rw [Int.toNat_natCast, if_pos hs]
        rw [e]
        have LH := Lib.hid L
        have SG := Lib.hid (fun W hW => by have := rsing_calls m rws trn a n cap xs W hW hck; rw [hs] at this; exact this)
        have hne : ((m : Int) != (m : Int)) = false := by simp
        clear L h hv hB hok e hck hs hno hm hvl
        go_enter Try.func13, Try.ntmps13
        go_wp2_with (first
          | (go_at_call 14; go_must (refine LH.out.mono ?_; rintro e w1 ⟨rfl, hb⟩; have B1 := Lib.hid (HB.out.trans (hb.mono (by simp))); have C1 := Lib.hid (HC.out.below hb); obtain ⟨c0, c1, c2, c3, _, _, _, _⟩ := C1.out; clear hb))
          | (go_at_call 15; go_must (refine (SG.out _ (HR.out.below B1.out)).mono ?_; rintro e w2 ⟨rfl, hb2⟩; have B2 := Lib.hid (B1.out.trans (hb2.mono B1.out.size)); clear hb2)))
        go_ret2
        exact ⟨⟨none, 0, 0, rfl, row_nil _⟩, B2.out⟩
/-- with a ridge -/
def sridgeD (F : FacD) (mu : Option Nat) : List (Option Nat) × Int := if (ridgeD F mu).2 ≠ 0 then ([], (ridgeD F mu).2) else backD (ridgeD F mu).1
theorem sridge_calls (F : FacD) (a : Option Addr) (n cap y : Nat) {mu : Option Nat} (w : World) (h : Row w (.slice a n cap) F.xs) (hy : FW y mu) :
    Calls Try.prog 9 #[.agg #[.int .i64 F.cols, .slice a n cap, .int .i64 F.rws, .int .i64 F.trn], .float .f64 y] w fun e w' => LstE (sridgeD F mu) e w' ∧ Below w.heap.size w w' := by
  have hB := (Below.refl w.heap.size w).alloc (Nat.le_refl _) (.cells #[.int .i64 F.cols, .slice a n cap, .int .i64 F.rws, .int .i64 F.trn] 24)
  have HB := Lib.hid hB
  have AR := aridge_calls F a n cap y _ (h.below hB) hy
  have HC := Lib.hid (Cells4.new w (.int .i64 F.cols) (.slice a n cap) (.int .i64 F.rws) (.int .i64 F.trn) 24)
  have E : Hid (sridgeD F mu = if (ridgeD F mu).2 ≠ 0 then ([], (ridgeD F mu).2) else backD (ridgeD F mu).1) := rfl
  generalize sridgeD F mu = D at *
  obtain ⟨R, hR⟩ : ∃ R, R = ridgeD F mu := ⟨_, rfl⟩
  rw [← hR] at E AR
  obtain ⟨G, ge⟩ := R
  dsimp only at E AR
  have ARH := Lib.hid AR
  clear AR hR h hB
  by_cases hge : ge ≠ 0
  · have E2 : Hid (D = ([], ge)) := by unfold Hid; rw [E.out, if_pos hge]
    have hne : (ge != 0) = true := by simpa using hge
    clear hge E
    go_enter Try.func9, Try.ntmps9
    go_wp2_with (go_at_call 26; go_must (refine ARH.out.mono ?_; rintro e w2 ⟨⟨ga, gn, gcp, he, hrow⟩, hb2⟩; dsimp only at he; subst he; have B2 := Lib.hid (HB.out.trans (hb2.mono HB.out.size)); have C2 := Lib.hid (HC.out.below hb2); obtain ⟨c0, c1, c2, c3, f0, f1, f2, f3⟩ := C2.out; clear hrow hb2))
    go_ret2
    exact ⟨by rw [E2.out]; exact ⟨none, 0, 0, rfl, row_nil _⟩, below_put4 B2.out (Nat.le_refl _) _ _ _ _⟩
  · obtain rfl : ge = 0 := by simpa using hge
    have E2 : Hid (D = backD G) := by unfold Hid; rw [E.out, if_neg hge]
    clear hge E
    have BK := Lib.hid (fun ga gn gcp W hW => back_calls G ga gn gcp W hW)
    go_enter Try.func9, Try.ntmps9
    go_wp2_with (first
      | (go_at_call 26; go_must (refine ARH.out.mono ?_; rintro e w2 ⟨⟨ga, gn, gcp, he, hrow⟩, hb2⟩; dsimp only at he; subst he; have B2 := Lib.hid (HB.out.trans (hb2.mono HB.out.size)); have C2 := Lib.hid (HC.out.below hb2); obtain ⟨c0, c1, c2, c3, f0, f1, f2, f3⟩ := C2.out; have R2 := Lib.hid (hrow.put4 C2.out slice_ne (.int .i64 G.cols) (.slice ga gn gcp) (.int .i64 G.rws) (.int .i64 G.trn)); have B3 := Lib.hid (below_put4 B2.out (Nat.le_refl _) (.int .i64 G.cols) (.slice ga gn gcp) (.int .i64 G.rws) (.int .i64 G.trn)); clear hrow hb2))
      | (go_at_call 7; go_must (refine (BK.out ga gn gcp _ R2.out).mono ?_; rintro e w3 ⟨⟨pa, pn, pcp, rfl, hrow3⟩, hb3⟩)))
    go_ret2
    exact ⟨by rw [E2.out]; exact ⟨pa, pn, pcp, rfl, hrow3⟩, B3.out.trans (hb3.mono B3.out.size)⟩
theorem rsridge_calls (F : FacD) (a : Option Addr) (n cap y : Nat) {mu : Option Nat} (w : World) (h : Row w (.slice a n cap) F.xs) (hy : FW y mu) :
    Calls Try.prog 10 #[.agg #[.int .i64 F.cols, .slice a n cap, .int .i64 F.rws, .int .i64 F.trn], .float .f64 y] w fun e w' => LstE (sridgeD F mu) e w' ∧ Below w.heap.size w w' := by
  have hB := (Below.refl w.heap.size w).alloc (Nat.le_refl _) (.cells #[.int .i64 F.cols, .slice a n cap, .int .i64 F.rws, .int .i64 F.trn] 24)
  have HB := Lib.hid hB
  have AR := raridge_calls F a n cap y _ (h.below hB) hy
  have HC := Lib.hid (Cells4.new w (.int .i64 F.cols) (.slice a n cap) (.int .i64 F.rws) (.int .i64 F.trn) 24)
  have E : Hid (sridgeD F mu = if (ridgeD F mu).2 ≠ 0 then ([], (ridgeD F mu).2) else backD (ridgeD F mu).1) := rfl
  generalize sridgeD F mu = D at *
  obtain ⟨R, hR⟩ : ∃ R, R = ridgeD F mu := ⟨_, rfl⟩
  rw [← hR] at E AR
  obtain ⟨G, ge⟩ := R
  dsimp only at E AR
  have ARH := Lib.hid AR
  clear AR hR h hB
  by_cases hge : ge ≠ 0
  · have E2 : Hid (D = ([], ge)) := by unfold Hid; rw [E.out, if_pos hge]
    have hne : (ge != 0) = true := by simpa using hge
    clear hge E
    go_enter Try.func10, Try.ntmps10
    go_wp2_with (go_at_call 27; go_must (refine ARH.out.mono ?_; rintro e w2 ⟨⟨ga, gn, gcp, he, hrow⟩, hb2⟩; dsimp only at he; subst he; have B2 := Lib.hid (HB.out.trans (hb2.mono HB.out.size)); clear hrow hb2))
    go_ret2
    exact ⟨by rw [E2.out]; exact ⟨none, 0, 0, rfl, row_nil _⟩, B2.out.alloc B2.out.size _⟩
  · obtain rfl : ge = 0 := by simpa using hge
    have E2 : Hid (D = backD G) := by unfold Hid; rw [E.out, if_neg hge]
    clear hge E
    have BK := Lib.hid (fun ga gn gcp W hW => rback_calls G ga gn gcp W hW)
    go_enter Try.func10, Try.ntmps10
    go_wp2_with (first
      | (go_at_call 27; go_must (refine ARH.out.mono ?_; rintro e w2 ⟨⟨ga, gn, gcp, he, hrow⟩, hb2⟩; dsimp only at he; subst he; have B2 := Lib.hid (HB.out.trans (hb2.mono HB.out.size)); have R2 := Lib.hid (hrow.alloc (.cells #[.int .i64 G.cols, .slice ga gn gcp, .int .i64 G.rws, .int .i64 G.trn] 24)); have B3 := Lib.hid (B2.out.alloc B2.out.size (.cells #[.int .i64 G.cols, .slice ga gn gcp, .int .i64 G.rws, .int .i64 G.trn] 24)); clear hrow hb2))
      | (go_at_call 8; go_must (refine (BK.out ga gn gcp _ R2.out).mono ?_; rintro e w3 ⟨⟨pa, pn, pcp, rfl, hrow3⟩, hb3⟩)))
    go_ret2
    exact ⟨by rw [E2.out]; exact ⟨pa, pn, pcp, rfl, hrow3⟩, B3.out.trans (hb3.mono B3.out.size)⟩

theorem row_pair {W : World} {a : Option Addr} {n cap x y : Nat} (h : Row W (.slice a n cap) [some x, some y]) :
    ∃ blk off, a = some ⟨blk, off, none⟩ ∧ n = 2 ∧ W.cell? ⟨blk, off, none⟩ = some (.float .f64 x) ∧ W.cell? ⟨blk, off + 1, none⟩ = some (.float .f64 y) := by
  have hn := h.len
  simp at hn
  subst hn
  obtain ⟨blk, off, rfl, hc⟩ := row_cell h (by omega)
  obtain ⟨p, hp1, hp2⟩ := hc 0 (by omega)
  obtain ⟨q, hq1, hq2⟩ := hc 1 (by omega)
  obtain ⟨rfl, _⟩ := ab_some hp2.2
  obtain ⟨rfl, _⟩ := ab_some hq2.2
  exact ⟨blk, off, rfl, rfl, hp1, hq1⟩
theorem row_single {W : World} {a : Option Addr} {n cap x : Nat} (h : Row W (.slice a n cap) [some x]) :
    ∃ blk off, a = some ⟨blk, off, none⟩ ∧ n = 1 ∧ W.cell? ⟨blk, off, none⟩ = some (.float .f64 x) := by
  have hn := h.len
  simp at hn
  subst hn
  obtain ⟨blk, off, rfl, hc⟩ := row_cell h (by omega)
  obtain ⟨p, hp1, hp2⟩ := hc 0 (by omega)
  obtain ⟨rfl, _⟩ := ab_some hp2.2
  exact ⟨blk, off, rfl, rfl, hp1⟩
abbrev FS2 : FacD := ⟨2, [some 4611686018427387904, some 4607182418800017408, some 4617315517961601024, some 4616189618054758400, some 4620693217682128896, some 4613937818241073152], 4, 0⟩
abbrev FS1 : FacD := ⟨1, [some 0, some 4607182418800017408, some 4607182418800017408], 0, 0⟩
theorem live16_a : backD FS2 = ([some 4609434218613702656, some 4611686018427387904], 0) := by decide +kernel
theorem live16_b : forwD FS2 [some 4616189618054758400, some 4621819117588971520] = ([some 4611686018427387904, some 4611686018427387904], 0) := by decide +kernel
theorem live16_c : backD FS1 = ([], 7) := by decide +kernel
theorem live16_d : sridgeD FS1 (some 4611686018427387904) = ([some 0], 0) := by decide +kernel
theorem live16_e : forwD FS2 [] = ([], 1) := by decide +kernel
end Go.Proofs.Ytfohknalldelfaa
