/- A row of zeros taken out changes no number; the one row of a factor can't be taken out unless it is all zeros: the plain laws. -/
import Derived.Test.YtfohknalldelfaaDoorOj
import Derived.Test.YtfohknalldelfaaDoorOb
import Derived.Test.YtfohknalldelfaaDoorNh
import Derived.Test.YtfohknalldelfaaDoorTj
namespace Go.Proofs.YtfohknalldelfaaDoor
open Lv
open Ieee
open Go.RowKit Go.Shelf

theorem div_one (s : Bool) {x : Nat} (hx : x < 9218868437227405312) : fdiv (some (wd s x)) (some 4607182418800017408) = some (wd s x) := by
  show double.div (wd s x) (wd false 4607182418800017408) = _
  by_cases h0 : x = 0
  · subst h0
    cases s <;> decide +kernel
  · have hm := mg_ne h0
    have e1 : mg 4607182418800017408 = 4503599627370496 := by decide
    have e2 : pl 4607182418800017408 = -52 := by decide
    have l1 : Nat.log2 4503599627370496 = 52 := by decide +kernel
    have l2 : (mg x).log2 < 53 := (Nat.log2_lt hm).2 (by unfold mg; split <;> omega)
    unfold Format.div
    rw [read_wd s hx, read_wd false (by decide)]
    simp only [Datum.quotient, e1, e2, if_neg (show ¬ (4503599627370496 = 0) by decide), Option.map_some, Format.write, fbits, l1, Bool.xor_false]
    obtain ⟨q, hq⟩ : ∃ q, 52 + 2 + 52 - (mg x).log2 = 52 + q := ⟨54 - (mg x).log2, by omega⟩
    have e3 : mg x <<< (52 + q) = 4503599627370496 * (mg x * 2 ^ q) := by
      rw [Nat.shiftLeft_eq, Nat.pow_add, show 2 ^ 52 = 4503599627370496 by decide]
      rw [Nat.mul_left_comm]
    rw [hq, e3, Nat.mul_div_cancel_left _ (by decide), Nat.mul_mod_right]
    congr 1
    refine nearest_exact s hx ?_
    rw [← mg_pl x]
    have h1 := p2_sub (pl x) ((q + 1 : Nat) : Int)
    rw [p2_nat] at h1
    rw [show pl x - -52 - ((52 + q : Nat) : Int) - 1 = pl x - ((q + 1 : Nat) : Int) by omega, ← h1]
    have h2 : ((2 * (mg x * 2 ^ q) + (0 != 0).toNat : Nat) : Rat) = (mg x : Rat) * ((2 ^ (q + 1) : Nat) : Rat) := by
      rw [show ((0 : Nat) != 0).toNat = 0 from rfl, Nat.add_zero, ← Rat.natCast_mul]
      congr 1
      rw [Nat.pow_succ, Nat.mul_left_comm, Nat.mul_comm 2 (2 ^ q)]
    rw [h2]
    grind
theorem downP_zero {x y : Option Nat} (t u : Bool) (h : Eqz x y) : Eqz (downP (some 4607182418800017408) (some (wd t 0)) x (some (wd u 0))) y := by
  have h0 := h
  obtain ⟨s, v, r, rfl, rfl, h1, h2⟩ := h
  have e := fsub_zero_r s (t ^^ u) h1
  unfold downP
  rw [zero_mul_wd t u (by decide)]
  obtain ⟨s', v', r', e1, e2, e3, e4⟩ := e
  rw [e1, div_one s' (pw420_lt e3), ← e1]
  exact (fsub_zero_r s (t ^^ u) h1).trans h0
theorem downX_zero {x y : Option Nat} (t u : Bool) (h : Eqz x y) : ∃ q : Bool, downX (some 4607182418800017408) (some (wd t 0)) x (some (wd u 0)) = some (wd q 0) := by
  unfold downX
  exact turn_rest t u (downP_zero t u h)
theorem hyper_nought {r : Nat} (u : Bool) (h1 : r ≤ pw 420) : ∃ t : Bool, hyperF (some r) (some (wd u 0)) = some (some 4607182418800017408, some (wd t 0)) := by
  have hr := pw420_lt h1
  by_cases h0 : r = 0
  · subst h0
    refine ⟨false, ?_⟩
    cases u <;> decide +kernel
  · refine ⟨u, ?_⟩
    have e : fdiv (some (wd u 0)) (some r) = some (wd u 0) := by
      have := zero_div u false h0 hr
      rw [Bool.xor_false] at this
      exact this
    rw [hyper_some (by rw [show (some r : Option Nat) = some (wd false r) from rfl, numF_wd false hr, numF_wd u (by decide)]; rfl) (by rw [show (some r : Option Nat) = some (wd false r) from rfl, zeroF_wd false hr, decide_eq_false h0]; rfl), e]
    cases u <;> decide +kernel
theorem gturn_zero {xs : List (Option Nat)} (t : Bool) (j o : Nat) : ∀ (n : Nat) (p : List (Option Nat) × List (Option Nat)), Eqs p.1 xs → Zs p.2 → o + n < xs.length → j + n < p.2.length →
    Eqs (gturn (downP (some 4607182418800017408) (some (wd t 0))) (downX (some 4607182418800017408) (some (wd t 0))) j o n p).1 xs ∧ Zs (gturn (downP (some 4607182418800017408) (some (wd t 0))) (downX (some 4607182418800017408) (some (wd t 0))) j o n p).2
  | 0, p, h1, h2, _, _ => ⟨h1, h2⟩
  | n + 1, p, h1, h2, h3, h4 => by
    obtain ⟨k1, k2⟩ := gturn_zero t j o n p h1 h2 (by omega) (by omega)
    have hl2 := (gturn_len (downP (some 4607182418800017408) (some (wd t 0))) (downX (some 4607182418800017408) (some (wd t 0))) j o p n).2
    obtain ⟨u, hu⟩ := k2 (j + 1 + n) (by rw [hl2]; omega)
    have hq := k1.2 (o + 1 + n) (by omega)
    unfold gturn
    dsimp only
    generalize gturn (downP (some 4607182418800017408) (some (wd t 0))) (downX (some 4607182418800017408) (some (wd t 0))) j o n p = P at *
    rw [hu]
    exact ⟨k1.set fun _ => downP_zero t u hq, k2.set (downX_zero t u hq)⟩
theorem set_same {xs : List (Option Nat)} {i : Nat} {v : Option Nat} (h : xs.getD i none = v) : xs.set i v = xs := by
  apply List.ext_getElem?
  intro k
  rw [List.getElem?_set]
  by_cases e : i = k
  · subst e
    rw [if_pos rfl]
    by_cases hl : i < xs.length
    · rw [if_pos hl, ← h, List.getD_eq_getElem?_getD, List.getElem?_eq_getElem hl]; rfl
    · rw [if_neg hl, List.getElem?_eq_none (by omega)]
  · rw [if_neg e]
theorem sstep_zero {xs : List (Option Nat)} {c j : Nat} (h1 : 1 ≤ c) (h6 : c ≤ 6) (hl : xs.length = tsz c) (hj : j ≤ c) {st : List (Option Nat) × List (Option Nat)} (he : Eqs st.1 xs) (hz : Zs st.2) (hz2 : st.2.length = c + 1)
    (hs : ∀ i, i ≤ c → sgnF (st.1.getD (offs c i) none) = false) :
    ∃ st', sstep c j st = some st' ∧ Eqs st'.1 xs ∧ Zs st'.2 ∧ st'.2.length = c + 1 ∧ (∀ i, (i ≤ offs c j ∨ offs c j + (c - j) < i) → st'.1.getD i none = st.1.getD i none) := by
  have hin := offs_in (c := c) (i := j) (j := 0) h1 h6 hj (by omega)
  have hin2 := offs_in (c := c) (i := j) (j := c - j) h1 h6 hj (by omega)
  rw [Nat.add_zero] at hin
  obtain ⟨r, hr, hr4⟩ := diag_form (he.2 (offs c j) (by omega)) (hs j hj)
  obtain ⟨u, hu⟩ := hz j (by omega)
  obtain ⟨t, ht⟩ := hyper_nought u hr4
  have hm : fmul (some 4607182418800017408) (some r) = some r := one_mul_wd false (pw420_lt hr4)
  obtain ⟨k1, k2⟩ := gturn_zero (xs := xs) t j (offs c j) (c - j) (st.1, st.2) he hz (by omega) (by dsimp only; omega)
  refine ⟨gturn (downP (some 4607182418800017408) (some (wd t 0))) (downX (some 4607182418800017408) (some (wd t 0))) j (offs c j) (c - j) (st.1, st.2), ?_, k1, k2, ?_, fun i hi => gturn_other _ _ _ _ _ _ _ hi⟩
  · unfold sstep
    rw [hr, hu, ht]
    dsimp only
    rw [hm, set_same hr]
  · rw [(gturn_len _ _ _ _ _ _).2]; exact hz2
theorem sfrom_zero {xs : List (Option Nat)} {c : Nat} (h1 : 1 ≤ c) (h6 : c ≤ 6) (hl : xs.length = tsz c) : ∀ (n j : Nat) (st : List (Option Nat) × List (Option Nat)), n + j = c + 1 → Eqs st.1 xs → Zs st.2 → st.2.length = c + 1 →
    (∀ i, i ≤ c → sgnF (st.1.getD (offs c i) none) = false) → ∃ ys, sfrom c n j st = some ys ∧ Eqs ys xs ∧ (∀ i, i ≤ c → ys.getD (offs c i) none = st.1.getD (offs c i) none)
  | 0, j, st, _, he, _, _, _ => ⟨st.1, rfl, he, fun _ _ => rfl⟩
  | n + 1, j, st, hn, he, hz, hz2, hs => by
    obtain ⟨st', e, k1, k2, k3, k4⟩ := sstep_zero h1 h6 hl (show j ≤ c by omega) he hz hz2 hs
    have hd : ∀ i, i ≤ c → st'.1.getD (offs c i) none = st.1.getD (offs c i) none := by
      intro i hi
      refine k4 _ ?_
      by_cases hij : i ≤ j
      · exact .inl (offs_mono c hij)
      · right
        have h8 := offs_mono c (show j + 1 ≤ i by omega)
        have h9 : offs c (j + 1) = offs c j + (c + 1 - j) := rfl
        omega
    obtain ⟨ys, q1, q2, q3⟩ := sfrom_zero h1 h6 hl n (j + 1) st' (by omega) k1 k2 k3 (fun i hi => by rw [hd i hi]; exact hs i hi)
    refine ⟨ys, ?_, q2, fun i hi => by rw [q3 i hi, hd i hi]⟩
    unfold sfrom
    rw [e]
    exact q1
/-- a line of zeros, taken out -/
theorem shed_zero {F : FacD} {ls : List (Option Nat)} (hok : F.ok = true) (hw : ∀ i b, F.xs.getD i none = some b → b < 18446744073709551616) (hz : Zs ls) (hl : (ls.length : Int) = F.cols + 1) :
    ∃ ys, shedD F ls = (⟨F.cols, ys, F.rws, F.trn⟩, 0) ∧ Eqs ys F.xs := by
  obtain ⟨cols, xs, rws, trn⟩ := F
  have hck : checkP cols xs rws trn = true := hok
  obtain ⟨hc1, hc6⟩ := checkP_cols hck
  obtain ⟨c, rfl⟩ := Int.eq_ofNat_of_zero_le (show 0 ≤ cols by omega)
  obtain ⟨h1, h6, hxl, hent⟩ := check_parts hck
  obtain ⟨_, _, _, hnm, hsg⟩ := ok_nm hck hw
  obtain ⟨r0, r1, t0, t1⟩ := ok_rt hck
  dsimp only at hw hl ⊢
  have he : Eqs xs xs := ⟨rfl, fun i hi => (hnm i (by omega)).eqz⟩
  obtain ⟨ys, q1, q2, q3⟩ := sfrom_zero h1 h6 hxl (c + 1) 0 (xs, ls) rfl he hz (by dsimp only; omega) (fun i hi => (hent i hi).1)
  have hy : checkP (c : Int) ys rws trn = true := check_build h1 h6 (by rw [q2.1]; exact hxl) r0 r1 t0 t1 (fun i hi => (q2.2 i (by omega)).nm.1.large) (fun i hi => by rw [q3 i hi]; exact hsg i hi)
  refine ⟨ys, ?_, q2⟩
  unfold shedD
  rw [if_pos ⟨hok, hl⟩]
  dsimp only
  rw [Int.toNat_natCast, q1]
  dsimp only
  rw [if_pos hy]
/-- a row of zeros, taken out -/
theorem srow_zero {F : FacD} (hok : F.ok = true) (hw : ∀ i b, F.xs.getD i none = some b → b < 18446744073709551616) :
    (F.rws = 0 → sRowD F (List.replicate F.cols.toNat (some 0)) (some 0) = (fac0, 5)) ∧
    (F.rws ≠ 0 → 4096 < F.trn + F.cols + 1 → sRowD F (List.replicate F.cols.toNat (some 0)) (some 0) = (fac0, 6)) ∧
    (F.rws ≠ 0 → ¬ 4096 < F.trn + F.cols + 1 → ∃ ys, sRowD F (List.replicate F.cols.toNat (some 0)) (some 0) = (⟨F.cols, ys, F.rws - 1, F.trn + (F.cols + 1)⟩, 0) ∧ Eqs ys F.xs) := by
  obtain ⟨c1, c6⟩ := ok_cols hok
  have he : earlyD F (List.replicate F.cols.toNat (some 0)) (some 0) = 0 := by
    unfold earlyD
    rw [if_neg (by rw [hok]; decide), if_neg (by rw [List.length_replicate]; omega), if_neg]
    rw [out_zero, Bool.or_false]
    simp only [Bool.not_eq_true, List.any_eq_false]
    intro x hx
    rw [List.eq_of_mem_replicate hx]
    exact out_zero
  have hs : sEarlyD F (List.replicate F.cols.toNat (some 0)) (some 0) = if F.rws = 0 then 5 else if 4096 < F.trn + F.cols + 1 then 6 else 0 := by
    unfold sEarlyD
    rw [he, if_neg (by decide)]
  refine ⟨fun h => ?_, fun h h2 => ?_, fun h h2 => ?_⟩
  · rw [if_pos h] at hs
    rw [sRowD_early (by rw [hs]; decide), hs]
  · rw [if_neg h, if_pos h2] at hs
    rw [sRowD_early (by rw [hs]; decide), hs]
  · rw [if_neg h, if_neg h2] at hs
    have hl : (List.replicate F.cols.toNat (some 0) ++ [some 0] : List (Option Nat)) = List.replicate (F.cols.toNat + 1) (some 0) := by
      rw [List.replicate_succ']
    obtain ⟨ys, e1, e2⟩ := shed_zero (ls := List.replicate (F.cols.toNat + 1) (some 0)) hok hw (zs_rep _) (by rw [List.length_replicate]; omega)
    refine ⟨ys, ?_, e2⟩
    rw [sRowD_line hs, hl, e1, if_neg (show ¬ ((0 : Int) ≠ 0) by decide)]

/-- a column of zeros against a zero: the rest stays -/
theorem gturn_rest {c : Nat} {L : List (Option Nat)} (t : Bool) (j o : Nat) : ∀ (n : Nat) (p : List (Option Nat) × List (Option Nat)), (∀ k, k < n → Zr (p.1.getD (o + 1 + k) none)) → (∀ i, i ≤ c → Eqz (p.2.getD i none) (L.getD i none)) → j + n ≤ c → p.2.length = c + 1 →
    ∀ i, i ≤ c → Eqz ((gturn (downP (some 4607182418800017408) (some (wd t 0))) (downX (some 4607182418800017408) (some (wd t 0))) j o n p).2.getD i none) (L.getD i none)
  | 0, _, _, h2, _, _ => h2
  | n + 1, p, h1, h2, h3, h4 => by
    intro i hi
    have k2 := gturn_rest (c := c) (L := L) t j o n p (fun k hk => h1 k (by omega)) h2 (by omega) h4
    have hl2 := (gturn_len (downP (some 4607182418800017408) (some (wd t 0))) (downX (some 4607182418800017408) (some (wd t 0))) j o p n).2
    have ho := gturn_other (downP (some 4607182418800017408) (some (wd t 0))) (downX (some 4607182418800017408) (some (wd t 0))) j o p (o + 1 + n) n (by omega)
    unfold gturn
    dsimp only
    rw [ho]
    obtain ⟨q, hq⟩ := h1 n (by omega)
    rw [hq]
    generalize gturn (downP (some 4607182418800017408) (some (wd t 0))) (downX (some 4607182418800017408) (some (wd t 0))) j o n p = P at *
    rw [getD_put]
    by_cases e : j + 1 + n = i ∧ i < P.2.length
    · rw [if_pos e]
      obtain ⟨rfl, _⟩ := e
      have hx := k2 (j + 1 + n) hi
      obtain ⟨s, v, r, e1, e2, e3, e4⟩ := hx
      rw [e1, e2]
      have hr := pw420_lt e3
      unfold downX downP
      rw [zero_mul_wd t s hr, one_mul_wd s hr]
      have z1 : ∃ a : Bool, fdiv (fsub (some (wd q 0)) (some (wd (t ^^ s) 0))) (some 4607182418800017408) = some (wd a 0) := by
        generalize (t ^^ s) = b
        refine ⟨q && !b, ?_⟩
        cases q <;> cases b <;> decide +kernel
      obtain ⟨a, ha⟩ := z1
      rw [ha, zero_mul_wd t a (by decide)]
      exact (fsub_zero_r s (t ^^ a) e3).trans ⟨s, v, r, rfl, rfl, e3, e4⟩
    · rw [if_neg e]
      exact k2 i hi
theorem hyper_same {r : Nat} (u : Bool) (h0 : r ≠ 0) (hr : r < 9218868437227405312) : hyperF (some r) (some (wd u r)) = none := by
  have e : fdiv (some (wd u r)) (some r) = some (wd u 4607182418800017408) := by
    have := div_self u false h0 hr
    rw [Bool.xor_false] at this
    exact this
  rw [hyper_some (by rw [show (some r : Option Nat) = some (wd false r) from rfl, numF_wd false hr, numF_wd u hr]; rfl) (by rw [show (some r : Option Nat) = some (wd false r) from rfl, zeroF_wd false hr, decide_eq_false h0]; rfl), e]
  cases u <;> decide +kernel
theorem sfrom_none {c p : Nat} {u : Bool} {r : Nat} {L ys : List (Option Nat)} (h1 : 1 ≤ c) (h6 : c ≤ 6) (hp : p ≤ c) (hz : ∀ i, i < p → Zr (L.getD i none)) (hL : L.getD p none = some (wd u r)) (h0 : r ≠ 0) (hr : r ≤ pw 420)
    (hy : ys.getD (offs c p) none = some r) (hy2 : ∀ i, i < offs c p → Zr (ys.getD i none)) (hs : Sg c ys) : ∀ (n j : Nat) (st : List (Option Nat) × List (Option Nat)), n + j = c + 1 → j ≤ p → st.2.length = c + 1 → (∀ i, offs c j ≤ i → st.1.getD i none = ys.getD i none) → (∀ i, i ≤ c → Eqz (st.2.getD i none) (L.getD i none)) →
    sfrom c n j st = none
  | 0, j, st, hn, hj, _, _, _ => by omega
  | n + 1, j, st, hn, hj, hl, h2, h3 => by
    have hjc : j ≤ c := by omega
    have hjj := h2 (offs c j) (Nat.le_refl _)
    unfold sfrom sstep
    by_cases e : j = p
    · subst e
      obtain ⟨s, v, r', e1, e2, e3, e4⟩ := h3 j hp
      rw [hL] at e2
      have hr' := pw420_lt e3
      have hr2 := pw420_lt hr
      obtain ⟨rfl, rfl⟩ := wd_inj (by omega) (by omega) (Option.some.inj e2)
      have := e4 h0
      subst this
      rw [hjj, hy, e1, hyper_same _ h0 hr2]
    · have hlt : j < p := by omega
      have ho : offs c (j + 1) = offs c j + (c + 1 - j) := rfl
      have hop := offs_mono c (show j + 1 ≤ p by omega)
      have hd := zr_diag (hy2 (offs c j) (by omega)) (hs j hjc)
      obtain ⟨q, hq⟩ := Zr.of_eqz (h3 j hjc) (hz j hlt)
      obtain ⟨t, ht⟩ := hyper_nought (r := 0) q (Nat.zero_le _)
      have hm : fmul (some 4607182418800017408) (some 0) = some 0 := one_mul_wd false (by decide)
      rw [hjj, hd, hq, ht]
      dsimp only
      rw [hm, set_same (hjj.trans hd)]
      refine sfrom_none h1 h6 hp hz hL h0 hr hy hy2 hs n (j + 1) _ (by omega) (by omega) ?_ (fun i hi => ?_) ?_
      · rw [(gturn_len _ _ _ _ _ _).2]; exact hl
      · rw [gturn_other _ _ _ _ _ _ _ (by omega)]
        exact h2 i (by omega)
      · exact gturn_rest t j (offs c j) (c - j) (st.1, st.2) (fun k hk => by dsimp only; rw [h2 _ (by omega)]; exact hy2 _ (by omega)) h3 (by omega) hl
/-- the one row, taken out again -/
theorem srow_one {c : Nat} (h1 : 1 ≤ c) (h6 : c ≤ 6) {ls ys : List (Option Nat)} {Y : Option Nat} (hl : ls.length = c) (ho : (ls ++ [Y]).any outF = false) (hck : checkP (c : Int) ys 1 ((c : Int) + 1) = true)
    (hw : ∀ i b, ys.getD i none = some b → b < 18446744073709551616) (hF : FirstP c (ls ++ [Y]) ys) :
    ((∀ i, i ≤ c → Zr ((ls ++ [Y]).getD i none)) → (sRowD ⟨(c : Int), ys, 1, (c : Int) + 1⟩ ls Y).2 = 0) ∧ ((¬ ∀ i, i ≤ c → Zr ((ls ++ [Y]).getD i none)) → (sRowD ⟨(c : Int), ys, 1, (c : Int) + 1⟩ ls Y).2 = 8) := by
  have ho2 : ls.any outF = false ∧ outF Y = false := by
    rw [List.any_append, Bool.or_eq_false_iff] at ho
    exact ⟨ho.1, by simpa using ho.2⟩
  have hok : (⟨(c : Int), ys, 1, (c : Int) + 1⟩ : FacD).ok = true := hck
  have he : earlyD ⟨(c : Int), ys, 1, (c : Int) + 1⟩ ls Y = 0 := by
    unfold earlyD
    rw [if_neg (by rw [hok]; decide), if_neg (by dsimp only; rw [hl]; omega), if_neg (by rw [ho2.1, ho2.2]; decide)]
  have hs : sEarlyD ⟨(c : Int), ys, 1, (c : Int) + 1⟩ ls Y = 0 := by
    unfold sEarlyD
    rw [he, if_neg (by decide), if_neg (by dsimp only; decide), if_neg (by dsimp only; omega)]
  have hlen : (ls ++ [Y]).length = c + 1 := by rw [List.length_append, hl]; rfl
  have hll : ((ls ++ [Y]).length : Int) = (⟨(c : Int), ys, 1, (c : Int) + 1⟩ : FacD).cols + 1 := by rw [hlen]; rfl
  rw [sRowD_line hs]
  constructor
  · intro hz
    obtain ⟨zs, e1, _⟩ := shed_zero (F := ⟨(c : Int), ys, 1, (c : Int) + 1⟩) hok hw (ls := ls ++ [Y]) (fun i hi => hz i (by omega)) hll
    rw [e1, if_neg (show ¬ ((0 : Int) ≠ 0) by decide)]
  · intro hz
    obtain ⟨_, _, _, hnm, hsg⟩ := ok_nm hck hw
    rcases hF with ⟨z1, _⟩ | ⟨p, u, r, hp, q1, q2, q3, q4, q5, q6⟩
    · exact absurd z1 hz
    · obtain ⟨s, t, r', k1, k2, k3, k4⟩ := q5 0 (Nat.zero_le _)
      rw [Nat.add_zero] at k1 k2
      rw [q2] at k2
      have b1 := pw420_lt q4
      have b2 := pw420_lt k3
      obtain ⟨rfl, rfl⟩ := wd_inj (by omega) (by omega) (Option.some.inj k2)
      have hsf := k4 q3
      rw [Bool.xor_self] at hsf
      subst hsf
      have hN : ∀ i, i ≤ c → Nm ((ls ++ [Y]).getD i none) := by
        intro i hi
        by_cases c1 : i < p
        · exact (q1 i c1).nm
        · obtain ⟨s, t, r', _, k2, k3, _⟩ := q5 (i - p) (by omega)
          rw [show p + (i - p) = i by omega] at k2
          exact ⟨t, r', k2, k3⟩
      have hnone := sfrom_none h1 h6 hp q1 q2 q3 q4 k1 (fun i hi => q6 i (by have := offs_le c p h1 h6 (by omega); unfold tsz; omega) (.inl hi)) hsg (c + 1) 0 (ys, ls ++ [Y]) (by omega) (Nat.zero_le _) hlen (fun _ _ => rfl) (fun i hi => (hN i hi).eqz)
      have hsh : shedD ⟨(c : Int), ys, 1, (c : Int) + 1⟩ (ls ++ [Y]) = (fac0, 8) := by
        unfold shedD
        rw [if_pos ⟨hok, hll⟩]
        dsimp only
        rw [Int.toNat_natCast, hnone]
      rw [hsh, if_pos (by decide)]
end Go.Proofs.YtfohknalldelfaaDoor
