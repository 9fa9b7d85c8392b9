/- What Check asks, entry by entry; a turn against zero. A line of zeros rotated in changes no number: the plain law. -/
import Derived.Test.YtmmligbkecilfaaGreatDoorNc
import Derived.Test.YtmmligbkecilfaaGreatDoorSd
namespace Go.Proofs.YtmmligbkecilfaaGreatDoor
open Lv
open Ieee
theorem seg_head (xs : List (Option Nat)) {c i : Nat} (hi : i ≤ c) : (seg xs c i).getD 0 none = xs.getD (offs c i) none := by
  unfold seg
  rw [List.getD_eq_getElem?_getD, List.getElem?_take_of_lt (by omega), List.getElem?_drop, Nat.add_zero, List.getD_eq_getElem?_getD]
theorem seg_any (xs : List (Option Nat)) (c i : Nat) : (seg xs c i).any largeF = (((xs.map largeF).drop (offs c i)).take (c + 1 - i)).any id := by
  unfold seg
  rw [← List.map_drop, ← List.map_take, List.any_map]
  rfl
theorem check_same {c : Nat} {xs ys : List (Option Nat)} {r t : Int} (hl : ys.length = xs.length) (hm : ys.map largeF = xs.map largeF) (hs : ∀ j, j ≤ c → sgnF (ys.getD (offs c j) none) = sgnF (xs.getD (offs c j) none)) :
    checkP (c : Int) ys r t = checkP (c : Int) xs r t := by
  unfold checkP
  rw [hl]
  congr 2
  simp only [Int.toNat_natCast]
  rw [Bool.eq_iff_iff, List.any_eq_true, List.any_eq_true]
  have key : ∀ i, i ∈ List.range (c + 1) → badS (seg ys c i) = badS (seg xs c i) := by
    intro i hi
    have hi' : i ≤ c := by have := List.mem_range.1 hi; omega
    unfold badS
    rw [seg_head ys hi', seg_head xs hi', hs i hi', seg_any, seg_any, hm]
  exact ⟨fun ⟨i, h1, h2⟩ => ⟨i, h1, by rw [← key i h1]; exact h2⟩, fun ⟨i, h1, h2⟩ => ⟨i, h1, by rw [key i h1]; exact h2⟩⟩
theorem offs_in {c i j : Nat} (h1 : 1 ≤ c) (h6 : c ≤ 6) (hi : i ≤ c) (hj : j ≤ c - i) : offs c i + j < tsz c := by
  have := offs_le c i h1 h6 (by omega)
  unfold tsz
  omega
theorem check_parts {c : Nat} {xs : List (Option Nat)} {r t : Int} (h : checkP (c : Int) xs r t = true) : 1 ≤ c ∧ c ≤ 6 ∧ xs.length = tsz c ∧ ∀ i, i ≤ c → sgnF (xs.getD (offs c i) none) = false ∧ ∀ j, j ≤ c - i → largeF (xs.getD (offs c i + j) none) = false := by
  have hc := checkP_cols h
  have hl := checkP_len h
  refine ⟨by omega, by omega, hl, fun i hi => ?_⟩
  have hb : badS (seg xs c i) = false := by
    cases hb : badS (seg xs c i) with
    | false => rfl
    | true => rw [bad_check hi hb] at h; cases h
  unfold badS at hb
  rw [Bool.or_eq_false_iff] at hb
  rw [seg_head xs hi] at hb
  refine ⟨hb.1, fun j hj => ?_⟩
  have h3 := hb.2
  rw [List.any_eq_false] at h3
  have hin := offs_in (c := c) (i := i) (j := j) (by omega) (by omega) hi hj
  have hmem : xs.getD (offs c i + j) none ∈ seg xs c i := by
    unfold seg
    rw [List.mem_iff_getElem?]
    refine ⟨j, ?_⟩
    rw [List.getElem?_take_of_lt (by omega), List.getElem?_drop, List.getD_eq_getElem?_getD, List.getElem?_eq_getElem (by omega)]
    rfl
  have := h3 _ hmem
  simpa using this

/-- two floats that are equal: one number, or two zeros -/
def Eqz (x y : Option Nat) : Prop := ∃ (s t : Bool) (r : Nat), x = some (wd s r) ∧ y = some (wd t r) ∧ r ≤ pw 420 ∧ (r ≠ 0 → s = t)
theorem pw420 : pw 420 = 6498694262295625728 := by decide +kernel
theorem wd_mod (s : Bool) {r : Nat} (h : r < 9223372036854775808) : wd s r % 9223372036854775808 = r := by
  cases s with
  | false => show r % 9223372036854775808 = r; omega
  | true => show (9223372036854775808 + r) % 9223372036854775808 = r; omega
theorem Eqz.large {x y : Option Nat} (h : Eqz x y) : largeF x = false ∧ largeF y = false := by
  obtain ⟨s, t, r, rfl, rfl, h1, _⟩ := h
  have hr : r < 9223372036854775808 := by rw [pw420] at h1; omega
  unfold largeF
  dsimp only
  rw [wd_mod s hr, wd_mod t hr]
  exact ⟨decide_eq_false (by omega), decide_eq_false (by omega)⟩
/-- once and no time zero more -/
theorem turn_zero {x y : Option Nat} (t u : Bool) (h : Eqz x y) : Eqz (fadd (fmul (some 4607182418800017408) x) (fmul (some (wd t 0)) (some (wd u 0)))) y := by
  obtain ⟨s, v, r, rfl, rfl, h1, h2⟩ := h
  have hr : r < 9218868437227405312 := by rw [pw420] at h1; omega
  have hone : rv 4607182418800017408 = 1 := by
    have := (pw_val (k := 0) (by decide) (by decide)).1
    rw [p2_zero, show pw 0 = 4607182418800017408 from by decide] at this
    exact this
  have e1 : fmul (some 4607182418800017408) (some (wd s r)) = some (wd s r) := by
    have := fmul_wd false s (x := 4607182418800017408) (y := r) (r := r) (by decide) hr hr (by rw [hone, Rat.one_mul])
    rw [Bool.false_xor] at this
    exact this
  have e2 : fmul (some (wd t 0)) (some (wd u 0)) = some (wd (t ^^ u) 0) := fmul_wd t u (by decide) (by decide) (by decide) (by rw [rv_zero, Rat.zero_mul])
  rw [e1, e2]
  by_cases h0 : r = 0
  · subst h0
    refine ⟨s && (t ^^ u), v, 0, ?_, rfl, by omega, fun c => absurd rfl c⟩
    show double.add (wd s 0) (wd (t ^^ u) 0) = _
    generalize (t ^^ u) = q
    cases s <;> cases q <;> decide +kernel
  · have := add_zero s (t ^^ u) h0 hr
    exact ⟨s, v, r, this, rfl, h1, h2⟩
theorem turn_rest {x : Option Nat} {y : Option Nat} (t u : Bool) (h : Eqz x y) : ∃ q : Bool, fsub (fmul (some 4607182418800017408) (some (wd u 0))) (fmul (some (wd t 0)) x) = some (wd q 0) := by
  obtain ⟨s, v, r, rfl, rfl, h1, h2⟩ := h
  have hr : r < 9218868437227405312 := by rw [pw420] at h1; omega
  have e1 : fmul (some 4607182418800017408) (some (wd u 0)) = some (wd u 0) := by
    have := fmul_wd false u (x := 4607182418800017408) (y := 0) (r := 0) (by decide) (by decide) (by decide) (by rw [rv_zero, Rat.mul_zero])
    rw [Bool.false_xor] at this
    exact this
  have e2 : fmul (some (wd t 0)) (some (wd s r)) = some (wd (t ^^ s) 0) := fmul_wd t s (by decide) hr (by decide) (by rw [rv_zero, Rat.zero_mul])
  rw [e1, e2]
  generalize (t ^^ s) = q
  refine ⟨u && !q, ?_⟩
  show double.sub (wd u 0) (wd q 0) = _
  cases u <;> cases q <;> decide +kernel
end Go.Proofs.YtmmligbkecilfaaGreatDoor
namespace Go.Proofs.YtmmligbkecilfaaGreatDoor
open Lv
open Ieee

/-- all zeros -/
def Zs (ls : List (Option Nat)) : Prop := ∀ i, i < ls.length → ∃ u : Bool, ls.getD i none = some (wd u 0)
/-- equal, entry by entry -/
def Eqs (ys xs : List (Option Nat)) : Prop := ys.length = xs.length ∧ ∀ i, i < xs.length → Eqz (ys.getD i none) (xs.getD i none)
theorem getD_put (l : List (Option Nat)) (i j : Nat) (v : Option Nat) : (l.set i v).getD j none = if i = j ∧ j < l.length then v else l.getD j none := by
  rw [List.getD_eq_getElem?_getD, List.getElem?_set, List.getD_eq_getElem?_getD]
  by_cases h : i = j
  · subst h
    by_cases h2 : i < l.length
    · rw [if_pos rfl, if_pos h2, if_pos ⟨rfl, h2⟩]; rfl
    · rw [if_pos rfl, if_neg h2, if_neg (by omega), List.getElem?_eq_none (by omega)]
  · rw [if_neg h, if_neg (by omega)]
theorem Eqs.set {ys xs : List (Option Nat)} {i : Nat} {v : Option Nat} (h : Eqs ys xs) (hv : i < xs.length → Eqz v (xs.getD i none)) : Eqs (ys.set i v) xs := by
  refine ⟨by rw [List.length_set]; exact h.1, fun j hj => ?_⟩
  rw [getD_put]
  by_cases c : i = j ∧ j < ys.length
  · rw [if_pos c]
    obtain ⟨rfl, _⟩ := c
    exact hv hj
  · rw [if_neg c]; exact h.2 j hj
theorem Zs.set {ls : List (Option Nat)} {i : Nat} {v : Option Nat} (h : Zs ls) (hv : ∃ u : Bool, v = some (wd u 0)) : Zs (ls.set i v) := by
  intro j hj
  rw [List.length_set] at hj
  rw [getD_put]
  by_cases c : i = j ∧ j < ls.length
  · rw [if_pos c]; exact hv
  · rw [if_neg c]; exact h j hj
/-- a row of zeros turned in behind place o -/
theorem rturn_zero {xs : List (Option Nat)} (t : Bool) (j o : Nat) : ∀ (n : Nat) (p : List (Option Nat) × List (Option Nat)), Eqs p.1 xs → Zs p.2 → o + n < xs.length → j + n < p.2.length →
    Eqs (rturn (some 4607182418800017408) (some (wd t 0)) j o n p).1 xs ∧ Zs (rturn (some 4607182418800017408) (some (wd t 0)) j o n p).2 ∧ ∀ i, (i ≤ o ∨ o + n < i) → (rturn (some 4607182418800017408) (some (wd t 0)) j o n p).1.getD i none = p.1.getD i none
  | 0, p, h1, h2, _, _ => ⟨h1, h2, fun _ _ => rfl⟩
  | n + 1, p, h1, h2, h3, h4 => by
    obtain ⟨k1, k2, k3⟩ := rturn_zero t j o n p h1 h2 (by omega) (by omega)
    have hl2 := (rturn_len (some 4607182418800017408) (some (wd t 0)) j o p n).2
    obtain ⟨u, hu⟩ := k2 (j + 1 + n) (by rw [hl2]; omega)
    have hq := k1.2 (o + 1 + n) (by omega)
    unfold rturn
    dsimp only
    generalize rturn (some 4607182418800017408) (some (wd t 0)) j o n p = P at *
    rw [hu]
    have e1 := turn_zero t u hq
    refine ⟨k1.set fun _ => e1, k2.set ?_, fun i hi => ?_⟩
    · exact turn_rest t u hq
    · rw [getD_put, if_neg (by omega)]
      exact k3 i (by omega)
theorem Eqz.refl_of {b : Nat} (h64 : b < 18446744073709551616) (h : largeF (some b) = false) : Eqz (some b) (some b) := by
  unfold largeF at h
  dsimp only at h
  have h1 := of_decide_eq_false h
  refine ⟨decide (9223372036854775808 ≤ b), decide (9223372036854775808 ≤ b), b % 9223372036854775808, ?_, ?_, by omega, fun _ => rfl⟩ <;>
  · by_cases hb : 9223372036854775808 ≤ b
    · rw [decide_eq_true hb]
      show some b = some (9223372036854775808 + b % 9223372036854775808)
      congr 1; omega
    · rw [decide_eq_false hb]
      show some b = some (b % 9223372036854775808)
      congr 1; omega
/-- a number on the diagonal -/
theorem diag_form {x y : Option Nat} (h : Eqz x y) (hs : sgnF x = false) : ∃ r, x = some r ∧ r ≤ pw 420 := by
  obtain ⟨s, t, r, rfl, rfl, h1, h2⟩ := h
  cases s with
  | false => exact ⟨r, rfl, h1⟩
  | true =>
    exfalso
    unfold sgnF at hs
    have := of_decide_eq_false hs
    have h3 : wd true r = 9223372036854775808 + r := rfl
    omega
theorem top_small {r : Nat} (h0 : r ≠ 0) (h1 : r ≤ pw 420) : topP r ≤ 1000 := by
  rw [pw420] at h1
  obtain ⟨M, _, _, _, _, _, hh⟩ := norm_form h0 (by omega)
  by_cases h : 4503599627370496 ≤ r
  · rw [hh h]; omega
  · unfold topP nx nw
    rw [if_pos (by omega), if_pos (by omega)]
    have l52 : r.log2 < 52 := (Nat.log2_lt h0).2 (by omega)
    have l1 := Nat.lt_log2_self (n := r)
    have m1 : r * 2 ^ (52 - r.log2) < 9007199254740992 := by
      have := Nat.mul_lt_mul_of_pos_right l1 (Nat.two_pow_pos (52 - r.log2))
      rw [← Nat.pow_add, show r.log2 + 1 + (52 - r.log2) = 53 by omega] at this
      exact this
    omega
theorem of_diag {r : Nat} (u : Bool) (h1 : r ≤ pw 420) : ∃ t : Bool, ofF (some r) (some (wd u 0)) = some (some 4607182418800017408, some (wd t 0), some r) := by
  by_cases h0 : r = 0
  · subst h0
    refine ⟨false, ?_⟩
    unfold ofF
    have z : zeroF (some 0) = true := by decide
    rw [show (some 0 : Option Nat) = some (wd false 0) from rfl, numF_wd false (by decide), numF_wd u (by decide), zeroF_wd false (by decide), zeroF_wd u (by decide), if_neg (by decide), if_pos (by decide)]
  · exact ⟨u, of_zero false u h0 (by rw [pw420] at h1; omega) (top_small h0 h1)⟩
/-- one column against a zero -/
theorem rstep_zero {xs : List (Option Nat)} {c j : Nat} (h1 : 1 ≤ c) (h6 : c ≤ 6) (hl : xs.length = tsz c) (hj : j ≤ c) {st : List (Option Nat) × List (Option Nat)} (he : Eqs st.1 xs) (hz : Zs st.2) (hz2 : st.2.length = c + 1)
    (hs : ∀ i, i ≤ c → sgnF (st.1.getD (offs c i) none) = false) :
    ∃ st', rstep c j st = some st' ∧ Eqs st'.1 xs ∧ Zs st'.2 ∧ st'.2.length = c + 1 ∧ (∀ i, (i ≤ offs c j ∨ offs c j + (c - j) < i) → st'.1.getD i none = st.1.getD i none) := by
  have hin := offs_in (c := c) (i := j) (j := 0) h1 h6 hj (by omega)
  have hin2 := offs_in (c := c) (i := j) (j := c - j) h1 h6 hj (by omega)
  rw [Nat.add_zero] at hin
  obtain ⟨r, hr, hr4⟩ := diag_form (he.2 (offs c j) (by omega)) (hs j hj)
  obtain ⟨u, hu⟩ := hz j (by omega)
  obtain ⟨t, ht⟩ := of_diag u hr4
  have hset : st.1.set (offs c j) (some r) = st.1 := by
    rw [← hr]
    apply List.ext_getElem?
    intro i
    rw [List.getElem?_set]
    by_cases h : offs c j = i
    · subst h
      rw [if_pos rfl, if_pos (by rw [he.1]; omega), List.getD_eq_getElem?_getD, List.getElem?_eq_getElem (by rw [he.1]; omega)]
      rfl
    · rw [if_neg h]
  obtain ⟨k1, k2, k3⟩ := rturn_zero (xs := xs) t j (offs c j) (c - j) (st.1, st.2) he hz (by omega) (by dsimp only; omega)
  refine ⟨rturn (some 4607182418800017408) (some (wd t 0)) j (offs c j) (c - j) (st.1, st.2), ?_, k1, k2, ?_, k3⟩
  · unfold rstep
    rw [hr, hu, ht]
    dsimp only
    rw [hset]
  · rw [(rturn_len _ _ _ _ _ _).2]; exact hz2
theorem offs_mono (c : Nat) {i j : Nat} (h : i ≤ j) : offs c i ≤ offs c j := by
  induction h with
  | refl => exact Nat.le_refl _
  | step _ ih => exact Nat.le_trans ih (Nat.le_add_right _ _)
/-- all columns -/
theorem rlineFrom_zero {xs : List (Option Nat)} {c : Nat} (h1 : 1 ≤ c) (h6 : c ≤ 6) (hl : xs.length = tsz c) : ∀ (n j : Nat) (st : List (Option Nat) × List (Option Nat)), n + j = c + 1 → Eqs st.1 xs → Zs st.2 → st.2.length = c + 1 →
    (∀ i, i ≤ c → sgnF (st.1.getD (offs c i) none) = false) → ∃ ys, rlineFrom c n j st = some ys ∧ Eqs ys xs ∧ (∀ i, i ≤ c → ys.getD (offs c i) none = st.1.getD (offs c i) none)
  | 0, j, st, _, he, _, _, _ => ⟨st.1, rfl, he, fun _ _ => rfl⟩
  | n + 1, j, st, hn, he, hz, hz2, hs => by
    obtain ⟨st', e, k1, k2, k3, k4⟩ := rstep_zero h1 h6 hl (show j ≤ c by omega) he hz hz2 hs
    have hd : ∀ i, i ≤ c → st'.1.getD (offs c i) none = st.1.getD (offs c i) none := by
      intro i hi
      refine k4 _ ?_
      by_cases hij : i ≤ j
      · exact .inl (offs_mono c hij)
      · right
        have h8 := offs_mono c (show j + 1 ≤ i by omega)
        have h9 : offs c (j + 1) = offs c j + (c + 1 - j) := rfl
        omega
    obtain ⟨ys, q1, q2, q3⟩ := rlineFrom_zero h1 h6 hl n (j + 1) st' (by omega) k1 k2 k3 (fun i hi => by rw [hd i hi]; exact hs i hi)
    refine ⟨ys, ?_, q2, fun i hi => by rw [q3 i hi, hd i hi]⟩
    unfold rlineFrom
    rw [e]
    exact q1
/-- a line of zeros, rotated in -/
theorem line_zero {F : FacD} {ls : List (Option Nat)} (hok : F.ok = true) (hw : ∀ i b, F.xs.getD i none = some b → b < 18446744073709551616) (hz : Zs ls) (hl : (ls.length : Int) = F.cols + 1) :
    ∃ ys, lineD F ls 0 = (⟨F.cols, ys, F.rws, F.trn⟩, true) ∧ Eqs ys F.xs ∧ ys.getD 0 none = F.xs.getD 0 none := by
  obtain ⟨cols, xs, rws, trn⟩ := F
  have hck : checkP cols xs rws trn = true := hok
  obtain ⟨hc1, hc6⟩ := checkP_cols hck
  obtain ⟨c, rfl⟩ := Int.eq_ofNat_of_zero_le (show 0 ≤ cols by omega)
  obtain ⟨h1, h6, hxl, hent⟩ := check_parts hck
  dsimp only at hw hl ⊢
  have he : Eqs xs xs := by
    refine ⟨rfl, fun i hi => ?_⟩
    have hlg : largeF (xs.getD i none) = false := by
      have hlt : i < tsz c := by omega
      have : ∀ c, c < 7 → 1 ≤ c → ∀ i, i < 28 → i < tsz c → ∃ a, a ≤ c ∧ ∃ b, b ≤ c - a ∧ i = offs c a + b := by
        have : ∀ c, c < 7 → 1 ≤ c → ∀ i, i < 28 → i < tsz c → ((List.range 7).any fun a => decide (a ≤ c) && (List.range 7).any fun b => decide (b ≤ c - a) && decide (i = offs c a + b)) = true := by decide +kernel
        intro c q1 q2 i q3 q4
        have h5 := this c q1 q2 i q3 q4
        rw [List.any_eq_true] at h5
        obtain ⟨a, _, h5⟩ := h5
        rw [Bool.and_eq_true, List.any_eq_true] at h5
        obtain ⟨a2, b, _, h5⟩ := h5
        rw [Bool.and_eq_true] at h5
        exact ⟨a, of_decide_eq_true a2, b, of_decide_eq_true h5.1, of_decide_eq_true h5.2⟩
      have h28 := (tsz_bounds (c := c) h1 h6).2
      obtain ⟨a, ha, b, hb, rfl⟩ := this c (by omega) h1 i (by omega) hlt
      exact (hent a ha).2 b hb
    cases hx : xs.getD i none with
    | none => rw [hx] at hlg; cases hlg
    | some b => exact Eqz.refl_of (hw i b hx) (by rw [← hx]; exact hlg)
  obtain ⟨ys, q1, q2, q3⟩ := rlineFrom_zero h1 h6 hxl (c + 1) 0 (xs, ls) rfl he hz (by dsimp only; omega) (fun i hi => (hent i hi).1)
  have hcy : checkP (c : Int) ys rws trn = true := by
    rw [check_same (xs := xs) q2.1 ?_ ?_]
    · exact hck
    · apply List.ext_getElem?
      intro i
      rw [List.getElem?_map, List.getElem?_map]
      by_cases hi : i < xs.length
      · have := q2.2 i hi
        rw [List.getD_eq_getElem?_getD, List.getD_eq_getElem?_getD, List.getElem?_eq_getElem hi, List.getElem?_eq_getElem (by rw [q2.1]; exact hi)] at this
        rw [List.getElem?_eq_getElem hi, List.getElem?_eq_getElem (by rw [q2.1]; exact hi)]
        have := Eqz.large this
        simp only [Option.getD_some] at this
        simp only [Option.map_some]
        rw [this.1, this.2]
      · rw [List.getElem?_eq_none (by have := q2.1; omega), List.getElem?_eq_none (by have := q2.1; omega)]
    · intro j hj
      rw [q3 j hj]
  refine ⟨ys, ?_, q2, ?_⟩
  · unfold lineD
    rw [if_pos ⟨hok, by omega, by dsimp only; omega, hl⟩]
    have : rlineP ((c : Int).toNat) rws trn ((0 : Int).toNat) (xs, ls) = some ys := by
      unfold rlineP
      rw [Int.toNat_natCast, show (0 : Int).toNat = 0 from rfl, Nat.sub_zero, q1]
      dsimp only
      rw [if_pos hcy]
    dsimp only
    rw [this]
  · exact q3 0 (by omega)
end Go.Proofs.YtmmligbkecilfaaGreatDoor
