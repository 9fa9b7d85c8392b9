/- The reference's Equal over lists that are equal, entry by entry. The program's At and Get at a place of a factor. A row of zeros absorbed: the plain law. One column rotated, entry by entry; a first row: the plain law of AbsorbFirst. -/
import Derived.Test.YtmmligbkecilfaaGreatDoorNe
import Derived.Test.YtmmligbkecilfaaGreatDoorSd
import Derived.Test.YtmmligbkecilfaaGreatDoorSi
namespace Go.Proofs.YtmmligbkecilfaaGreatDoor
open Go.RowKit Lv Go.Shelf
open Ieee (double Format Datum Toward)
attribute [local go_sem] Oper.semAt_some

theorem eqz_order {x y : Nat} (h : Eqz (some x) (some y)) : double.order x y = some .eq := by
  obtain ⟨s, t, r, hx, hy, h1, h2⟩ := h
  simp only [Option.some.injEq] at hx hy
  subst hx hy
  have hr : r < 9218868437227405312 := by rw [pw420] at h1; omega
  unfold Format.order
  rw [read_wd s hr, read_wd t hr]
  have e : Ieee.signed s (mg r) (pl r - min (pl r) (pl r)).toNat = Ieee.signed t (mg r) (pl r - min (pl r) (pl r)).toNat := by
    by_cases h0 : r = 0
    · subst h0
      rw [mg_zero]
      unfold Ieee.signed
      cases s <;> cases t <;> simp
    · rw [h2 h0]
  simp only [Datum.order, e]
  congr 1
  simp

end Go.Proofs.YtmmligbkecilfaaGreatDoor
namespace Go.Proofs.YtmmligbkecilfaaGreatDoor
open Go.RowKit Lv Go.Shelf
open Ieee (double Format Datum Toward)
attribute [local go_sem] Oper.semAt_some

end Go.Proofs.YtmmligbkecilfaaGreatDoor
namespace Go.Proofs.YtmmligbkecilfaaGreatDoor
open Go.RowKit Lv Go.Shelf
open Ieee (double Format Datum Toward)

theorem zs_rep (n : Nat) : Zs (List.replicate n (some 0)) := by
  intro i hi
  rw [List.length_replicate] at hi
  exact ⟨false, by rw [List.getD_eq_getElem?_getD, List.getElem?_replicate, if_pos hi]; rfl⟩
theorem out_zero : outF (some 0) = false := by decide +kernel
theorem row_zero {F : FacD} (hok : F.ok = true) (hw : ∀ i b, F.xs.getD i none = some b → b < 18446744073709551616) :
    (fullD F = true → rowD F (List.replicate F.cols.toNat (some 0)) (some 0) = (fac0, 6)) ∧
    (fullD F = false → ∃ ys, rowD F (List.replicate F.cols.toNat (some 0)) (some 0) = (⟨F.cols, ys, F.rws + 1, F.trn + (F.cols + 1)⟩, 0) ∧ Eqs ys F.xs ∧ ys.getD 0 none = F.xs.getD 0 none) := by
  obtain ⟨c1, c6⟩ := ok_cols hok
  have he : earlyD F (List.replicate F.cols.toNat (some 0)) (some 0) = 0 := by
    unfold earlyD
    rw [if_neg (by rw [hok]; decide), if_neg (by rw [List.length_replicate]; omega), if_neg]
    rw [out_zero, Bool.or_false]
    simp only [Bool.not_eq_true, List.any_eq_false]
    intro x hx
    rw [List.eq_of_mem_replicate hx]
    exact out_zero
  constructor
  · intro hf
    unfold rowD
    rw [he, if_neg (by decide), if_pos hf]
  · intro hf
    have hl : (List.replicate F.cols.toNat (some 0) ++ [some 0] : List (Option Nat)) = List.replicate (F.cols.toNat + 1) (some 0) := by
      rw [List.replicate_succ']
    obtain ⟨ys, e1, e2, e3⟩ := line_zero (ls := List.replicate (F.cols.toNat + 1) (some 0)) hok hw (zs_rep _) (by rw [List.length_replicate]; omega)
    refine ⟨ys, ?_, e2, e3⟩
    rw [rowD_line he hf, hl, e1, if_neg (show ¬ (true = false) by decide)]
theorem ridge_nought {F : FacD} (hok : F.ok = true) : ridgeD F (some 0) = (F, 0) := by
  refine ridgeD_some ?_
  unfold ridgeEarly
  rw [if_neg (by rw [hok]; decide), if_neg (by rw [out_zero]; decide), if_pos (by decide)]
theorem row_words {w : World} {v : Value} {xs : List (Option Nat)} (h : Row w v xs) : ∀ i b, xs.getD i none = some b → b < 18446744073709551616 := by
  intro i b hb
  obtain ⟨a, n, cap, rfl⟩ := h.form
  by_cases hi : i < n
  · obtain ⟨blk, off, _, hc⟩ := row_cell h (by omega)
    obtain ⟨x, _, hf⟩ := hc i hi
    rw [hb] at hf
    obtain ⟨rfl, _⟩ := ab_some hf.2
    exact hf.1
  · have := h.len
    rw [List.getD_eq_getElem?_getD, List.getElem?_eq_none (by omega)] at hb
    cases hb
end Go.Proofs.YtmmligbkecilfaaGreatDoor
namespace Go.Proofs.YtmmligbkecilfaaGreatDoor
open Lv
open Ieee

/-- a turned row, entry by entry -/
theorem rturn_at (cc ss : Option Nat) (j o : Nat) (p : List (Option Nat) × List (Option Nat)) : ∀ n, o + n < p.1.length → j + n < p.2.length →
    (∀ i, (rturn cc ss j o n p).1.getD i none = if o < i ∧ i ≤ o + n then fadd (fmul cc (p.1.getD i none)) (fmul ss (p.2.getD (j + (i - o)) none)) else p.1.getD i none) ∧
    (∀ i, (rturn cc ss j o n p).2.getD i none = if j < i ∧ i ≤ j + n then fsub (fmul cc (p.2.getD i none)) (fmul ss (p.1.getD (o + (i - j)) none)) else p.2.getD i none)
  | 0, _, _ => ⟨fun i => by rw [if_neg (by omega)]; rfl, fun i => by rw [if_neg (by omega)]; rfl⟩
  | n + 1, h1, h2 => by
    obtain ⟨k1, k2⟩ := rturn_at cc ss j o p n (by omega) (by omega)
    obtain ⟨l1, l2⟩ := rturn_len cc ss j o p n
    unfold rturn
    dsimp only
    generalize rturn cc ss j o n p = P at *
    have e1 : P.1.getD (o + 1 + n) none = p.1.getD (o + 1 + n) none := by rw [k1, if_neg (by omega)]
    have e2 : P.2.getD (j + 1 + n) none = p.2.getD (j + 1 + n) none := by rw [k2, if_neg (by omega)]
    rw [e1, e2]
    constructor
    · intro i
      rw [getD_put, k1]
      by_cases c : o + 1 + n = i
      · subst c
        rw [if_pos ⟨rfl, by omega⟩, if_pos (by omega)]
        congr 3
        omega
      · rw [if_neg (by omega)]
        by_cases c2 : o < i ∧ i ≤ o + n
        · rw [if_pos c2, if_pos (by omega)]
        · rw [if_neg c2, if_neg (by omega)]
    · intro i
      rw [getD_put, k2]
      by_cases c : j + 1 + n = i
      · subst c
        rw [if_pos ⟨rfl, by omega⟩, if_pos (by omega)]
        congr 3
        omega
      · rw [if_neg (by omega)]
        by_cases c2 : j < i ∧ i ≤ j + n
        · rw [if_pos c2, if_pos (by omega)]
        · rw [if_neg c2, if_neg (by omega)]
/-- one column rotated, entry by entry -/
theorem rstep_at {c j : Nat} {st : List (Option Nat) × List (Option Nat)} {cc ss r : Option Nat} (h1 : 1 ≤ c) (h6 : c ≤ 6) (hl : st.1.length = tsz c) (hl2 : st.2.length = c + 1) (hj : j ≤ c)
    (hof : ofF (st.1.getD (offs c j) none) (st.2.getD j none) = some (cc, ss, r)) :
    ∃ st', rstep c j st = some st' ∧ st'.1.length = tsz c ∧ st'.2.length = c + 1 ∧
      (∀ i, st'.1.getD i none = if i = offs c j then r else if offs c j < i ∧ i ≤ offs c j + (c - j) then fadd (fmul cc (st.1.getD i none)) (fmul ss (st.2.getD (j + (i - offs c j)) none)) else st.1.getD i none) ∧
      (∀ i, st'.2.getD i none = if j < i ∧ i ≤ c then fsub (fmul cc (st.2.getD i none)) (fmul ss (st.1.getD (offs c j + (i - j)) none)) else st.2.getD i none) := by
  have hin := offs_in (c := c) (i := j) (j := 0) h1 h6 hj (by omega)
  have hin2 := offs_in (c := c) (i := j) (j := c - j) h1 h6 hj (by omega)
  have hll := rturn_len cc ss j (offs c j) (st.1.set (offs c j) r, st.2) (c - j)
  obtain ⟨k1, k2⟩ := rturn_at cc ss j (offs c j) (st.1.set (offs c j) r, st.2) (c - j) (by rw [List.length_set]; omega) (by dsimp only; omega)
  dsimp only at k1 k2
  dsimp only at hll
  rw [List.length_set] at hll
  refine ⟨rturn cc ss j (offs c j) (c - j) (st.1.set (offs c j) r, st.2), ?_, by omega, by omega, fun i => ?_, fun i => ?_⟩
  · unfold rstep
    rw [hof]
  · rw [k1]
    by_cases c1 : offs c j < i ∧ i ≤ offs c j + (c - j)
    · rw [if_pos c1, if_neg (by omega), if_pos c1, getD_put, if_neg (by omega)]
    · rw [if_neg c1, getD_put]
      by_cases c2 : i = offs c j
      · subst c2
        rw [if_pos ⟨rfl, by omega⟩, if_pos rfl]
      · rw [if_neg (by omega), if_neg c2, if_neg c1]
  · rw [k2]
    by_cases c1 : j < i ∧ i ≤ c
    · rw [if_pos (by omega), if_pos c1, getD_put, if_neg (by omega)]
    · rw [if_neg (by omega), if_neg c1]

theorem check_build {c : Nat} {ys : List (Option Nat)} {r t : Int} (h1 : 1 ≤ c) (h6 : c ≤ 6) (hl : ys.length = tsz c) (hr0 : 0 ≤ r) (hr1 : r ≤ 200) (ht0 : 0 ≤ t) (ht1 : t ≤ 4096)
    (hlg : ∀ i, i < tsz c → largeF (ys.getD i none) = false) (hs : ∀ i, i ≤ c → sgnF (ys.getD (offs c i) none) = false) : checkP (c : Int) ys r t = true := by
  have hb : ((List.range (c + 1)).any fun i => badS (seg ys c i)) = false := by
    rw [List.any_eq_false]
    intro i hi
    have hi' : i ≤ c := by have := List.mem_range.1 hi; omega
    unfold badS
    rw [seg_head ys hi', hs i hi', Bool.false_or]
    simp only [Bool.not_eq_true, List.any_eq_false]
    intro x hx
    unfold seg at hx
    have hx2 := List.mem_of_mem_drop (List.mem_of_mem_take hx)
    obtain ⟨k, hk, rfl⟩ := List.mem_iff_getElem.1 hx2
    have := hlg k (by omega)
    rw [List.getD_eq_getElem?_getD, List.getElem?_eq_getElem hk] at this
    exact this
  unfold checkP
  rw [Int.toNat_natCast, hb, decide_eq_true hl, decide_eq_true hr0, decide_eq_true hr1, decide_eq_true ht0, decide_eq_true ht1, decide_eq_true (show (1 : Int) ≤ (c : Int) by omega), decide_eq_true (show (c : Int) ≤ 6 by omega)]
  rfl

/-- a zero -/
def Zr (x : Option Nat) : Prop := ∃ q : Bool, x = some (wd q 0)
/-- a number that may stand in a factor -/
def Nm (x : Option Nat) : Prop := ∃ (s : Bool) (r : Nat), x = some (wd s r) ∧ r ≤ pw 420
/-- one number, or its negative, if u; or two zeros -/
def Eqn (u : Bool) (x y : Option Nat) : Prop := ∃ (s t : Bool) (r : Nat), x = some (wd s r) ∧ y = some (wd t r) ∧ r ≤ pw 420 ∧ (r ≠ 0 → s = (u ^^ t))
theorem Eqz.nm {x y : Option Nat} (h : Eqz x y) : Nm x ∧ Nm y := by
  obtain ⟨s, t, r, h1, h2, h3, _⟩ := h
  exact ⟨⟨s, r, h1, h3⟩, ⟨t, r, h2, h3⟩⟩
theorem Eqn.nm {u : Bool} {x y : Option Nat} (h : Eqn u x y) : Nm x := by
  obtain ⟨s, t, r, h1, h2, h3, _⟩ := h
  exact ⟨s, r, h1, h3⟩
theorem Zr.nm {x : Option Nat} (h : Zr x) : Nm x := by
  obtain ⟨q, h⟩ := h
  exact ⟨q, 0, h, Nat.zero_le _⟩
theorem Nm.eqz {x : Option Nat} (h : Nm x) : Eqz x x := by
  obtain ⟨s, r, h1, h2⟩ := h
  exact ⟨s, s, r, h1, h1, h2, fun _ => rfl⟩
theorem Nm.large {x : Option Nat} (h : Nm x) : largeF x = false := h.eqz.large.1
theorem wd_inj {s t : Bool} {a b : Nat} (ha : a < 9223372036854775808) (hb : b < 9223372036854775808) (h : wd s a = wd t b) : s = t ∧ a = b := by
  cases s <;> cases t <;> simp only [wd, Bool.false_eq_true, if_false, if_true] at h
  · exact ⟨rfl, h⟩
  · omega
  · omega
  · exact ⟨rfl, by omega⟩
theorem pw420_lt {r : Nat} (h : r ≤ pw 420) : r < 9218868437227405312 := by rw [pw420] at h; omega
theorem Zr.of_eqz {x y : Option Nat} (h : Eqz x y) (hy : Zr y) : Zr x := by
  obtain ⟨s, t, r, rfl, h2, h3, _⟩ := h
  obtain ⟨q, rfl⟩ := hy
  have := pw420_lt h3
  obtain ⟨_, e⟩ := wd_inj (by omega) (by omega) (Option.some.inj h2)
  subst e
  exact ⟨s, rfl⟩
theorem Zr.eqz {x : Option Nat} (h : Zr x) : Eqz x (some 0) := by
  obtain ⟨q, rfl⟩ := h
  exact ⟨q, false, 0, rfl, rfl, Nat.zero_le _, fun h => absurd rfl h⟩
theorem one_mul_wd (s : Bool) {r : Nat} (hr : r < 9218868437227405312) : fmul (some 4607182418800017408) (some (wd s r)) = some (wd s r) := by
  have hone : rv 4607182418800017408 = 1 := by
    have := (pw_val (k := 0) (by decide) (by decide)).1
    rw [p2_zero, show pw 0 = 4607182418800017408 from by decide] at this
    exact this
  have := fmul_wd false s (x := 4607182418800017408) (y := r) (r := r) (by decide) hr hr (by rw [hone, Rat.one_mul])
  rw [Bool.false_xor] at this
  exact this
theorem sone_mul_wd (u s : Bool) {r : Nat} (hr : r < 9218868437227405312) : fmul (some (wd u 4607182418800017408)) (some (wd s r)) = some (wd (u ^^ s) r) := by
  have hone : rv 4607182418800017408 = 1 := by
    have := (pw_val (k := 0) (by decide) (by decide)).1
    rw [p2_zero, show pw 0 = 4607182418800017408 from by decide] at this
    exact this
  exact fmul_wd u s (x := 4607182418800017408) (y := r) (r := r) (by decide) hr hr (by rw [hone, Rat.one_mul])
theorem zero_mul_wd (t s : Bool) {r : Nat} (hr : r < 9218868437227405312) : fmul (some (wd t 0)) (some (wd s r)) = some (wd (t ^^ s) 0) :=
  fmul_wd t s (by decide) hr (by decide) (by rw [rv_zero, Rat.zero_mul])
theorem sub_zero_wd (s q : Bool) {r : Nat} (hr : r < 9218868437227405312) : double.sub (wd s r) (wd q 0) = double.add (wd s r) (wd (!q) 0) := by
  unfold Format.sub Format.add
  rw [read_wd s hr, read_wd q (by decide), read_wd (!q) (by decide)]
  cases q <;> rfl
theorem fadd_zero_r (s q : Bool) {r : Nat} (h : r ≤ pw 420) : Eqz (fadd (some (wd s r)) (some (wd q 0))) (some (wd s r)) := by
  have hr := pw420_lt h
  by_cases h0 : r = 0
  · subst h0
    refine ⟨s && q, s, 0, ?_, rfl, h, fun c => absurd rfl c⟩
    show double.add (wd s 0) (wd q 0) = _
    cases s <;> cases q <;> decide +kernel
  · exact ⟨s, s, r, add_zero s q h0 hr, rfl, h, fun _ => rfl⟩
theorem fadd_zero_l (s q : Bool) {r : Nat} (h : r ≤ pw 420) : Eqz (fadd (some (wd q 0)) (some (wd s r))) (some (wd s r)) := by
  have hr := pw420_lt h
  by_cases h0 : r = 0
  · subst h0
    refine ⟨s && q, s, 0, ?_, rfl, h, fun c => absurd rfl c⟩
    show double.add (wd q 0) (wd s 0) = _
    cases s <;> cases q <;> decide +kernel
  · exact ⟨s, s, r, zero_add s q h0 hr, rfl, h, fun _ => rfl⟩
theorem Eqz.trans {x y z : Option Nat} (h : Eqz x y) (k : Eqz y z) : Eqz x z := by
  obtain ⟨s, t, r, rfl, rfl, h3, h4⟩ := h
  obtain ⟨s', t', r', e, rfl, k3, k4⟩ := k
  have := pw420_lt h3
  have := pw420_lt k3
  obtain ⟨rfl, rfl⟩ := wd_inj (by omega) (by omega) (Option.some.inj e)
  exact ⟨s, t', r, rfl, rfl, h3, fun h => (h4 h).trans (k4 h)⟩
theorem fsub_zero_r (s q : Bool) {r : Nat} (h : r ≤ pw 420) : Eqz (fsub (some (wd s r)) (some (wd q 0))) (some (wd s r)) := by
  have := sub_zero_wd s q (pw420_lt h)
  rw [show fsub (some (wd s r)) (some (wd q 0)) = fadd (some (wd s r)) (some (wd (!q) 0)) from this]
  exact fadd_zero_r s (!q) h
/-- once, and no time another one -/
theorem turn_one {y Y x X : Option Nat} (t : Bool) (hy : Eqz y Y) (hx : Eqz x X) :
    Eqz (fadd (fmul (some 4607182418800017408) y) (fmul (some (wd t 0)) x)) Y ∧ Eqz (fsub (fmul (some 4607182418800017408) x) (fmul (some (wd t 0)) y)) X := by
  obtain ⟨⟨s, r, e1, h1⟩, _⟩ := hy.nm
  obtain ⟨⟨v, q, e2, h2⟩, _⟩ := hx.nm
  subst e1 e2
  rw [one_mul_wd s (pw420_lt h1), one_mul_wd v (pw420_lt h2), zero_mul_wd t v (pw420_lt h2), zero_mul_wd t s (pw420_lt h1)]
  exact ⟨(fadd_zero_r s _ h1).trans hy, (fsub_zero_r v _ h2).trans hx⟩
/-- a zero in whose place a number comes -/
theorem turn_first {y x X : Option Nat} (t u : Bool) (hy : Zr y) (hx : Eqz x X) :
    Eqn u (fadd (fmul (some (wd t 0)) y) (fmul (some (wd u 4607182418800017408)) x)) X ∧ Zr (fsub (fmul (some (wd t 0)) x) (fmul (some (wd u 4607182418800017408)) y)) := by
  obtain ⟨q, rfl⟩ := hy
  obtain ⟨s, v, r, rfl, rfl, h1, h2⟩ := hx
  have hr := pw420_lt h1
  rw [zero_mul_wd t q (by decide), sone_mul_wd u s hr, zero_mul_wd t s hr, sone_mul_wd u q (by decide)]
  constructor
  · obtain ⟨s', t', r', e1, e2, k1, k2⟩ := fadd_zero_l (u ^^ s) (t ^^ q) h1
    have := pw420_lt k1
    obtain ⟨e3, rfl⟩ := wd_inj (by omega) (by omega) (Option.some.inj e2)
    exact ⟨s', v, r, e1, rfl, h1, fun c => by rw [k2 c, ← e3, h2 c]⟩
  · exact Zr.of_eqz (fsub_zero_r (t ^^ s) (u ^^ q) (Nat.zero_le _)) ⟨_, rfl⟩

theorem diag_out {c i j : Nat} (hi : i ≤ c) (hj : j ≤ c) (hne : i ≠ j) : ¬ (offs c j < offs c i ∧ offs c i ≤ offs c j + (c - j)) ∧ offs c i ≠ offs c j := by
  by_cases h : i < j
  · have h8 := offs_mono c (show i + 1 ≤ j by omega)
    have h9 : offs c (i + 1) = offs c i + (c + 1 - i) := rfl
    omega
  · have h8 := offs_mono c (show j + 1 ≤ i by omega)
    have h9 : offs c (j + 1) = offs c j + (c + 1 - j) := rfl
    omega
theorem zr_diag {x : Option Nat} (h : Zr x) (hs : sgnF x = false) : x = some 0 := by
  obtain ⟨q, rfl⟩ := h
  cases q with
  | false => rfl
  | true => exact absurd hs (by decide)
/-- all signs on the diagonal -/
def Sg (c : Nat) (xs : List (Option Nat)) : Prop := ∀ i, i ≤ c → sgnF (xs.getD (offs c i) none) = false
/-- behind one column -/
theorem sg_step {c j : Nat} {xs ys : List (Option Nat)} {r : Nat} {g : Nat → Option Nat} (hj : j ≤ c) (hs : Sg c xs) (hr : r < 9223372036854775808)
    (h : ∀ i, ys.getD i none = if i = offs c j then some r else if offs c j < i ∧ i ≤ offs c j + (c - j) then g i else xs.getD i none) : Sg c ys := by
  intro i hi
  rw [h]
  by_cases e : i = j
  · subst e
    rw [if_pos rfl]
    exact decide_eq_false (by omega)
  · obtain ⟨q1, q2⟩ := diag_out hi hj e
    rw [if_neg q2, if_neg q1]
    exact hs i hi
/-- a column of zeros against a zero -/
theorem rstep_skip {c j : Nat} {st : List (Option Nat) × List (Option Nat)} {L : List (Option Nat)} (h1 : 1 ≤ c) (h6 : c ≤ 6) (hl : st.1.length = tsz c) (hl2 : st.2.length = c + 1) (hj : j ≤ c)
    (hz : ∀ i, i < tsz c → Zr (st.1.getD i none)) (hs : Sg c st.1) (hL : ∀ i, i ≤ c → Eqz (st.2.getD i none) (L.getD i none)) (h0 : Zr (L.getD j none)) :
    ∃ st', rstep c j st = some st' ∧ st'.1.length = tsz c ∧ st'.2.length = c + 1 ∧ (∀ i, i < tsz c → Zr (st'.1.getD i none)) ∧ Sg c st'.1 ∧ (∀ i, i ≤ c → Eqz (st'.2.getD i none) (L.getD i none)) := by
  have hin := offs_in (c := c) (i := j) (j := 0) h1 h6 hj (by omega)
  have hd := zr_diag (hz (offs c j) (by omega)) (hs j hj)
  obtain ⟨u, hu⟩ := Zr.of_eqz (hL j hj) h0
  obtain ⟨t, ht⟩ := of_diag (r := 0) u (Nat.zero_le _)
  obtain ⟨st', e, k1, k2, k3, k4⟩ := rstep_at h1 h6 hl hl2 hj (by rw [hd, hu]; exact ht)
  refine ⟨st', e, k1, k2, fun i hi => ?_, sg_step hj hs (by decide) k3, fun i hi => ?_⟩
  · rw [k3]
    by_cases c1 : i = offs c j
    · rw [if_pos c1]; exact ⟨false, rfl⟩
    · rw [if_neg c1]
      by_cases c2 : offs c j < i ∧ i ≤ offs c j + (c - j)
      · rw [if_pos c2]
        exact Zr.of_eqz (turn_one t (hz i hi).eqz (hL (j + (i - offs c j)) (by omega))).1 ⟨false, rfl⟩
      · rw [if_neg c2]; exact hz i hi
  · rw [k4]
    by_cases c2 : j < i ∧ i ≤ c
    · rw [if_pos c2]
      have := offs_in (c := c) (i := j) (j := i - j) h1 h6 hj (by omega)
      exact (turn_one t (hz (offs c j + (i - j)) this).eqz (hL i hi)).2
    · rw [if_neg c2]; exact hL i hi
/-- the first number of a line, against a row of zeros -/
theorem rstep_first {c j : Nat} {st : List (Option Nat) × List (Option Nat)} {L : List (Option Nat)} {u : Bool} {r : Nat} (h1 : 1 ≤ c) (h6 : c ≤ 6) (hl : st.1.length = tsz c) (hl2 : st.2.length = c + 1) (hj : j ≤ c)
    (hz : ∀ k, k ≤ c - j → Zr (st.1.getD (offs c j + k) none)) (hs : Sg c st.1) (hL : ∀ i, i ≤ c → Eqz (st.2.getD i none) (L.getD i none)) (hr : L.getD j none = some (wd u r)) (h0 : r ≠ 0) (hr5 : r ≤ pw 420) :
    ∃ st', rstep c j st = some st' ∧ st'.1.length = tsz c ∧ st'.2.length = c + 1 ∧ (∀ k, k ≤ c - j → Eqn u (st'.1.getD (offs c j + k) none) (L.getD (j + k) none)) ∧
      (∀ i, (i < offs c j ∨ offs c j + (c - j) < i) → st'.1.getD i none = st.1.getD i none) ∧ Sg c st'.1 ∧ (∀ i, j < i → i ≤ c → Zr (st'.2.getD i none)) := by
  obtain ⟨q, hq⟩ := hz 0 (by omega)
  rw [Nat.add_zero] at hq
  have hx := hL j hj
  rw [hr] at hx
  obtain ⟨s, v, r', e1, e2, k1, k2⟩ := hx
  have hr4 := pw420_lt k1
  have hrr : r = r' ∧ u = v := by
    have hwd : wd u r = wd v r' := Option.some.inj e2
    have := pw420_lt hr5
    obtain ⟨a, b⟩ := wd_inj (by omega) (by omega) hwd
    exact ⟨b, a⟩
  obtain ⟨rfl, rfl⟩ := hrr
  have hsu : s = u := k2 h0
  subst hsu
  have hof := of_zero' s q h0 hr4 (top_small h0 k1)
  obtain ⟨st', e, l1, l2, k3, k4⟩ := rstep_at h1 h6 hl hl2 hj (by rw [hq, e1]; exact hof)
  refine ⟨st', e, l1, l2, fun k hk => ?_, fun i hi => ?_, sg_step hj hs (by omega) k3, fun i hi hi2 => ?_⟩
  · rw [k3]
    by_cases c1 : k = 0
    · subst c1
      rw [Nat.add_zero, if_pos rfl, Nat.add_zero, hr]
      exact ⟨false, s, r, rfl, rfl, k1, fun _ => by cases s <;> rfl⟩
    · rw [if_neg (by omega), if_pos (by omega), show j + (offs c j + k - offs c j) = j + k by omega]
      exact (turn_first q s (hz k hk) (hL (j + k) (by omega))).1
  · rw [k3, if_neg (by omega), if_neg (by omega)]
  · rw [k4, if_pos ⟨hi, hi2⟩]
    exact (turn_first q s (hz (i - j) (by omega)) (hL i hi2)).2
/-- zeros, from a column on -/
theorem rline_zeros {c : Nat} (h1 : 1 ≤ c) (h6 : c ≤ 6) : ∀ (n j : Nat) (st : List (Option Nat) × List (Option Nat)), n + j = c + 1 → st.1.length = tsz c → st.2.length = c + 1 → (∀ i, i < tsz c → Nm (st.1.getD i none)) → Sg c st.1 →
    (∀ i, j ≤ i → i ≤ c → Zr (st.2.getD i none)) → ∃ ys, rlineFrom c n j st = some ys ∧ ys.length = tsz c ∧ (∀ i, i < tsz c → Eqz (ys.getD i none) (st.1.getD i none)) ∧ (∀ i, i ≤ c → ys.getD (offs c i) none = st.1.getD (offs c i) none)
  | 0, j, st, _, hl, _, hn, _, _ => ⟨st.1, rfl, hl, fun i hi => (hn i hi).eqz, fun _ _ => rfl⟩
  | n + 1, j, st, hnj, hl, hl2, hn, hs, hz => by
    have hj : j ≤ c := by omega
    have hin := offs_in (c := c) (i := j) (j := 0) h1 h6 hj (by omega)
    obtain ⟨r, hr, hr4⟩ := diag_form (hn (offs c j) (by omega)).eqz (hs j hj)
    obtain ⟨u, hu⟩ := hz j (Nat.le_refl _) hj
    obtain ⟨t, ht⟩ := of_diag u hr4
    obtain ⟨st', e, k1, k2, k3, k4⟩ := rstep_at h1 h6 hl hl2 hj (by rw [hr, hu]; exact ht)
    have hE : ∀ i, i < tsz c → Eqz (st'.1.getD i none) (st.1.getD i none) := by
      intro i hi
      rw [k3]
      by_cases c1 : i = offs c j
      · rw [if_pos c1, c1, hr]; exact Nm.eqz ⟨false, r, rfl, hr4⟩
      · rw [if_neg c1]
        by_cases c2 : offs c j < i ∧ i ≤ offs c j + (c - j)
        · rw [if_pos c2]
          exact (turn_one t (hn i hi).eqz (hz (j + (i - offs c j)) (by omega) (by omega)).eqz).1
        · rw [if_neg c2]; exact (hn i hi).eqz
    have hD : ∀ i, i ≤ c → st'.1.getD (offs c i) none = st.1.getD (offs c i) none := by
      intro i hi
      rw [k3]
      by_cases c1 : i = j
      · subst c1; rw [if_pos rfl, hr]
      · obtain ⟨q1, q2⟩ := diag_out hi hj c1
        rw [if_neg q2, if_neg q1]
    obtain ⟨ys, q1, q2, q3, q4⟩ := rline_zeros h1 h6 n (j + 1) st' (by omega) k1 k2 (fun i hi => (hE i hi).nm.1) (fun i hi => by rw [hD i hi]; exact hs i hi) (fun i hi hi2 => by
      rw [k4, if_pos ⟨by omega, hi2⟩]
      have hb := offs_in (c := c) (i := j) (j := i - j) h1 h6 hj (by omega)
      exact Zr.of_eqz (turn_one t (hn _ hb).eqz (hz i (by omega) hi2).eqz).2 ⟨false, rfl⟩)
    refine ⟨ys, ?_, q2, fun i hi => (q3 i hi).trans (hE i hi), fun i hi => (q4 i hi).trans (hD i hi)⟩
    unfold rlineFrom
    rw [e]
    exact q1
theorem Eqz.eqn {u : Bool} {x y z : Option Nat} (h : Eqz x y) (k : Eqn u y z) : Eqn u x z := by
  obtain ⟨s, t, r, rfl, rfl, h3, h4⟩ := h
  obtain ⟨s', t', r', e, rfl, k3, k4⟩ := k
  have := pw420_lt h3
  have := pw420_lt k3
  obtain ⟨rfl, rfl⟩ := wd_inj (by omega) (by omega) (Option.some.inj e)
  exact ⟨s, t', r, rfl, rfl, h3, fun h => (h4 h).trans (k4 h)⟩
/-- what a first line comes to -/
def FirstP (c : Nat) (L ys : List (Option Nat)) : Prop :=
  ((∀ i, i ≤ c → Zr (L.getD i none)) ∧ (∀ i, i < tsz c → Zr (ys.getD i none))) ∨
  ∃ p u r, p ≤ c ∧ (∀ i, i < p → Zr (L.getD i none)) ∧ L.getD p none = some (wd u r) ∧ r ≠ 0 ∧ r ≤ pw 420 ∧ (∀ k, k ≤ c - p → Eqn u (ys.getD (offs c p + k) none) (L.getD (p + k) none)) ∧ ∀ i, i < tsz c → (i < offs c p ∨ offs c p + (c - p) < i) → Zr (ys.getD i none)
theorem rline_first {c : Nat} (h1 : 1 ≤ c) (h6 : c ≤ 6) {L : List (Option Nat)} : ∀ (n j : Nat) (st : List (Option Nat) × List (Option Nat)), n + j = c + 1 → st.1.length = tsz c → st.2.length = c + 1 → (∀ i, i < tsz c → Zr (st.1.getD i none)) → Sg c st.1 →
    (∀ i, i ≤ c → Eqz (st.2.getD i none) (L.getD i none)) → (∀ i, i < j → Zr (L.getD i none)) → ∃ ys, rlineFrom c n j st = some ys ∧ ys.length = tsz c ∧ (∀ i, i < tsz c → Nm (ys.getD i none)) ∧ Sg c ys ∧ FirstP c L ys
  | 0, j, st, hnj, hl, _, hz, hs, _, hb => ⟨st.1, rfl, hl, fun i hi => (hz i hi).nm, hs, .inl ⟨fun i hi => hb i (by omega), hz⟩⟩
  | n + 1, j, st, hnj, hl, hl2, hz, hs, hL, hb => by
    have hj : j ≤ c := by omega
    by_cases h0 : Zr (L.getD j none)
    · obtain ⟨st', e, k1, k2, k3, k4, k5⟩ := rstep_skip h1 h6 hl hl2 hj hz hs hL h0
      obtain ⟨ys, q1, q2⟩ := rline_first h1 h6 n (j + 1) st' (by omega) k1 k2 k3 k4 k5 (fun i hi => by
        by_cases e : i = j
        · rw [e]; exact h0
        · exact hb i (by omega))
      refine ⟨ys, ?_, q2⟩
      unfold rlineFrom
      rw [e]
      exact q1
    · obtain ⟨u, r, hr, hr4⟩ := (hL j hj).nm.2
      have hr0 : r ≠ 0 := fun e => h0 ⟨u, by rw [hr, e]⟩
      have hin := fun k (hk : k ≤ c - j) => offs_in (c := c) (i := j) (j := k) h1 h6 hj hk
      obtain ⟨st', e, k1, k2, k3, k4, k5, k6⟩ := rstep_first h1 h6 hl hl2 hj (fun k hk => hz _ (hin k hk)) hs hL hr hr0 hr4
      have hN : ∀ i, i < tsz c → Nm (st'.1.getD i none) := by
        intro i hi
        by_cases c1 : i < offs c j ∨ offs c j + (c - j) < i
        · rw [k4 i c1]; exact (hz i hi).nm
        · have := k3 (i - offs c j) (by omega)
          rw [show offs c j + (i - offs c j) = i by omega] at this
          exact this.nm
      obtain ⟨ys, q1, q2, q3, q4⟩ := rline_zeros h1 h6 n (j + 1) st' (by omega) k1 k2 hN k5 (fun i hi hi2 => k6 i (by omega) hi2)
      refine ⟨ys, ?_, q2, fun i hi => (q3 i hi).nm.1, fun i hi => by rw [q4 i hi]; exact k5 i hi, .inr ⟨j, u, r, hj, hb, hr, hr0, hr4, fun k hk => (q3 _ (hin k hk)).eqn (k3 k hk), fun i hi hi2 => ?_⟩⟩
      · unfold rlineFrom
        rw [e]
        exact q1
      · have := q3 i hi
        rw [k4 i hi2] at this
        exact Zr.of_eqz this (hz i hi)
theorem getD_rep {n i : Nat} (x : Option Nat) (h : i < n) : (List.replicate n x).getD i none = x := by
  rw [List.getD_eq_getElem?_getD, List.getElem?_replicate, if_pos h]; rfl
/-- THE PLAIN LAW of AbsorbFirst -/
theorem line_first {c : Nat} (h1 : 1 ≤ c) (h6 : c ≤ 6) {L : List (Option Nat)} (hl : L.length = c + 1) (hL : ∀ i, i ≤ c → Nm (L.getD i none)) :
    ∃ ys, lineD ⟨(c : Int), List.replicate (tsz c) (some 0), 0, 0⟩ L 0 = (⟨(c : Int), ys, 0, 0⟩, true) ∧ ys.length = tsz c ∧ FirstP c L ys := by
  have hz : ∀ i, i < tsz c → Zr ((List.replicate (tsz c) (some 0) : List (Option Nat)).getD i none) := fun i hi => ⟨false, by rw [getD_rep _ hi]; rfl⟩
  have hs : Sg c (List.replicate (tsz c) (some 0)) := fun i hi => by
    have := offs_in (c := c) (i := i) (j := 0) h1 h6 hi (by omega)
    rw [getD_rep _ (by omega)]; rfl
  obtain ⟨ys, q1, q2, q3, q4, q5⟩ := rline_first h1 h6 (L := L) (c + 1) 0 (List.replicate (tsz c) (some 0), L) rfl (by rw [List.length_replicate]) hl hz hs (fun i hi => (hL i hi).eqz) (fun i hi => absurd hi (Nat.not_lt_zero _))
  have hok : (⟨(c : Int), List.replicate (tsz c) (some 0), 0, 0⟩ : FacD).ok = true := check_build h1 h6 (by rw [List.length_replicate]) (Int.le_refl 0) (by show (0 : Int) ≤ 200; decide) (Int.le_refl 0) (by show (0 : Int) ≤ 4096; decide) (fun i hi => (hz i hi).nm.large) hs
  have hcy : checkP (c : Int) ys 0 0 = true := check_build h1 h6 q2 (by decide) (by decide) (by decide) (by decide) (fun i hi => (q3 i hi).large) q4
  refine ⟨ys, ?_, q2, q5⟩
  unfold lineD
  rw [if_pos ⟨hok, by omega, by dsimp only; omega, by dsimp only; omega⟩]
  have : rlineP ((c : Int).toNat) 0 0 ((0 : Int).toNat) (List.replicate (tsz c) (some 0), L) = some ys := by
    unfold rlineP
    rw [Int.toNat_natCast, show (0 : Int).toNat = 0 from rfl, Nat.sub_zero, q1]
    dsimp only
    rw [if_pos hcy]
  dsimp only
  rw [this]
end Go.Proofs.YtmmligbkecilfaaGreatDoor
