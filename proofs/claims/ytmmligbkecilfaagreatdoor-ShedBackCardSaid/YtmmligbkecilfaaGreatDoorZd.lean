/- Each operation on floats is off by little: by 2^-53 of what it should be, and 2^-1075. Products, sums, differences, quotients and roots of floats, off by little. Quotients of floats, off by little. A rotation's numbers, off by little: the arithmetic. -/
import Derived.Test.YtmmligbkecilfaaGreatDoorOd
namespace Go.Proofs.YtmmligbkecilfaaGreatDoor.Lv
open Ieee

/-- not further from 0 than e -/
def Bd (d e : Rat) : Prop := -e ≤ d ∧ d ≤ e
theorem Bd.mono {d e f : Rat} (h : Bd d e) (hf : e ≤ f) : Bd d f := by unfold Bd at *; grind
theorem Bd.nonneg {d e : Rat} (h : Bd d e) : 0 ≤ e := by unfold Bd at *; grind
theorem Bd.neg {d e : Rat} (h : Bd d e) : Bd (-d) e := by unfold Bd at *; grind
theorem Bd.add {d e d' e' : Rat} (h : Bd d e) (h' : Bd d' e') : Bd (d + d') (e + e') := by unfold Bd at *; grind
theorem Bd.sub {d e d' e' : Rat} (h : Bd d e) (h' : Bd d' e') : Bd (d - d') (e + e') := by unfold Bd at *; grind
theorem bd_zero {e : Rat} (h : 0 ≤ e) : Bd 0 e := by unfold Bd; grind
theorem bd_self {d : Rat} (h : 0 ≤ d) : Bd d d := by unfold Bd; grind
theorem rmul_nn {a b : Rat} (ha : 0 ≤ a) (hb : 0 ≤ b) : 0 ≤ a * b := Rat.mul_nonneg ha hb
theorem rmul_le {a b c d : Rat} (ha : 0 ≤ a) (hc : 0 ≤ c) (h : a ≤ b) (h' : c ≤ d) : a * c ≤ b * d := by
  have h1 := Rat.mul_le_mul_of_nonneg_right h hc
  have h2 := Rat.mul_le_mul_of_nonneg_left h' (show 0 ≤ b by grind)
  grind
theorem Bd.mul {d e d' e' : Rat} (h : Bd d e) (h' : Bd d' e') : Bd (d * d') (e * e') := by
  unfold Bd at *
  obtain ⟨h1, h2⟩ := h
  obtain ⟨h3, h4⟩ := h'
  have a1 := rmul_nn (show 0 ≤ e - d by grind) (show 0 ≤ e' - d' by grind)
  have a2 := rmul_nn (show 0 ≤ e + d by grind) (show 0 ≤ e' + d' by grind)
  have a3 := rmul_nn (show 0 ≤ e - d by grind) (show 0 ≤ e' + d' by grind)
  have a4 := rmul_nn (show 0 ≤ e + d by grind) (show 0 ≤ e' - d' by grind)
  constructor <;> grind
/-- a number's square is at most another one's -/
theorem bd_of_sq {d e : Rat} (he : 0 ≤ e) (h : d * d ≤ e * e) : Bd d e := by
  unfold Bd
  refine ⟨?_, ?_⟩
  · by_cases c : -e ≤ d
    · exact c
    · have := rsq_lt he (show e < -d by grind)
      grind
  · by_cases c : d ≤ e
    · exact c
    · have := rsq_lt he (show e < d by grind)
      grind
theorem Bd.sq {d e : Rat} (h : Bd d e) : d * d ≤ e * e := by
  have := h.mul h
  unfold Bd at this
  exact this.2
theorem rsq_nn (a : Rat) : 0 ≤ a * a := by
  by_cases h : 0 ≤ a
  · exact rmul_nn h h
  · have := rmul_nn (show 0 ≤ -a by grind) (show 0 ≤ -a by grind)
    grind

/-- 2^-53 -/
def uu : Rat := p2 (-53)
/-- 2^-1075 -/
def ee : Rat := p2 (-1075)
theorem uu_pos : 0 < uu := p2_pos _
theorem ee_pos : 0 < ee := p2_pos _
theorem uu_val : uu * 9007199254740992 = 1 := by
  have h1 := p2_nat 53
  have h2 := p2_neg 53
  rw [show ((53 : Nat) : Int) = 53 from rfl] at h1
  rw [h1] at h2
  unfold uu
  have : ((2 ^ 53 : Nat) : Rat) = 9007199254740992 := by norm_cast
  rw [this] at h2
  exact h2
/-- what is rounded is off by little -/
theorem mid_err {r : Nat} {z : Rat} (h : Mid r z) (hz : 0 ≤ z) : Bd (rv r - z) (uu * z + ee) := by
  obtain ⟨q, k, hr, h1, h2⟩ := rung_form r
  have hu := uu_val
  have hup := uu_pos
  have hep := ee_pos
  have hs := rv_succ q k h1 h2
  rw [← hr] at hs
  have hi := h.hi.1
  have hk : rv r = (k : Rat) * p2 (-1074 + (q : Int)) := by rw [hr]; exact rv_mk q k (by omega) h2
  have hP := p2_pos (-1074 + (q : Int))
  have he2 : ee * 2 = p2 (-1074) := by
    unfold ee
    rw [show (-1074 : Int) = -1075 + 1 by decide, p2_succ]
    grind
  by_cases hq : q = 0
  · subst hq
    have e0 : (-1074 + ((0 : Nat) : Int)) = -1074 := by decide
    rw [e0] at hs hk hP
    have hlo : rv r ≤ z + ee := by
      by_cases h0 : r = 0
      · subst h0; rw [rv_zero]; grind
      · have := (h.lo (by omega)).1
        have hs2 := rv_succ 0 (k - 1) (by omega) (.inl rfl)
        rw [e0, show 0 * 4503599627370496 + (k - 1) + 1 = r by omega, show 0 * 4503599627370496 + (k - 1) = r - 1 by omega] at hs2
        grind
    have hz2 : 0 ≤ uu * z := rmul_nn (Rat.le_of_lt hup) hz
    unfold Bd
    constructor <;> grind
  · have hk52 : 4503599627370496 ≤ k := by omega
    have hkr : (4503599627370496 : Rat) ≤ (k : Rat) := by exact_mod_cast hk52
    generalize hPd : p2 (-1074 + (q : Int)) = P at *
    have kP : 4503599627370496 * P ≤ (k : Rat) * P := Rat.mul_le_mul_of_nonneg_right hkr (Rat.le_of_lt hP)
    have lo := (h.lo (by omega)).1
    have hlo : rv r - z ≤ uu * z + ee := by
      by_cases hk2 : k = 4503599627370496
      · subst hk2
        have hr1 : r - 1 = (q - 1) * 4503599627370496 + 9007199254740991 := by omega
        have hv1 := rv_mk (q - 1) 9007199254740991 (by omega) (.inr (by omega))
        rw [← hr1] at hv1
        have hp1 : 2 * p2 (-1074 + ((q - 1 : Nat) : Int)) = P := by
          rw [← p2_succ, ← hPd]
          congr 1
          omega
        generalize p2 (-1074 + ((q - 1 : Nat) : Int)) = P' at *
        have c1 : ((4503599627370496 : Nat) : Rat) = 4503599627370496 := by norm_cast
        have c2 : ((9007199254740991 : Nat) : Rat) = 9007199254740991 := by norm_cast
        rw [c1] at hk kP
        rw [c2] at hv1
        have hu2 : uu * (4503599627370495 * P) ≤ uu * z := Rat.mul_le_mul_of_nonneg_left (by grind) (Rat.le_of_lt hup)
        have hu3 : uu * (4503599627370495 * P) * 9007199254740992 = 4503599627370495 * P := by
          have : uu * (4503599627370495 * P) * 9007199254740992 = (uu * 9007199254740992) * (4503599627370495 * P) := by grind
          rw [this, hu]; grind
        grind
      · have hs2 := rv_succ q (k - 1) (by omega) (.inr (by omega))
        rw [hPd, show q * 4503599627370496 + (k - 1) + 1 = r by omega, show q * 4503599627370496 + (k - 1) = r - 1 by omega] at hs2
        have hk3 : (4503599627370497 : Rat) ≤ (k : Rat) := by
          have : 4503599627370497 ≤ k := by omega
          exact_mod_cast this
        have kP2 : 4503599627370497 * P ≤ (k : Rat) * P := Rat.mul_le_mul_of_nonneg_right hk3 (Rat.le_of_lt hP)
        have hu2 : uu * (4503599627370496 * P) ≤ uu * z := Rat.mul_le_mul_of_nonneg_left (by grind) (Rat.le_of_lt hup)
        have hu3 : uu * (4503599627370496 * P) * 9007199254740992 = 4503599627370496 * P := by
          have : uu * (4503599627370496 * P) * 9007199254740992 = (uu * 9007199254740992) * (4503599627370496 * P) := by grind
          rw [this, hu]; grind
        grind
    have hhi : z - rv r ≤ uu * z + ee := by
      by_cases c : z ≤ rv r
      · have : 0 ≤ uu * z := rmul_nn (Rat.le_of_lt hup) hz
        grind
      · have hu2 : uu * (4503599627370496 * P) ≤ uu * z := Rat.mul_le_mul_of_nonneg_left (by grind) (Rat.le_of_lt hup)
        have hu3 : uu * (4503599627370496 * P) * 9007199254740992 = 4503599627370496 * P := by
          have : uu * (4503599627370496 * P) * 9007199254740992 = (uu * 9007199254740992) * (4503599627370496 * P) := by grind
          rw [this, hu]; grind
        grind
    unfold Bd
    constructor <;> grind
end Go.Proofs.YtmmligbkecilfaaGreatDoor.Lv
namespace Go.Proofs.YtmmligbkecilfaaGreatDoor.Lv
open Ieee

/-- what a float is worth; a NaN, or an infinity, anything -/
def fv (x : Option Nat) : Rat := match x with | none => 0 | some b => va b
/-- a float that is a number -/
def Fn (x : Option Nat) : Prop := ∃ (s : Bool) (r : Nat), x = some (wd s r) ∧ r < 9218868437227405312
theorem fv_wd (s : Bool) {r : Nat} (hr : r < 9218868437227405312) : fv (some (wd s r)) = vz s r := by
  show va (wd s r) = vz s r
  unfold va vz wd
  cases s
  · simp only [Bool.false_eq_true, if_false]
    rw [if_pos (by omega)]
  · simp only [if_true]
    rw [if_neg (by omega), Nat.add_sub_cancel_left]
theorem vz_mul (s t : Bool) (x y : Nat) : vz s x * vz t y = if (s ^^ t) then -(rv x * rv y) else rv x * rv y := by
  unfold vz
  cases s <;> cases t <;> simp <;> grind
theorem vz_sub (s t : Bool) (x y : Nat) : vz s x - vz t y = vz s x + vz (!t) y := by
  unfold vz
  cases t <;> simp <;> grind
theorem small_lt {ρ : Nat} {z : Rat} (h : Mid ρ z) (hz : z ≤ p2 1000) : ρ < 9218868437227405312 := by
  obtain ⟨e, _, h2⟩ := pw_val (k := 1000) (by decide) (by decide)
  have : ρ ≤ pw 1000 := mid_le h (by rw [e]; exact hz)
  omega
theorem bd_sgn {u : Bool} {x z e : Rat} (h : Bd (x - z) e) : Bd ((if u then -x else x) - (if u then -z else z)) e := by
  cases u
  · exact h
  · simp only [if_true]
    have := h.neg
    rw [show -x - -z = -(x - z) by grind]
    exact this
theorem round_off {ρ : Nat} {z m : Rat} (h : Mid ρ z) (hz : 0 ≤ z) (hm : z ≤ m) : Bd (rv ρ - z) (uu * m + ee) :=
  (mid_err h hz).mono (by have := Rat.mul_le_mul_of_nonneg_left hm (Rat.le_of_lt uu_pos); grind)
/-- a product -/
theorem mulE {x y : Option Nat} (hx : Fn x) (hy : Fn y) {m : Rat} (hb : Bd (fv x * fv y) m) (hm : m ≤ p2 1000) : Fn (fmul x y) ∧ Bd (fv (fmul x y) - fv x * fv y) (uu * m + ee) := by
  obtain ⟨s, a, rfl, ha⟩ := hx
  obtain ⟨t, b, rfl, hb'⟩ := hy
  obtain ⟨ρ, h1, h2⟩ := mul_mid ha hb'
  rw [fv_wd s ha, fv_wd t hb', vz_mul] at *
  have hz : 0 ≤ rv a * rv b := rmul_nn (rv_nonneg _) (rv_nonneg _)
  have hzm : rv a * rv b ≤ m := by
    unfold Bd at hb
    split at hb <;> grind
  have hlt := small_lt h1 (Rat.le_trans hzm hm)
  have e : fmul (some (wd s a)) (some (wd t b)) = some (wd (s ^^ t) ρ) := by
    show double.mul _ _ = _
    rw [h2, Nat.min_eq_left (by omega)]
  rw [e, fv_wd _ hlt]
  exact ⟨⟨_, _, rfl, hlt⟩, bd_sgn (round_off h1 hz hzm)⟩
/-- a sum -/
theorem addE {x y : Option Nat} (hx : Fn x) (hy : Fn y) {m : Rat} (hb : Bd (fv x + fv y) m) (hm : m ≤ p2 1000) : Fn (fadd x y) ∧ Bd (fv (fadd x y) - (fv x + fv y)) (uu * m + ee) := by
  obtain ⟨s, a, rfl, ha⟩ := hx
  obtain ⟨t, b, rfl, hb'⟩ := hy
  obtain ⟨u, ρ, z, hz, h1, hzv, _, h2⟩ := add_gen s t ha hb'
  rw [fv_wd s ha, fv_wd t hb', ← hzv] at hb
  have hzm : z ≤ m := by
    unfold Bd at hb
    split at hb <;> grind
  have hlt := small_lt h1 (Rat.le_trans hzm hm)
  have e : fadd (some (wd s a)) (some (wd t b)) = some (wd u ρ) := by
    show double.add _ _ = _
    rw [h2, Nat.min_eq_left (by omega)]
  rw [e, fv_wd _ hlt, fv_wd s ha, fv_wd t hb', ← hzv]
  exact ⟨⟨_, _, rfl, hlt⟩, bd_sgn (round_off h1 hz hzm)⟩
theorem sub_wdZ (s t : Bool) {x y : Nat} (hx : x < 9218868437227405312) (hy : y < 9218868437227405312) : double.sub (wd s x) (wd t y) = double.add (wd s x) (wd (!t) y) := by
  unfold Format.sub Format.add
  rw [read_wd s hx, read_wd t hy, read_wd (!t) hy]
  rfl
/-- a difference -/
theorem subE {x y : Option Nat} (hx : Fn x) (hy : Fn y) {m : Rat} (hb : Bd (fv x - fv y) m) (hm : m ≤ p2 1000) : Fn (fsub x y) ∧ Bd (fv (fsub x y) - (fv x - fv y)) (uu * m + ee) := by
  obtain ⟨s, a, rfl, ha⟩ := hx
  obtain ⟨t, b, rfl, hb'⟩ := hy
  have e : fsub (some (wd s a)) (some (wd t b)) = fadd (some (wd s a)) (some (wd (!t) b)) := sub_wdZ s t ha hb'
  rw [fv_wd s ha, fv_wd t hb', vz_sub] at *
  rw [e]
  have := addE (x := some (wd s a)) (y := some (wd (!t) b)) ⟨_, _, rfl, ha⟩ ⟨_, _, rfl, hb'⟩ (m := m) (by rw [fv_wd s ha, fv_wd _ hb']; exact hb) hm
  rw [fv_wd s ha, fv_wd _ hb'] at this
  exact this
end Go.Proofs.YtmmligbkecilfaaGreatDoor.Lv
namespace Go.Proofs.YtmmligbkecilfaaGreatDoor.Lv
open Ieee

theorem quo_parts {m n : Nat} (hm : m ≠ 0) (hm2 : m < 9007199254740992) :
    ∃ k, 54 + n.log2 - m.log2 = k ∧ 9007199254740992 * n ≤ m <<< k := by
  refine ⟨_, rfl, ?_⟩
  have hl : m.log2 ≤ 52 := by
    have := (Nat.log2_lt hm).2 (show m < 2 ^ 53 by omega)
    omega
  have h1 := Nat.log2_self_le hm
  have h2 : n < 2 ^ (n.log2 + 1) := Nat.lt_log2_self
  rw [Nat.shiftLeft_eq]
  calc 9007199254740992 * n ≤ 2 ^ 53 * 2 ^ (n.log2 + 1) := Nat.mul_le_mul (by decide) (Nat.le_of_lt h2)
    _ = 2 ^ (m.log2) * 2 ^ (54 + n.log2 - m.log2) := by rw [← Nat.pow_add, ← Nat.pow_add]; congr 1; omega
    _ ≤ m * 2 ^ (54 + n.log2 - m.log2) := Nat.mul_le_mul_right _ h1
theorem div_gen {x y : Nat} (hx0 : x ≠ 0) (hy0 : y ≠ 0) (hx : x < 9218868437227405312) (hy : y < 9218868437227405312) {z : Rat} (hz : z * rv y = rv x) :
    ∃ (ρ : Nat) (v : Rat), Mid ρ v ∧ 0 ≤ v ∧ Bd (v - z) (uu * z * (1/2)) ∧ ∀ s t, double.div (wd s x) (wd t y) = some (wd (s ^^ t) (min ρ 9218868437227405312)) := by
  have hm := mg_ne hx0
  have hn := mg_ne hy0
  have hm2 : mg x < 9007199254740992 := by unfold mg; split <;> omega
  obtain ⟨k, hk, hkn⟩ := quo_parts (n := mg y) hm hm2
  obtain ⟨D, hD⟩ : ∃ D, mg x <<< k = D := ⟨_, rfl⟩
  obtain ⟨w, hw⟩ : ∃ w, 2 * (D / mg y) + (D % mg y != 0).toNat = w := ⟨_, rfl⟩
  obtain ⟨e, he⟩ : ∃ e : Int, pl x - pl y - (k : Int) - 1 = e := ⟨_, rfl⟩
  obtain ⟨ρ, h1, h2⟩ := nearest_mid w e
  refine ⟨ρ, (w : Rat) * p2 e, h1, Rat.mul_nonneg (by exact_mod_cast Nat.zero_le _) (Rat.le_of_lt (p2_pos e)), ?_, fun s t => ?_⟩
  · have hy1 := mg_pl y
    have hx1 := mg_pl x
    have hE := p2_pos e
    have hnp : (0 : Rat) < (mg y : Rat) := by exact_mod_cast Nat.pos_of_ne_zero hn
    -- z in units of p2 e
    have hDv : (D : Rat) = (mg x : Rat) * p2 (k : Int) := by rw [← hD, Nat.shiftLeft_eq, Rat.natCast_mul, p2_nat]
    have hzn : z * (mg y : Rat) = 2 * (D : Rat) * p2 e := by
      have a1 : z * (mg y : Rat) * p2 (pl y) = (mg x : Rat) * p2 (pl x) := by rw [Rat.mul_assoc, hy1, hx1]; exact hz
      have a2 : p2 (pl x) = p2 1 * p2 (k : Int) * p2 e * p2 (pl y) := by
        rw [← p2_add, ← p2_add, ← p2_add]; congr 1; omega
      have a3 : p2 1 = 2 := by rw [show (1 : Int) = 0 + 1 by decide, p2_succ, p2_zero, Rat.mul_one]
      rw [a2, a3] at a1
      have hP := p2_pos (pl y)
      have a4 : (z * (mg y : Rat) - 2 * (D : Rat) * p2 e) * p2 (pl y) = 0 := by rw [hDv]; grind
      have a5 := (Rat.mul_eq_zero).1 a4
      rcases a5 with a5 | a5
      · grind
      · grind
    have hdm := Nat.div_add_mod D (mg y)
    have hlt := Nat.mod_lt D (Nat.pos_of_ne_zero hn)
    generalize hq : D / mg y = q at *
    generalize hr : D % mg y = r at *
    generalize mg y = n at *
    have hwr : ((w : Rat) = 2 * (q : Rat) ∧ r = 0) ∨ ((w : Rat) = 2 * (q : Rat) + 1 ∧ r ≠ 0) := by
      by_cases c : r = 0
      · subst c
        left
        rw [← hw]
        simp
      · right
        have : (r != 0) = true := by simpa using c
        rw [← hw, this]
        refine ⟨?_, c⟩
        have : (2 * q + true.toNat : Nat) = 2 * q + 1 := rfl
        rw [this]
        norm_cast
    have hDq : (D : Rat) = (n : Rat) * (q : Rat) + (r : Rat) := by rw [← hdm]; norm_cast
    have hr0 : (0 : Rat) ≤ (r : Rat) := by exact_mod_cast Nat.zero_le _
    have hrn : (r : Rat) + 1 ≤ (n : Rat) := by exact_mod_cast hlt
    have hbig : 9007199254740992 * (n : Rat) ≤ (D : Rat) := by rw [hD] at hkn; exact_mod_cast hkn
    have hu := uu_val
    -- n * (w - z / p2 e) lies between -n and n
    have hd : Bd (((w : Rat) * p2 e - z) * (n : Rat)) ((n : Rat) * p2 e) := by
      have e1 : ((w : Rat) * p2 e - z) * (n : Rat) = ((w : Rat) * (n : Rat) - 2 * (D : Rat)) * p2 e := by grind
      rw [e1, hDq]
      have hb : Bd ((w : Rat) * (n : Rat) - 2 * ((n : Rat) * (q : Rat) + (r : Rat))) (n : Rat) := by
        unfold Bd
        rcases hwr with ⟨hw1, hr1⟩ | ⟨hw1, hr1⟩
        · subst hr1
          rw [hw1]
          have : ((0 : Nat) : Rat) = 0 := rfl
          rw [this]
          constructor <;> grind
        · have hr2 : (1 : Rat) ≤ (r : Rat) := by exact_mod_cast Nat.pos_of_ne_zero hr1
          rw [hw1]
          constructor <;> grind
      exact hb.mul (bd_self (Rat.le_of_lt hE))
    have hz2 : (n : Rat) * p2 e ≤ uu * z * (1/2) * (n : Rat) := by
      have e2 : uu * z * (1/2) * (n : Rat) = uu * ((D : Rat) * p2 e) := by grind
      rw [e2]
      have h3 : 9007199254740992 * (n : Rat) * p2 e ≤ (D : Rat) * p2 e := Rat.mul_le_mul_of_nonneg_right hbig (Rat.le_of_lt hE)
      have h4 := Rat.mul_le_mul_of_nonneg_left h3 (Rat.le_of_lt uu_pos)
      have h5 : uu * (9007199254740992 * (n : Rat) * p2 e) = (n : Rat) * p2 e := by
        have : uu * (9007199254740992 * (n : Rat) * p2 e) = (uu * 9007199254740992) * ((n : Rat) * p2 e) := by grind
        rw [this, hu]; grind
      grind
    have hd2 := hd.mono hz2
    unfold Bd at hd2 ⊢
    constructor
    · refine Rat.le_of_mul_le_mul_right (c := (n : Rat)) ?_ hnp
      grind
    · refine Rat.le_of_mul_le_mul_right (c := (n : Rat)) ?_ hnp
      grind
  · unfold Format.div
    rw [read_wd s hx, read_wd t hy]
    simp only [Datum.quotient, if_neg hn, Option.map_some, Format.write, fbits]
    rw [show 52 + 2 + (mg y).log2 - (mg x).log2 = k by rw [← hk], hD, hw, he, h2]
theorem divE {x : Option Nat} (hx : Fn x) {H : Nat} (h0 : H ≠ 0) (hH : H < 9218868437227405312) {q m : Rat} (hq : q * rv H = fv x) (hb : Bd q m) (hm : m ≤ p2 900) :
    Fn (fdiv x (some H)) ∧ Bd (fv (fdiv x (some H)) - q) (151/100 * (uu * m) + ee) := by
  obtain ⟨s, a, rfl, ha⟩ := hx
  have hm0 := hb.nonneg
  have hup := uu_pos
  have hep := ee_pos
  have hum := rmul_nn (Rat.le_of_lt hup) hm0
  have hHp : 0 < rv H := by have := rv_lt (show 0 < H by omega); rwa [rv_zero] at this
  rw [fv_wd s ha] at hq
  by_cases c : a = 0
  · subst c
    have e : fdiv (some (wd s 0)) (some H) = some (wd s 0) := by
      have := zero_div s false h0 hH
      rw [Bool.xor_false] at this
      exact this
    have hv : vz s 0 = 0 := by unfold vz; rw [rv_zero]; cases s <;> simp
    rw [hv] at hq
    have hq0 : q = 0 := by
      rcases (Rat.mul_eq_zero).1 hq with h | h
      · exact h
      · grind
    rw [e, fv_wd s ha, hv, hq0]
    exact ⟨⟨s, 0, rfl, ha⟩, by rw [show (0 : Rat) - 0 = 0 by grind]; exact bd_zero (by grind)⟩
  · obtain ⟨z, hz⟩ : ∃ z, z = if s then -q else q := ⟨_, rfl⟩
    have hzq : z * rv H = rv a := by
      rw [hz]
      unfold vz at hq
      cases s
      · simpa using hq
      · simp only [if_true] at hq ⊢
        grind
    have hz0 : 0 ≤ z := by
      have h1 : 0 * rv H ≤ z * rv H := by rw [hzq, Rat.zero_mul]; exact rv_nonneg a
      exact Rat.le_of_mul_le_mul_right h1 hHp
    have hzm : z ≤ m := by
      unfold Bd at hb
      rw [hz]
      split <;> grind
    obtain ⟨ρ, v, h1, h2, h3, h4⟩ := div_gen c h0 ha hH hzq
    have huz : uu * z ≤ uu * m := Rat.mul_le_mul_of_nonneg_left hzm (Rat.le_of_lt hup)
    have huv := uu_val
    have hu1 : uu * (uu * m) ≤ 1/100 * (uu * m) := Rat.mul_le_mul_of_nonneg_right (by grind) hum
    have hv2 : v ≤ 101/100 * m + 0 := by
      have h5 : uu * m ≤ 1/100 * m := Rat.mul_le_mul_of_nonneg_right (by grind) hm0
      unfold Bd at h3
      grind
    have hp : p2 1000 = p2 900 * p2 100 := by rw [← p2_add]; rfl
    have hp1 : (2 : Rat) ≤ p2 100 := by
      have h6 := p2_le (show (1 : Int) ≤ 100 by decide)
      rw [show (1 : Int) = 0 + 1 by decide, p2_succ, p2_zero, Rat.mul_one] at h6
      exact h6
    have hv3 : v ≤ p2 1000 := by
      have h7 := Rat.mul_le_mul_of_nonneg_left hp1 (Rat.le_of_lt (p2_pos 900))
      grind
    have hlt := small_lt h1 hv3
    have e : fdiv (some (wd s a)) (some H) = some (wd s ρ) := by
      have := h4 s false
      rw [Bool.xor_false, Nat.min_eq_left (by omega)] at this
      exact this
    rw [e, fv_wd _ hlt]
    refine ⟨⟨_, _, rfl, hlt⟩, ?_⟩
    have h8 : Bd (rv ρ - v) (uu * (101/100 * m + 0) + ee) := round_off h1 h2 hv2
    have h9 : Bd (rv ρ - z) (151/100 * (uu * m) + ee) := by
      have := h8.add h3
      rw [show rv ρ - v + (v - z) = rv ρ - z by grind] at this
      exact this.mono (by grind)
    have h10 : vz s ρ - q = (if s then -rv ρ else rv ρ) - (if s then -z else z) := by
      rw [hz]
      unfold vz
      cases s <;> simp
    rw [h10]
    exact bd_sgn h9
end Go.Proofs.YtmmligbkecilfaaGreatDoor.Lv
namespace Go.Proofs.YtmmligbkecilfaaGreatDoor.Lv
open Ieee

theorem uu_small : uu * 1000000000000000 ≤ 1 ∧ 0 < uu := ⟨by have := uu_val; have := uu_pos; grind, uu_pos⟩
theorem rmul_mono {a b c : Rat} (hc : 0 ≤ c) (h : a ≤ b) : c * a ≤ c * b := Rat.mul_le_mul_of_nonneg_left h hc
/-- the squares' sum -/
theorem ofn1 {u e X Y p q s : Rat} (hu : 0 < u) (hu2 : u * 1000000000000000 ≤ 1) (he : 0 ≤ e) (hX : 0 ≤ X) (hY : 0 ≤ Y) (hp : Bd (p - X) (u * X + e)) (hq : Bd (q - Y) (u * Y + e)) (hs : Bd (s - (p + q)) (u * (p + q) + e))
    (hN : e ≤ 1/1000 * (u * (X + Y))) : Bd (s - (X + Y)) (21/10 * (u * (X + Y))) := by
  have hN0 : 0 ≤ X + Y := by grind
  have h1 : u * (u * (X + Y)) ≤ 1/1000 * (u * (X + Y)) := Rat.mul_le_mul_of_nonneg_right (by grind) (rmul_nn (Rat.le_of_lt hu) hN0)
  have h2 : u * e ≤ 1/1000 * e := Rat.mul_le_mul_of_nonneg_right (by grind) he
  have h3 : p + q ≤ (X + Y) + u * (X + Y) + 2 * e := by unfold Bd at hp hq; grind
  have h4 := rmul_mono (Rat.le_of_lt hu) h3
  unfold Bd at *
  constructor <;> grind
/-- the root's square -/
theorem ofn2 {u N s h : Rat} (hu : 0 < u) (hu2 : u * 1000000000000000 ≤ 1) (hN0 : 0 ≤ N) (hs : Bd (s - N) (21/10 * (u * N))) (h1 : (h * h) * ((1 - u) * (1 - u)) ≤ s) (h2 : s ≤ (h * h) * ((1 + u) * (1 + u))) :
    Bd (h * h - N) (412/100 * (u * (h * h))) ∧ h * h ≤ 100001/100000 * N ∧ N ≤ 100001/100000 * (h * h) := by
  have hW := rsq_nn h
  generalize h * h = W at *
  have a1 : u * (u * W) ≤ 1/1000 * (u * W) := Rat.mul_le_mul_of_nonneg_right (by grind) (rmul_nn (Rat.le_of_lt hu) hW)
  have a2 : u * W ≤ 1/1000000 * W := Rat.mul_le_mul_of_nonneg_right (by grind) hW
  have a3 : u * N ≤ 1/1000000 * N := Rat.mul_le_mul_of_nonneg_right (by grind) hN0
  have a4 : 0 ≤ u * (u * W) := rmul_nn (Rat.le_of_lt hu) (rmul_nn (Rat.le_of_lt hu) hW)
  have a5 : 0 ≤ u * W := rmul_nn (Rat.le_of_lt hu) hW
  have e1 : W * ((1 - u) * (1 - u)) = W - 2 * (u * W) + u * (u * W) := by grind
  have e2 : W * ((1 + u) * (1 + u)) = W + 2 * (u * W) + u * (u * W) := by grind
  rw [e1] at h1
  rw [e2] at h2
  unfold Bd at hs
  have b1 : W ≤ 100001/100000 * N := by grind
  have b2 : N ≤ 100001/100000 * W := by grind
  have b3 := rmul_mono (Rat.le_of_lt hu) b2
  refine ⟨?_, b1, b2⟩
  unfold Bd
  constructor <;> grind
/-- cosine and sine: the sum of their squares -/
theorem ofn3 {u e W N x y h c d C D : Rat} (hu : 0 < u) (hu2 : u * 1000000000000000 ≤ 1) (he : 0 ≤ e) (hk : e ≤ 1/1000 * (u * u)) (hW : h * h = W) (hW0 : 0 < W) (hN : x * x + y * y = N) (hWN : Bd (W - N) (412/100 * (u * W)))
    (hc0 : 0 ≤ c) (hd0 : 0 ≤ d) (hc : c * h = x) (hd : d * h = y) (hC : Bd (C - c) (151/100 * (u * c) + e)) (hD : Bd (D - d) (151/100 * (u * d) + e)) :
    c ≤ 101/100 ∧ d ≤ 101/100 ∧ Bd (C * C + D * D - 1) (75/10 * u) := by
  have hu0 := Rat.le_of_lt hu
  have hZ : (c * c + d * d) * W = N := by rw [← hW, ← hN, ← hc, ← hd]; grind
  have hZb : Bd (c * c + d * d - 1) (412/100 * u) := by
    have e1 : (1 - (c * c + d * d)) * W = W - N := by rw [← hZ]; grind
    rw [← e1] at hWN
    have h1 : Bd (1 - (c * c + d * d)) (412/100 * u) := by
      unfold Bd at hWN ⊢
      constructor
      · refine Rat.le_of_mul_le_mul_right (c := W) ?_ hW0; grind
      · refine Rat.le_of_mul_le_mul_right (c := W) ?_ hW0; grind
    have := h1.neg
    rwa [show -(1 - (c * c + d * d)) = c * c + d * d - 1 by grind] at this
  have hcc := rsq_nn c
  have hdd := rsq_nn d
  have one : (c * c ≤ (101/100) * (101/100)) ∧ d * d ≤ (101/100) * (101/100) := by
    unfold Bd at hZb
    constructor <;> grind
  have hc1 : c ≤ 101/100 := (bd_of_sq (by grind) one.1).2
  have hd1 : d ≤ 101/100 := (bd_of_sq (by grind) one.2).2
  refine ⟨hc1, hd1, ?_⟩
  have key : ∀ (c C : Rat), 0 ≤ c → c ≤ 101/100 → Bd (C - c) (151/100 * (u * c) + e) → Bd (C * C - c * c) (302/100 * (u * (c * c)) + 1/100 * u) := by
    intro c C hc0 hc1 hC
    have hE0 : 0 ≤ 151/100 * (u * c) + e := by have := rmul_nn hu0 hc0; grind
    have hEu : 151/100 * (u * c) + e ≤ 2 * u := by
      have h1 := rmul_mono hu0 hc1
      have h2 : u * u ≤ 1/1000 * u := Rat.mul_le_mul_of_nonneg_right (by grind) hu0
      grind
    have hS : Bd (C + c) (2 * c + (151/100 * (u * c) + e)) := by
      unfold Bd at hC ⊢
      constructor <;> grind
    have h3 := hC.mul hS
    rw [show (C - c) * (C + c) = C * C - c * c by grind] at h3
    refine h3.mono ?_
    generalize hE : 151/100 * (u * c) + e = E at *
    have h4 : E * E ≤ (2 * u) * (2 * u) := rsq_le hE0 hEu
    have h5 : u * u ≤ 1/1000000 * u := Rat.mul_le_mul_of_nonneg_right (by grind) hu0
    have h6 : e * c ≤ e * (101/100) := rmul_mono he hc1
    have e2 : E * (2 * c + E) = 302/100 * (u * (c * c)) + 2 * (e * c) + E * E := by rw [← hE]; grind
    rw [e2]
    grind
  have k1 := key c C hc0 hc1 hC
  have k2 := key d D hd0 hd1 hD
  have k3 := (k1.add k2).add hZb
  rw [show C * C - c * c + (D * D - d * d) + (c * c + d * d - 1) = C * C + D * D - 1 by grind] at k3
  refine k3.mono ?_
  have h7 : u * (c * c + d * d) ≤ u * (101/100) := rmul_mono hu0 (by unfold Bd at hZb; grind)
  grind
theorem ofn_ax {u e a x : Rat} (hu : 0 < u) (hu2 : u * 1000000000000000 ≤ 1) (he : 0 ≤ e) (ha0 : 0 ≤ a) (h : Bd (x - a) (u * a + e)) :
    Bd (a - x) (101/100 * (u * x) + 12/10 * e) ∧ a ≤ 100001/100000 * x + 12/10 * e ∧ x ≤ 100001/100000 * a + e := by
  have h1 : u * a ≤ 1/1000000 * a := Rat.mul_le_mul_of_nonneg_right (by grind) ha0
  have h2 : u * e ≤ 1/1000000 * e := Rat.mul_le_mul_of_nonneg_right (by grind) he
  unfold Bd at *
  have h3 : a ≤ 100001/100000 * x + 11/10 * e := by grind
  have h4 := rmul_mono (Rat.le_of_lt hu) h3
  have h5 : 0 ≤ u * a := rmul_nn (Rat.le_of_lt hu) ha0
  have h6 : 0 ≤ 101/100 * (u * x) + 1/1000 * e := by grind
  refine ⟨⟨?_, ?_⟩, ?_, ?_⟩ <;> grind
/-- what stands on the diagonal, against cosine and sine -/
theorem ofn4 {u e W N x y h c d C D a b : Rat} (hu : 0 < u) (hu2 : u * 1000000000000000 ≤ 1) (he : 0 ≤ e) (hk : e ≤ 1/1000 * (u * u)) (hkh : e ≤ 1/1000 * (u * u * h)) (hW : h * h = W) (hh : 0 < h) (hN : x * x + y * y = N) (hWN : Bd (W - N) (412/100 * (u * W)))
    (hc0 : 0 ≤ c) (hd0 : 0 ≤ d) (hc : c * h = x) (hd : d * h = y) (hC : Bd (C - c) (151/100 * (u * c) + e)) (hD : Bd (D - d) (151/100 * (u * d) + e)) (hc1 : c ≤ 101/100) (hd1 : d ≤ 101/100)
    (ha0 : 0 ≤ a) (hb0 : 0 ≤ b) (hx : Bd (x - a) (u * a + e)) (hy : Bd (y - b) (u * b + e)) : Bd (h - (C * a + D * b)) (69/10 * (u * h)) := by
  have hu0 := Rat.le_of_lt hu
  have hh0 := Rat.le_of_lt hh
  obtain ⟨ax1, ax2, _⟩ := ofn_ax hu hu2 he ha0 hx
  obtain ⟨by1, by2, _⟩ := ofn_ax hu hu2 he hb0 hy
  have hV : Bd (c * x + d * y - h) (412/100 * (u * h)) := by
    have e1 : -(c * x + d * y - h) * h = W - N := by rw [← hW, ← hN, ← hc, ← hd]; grind
    rw [← e1, ← hW] at hWN
    have h1 : Bd (-(c * x + d * y - h)) (412/100 * (u * h)) := by
      unfold Bd at hWN ⊢
      constructor
      · refine Rat.le_of_mul_le_mul_right (c := h) ?_ hh; grind
      · refine Rat.le_of_mul_le_mul_right (c := h) ?_ hh; grind
    have := h1.neg
    rwa [show - -(c * x + d * y - h) = c * x + d * y - h by grind] at this
  have hx0 : 0 ≤ x := by rw [← hc]; exact rmul_nn hc0 hh0
  have hy0 : 0 ≤ y := by rw [← hd]; exact rmul_nn hd0 hh0
  have hxh : x ≤ 101/100 * h := by rw [← hc]; exact Rat.mul_le_mul_of_nonneg_right hc1 hh0
  have hyh : y ≤ 101/100 * h := by rw [← hd]; exact Rat.mul_le_mul_of_nonneg_right hd1 hh0
  have uh0 := rmul_nn hu0 hh0
  have uuh : u * u * h ≤ 1/1000000 * (u * h) := by
    have : u * (u * h) ≤ 1/1000000 * (u * h) := Rat.mul_le_mul_of_nonneg_right (by grind) uh0
    grind
  have uu1 : u * u ≤ 1/1000000 * u := Rat.mul_le_mul_of_nonneg_right (by grind) hu0
  have eh : e * h ≤ 1/1000 * (u * u * h) := by
    have := Rat.mul_le_mul_of_nonneg_right hk hh0
    grind
  have e1000 : e ≤ 1/1000 := by have : u * u ≤ 1 * 1 := rmul_le hu0 hu0 (by grind) (by grind); grind
  have e2 : e * e ≤ 1/1000 * e := Rat.mul_le_mul_of_nonneg_right e1000 he
  -- one side: what the two errors come to
  have key : ∀ (c C a x : Rat), 0 ≤ c → c ≤ 101/100 → 0 ≤ x → x ≤ 101/100 * h → 0 ≤ a → Bd (C - c) (151/100 * (u * c) + e) → Bd (a - x) (101/100 * (u * x) + 12/10 * e) → a ≤ 100001/100000 * x + 12/10 * e → Bd (C * a - c * x) (253/100 * (u * (c * x)) + 1/10 * (u * h)) := by
    intro c C a x hc0 hc1 hx0 hxh ha0 hC hax hax2
    have k1 := (bd_self hc0).mul hax
    have k2 := hC.mul ((bd_self ha0).mono hax2)
    have k3 := k1.add k2
    rw [show c * (a - x) + (C - c) * a = C * a - c * x by grind] at k3
    refine k3.mono ?_
    have f1 : e * c ≤ e * (101/100) := rmul_mono he hc1
    have f2 : e * x ≤ e * (101/100 * h) := rmul_mono he hxh
    have f3 : u * (e * c) ≤ 1/1000 * (e * c) := Rat.mul_le_mul_of_nonneg_right (by grind) (rmul_nn he hc0)
    have f4 : 0 ≤ u * (c * x) := rmul_nn hu0 (rmul_nn hc0 hx0)
    grind
  have k1 := key c C a x hc0 hc1 hx0 hxh ha0 hC ax1 ax2
  have k2 := key d D b y hd0 hd1 hy0 hyh hb0 hD by1 by2
  have k3 := (k1.add k2).add hV
  rw [show C * a - c * x + (D * b - d * y) + (c * x + d * y - h) = -(h - (C * a + D * b)) by grind] at k3
  have k4 := k3.neg
  rw [show - -(h - (C * a + D * b)) = h - (C * a + D * b) by grind] at k4
  refine k4.mono ?_
  have huh : u * h ≤ 1/1000000 * h := Rat.mul_le_mul_of_nonneg_right (by grind) hh0
  have hVu : u * (c * x + d * y) ≤ u * (10001/10000 * h) := rmul_mono hu0 (by unfold Bd at hV; grind)
  grind
theorem ofn5a {u e W N x y h a b : Rat} (hu0 : 0 ≤ u) (hu2 : u * 1000000000000000 ≤ 1) (he : 0 ≤ e) (hk : e ≤ 1/1000 * (u * u)) (hkh : e ≤ 1/1000 * (u * u * h)) (hW : h * h = W) (hh0 : 0 ≤ h) (hN : x * x + y * y = N) (hNW : N ≤ 100001/100000 * W)
    (hx0 : 0 ≤ x) (hy0 : 0 ≤ y) (hxh : x ≤ 101/100 * h) (hyh : y ≤ 101/100 * h) (ha0 : 0 ≤ a) (ax2 : a ≤ 100001/100000 * x + 12/10 * e) (by2 : b ≤ 100001/100000 * y + 12/10 * e) :
    (u * a + e) * b + (u * b + e) * a + (151/100 * (u * (x * b)) + e * b * h) + (151/100 * (u * (y * a)) + e * a * h) ≤ 28/10 * (u * W) := by
  have uuh0 : u * u * h ≤ h * (1/1000000) := by
    have h1 : u * u ≤ 1/1000000 := by have : u * u ≤ (1/1000) * (1/1000) := rmul_le hu0 hu0 (by grind) (by grind); grind
    have := Rat.mul_le_mul_of_nonneg_right h1 hh0
    grind
  have ah : a ≤ 11/10 * h := by grind
  have bh : b ≤ 11/10 * h := by grind
  have hxy : 2 * (x * y) ≤ N := by have := rsq_nn (x - y); rw [← hN]; grind
  clear hN
  have xb : x * b ≤ x * (100001/100000 * y + 12/10 * e) := rmul_mono hx0 by2
  have ya : y * a ≤ y * (100001/100000 * x + 12/10 * e) := rmul_mono hy0 ax2
  have ab : a * b ≤ a * (100001/100000 * y + 12/10 * e) := rmul_mono ha0 by2
  have ex : e * x ≤ e * (101/100 * h) := rmul_mono he hxh
  have ey : e * y ≤ e * (101/100 * h) := rmul_mono he hyh
  have ea : e * a ≤ e * (11/10 * h) := rmul_mono he ah
  have eb : e * b ≤ e * (11/10 * h) := rmul_mono he bh
  have hW0 : 0 ≤ W := by rw [← hW]; exact rsq_nn h
  have eh : e * h ≤ 1/1000 * (u * u * W) := by
    rw [show 1/1000 * (u * u * W) = 1/1000 * (u * u * h) * h by rw [← hW]; grind]
    exact Rat.mul_le_mul_of_nonneg_right hkh hh0
  have ehh : e * W ≤ 1/1000 * (u * u) * W := Rat.mul_le_mul_of_nonneg_right hk hW0
  have eah : e * a * h ≤ e * (11/10 * h) * h := Rat.mul_le_mul_of_nonneg_right ea hh0
  have ebh : e * b * h ≤ e * (11/10 * h) * h := Rat.mul_le_mul_of_nonneg_right eb hh0
  rw [show e * (11/10 * h) * h = 11/10 * (e * W) by rw [← hW]; grind] at eah ebh
  clear hW hkh hk
  have eh0 := rmul_nn he hh0
  rw [show x * (100001/100000 * y + 12/10 * e) = 100001/100000 * (x * y) + 12/10 * (e * x) by grind] at xb
  rw [show y * (100001/100000 * x + 12/10 * e) = 100001/100000 * (x * y) + 12/10 * (e * y) by grind] at ya
  rw [show a * (100001/100000 * y + 12/10 * e) = 100001/100000 * (y * a) + 12/10 * (e * a) by grind] at ab
  rw [show e * (101/100 * h) = 101/100 * (e * h) by grind] at ex ey
  rw [show e * (11/10 * h) = 11/10 * (e * h) by grind] at ea eb
  have hxy0 : 0 ≤ x * y := rmul_nn hx0 hy0
  have xb2 : x * b ≤ 100001/100000 * (x * y) + 13/10 * (e * h) := by
    clear ya ab eh ehh eah ebh hNW uuh0 ah bh ax2 by2 hxy
    generalize x * b = t1 at *
    generalize x * y = t2 at *
    generalize e * h = t3 at *
    generalize e * x = t4 at *
    grind
  have ya2 : y * a ≤ 100001/100000 * (x * y) + 13/10 * (e * h) := by
    clear xb ab eh ehh eah ebh hNW uuh0 ah bh ax2 by2 hxy
    generalize y * a = t1 at *
    generalize x * y = t2 at *
    generalize e * h = t3 at *
    generalize e * y = t4 at *
    grind
  have ab2 : a * b ≤ 100003/100000 * (x * y) + 3 * (e * h) := by
    clear xb eh ehh eah ebh hNW uuh0 ah bh ax2 by2 hxy
    generalize a * b = t1 at *
    generalize y * a = t5 at *
    generalize x * y = t2 at *
    generalize e * h = t3 at *
    generalize e * a = t4 at *
    grind
  clear xb ya ab
  have u1 := rmul_mono hu0 ab2
  have u2 := rmul_mono hu0 xb2
  have u3 := rmul_mono hu0 ya2
  have uxy : u * (x * y) ≤ u * (1000011/2000000 * W) := rmul_mono hu0 (by grind)
  have uuW : u * u * W ≤ 1/1000000 * (u * W) := by
    have : u * (u * W) ≤ 1/1000000 * (u * W) := Rat.mul_le_mul_of_nonneg_right (by grind) (rmul_nn hu0 hW0)
    grind
  have ueh : u * (e * h) ≤ 1 * (e * h) := Rat.mul_le_mul_of_nonneg_right (by grind) (rmul_nn he hh0)
  clear ab2 xb2 ya2 hxy hNW
  rw [show (u * a + e) * b + (u * b + e) * a = 2 * (u * (a * b)) + e * b + e * a by grind]
  generalize u * (a * b) = t1 at *
  generalize u * (x * b) = t2 at *
  generalize u * (y * a) = t3 at *
  generalize e * b * h = t4 at *
  generalize e * a * h = t5 at *
  generalize e * a = t6 at *
  generalize e * b = t7 at *
  generalize e * W = t8 at *
  grind
/-- cosine and sine, crosswise -/
theorem ofn5 {u e W N x y h c d C D a b : Rat} (hu : 0 < u) (hu2 : u * 1000000000000000 ≤ 1) (he : 0 ≤ e) (hk : e ≤ 1/1000 * (u * u)) (hkh : e ≤ 1/1000 * (u * u * h)) (hW : h * h = W) (hh : 0 < h) (hN : x * x + y * y = N) (hNW : N ≤ 100001/100000 * W)
    (hc : c * h = x) (hd : d * h = y) (hC : Bd (C - c) (151/100 * (u * c) + e)) (hD : Bd (D - d) (151/100 * (u * d) + e)) (hc0 : 0 ≤ c) (hd0 : 0 ≤ d) (hc1 : c ≤ 101/100) (hd1 : d ≤ 101/100)
    (ha0 : 0 ≤ a) (hb0 : 0 ≤ b) (hx : Bd (x - a) (u * a + e)) (hy : Bd (y - b) (u * b + e)) : Bd (C * b - D * a) (28/10 * (u * h)) := by
  have hu0 := Rat.le_of_lt hu
  have hh0 := Rat.le_of_lt hh
  obtain ⟨_, ax2, _⟩ := ofn_ax hu hu2 he ha0 hx
  obtain ⟨_, by2, _⟩ := ofn_ax hu hu2 he hb0 hy
  have hx0 : 0 ≤ x := by rw [← hc]; exact rmul_nn hc0 hh0
  have hy0 : 0 ≤ y := by rw [← hd]; exact rmul_nn hd0 hh0
  have hxh : x ≤ 101/100 * h := by rw [← hc]; exact Rat.mul_le_mul_of_nonneg_right hc1 hh0
  have hyh : y ≤ 101/100 * h := by rw [← hd]; exact Rat.mul_le_mul_of_nonneg_right hd1 hh0
  have tot := ofn5a hu0 hu2 he hk hkh hW hh0 hN hNW hx0 hy0 hxh hyh ha0 ax2 by2
  -- h times it
  have p1 := hx.mul (bd_self hb0)
  have p2' := hy.mul (bd_self ha0)
  have p3 := hC.mul ((bd_self (rmul_nn hb0 hh0)))
  have p4 := hD.mul ((bd_self (rmul_nn ha0 hh0)))
  have q := ((p1.sub p2').add p3).sub p4
  rw [show (x - a) * b - (y - b) * a + (C - c) * (b * h) - (D - d) * (a * h) = (C * b - D * a) * h by rw [← hc, ← hd]; grind] at q
  rw [show (151/100 * (u * c) + e) * (b * h) = 151/100 * (u * (x * b)) + e * b * h by rw [← hc]; grind] at q
  rw [show (151/100 * (u * d) + e) * (a * h) = 151/100 * (u * (y * a)) + e * a * h by rw [← hd]; grind] at q
  have q2 := q.mono tot
  rw [show 28/10 * (u * W) = (28/10 * (u * h)) * h by rw [← hW]; grind] at q2
  clear p1 p2' p3 p4 q tot hC hD hx hy hc hd hN hNW hk hkh hW
  unfold Bd at q2 ⊢
  constructor
  · refine Rat.le_of_mul_le_mul_right (c := h) ?_ hh; grind
  · exact Rat.le_of_mul_le_mul_right (c := h) q2.2 hh
/-- the root's size -/
theorem ofn6 {u e W N x y h a b : Rat} (hu : 0 < u) (hu2 : u * 1000000000000000 ≤ 1) (he : 0 ≤ e) (hkh : e ≤ 1/1000 * (u * u * h)) (hW : h * h = W) (hh : 0 < h) (hN : x * x + y * y = N) (hWN : W ≤ 100001/100000 * N) (hNW : N ≤ 100001/100000 * W)
    (hx0 : 0 ≤ x) (hy0 : 0 ≤ y) (ha0 : 0 ≤ a) (hb0 : 0 ≤ b) (hx : Bd (x - a) (u * a + e)) (hy : Bd (y - b) (u * b + e)) : h * h ≤ 1001/1000 * (a * a + b * b) := by
  have hu0 := Rat.le_of_lt hu
  have hh0 := Rat.le_of_lt hh
  obtain ⟨_, ax2, ax3⟩ := ofn_ax hu hu2 he ha0 hx
  obtain ⟨_, by2, by3⟩ := ofn_ax hu hu2 he hb0 hy
  have uu1 : u * u ≤ 1/1000000 := by have : u * u ≤ (1/1000) * (1/1000) := rmul_le hu0 hu0 (by grind) (by grind); grind
  have eh : e ≤ 1/1000000000 * h := by have := Rat.mul_le_mul_of_nonneg_right uu1 hh0; grind
  have hxx : x * x ≤ (11/10 * h) * (11/10 * h) := by have := rsq_nn y; have := rsq_nn h; grind
  have hyy : y * y ≤ (11/10 * h) * (11/10 * h) := by have := rsq_nn x; have := rsq_nn h; grind
  have hxh : x ≤ 11/10 * h := (bd_of_sq (by grind) hxx).2
  have hyh : y ≤ 11/10 * h := (bd_of_sq (by grind) hyy).2
  have key : ∀ (a x : Rat), 0 ≤ a → 0 ≤ x → x ≤ 11/10 * h → x ≤ 100001/100000 * a + e → x * x ≤ 1001/1000 * (1 - 1/2000) * (a * a) + 1/1000000 * W := by
    intro a x ha0 hx0 hxh hx3
    have h1 := rmul_le hx0 hx0 hx3 hx3
    by_cases c : a ≤ 12/10 * h
    · have h2 : e * a ≤ 1/1000000000 * h * (12/10 * h) := rmul_le he ha0 eh c
      have h3 : e * e ≤ 1/1000000000 * h * (1/1000000000 * h) := rmul_le he he eh eh
      have := rsq_nn a
      rw [← hW]
      grind
    · have h4 : (12/10 * h) * (12/10 * h) ≤ a * a := rsq_le (by grind) (by grind)
      have h5 := rsq_le hx0 hxh
      rw [← hW]
      have := rsq_nn h
      grind
  have k1 := key a x ha0 hx0 hxh ax3
  have k2 := key b y hb0 hy0 hyh by3
  have := rsq_nn h
  rw [hW] at *
  grind
end Go.Proofs.YtmmligbkecilfaaGreatDoor.Lv
