/- What is no NaN and not below 0 stays so under squares, sums, roots and scaling. Rounding to the nearest float: it keeps the order, leaves floats as they are, and is off by little. -/
import Derived.Test.YtmmligbkecilfaaGreatDoorFloat
namespace Go.Proofs.YtmmligbkecilfaaGreatDoor.Lv
open Ieee

/-- no NaN, and no sign -/
def Up (x : Option Nat) : Prop := ∃ b, x = some b ∧ b ≤ 9218868437227405312
/-- a datum that is no NaN and has no sign -/
def DUp (d : Datum) : Prop := d.isNaN = false ∧ d.neg = false

theorem Up.nan {b : Nat} (h : b ≤ 9218868437227405312) : nan b = false := by unfold Lv.nan; simp; omega
theorem read_up {b : Nat} (h : b ≤ 9218868437227405312) : DUp (double.read b) := by
  by_cases hi : b = 9218868437227405312
  · have := read_inf b (by omega) (by omega)
    rw [this]
    exact ⟨rfl, by simp [Datum.neg]; omega⟩
  · obtain ⟨m, e, h1, _⟩ := read_fin b (by omega) (by omega)
    rw [h1]
    exact ⟨rfl, by simp [Datum.neg]; omega⟩
theorem write_up {d : Datum} (h : DUp d) : double.write d ≤ 9218868437227405312 := by
  obtain ⟨h1, h2⟩ := h
  cases d with
  | number s m e =>
    simp only [Datum.neg] at h2
    subst h2
    show double.nearest false m e ≤ _
    unfold Format.nearest
    split
    · simp [Format.word]
    · simp only [Format.word, Bool.false_eq_true, if_false]
      rw [ir]
      exact Nat.min_le_right _ _
  | infinity s =>
    simp only [Datum.neg] at h2
    subst h2
    simp only [Format.write, Format.word, ir, Bool.false_eq_true, if_false]
    exact Nat.le_refl _
  | nan s f => simp [Datum.isNaN] at h1

theorem sum_up {d e : Datum} (hd : DUp d) (he : DUp e) : ∃ x, d.sum e = some x ∧ DUp x := by
  obtain ⟨h1, h2⟩ := hd
  obtain ⟨h3, h4⟩ := he
  cases d with
  | nan s f => simp [Datum.isNaN] at h1
  | infinity s =>
    simp only [Datum.neg] at h2
    subst h2
    cases e with
    | nan s f => simp [Datum.isNaN] at h3
    | infinity t => simp only [Datum.neg] at h4; subst h4; exact ⟨_, rfl, rfl, rfl⟩
    | number t n j => exact ⟨_, rfl, rfl, rfl⟩
  | number s m i =>
    simp only [Datum.neg] at h2
    subst h2
    cases e with
    | nan s f => simp [Datum.isNaN] at h3
    | infinity t => simp only [Datum.neg] at h4; subst h4; exact ⟨_, rfl, rfl, rfl⟩
    | number t n j =>
      simp only [Datum.neg] at h4
      subst h4
      refine ⟨_, rfl, rfl, ?_⟩
      simp only [Datum.neg, signed, Bool.false_eq_true, if_false]
      split
      · rfl
      · have h5 : (0 : Int) ≤ ((m <<< (i - min i j).toNat : Nat) : Int) := Int.natCast_nonneg _
        have h6 : (0 : Int) ≤ ((n <<< (j - min i j).toNat : Nat) : Int) := Int.natCast_nonneg _
        exact decide_eq_false (by omega)

theorem square_up {d : Datum} (h : d.isNaN = false) : ∃ x, d.product d = some x ∧ DUp x := by
  cases d with
  | nan s f => simp [Datum.isNaN] at h
  | infinity s => exact ⟨_, rfl, rfl, by simp [Datum.neg]⟩
  | number s m e => exact ⟨_, rfl, rfl, by simp [Datum.neg]⟩

theorem scale_up {d : Datum} {m : Nat} {e : Int} (h : DUp d) (hm : m ≠ 0) : ∃ x, d.product (.number false m e) = some x ∧ DUp x := by
  obtain ⟨h1, h2⟩ := h
  cases d with
  | nan s f => simp [Datum.isNaN] at h1
  | infinity s =>
    simp only [Datum.neg] at h2
    subst h2
    exact ⟨_, by simp [Datum.product, hm]; rfl, rfl, rfl⟩
  | number s n i =>
    simp only [Datum.neg] at h2
    subst h2
    exact ⟨_, rfl, rfl, rfl⟩

theorem root_up {n : Nat} {d : Datum} (h : DUp d) : ∃ x, d.root n = some x ∧ DUp x := by
  obtain ⟨h1, h2⟩ := h
  cases d with
  | nan s f => simp [Datum.isNaN] at h1
  | infinity s =>
    simp only [Datum.neg] at h2
    subst h2
    exact ⟨_, rfl, rfl, rfl⟩
  | number s m i =>
    simp only [Datum.neg] at h2
    subst h2
    by_cases hm : m = 0
    · exact ⟨.number false m i, by simp only [Datum.root, if_pos hm], rfl, rfl⟩
    · exact ⟨_, by simp only [Datum.root, if_neg hm, Bool.false_eq_true, if_false]; rfl, rfl, rfl⟩

theorem Up.add {x y : Option Nat} (hx : Up x) (hy : Up y) : Up (fadd x y) := by
  obtain ⟨a, rfl, ha⟩ := hx
  obtain ⟨b, rfl, hb⟩ := hy
  obtain ⟨z, hz, hu⟩ := sum_up (read_up ha) (read_up hb)
  exact ⟨_, show double.add a b = _ by unfold Format.add; rw [hz]; rfl, write_up hu⟩
theorem Up.sqrt {x : Option Nat} (hx : Up x) : Up (fsqrt x) := by
  obtain ⟨a, rfl, ha⟩ := hx
  obtain ⟨z, hz, hu⟩ := root_up (n := double.fractionBits + 2) (read_up ha)
  exact ⟨_, show double.sqrt a = _ by unfold Format.sqrt; rw [hz]; rfl, write_up hu⟩
theorem Up.square {b : Nat} (h : Lv.nan b = false) : Up (fmul (some b) (some b)) := by
  obtain ⟨z, hz, hu⟩ := square_up (d := double.read b) (by rw [nan_read]; exact h)
  exact ⟨_, show double.mul b b = _ by unfold Format.mul; rw [hz]; rfl, write_up hu⟩
theorem read_normal {c : Nat} (h0 : 4503599627370496 ≤ c) (h1 : c < 9218868437227405312) : ∃ m e, double.read c = .number false m e ∧ m ≠ 0 := by
  have hs : (c / 9223372036854775808 % 2 == 1) = false := by
    have : c / 9223372036854775808 % 2 = 0 := by omega
    simp [this]
  have hr : c % 9223372036854775808 = c := by omega
  refine ⟨4503599627370496 + c % 4503599627370496, -1074 + ((c / 4503599627370496 - 1 : Nat) : Int), ?_, by omega⟩
  unfold Format.read
  simp only [sw, bn, ir, lp, hs, hr]
  rw [if_neg (by omega), if_pos h1]
theorem Up.scale {x : Option Nat} {c : Nat} (hx : Up x) (h0 : 4503599627370496 ≤ c) (h1 : c < 9218868437227405312) : Up (fmul x (some c)) := by
  obtain ⟨a, rfl, ha⟩ := hx
  obtain ⟨m, e, hr, hm⟩ := read_normal h0 h1
  obtain ⟨z, hz, hu⟩ := scale_up (e := e) (read_up ha) hm
  exact ⟨_, show double.mul a c = _ by unfold Format.mul; rw [hr, hz]; rfl, write_up hu⟩
/-- a number times a power of two is no NaN -/
theorem num_scale {b c : Nat} (hb : b % 9223372036854775808 < 9218868437227405312) (h64 : b < 18446744073709551616) (h0 : 4503599627370496 ≤ c) (h1 : c < 9218868437227405312) : ∃ r, fmul (some b) (some c) = some r ∧ Lv.nan r = false := by
  obtain ⟨m, e, hr, hm⟩ := read_normal h0 h1
  obtain ⟨n, i, hn, _⟩ := read_fin b hb h64
  have : double.mul b c = some (double.write (.number (decide (9223372036854775808 ≤ b) ^^ false) (n * m) (i + e))) := by
    unfold Format.mul
    rw [hr, hn]
    rfl
  exact ⟨_, this, nan_write _ rfl⟩
end Go.Proofs.YtmmligbkecilfaaGreatDoor.Lv
namespace Go.Proofs.YtmmligbkecilfaaGreatDoor.Lv
open Ieee
/-- the rung that is nearest, infinity not looked at -/
def rho (m : Nat) (e : Int) : Nat :=
  let last := max (e + m.log2 - 52) (-1074)
  (last + 1074).toNat * 4503599627370496 + Toward.even.cut false (m <<< (e - last).toNat) (last - e).toNat

theorem cut_neg (s t : Bool) (n d : Nat) : Toward.even.cut s n d = Toward.even.cut t n d := rfl

theorem rho_form (m : Nat) (e : Int) (hm : m ≠ 0) : ∃ q k : Nat, rho m e = q * 4503599627370496 + k ∧ k ≤ 9007199254740992 ∧ (q = 0 ∨ 4503599627370496 ≤ k) ∧
    2 * (k * p2 (-1074 + (q : Int))) ≤ 2 * (m * p2 e) + p2 (-1074 + (q : Int)) ∧ 2 * (m * p2 e) ≤ 2 * (k * p2 (-1074 + (q : Int))) + p2 (-1074 + (q : Int)) ∧
    ((2 * (k * p2 (-1074 + (q : Int))) = 2 * (m * p2 e) + p2 (-1074 + (q : Int)) ∨ 2 * (m * p2 e) = 2 * (k * p2 (-1074 + (q : Int))) + p2 (-1074 + (q : Int))) → k % 2 = 0) ∧
    (1 ≤ q → (4503599627370496 : Rat) * p2 (-1074 + (q : Int)) ≤ m * p2 e) ∧ m * p2 e < (9007199254740992 : Rat) * p2 (-1074 + (q : Int)) := by
  have hl1 : m < 2 ^ (m.log2 + 1) := Nat.lt_log2_self
  have hl0 : 2 ^ m.log2 ≤ m := Nat.log2_self_le hm
  obtain ⟨last, hlast⟩ : ∃ last : Int, last = max (e + m.log2 - 52) (-1074) := ⟨_, rfl⟩
  have hge : -1074 ≤ last := by omega
  obtain ⟨q, hq⟩ : ∃ q : Nat, last = -1074 + (q : Int) := ⟨(last + 1074).toNat, by omega⟩
  have hrho : rho m e = q * 4503599627370496 + Toward.even.cut false (m <<< (e - last).toNat) (last - e).toNat := by
    unfold rho
    simp only [← hlast]
    congr 2
    omega
  obtain ⟨k, hk⟩ : ∃ k, k = Toward.even.cut false (m <<< (e - last).toNat) (last - e).toNat := ⟨_, rfl⟩
  rw [← hk] at hrho
  obtain ⟨d, hd⟩ : ∃ d, d = (last - e).toNat := ⟨_, rfl⟩
  obtain ⟨u, hu⟩ : ∃ u, u = (e - last).toNat := ⟨_, rfl⟩
  rw [← hd, ← hu] at hk
  have hcut := cut_even false (m <<< u) d
  rw [← hk] at hcut
  rw [Nat.shiftLeft_eq] at hcut
  -- the number of units
  have hx : (m : Rat) * p2 e * ((2 ^ d : Nat) : Rat) = ((m * 2 ^ u : Nat) : Rat) * p2 last := by
    rw [← p2_nat, Rat.natCast_mul, ← p2_nat]
    have h1 : p2 e * p2 (d : Int) = p2 (u : Int) * p2 last := by rw [← p2_add, ← p2_add]; congr 1; omega
    grind
  have hG : (0 : Rat) < ((2 ^ d : Nat) : Rat) := by
    have := Nat.two_pow_pos d
    exact_mod_cast this
  have hP := p2_pos last
  obtain ⟨c1, c2, c3⟩ := hcut
  have r1 : 2 * ((k : Rat) * ((2 ^ d : Nat) : Rat)) ≤ 2 * ((m * 2 ^ u : Nat) : Rat) + ((2 ^ d : Nat) : Rat) := by exact_mod_cast c1
  have r2 : 2 * ((m * 2 ^ u : Nat) : Rat) ≤ 2 * ((k : Rat) * ((2 ^ d : Nat) : Rat)) + ((2 ^ d : Nat) : Rat) := by exact_mod_cast c2
  have key1 : 2 * ((k : Rat) * p2 last) ≤ 2 * ((m : Rat) * p2 e) + p2 last := by
    have := Rat.mul_le_mul_of_nonneg_right r1 (Rat.le_of_lt hP)
    have h3 : (2 * ((k : Rat) * p2 last)) * ((2 ^ d : Nat) : Rat) ≤ (2 * ((m : Rat) * p2 e) + p2 last) * ((2 ^ d : Nat) : Rat) := by grind
    exact Rat.le_of_mul_le_mul_right h3 hG
  have key2 : 2 * ((m : Rat) * p2 e) ≤ 2 * ((k : Rat) * p2 last) + p2 last := by
    have := Rat.mul_le_mul_of_nonneg_right r2 (Rat.le_of_lt hP)
    have h3 : (2 * ((m : Rat) * p2 e)) * ((2 ^ d : Nat) : Rat) ≤ (2 * ((k : Rat) * p2 last) + p2 last) * ((2 ^ d : Nat) : Rat) := by grind
    exact Rat.le_of_mul_le_mul_right h3 hG
  have key3 : (2 * ((k : Rat) * p2 last) = 2 * ((m : Rat) * p2 e) + p2 last ∨ 2 * ((m : Rat) * p2 e) = 2 * ((k : Rat) * p2 last) + p2 last) → k % 2 = 0 := by
    intro h
    apply c3
    rcases h with h | h
    · left
      have h4 : (2 * ((k : Rat) * ((2 ^ d : Nat) : Rat))) * p2 last = (2 * ((m * 2 ^ u : Nat) : Rat) + ((2 ^ d : Nat) : Rat)) * p2 last := by grind
      have h5 : 2 * ((k : Rat) * ((2 ^ d : Nat) : Rat)) = 2 * ((m * 2 ^ u : Nat) : Rat) + ((2 ^ d : Nat) : Rat) := rmul_cancel h4 hP
      exact_mod_cast h5
    · right
      have h4 : (2 * ((m * 2 ^ u : Nat) : Rat)) * p2 last = (2 * ((k : Rat) * ((2 ^ d : Nat) : Rat)) + ((2 ^ d : Nat) : Rat)) * p2 last := by grind
      have h5 : 2 * ((m * 2 ^ u : Nat) : Rat) = 2 * ((k : Rat) * ((2 ^ d : Nat) : Rat)) + ((2 ^ d : Nat) : Rat) := rmul_cancel h4 hP
      exact_mod_cast h5
  have hlow : 1 ≤ q → (4503599627370496 : Rat) * p2 last ≤ (m : Rat) * p2 e := by
    intro hq1
    have el : last = e + m.log2 - 52 := by omega
    have e1 : (4503599627370496 : Rat) * p2 last = p2 (m.log2 : Int) * p2 e := by
      have : (4503599627370496 : Rat) = p2 ((52 : Nat) : Int) := by rw [p2_nat, show (2 : Nat) ^ 52 = 4503599627370496 from by decide]; norm_cast
      rw [this, ← p2_add, ← p2_add]; congr 1; omega
    rw [e1, p2_nat]
    have : ((2 ^ m.log2 : Nat) : Rat) ≤ (m : Rat) := by exact_mod_cast hl0
    exact Rat.mul_le_mul_of_nonneg_right this (Rat.le_of_lt (p2_pos e))
  have hhigh : (m : Rat) * p2 e < (9007199254740992 : Rat) * p2 last := by
    have h1 : (m : Rat) < ((2 ^ (m.log2 + 1) : Nat) : Rat) := by exact_mod_cast hl1
    rw [← p2_nat] at h1
    have h2 := Rat.mul_lt_mul_of_pos_right h1 (p2_pos e)
    rw [← p2_add] at h2
    have h3 : p2 (((m.log2 + 1 : Nat) : Int) + e) ≤ p2 (((53 : Nat) : Int) + last) := p2_le (by omega)
    rw [p2_add ((53 : Nat) : Int) last, p2_nat 53] at h3
    have : ((2 ^ 53 : Nat) : Rat) = (9007199254740992 : Rat) := by rw [show (2 : Nat) ^ 53 = 9007199254740992 from by decide]; norm_cast
    rw [this] at h3
    grind
  have hk2 : k ≤ 9007199254740992 := by
    have h6 : (2 * (k : Rat)) * p2 last < (2 * 9007199254740992 + 1) * p2 last := by grind
    have h7 : (2 * (k : Rat)) < (2 * 9007199254740992 + 1) := Rat.lt_of_mul_lt_mul_right h6 (Rat.le_of_lt hP)
    have h8 : 2 * k < 2 * 9007199254740992 + 1 := by exact_mod_cast h7
    omega
  have hk1 : q = 0 ∨ 4503599627370496 ≤ k := by
    by_cases hq0 : q = 0
    · exact .inl hq0
    · right
      have := hlow (by omega)
      have h6 : (2 * 4503599627370496 : Rat) * p2 last ≤ (2 * (k : Rat) + 1) * p2 last := by grind
      have h7 : (2 * 4503599627370496 : Rat) ≤ (2 * (k : Rat) + 1) := Rat.le_of_mul_le_mul_right h6 hP
      have h8 : 2 * 4503599627370496 ≤ 2 * k + 1 := by exact_mod_cast h7
      omega
  exact ⟨q, k, hrho, hk2, hk1, by rw [← hq]; exact key1, by rw [← hq]; exact key2, by rw [← hq]; exact key3, by rw [← hq]; exact hlow, by rw [← hq]; exact hhigh⟩

theorem la1 {y P x : Rat} (h : 2 * x ≤ 2 * y + P) : 2 * x ≤ y + (y + P) := by grind
theorem la2 {y P x : Rat} (h : 2 * x = y + (y + P)) : 2 * x = 2 * y + P := by grind
theorem la3 {y z x : Rat} (h : x < y) (k : y < z) : 2 * x < y + z := by grind
theorem la4 {y z x : Rat} (h : y ≤ x) (k : z < y) : z + y < 2 * x := by grind
theorem la5 {y P x : Rat} (h : 2 * (y + P) ≤ 2 * x + P) : y + (y + P) ≤ 2 * x := by grind
theorem la6 {y P x : Rat} (h : 2 * x = y + (y + P)) : 2 * (y + P) = 2 * x + P := by grind
theorem rlt_of_le_of_lt {a b c : Rat} (h : a ≤ b) (k : b < c) : a < c := by grind
theorem rlt_of_lt_of_le {a b c : Rat} (h : a < b) (k : b ≤ c) : a < c := by grind
theorem rle_trans {a b c : Rat} (h : a ≤ b) (k : b ≤ c) : a ≤ c := by grind

theorem rho_upper (m : Nat) (e : Int) (hm : m ≠ 0) : 2 * ((m : Rat) * p2 e) ≤ rv (rho m e) + rv (rho m e + 1) ∧ (2 * ((m : Rat) * p2 e) = rv (rho m e) + rv (rho m e + 1) → rho m e % 2 = 0) := by
  obtain ⟨q, k, hr, hk2, hk1, key1, key2, key3, hlow, hhigh⟩ := rho_form m e hm
  rw [hr]
  by_cases hk : k < 9007199254740992
  · rw [rv_succ q k hk hk1, rv_mk q k hk2 hk1]
    refine ⟨la1 key2, fun h => ?_⟩
    have := key3 (.inr (la2 h))
    omega
  · obtain rfl : k = 9007199254740992 := by omega
    have e1 : rv (q * 4503599627370496 + 9007199254740992) < rv (q * 4503599627370496 + 9007199254740992 + 1) := rv_lt_succ _
    rw [rv_mk q _ hk2 hk1] at e1 ⊢
    have e2 : ((9007199254740992 : Nat) : Rat) = 9007199254740992 := by norm_cast
    rw [← e2] at hhigh
    have e3 := la3 hhigh e1
    refine ⟨Rat.le_of_lt e3, fun h => ?_⟩
    rw [h] at e3
    exact absurd e3 Rat.lt_irrefl

theorem rho_lower (m : Nat) (e : Int) (hm : m ≠ 0) (h0 : 0 < rho m e) : rv (rho m e - 1) + rv (rho m e) ≤ 2 * ((m : Rat) * p2 e) ∧ (2 * ((m : Rat) * p2 e) = rv (rho m e - 1) + rv (rho m e) → rho m e % 2 = 0) := by
  obtain ⟨q, k, hr, hk2, hk1, key1, key2, key3, hlow, hhigh⟩ := rho_form m e hm
  rw [hr] at h0 ⊢
  by_cases hk : 1 ≤ q ∧ k = 4503599627370496
  · obtain ⟨hq, rfl⟩ := hk
    have e1 := rv_lt_succ (q * 4503599627370496 + 4503599627370496 - 1)
    rw [show q * 4503599627370496 + 4503599627370496 - 1 + 1 = q * 4503599627370496 + 4503599627370496 from by omega] at e1
    rw [rv_mk q _ hk2 hk1] at e1 ⊢
    have hl := hlow hq
    have e2 : ((4503599627370496 : Nat) : Rat) = 4503599627370496 := by norm_cast
    rw [← e2] at hl
    have e3 := la4 hl e1
    refine ⟨Rat.le_of_lt e3, fun h => ?_⟩
    rw [h] at e3
    exact absurd e3 Rat.lt_irrefl
  · have hk0 : 1 ≤ k := by omega
    obtain ⟨j, rfl⟩ : ∃ j, k = j + 1 := ⟨k - 1, by omega⟩
    have hj : q = 0 ∨ 4503599627370496 ≤ j := by omega
    have e1 := rv_succ q j (by omega) hj
    rw [show q * 4503599627370496 + j + 1 = q * 4503599627370496 + (j + 1) from by omega] at e1
    rw [show q * 4503599627370496 + (j + 1) - 1 = q * 4503599627370496 + j from by omega]
    rw [e1]
    have e2 := rv_mk q (j + 1) hk2 hk1
    rw [e1] at e2
    rw [← e2] at key1 key3
    refine ⟨la5 key1, fun h => ?_⟩
    have := key3 (.inl (la6 h))
    omega

theorem lb1 {x y a b c d : Rat} (h : x ≤ y) (u : 2 * y ≤ a + b) (l : c + d ≤ 2 * x) (s : a ≤ c) (t : b ≤ d) : a = c ∧ b = d ∧ 2 * y = a + b ∧ 2 * x = c + d := by grind

/-- rounding keeps the order -/
theorem rho_mono {m n : Nat} {e f : Int} (hm : m ≠ 0) (hn : n ≠ 0) (h : (m : Rat) * p2 e ≤ (n : Rat) * p2 f) : rho m e ≤ rho n f := by
  by_cases hc : rho m e ≤ rho n f
  · exact hc
  · exfalso
    obtain ⟨u1, u2⟩ := rho_upper n f hn
    obtain ⟨l1, l2⟩ := rho_lower m e hm (by omega)
    have s1 : rv (rho n f) ≤ rv (rho m e - 1) := rv_le (by omega)
    have s2 : rv (rho n f + 1) ≤ rv (rho m e) := rv_le (by omega)
    obtain ⟨t1, t2, t3, t4⟩ := lb1 h u1 l1 s1 s2
    have v1 := u2 t3
    have v2 := l2 t4
    have w2 := rv_inj t2
    omega

theorem rho_congr {m n : Nat} {e f : Int} (hm : m ≠ 0) (hn : n ≠ 0) (h : (m : Rat) * p2 e = (n : Rat) * p2 f) : rho m e = rho n f :=
  Nat.le_antisymm (rho_mono hm hn (by rw [h]; exact Rat.le_refl)) (rho_mono hn hm (by rw [h]; exact Rat.le_refl))

theorem lb2 {x a b r : Rat} (h : x ≤ r) (l : a + b ≤ 2 * x) (s : r ≤ a) (t : r < b) : False := by grind
theorem lb3 {x a b r : Rat} (h : r ≤ x) (l : 2 * x ≤ a + b) (s : a < r) (t : b ≤ r) : False := by grind

theorem rho_le {m : Nat} {e : Int} (hm : m ≠ 0) {r : Nat} (h : (m : Rat) * p2 e ≤ rv r) : rho m e ≤ r := by
  by_cases hc : rho m e ≤ r
  · exact hc
  · exact (lb2 h (rho_lower m e hm (by omega)).1 (rv_le (by omega)) (rv_lt (by omega))).elim
theorem le_rho {m : Nat} {e : Int} (hm : m ≠ 0) {r : Nat} (h : rv r ≤ (m : Rat) * p2 e) : r ≤ rho m e := by
  by_cases hc : r ≤ rho m e
  · exact hc
  · exact (lb3 h (rho_upper m e hm).1 (rv_lt (by omega)) (rv_le (by omega))).elim

/-- what is a rung's is that rung -/
theorem rho_exact {m : Nat} {e : Int} (hm : m ≠ 0) {r : Nat} (h : (m : Rat) * p2 e = rv r) : rho m e = r :=
  Nat.le_antisymm (rho_le hm (by rw [h]; exact Rat.le_refl)) (le_rho hm (by rw [h]; exact Rat.le_refl))

theorem lc1 {x y P u w : Rat} (hp : 0 < u) (e53 : u * 9007199254740992 = 1) (hl : 4503599627370496 * P ≤ x) (h1 : 2 * w ≤ 2 * x + P) (h2 : 2 * x ≤ 2 * w + P) (hpos : 0 < y) :
    w ≤ x + x * u + y ∧ x ≤ w + x * u + y := by
  have h3 : (4503599627370496 * P) * u ≤ x * u := Rat.mul_le_mul_of_nonneg_right hl (Rat.le_of_lt hp)
  have h4 : 2 * ((4503599627370496 * P) * u) = P := by grind
  generalize x * u = z at *
  generalize (4503599627370496 * P) * u = t at *
  constructor <;> grind
theorem lc2 {x y P u w : Rat} (hp : 0 < u) (hx : 0 ≤ x) (hP : y * 2 = P) (h1 : 2 * w ≤ 2 * x + P) (h2 : 2 * x ≤ 2 * w + P) :
    w ≤ x + x * u + y ∧ x ≤ w + x * u + y := by
  have h4 : 0 ≤ x * u := Rat.mul_nonneg hx (Rat.le_of_lt hp)
  generalize x * u = z at *
  constructor <;> grind

/-- how far off the nearest is: u of the number, and half of the least step -/
theorem rho_err (m : Nat) (e : Int) (hm : m ≠ 0) : rv (rho m e) ≤ (m : Rat) * p2 e + (m : Rat) * p2 e * p2 (-53) + p2 (-1075) ∧ (m : Rat) * p2 e ≤ rv (rho m e) + (m : Rat) * p2 e * p2 (-53) + p2 (-1075) := by
  obtain ⟨q, k, hr, hk2, hk1, key1, key2, key3, hlow, hhigh⟩ := rho_form m e hm
  rw [hr, rv_mk q k hk2 hk1]
  have hx : 0 ≤ (m : Rat) * p2 e := Rat.mul_nonneg (by exact_mod_cast Nat.zero_le m) (Rat.le_of_lt (p2_pos e))
  have h53 := p2_pos (-53)
  have e53 : p2 (-53) * 9007199254740992 = 1 := by
    have := p2_neg ((53 : Nat) : Int)
    rw [p2_nat, show (2 : Nat) ^ 53 = 9007199254740992 from by decide] at this
    exact_mod_cast this
  have h1075 : p2 (-1075) * 2 = p2 (-1074) := by have := p2_succ (-1075); rw [show (-1075 : Int) + 1 = -1074 from rfl] at this; rw [this, Rat.mul_comm]
  by_cases hq : 1 ≤ q
  · exact lc1 h53 e53 (hlow hq) key1 key2 (p2_pos _)
  · obtain rfl : q = 0 := by omega
    rw [show (-1074 + ((0 : Nat) : Int)) = -1074 from rfl] at *
    exact lc2 h53 hx h1075 key1 key2

theorem fbits : double.fractionBits = 52 := by decide +kernel
/-- the nearest word, by its rung -/
theorem nearest_rho (s : Bool) (m : Nat) (e : Int) (hm : m ≠ 0) : double.nearest s m e = double.word s (min (rho m e) 9218868437227405312) := by
  unfold Format.nearest
  rw [if_neg hm]
  simp only [ir, bn, lp, fbits]
  congr 2
theorem nearest_zero (s : Bool) (e : Int) : double.nearest s 0 e = double.word s 0 := by
  unfold Format.nearest; rw [if_pos rfl]
theorem word_false (r : Nat) : double.word false r = r := rfl
theorem word_true (r : Nat) : double.word true r = 9223372036854775808 + r := by unfold Format.word; rw [sw]; rfl

/-- once a number is as it was -/
theorem mul_one {y : Nat} (h0 : y ≠ 0) (hy : y < 9218868437227405312) : double.mul 4607182418800017408 y = some y := by
  obtain ⟨m, e, h1, h2⟩ := read_fin y (by omega) (by omega)
  have r1 : double.read 4607182418800017408 = .number false 4503599627370496 (-52) := by decide +kernel
  have hs : decide (9223372036854775808 ≤ y) = false := by simp; omega
  rw [Nat.mod_eq_of_lt (by omega)] at h2
  have hm : m ≠ 0 := by
    intro c
    subst c
    have : rv 0 < rv y := rv_lt (by omega)
    rw [rv_zero, ← h2] at this
    have z : ((0 : Nat) : Rat) * p2 e = 0 := by rw [show ((0 : Nat) : Rat) = 0 from rfl, Rat.zero_mul]
    rw [z] at this
    exact absurd this Rat.lt_irrefl
  unfold Format.mul
  rw [r1, h1, hs]
  simp only [Datum.product, Option.map_some, Format.write, bne_self_eq_false]
  rw [nearest_rho _ _ _ (Nat.mul_ne_zero (by decide) hm)]
  have : rho (4503599627370496 * m) (-52 + e) = y := by
    apply rho_exact (Nat.mul_ne_zero (by decide) hm)
    rw [← h2, p2_add, Rat.natCast_mul]
    have e52 : p2 (-52) * ((4503599627370496 : Nat) : Rat) = 1 := by
      have := p2_neg ((52 : Nat) : Int)
      rw [p2_nat, show (2 : Nat) ^ 52 = 4503599627370496 from by decide] at this
      exact this
    grind
  rw [this, word_false]
  congr 1
  omega

end Go.Proofs.YtmmligbkecilfaaGreatDoor.Lv
