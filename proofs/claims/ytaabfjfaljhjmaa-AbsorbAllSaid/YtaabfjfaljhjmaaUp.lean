/- What is no NaN and not below 0 stays so under squares, sums, roots and scaling. -/
import Derived.Test.YtaabfjfaljhjmaaFloat
namespace Go.Proofs.Ytaabfjfaljhjmaa.Lv
open Ieee

/-- no NaN, and no sign -/
def Up (x : Option Nat) : Prop := ∃ b, x = some b ∧ b ≤ 9218868437227405312
/-- a datum that is no NaN and has no sign -/
def DUp (d : Datum) : Prop := d.isNaN = false ∧ d.neg = false

theorem Up.nan {b : Nat} (h : b ≤ 9218868437227405312) : nan b = false := by unfold Lv.nan; simp; omega
theorem read_up {b : Nat} (h : b ≤ 9218868437227405312) : DUp (double.read b) := by
  by_cases hi : b = 9218868437227405312
  · have := read_inf b (by omega) (by omega)
    rw [this]
    exact ⟨rfl, by simp [Datum.neg]; omega⟩
  · obtain ⟨m, e, h1, _⟩ := read_fin b (by omega) (by omega)
    rw [h1]
    exact ⟨rfl, by simp [Datum.neg]; omega⟩
theorem write_up {d : Datum} (h : DUp d) : double.write d ≤ 9218868437227405312 := by
  obtain ⟨h1, h2⟩ := h
  cases d with
  | number s m e =>
    simp only [Datum.neg] at h2
    subst h2
    show double.nearest false m e ≤ _
    unfold Format.nearest
    split
    · simp [Format.word]
    · simp only [Format.word, Bool.false_eq_true, if_false]
      rw [ir]
      exact Nat.min_le_right _ _
  | infinity s =>
    simp only [Datum.neg] at h2
    subst h2
    simp only [Format.write, Format.word, ir, Bool.false_eq_true, if_false]
    exact Nat.le_refl _
  | nan s f => simp [Datum.isNaN] at h1

theorem sum_up {d e : Datum} (hd : DUp d) (he : DUp e) : ∃ x, d.sum e = some x ∧ DUp x := by
  obtain ⟨h1, h2⟩ := hd
  obtain ⟨h3, h4⟩ := he
  cases d with
  | nan s f => simp [Datum.isNaN] at h1
  | infinity s =>
    simp only [Datum.neg] at h2
    subst h2
    cases e with
    | nan s f => simp [Datum.isNaN] at h3
    | infinity t => simp only [Datum.neg] at h4; subst h4; exact ⟨_, rfl, rfl, rfl⟩
    | number t n j => exact ⟨_, rfl, rfl, rfl⟩
  | number s m i =>
    simp only [Datum.neg] at h2
    subst h2
    cases e with
    | nan s f => simp [Datum.isNaN] at h3
    | infinity t => simp only [Datum.neg] at h4; subst h4; exact ⟨_, rfl, rfl, rfl⟩
    | number t n j =>
      simp only [Datum.neg] at h4
      subst h4
      refine ⟨_, rfl, rfl, ?_⟩
      simp only [Datum.neg, signed, Bool.false_eq_true, if_false]
      split
      · rfl
      · have h5 : (0 : Int) ≤ ((m <<< (i - min i j).toNat : Nat) : Int) := Int.natCast_nonneg _
        have h6 : (0 : Int) ≤ ((n <<< (j - min i j).toNat : Nat) : Int) := Int.natCast_nonneg _
        exact decide_eq_false (by omega)

theorem square_up {d : Datum} (h : d.isNaN = false) : ∃ x, d.product d = some x ∧ DUp x := by
  cases d with
  | nan s f => simp [Datum.isNaN] at h
  | infinity s => exact ⟨_, rfl, rfl, by simp [Datum.neg]⟩
  | number s m e => exact ⟨_, rfl, rfl, by simp [Datum.neg]⟩

theorem scale_up {d : Datum} {m : Nat} {e : Int} (h : DUp d) (hm : m ≠ 0) : ∃ x, d.product (.number false m e) = some x ∧ DUp x := by
  obtain ⟨h1, h2⟩ := h
  cases d with
  | nan s f => simp [Datum.isNaN] at h1
  | infinity s =>
    simp only [Datum.neg] at h2
    subst h2
    exact ⟨_, by simp [Datum.product, hm]; rfl, rfl, rfl⟩
  | number s n i =>
    simp only [Datum.neg] at h2
    subst h2
    exact ⟨_, rfl, rfl, rfl⟩

theorem root_up {n : Nat} {d : Datum} (h : DUp d) : ∃ x, d.root n = some x ∧ DUp x := by
  obtain ⟨h1, h2⟩ := h
  cases d with
  | nan s f => simp [Datum.isNaN] at h1
  | infinity s =>
    simp only [Datum.neg] at h2
    subst h2
    exact ⟨_, rfl, rfl, rfl⟩
  | number s m i =>
    simp only [Datum.neg] at h2
    subst h2
    by_cases hm : m = 0
    · exact ⟨.number false m i, by simp only [Datum.root, if_pos hm], rfl, rfl⟩
    · exact ⟨_, by simp only [Datum.root, if_neg hm, Bool.false_eq_true, if_false]; rfl, rfl, rfl⟩

theorem Up.add {x y : Option Nat} (hx : Up x) (hy : Up y) : Up (fadd x y) := by
  obtain ⟨a, rfl, ha⟩ := hx
  obtain ⟨b, rfl, hb⟩ := hy
  obtain ⟨z, hz, hu⟩ := sum_up (read_up ha) (read_up hb)
  exact ⟨_, show double.add a b = _ by unfold Format.add; rw [hz]; rfl, write_up hu⟩
theorem Up.sqrt {x : Option Nat} (hx : Up x) : Up (fsqrt x) := by
  obtain ⟨a, rfl, ha⟩ := hx
  obtain ⟨z, hz, hu⟩ := root_up (n := double.fractionBits + 2) (read_up ha)
  exact ⟨_, show double.sqrt a = _ by unfold Format.sqrt; rw [hz]; rfl, write_up hu⟩
theorem Up.square {b : Nat} (h : Lv.nan b = false) : Up (fmul (some b) (some b)) := by
  obtain ⟨z, hz, hu⟩ := square_up (d := double.read b) (by rw [nan_read]; exact h)
  exact ⟨_, show double.mul b b = _ by unfold Format.mul; rw [hz]; rfl, write_up hu⟩
theorem read_normal {c : Nat} (h0 : 4503599627370496 ≤ c) (h1 : c < 9218868437227405312) : ∃ m e, double.read c = .number false m e ∧ m ≠ 0 := by
  have hs : (c / 9223372036854775808 % 2 == 1) = false := by
    have : c / 9223372036854775808 % 2 = 0 := by omega
    simp [this]
  have hr : c % 9223372036854775808 = c := by omega
  refine ⟨4503599627370496 + c % 4503599627370496, -1074 + ((c / 4503599627370496 - 1 : Nat) : Int), ?_, by omega⟩
  unfold Format.read
  simp only [sw, bn, ir, lp, hs, hr]
  rw [if_neg (by omega), if_pos h1]
theorem Up.scale {x : Option Nat} {c : Nat} (hx : Up x) (h0 : 4503599627370496 ≤ c) (h1 : c < 9218868437227405312) : Up (fmul x (some c)) := by
  obtain ⟨a, rfl, ha⟩ := hx
  obtain ⟨m, e, hr, hm⟩ := read_normal h0 h1
  obtain ⟨z, hz, hu⟩ := scale_up (e := e) (read_up ha) hm
  exact ⟨_, show double.mul a c = _ by unfold Format.mul; rw [hr, hz]; rfl, write_up hu⟩
/-- a number times a power of two is no NaN -/
theorem num_scale {b c : Nat} (hb : b % 9223372036854775808 < 9218868437227405312) (h64 : b < 18446744073709551616) (h0 : 4503599627370496 ≤ c) (h1 : c < 9218868437227405312) : ∃ r, fmul (some b) (some c) = some r ∧ Lv.nan r = false := by
  obtain ⟨m, e, hr, hm⟩ := read_normal h0 h1
  obtain ⟨n, i, hn, _⟩ := read_fin b hb h64
  have : double.mul b c = some (double.write (.number (decide (9223372036854775808 ≤ b) ^^ false) (n * m) (i + e))) := by
    unfold Format.mul
    rw [hr, hn]
    rfl
  exact ⟨_, this, nan_write _ rfl⟩
end Go.Proofs.Ytaabfjfaljhjmaa.Lv
