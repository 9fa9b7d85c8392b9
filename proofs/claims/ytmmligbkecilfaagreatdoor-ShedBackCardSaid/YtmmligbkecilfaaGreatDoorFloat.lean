/- Floats as words: what is no NaN keeps its bits, of a NaN nothing but that it is one; their order is that of their places. -/
import Derived.Laws.FloatBits
namespace Go.Proofs.YtmmligbkecilfaaGreatDoor.Lv
open Ieee

theorem sw : double.signWeight = 9223372036854775808 := by decide +kernel
theorem bn : double.binade = 4503599627370496 := by decide +kernel
theorem ir : double.infRung = 9218868437227405312 := by decide +kernel
theorem lp : double.leastPlace = -1074 := by decide +kernel

def nan (b : Nat) : Bool := decide (9218868437227405312 < b % 9223372036854775808)

theorem nan_read (b : Nat) : (double.read b).isNaN = nan b := by
  unfold Format.read nan
  simp only [sw, bn, ir]
  split
  · simp [Datum.isNaN]; omega
  · split
    · simp [Datum.isNaN]; omega
    · split
      · simp [Datum.isNaN]; omega
      · simp [Datum.isNaN]; omega

theorem word_mod (neg : Bool) (r : Nat) (h : r < 9223372036854775808) : double.word neg r % 9223372036854775808 = r := by
  unfold Format.word
  rw [sw]
  split <;> omega

theorem nan_nearest (neg : Bool) (m : Nat) (e : Int) : nan (double.nearest neg m e) = false := by
  unfold Format.nearest
  split
  · simp [nan, word_mod]
  · simp only []
    have : min ((max (e + ↑m.log2 - ↑double.fractionBits) double.leastPlace - double.leastPlace).toNat * double.binade +
        Toward.even.cut neg (m <<< (e - max (e + ↑m.log2 - ↑double.fractionBits) double.leastPlace).toNat)
          (max (e + ↑m.log2 - ↑double.fractionBits) double.leastPlace - e).toNat) double.infRung ≤ 9218868437227405312 := by
      rw [ir]; exact Nat.min_le_right _ _
    unfold nan
    rw [word_mod _ _ (by omega)]
    simp; omega

theorem nan_write (d : Datum) (h : d.isNaN = false) : nan (double.write d) = false := by
  cases d with
  | number s m e => exact nan_nearest _ _ _
  | infinity s => simp only [Format.write, nan, ir]; rw [word_mod _ _ (by omega)]; decide
  | nan s f => simp [Datum.isNaN] at h

/-- the abstraction: which NaN it is, is of no moment -/
def ab (b : Nat) : Option Nat := if nan b then none else some b

theorem ab_nan {b : Nat} (h : nan b = true) : ab b = none := by simp [ab, h]
theorem ab_num {b : Nat} (h : nan b = false) : ab b = some b := by simp [ab, h]
theorem ab_some {b c : Nat} (h : ab b = some c) : c = b ∧ nan b = false := by
  unfold ab at h
  split at h
  · cases h
  · rename_i hn; cases h; exact ⟨rfl, by simpa using hn⟩
theorem ab_none {b : Nat} (h : ab b = none) : nan b = true := by
  unfold ab at h
  split at h
  · assumption
  · cases h

def f2 (op : Nat → Nat → Option Nat) (x y : Option Nat) : Option Nat := x.bind fun a => y.bind fun b => op a b
def fadd := f2 double.add
def fsub := f2 double.sub
def fmul := f2 double.mul
def fdiv := f2 double.div
def fsqrt (x : Option Nat) : Option Nat := x.bind double.sqrt
def ford (x y : Option Nat) : Option Ordering := x.bind fun a => y.bind fun b => double.order a b

theorem isNaN_opp (d : Datum) : d.opposite.isNaN = d.isNaN := by cases d <;> rfl
theorem sum_nan {d e x : Datum} (h : d.sum e = some x) : d.isNaN = false ∧ e.isNaN = false ∧ x.isNaN = false := by
  cases d <;> cases e <;> simp_all [Datum.sum, Datum.isNaN]
  · rw [← h]
  · rw [← h]
  · rw [← h]
  · obtain ⟨_, rfl⟩ := h; rfl
theorem product_nan {d e x : Datum} (h : d.product e = some x) : d.isNaN = false ∧ e.isNaN = false ∧ x.isNaN = false := by
  cases d <;> cases e <;> simp_all [Datum.product, Datum.isNaN]
  · rw [← h]
  · obtain ⟨_, rfl⟩ := h; rfl
  · obtain ⟨_, rfl⟩ := h; rfl
  · rw [← h]
theorem quotient_nan {n : Nat} {d e x : Datum} (h : d.quotient n e = some x) : d.isNaN = false ∧ e.isNaN = false ∧ x.isNaN = false := by
  cases d <;> cases e <;> simp [Datum.quotient, Datum.isNaN] at h ⊢
  · split at h
    · split at h <;> simp at h
      rw [← h]
    · simp at h; rw [← h]
  · rw [← h]
  · rw [← h]
theorem root_nan {n : Nat} {d x : Datum} (h : d.root n = some x) : d.isNaN = false ∧ x.isNaN = false := by
  cases d <;> simp [Datum.root, Datum.isNaN] at h ⊢
  · split at h
    · simp at h; rw [← h]
    · split at h <;> simp at h
      rw [← h]
  · rw [← h.2]

theorem map_write_nan {o : Option Datum} {r : Nat} (h : o.map double.write = some r) (hn : ∀ x, o = some x → x.isNaN = false) : ab r = some r := by
  cases o with
  | none => cases h
  | some d => simp at h; subst h; exact ab_num (nan_write _ (hn _ rfl))

theorem ab_op {op : Nat → Nat → Option Nat} (h1 : ∀ a b r, op a b = some r → nan a = false ∧ nan b = false) (x y : Nat) : op x y = f2 op (ab x) (ab y) := by
  unfold f2 ab
  cases hx : nan x <;> cases hy : nan y <;> simp
  all_goals
    cases h : op x y with
    | none => rfl
    | some r => have := h1 _ _ _ h; simp_all

theorem add_nan (a b r : Nat) (h : double.add a b = some r) : nan a = false ∧ nan b = false := by
  unfold Format.add at h
  cases hs : (double.read a).sum (double.read b) with
  | none => simp [hs] at h
  | some d => have := sum_nan hs; rw [nan_read, nan_read] at this; exact ⟨this.1, this.2.1⟩
theorem sub_nan (a b r : Nat) (h : double.sub a b = some r) : nan a = false ∧ nan b = false := by
  unfold Format.sub at h
  cases hs : (double.read a).sum (double.read b).opposite with
  | none => simp [hs] at h
  | some d => have := sum_nan hs; rw [isNaN_opp, nan_read, nan_read] at this; exact ⟨this.1, this.2.1⟩
theorem mul_nan (a b r : Nat) (h : double.mul a b = some r) : nan a = false ∧ nan b = false := by
  unfold Format.mul at h
  cases hs : (double.read a).product (double.read b) with
  | none => simp [hs] at h
  | some d => have := product_nan hs; rw [nan_read, nan_read] at this; exact ⟨this.1, this.2.1⟩
theorem div_nan (a b r : Nat) (h : double.div a b = some r) : nan a = false ∧ nan b = false := by
  unfold Format.div at h
  cases hs : (double.read a).quotient (double.fractionBits + 2) (double.read b) with
  | none => simp [hs] at h
  | some d => have := quotient_nan hs; rw [nan_read, nan_read] at this; exact ⟨this.1, this.2.1⟩
theorem sqrt_nan (a r : Nat) (h : double.sqrt a = some r) : nan a = false := by
  unfold Format.sqrt at h
  cases hs : (double.read a).root (double.fractionBits + 2) with
  | none => simp [hs] at h
  | some d => have := root_nan hs; rw [nan_read] at this; exact this.1

theorem add_ab (x y : Nat) : double.add x y = fadd (ab x) (ab y) := ab_op add_nan x y
theorem sub_ab (x y : Nat) : double.sub x y = fsub (ab x) (ab y) := ab_op sub_nan x y
theorem mul_ab (x y : Nat) : double.mul x y = fmul (ab x) (ab y) := ab_op mul_nan x y
theorem div_ab (x y : Nat) : double.div x y = fdiv (ab x) (ab y) := ab_op div_nan x y
theorem sqrt_ab (x : Nat) : double.sqrt x = fsqrt (ab x) := by
  unfold fsqrt ab
  cases hx : nan x <;> simp
  cases h : double.sqrt x with
  | none => rfl
  | some r => have := sqrt_nan _ _ h; simp_all

theorem add_res {a b r : Nat} (h : double.add a b = some r) : ab r = some r := map_write_nan h fun _ hx => (sum_nan hx).2.2
theorem sub_res {a b r : Nat} (h : double.sub a b = some r) : ab r = some r := map_write_nan h fun _ hx => (sum_nan hx).2.2
theorem mul_res {a b r : Nat} (h : double.mul a b = some r) : ab r = some r := map_write_nan h fun _ hx => (product_nan hx).2.2
theorem div_res {a b r : Nat} (h : double.div a b = some r) : ab r = some r := map_write_nan h fun _ hx => (quotient_nan hx).2.2
theorem sqrt_res {a r : Nat} (h : double.sqrt a = some r) : ab r = some r := map_write_nan h fun _ hx => (root_nan hx).2

theorem ord_ab (x y : Nat) : double.order x y = ford (ab x) (ab y) := by
  unfold ford ab
  cases hx : nan x <;> cases hy : nan y <;> simp
  all_goals
    unfold Format.order
    have e1 := nan_read x
    have e2 := nan_read y
    rw [hx] at e1
    rw [hy] at e2
    cases h1 : double.read x <;> cases h2 : double.read y <;> simp_all [Datum.order, Datum.isNaN]


/-- two to a power -/
def p2 (k : Int) : Rat := (2 : Rat) ^ k
theorem p2_add (a b : Int) : p2 (a + b) = p2 a * p2 b := Rat.zpow_add (by decide) a b
theorem p2_pos (k : Int) : 0 < p2 k := Rat.zpow_pos (by decide)
theorem p2_zero : p2 0 = 1 := by unfold p2; simp
theorem p2_nat (n : Nat) : p2 (n : Int) = ((2 ^ n : Nat) : Rat) := by unfold p2; rw [Rat.zpow_natCast]; norm_cast
theorem p2_one : p2 1 = 2 := by have := p2_nat 1; simpa using this
theorem p2_succ (k : Int) : p2 (k + 1) = 2 * p2 k := by rw [p2_add, p2_one]; grind
theorem p2_sub (a b : Int) : p2 (a - b) * p2 b = p2 a := by rw [← p2_add]; congr 1; omega
theorem p2_neg (a : Int) : p2 (-a) * p2 a = 1 := by rw [← p2_add, ← p2_zero]; congr 1; omega
theorem p2_le {a b : Int} (h : a ≤ b) : p2 a ≤ p2 b := by
  obtain ⟨n, hn⟩ := Int.le.dest h
  rw [← hn, p2_add, p2_nat]
  have h1 : (1 : Rat) ≤ ((2 ^ n : Nat) : Rat) := by
    have : ((1 : Nat) : Rat) ≤ ((2 ^ n : Nat) : Rat) := Rat.natCast_le_natCast.2 (Nat.one_le_two_pow)
    simpa using this
  have := Rat.mul_le_mul_of_nonneg_left h1 (Rat.le_of_lt (p2_pos a))
  grind
theorem p2_lt {a b : Int} (h : a < b) : p2 a < p2 b := by
  have h1 := p2_le (show a + 1 ≤ b by omega)
  rw [p2_succ] at h1
  have := p2_pos a
  grind
theorem cut_even (s : Bool) (n d : Nat) :
    2 * (Toward.even.cut s n d * 2 ^ d) ≤ 2 * n + 2 ^ d ∧ 2 * n ≤ 2 * (Toward.even.cut s n d * 2 ^ d) + 2 ^ d ∧
    ((2 * (Toward.even.cut s n d * 2 ^ d) = 2 * n + 2 ^ d ∨ 2 * n = 2 * (Toward.even.cut s n d * 2 ^ d) + 2 ^ d) → Toward.even.cut s n d % 2 = 0) := by
  have hn : n < 2 ^ (n.log2 + 1) := Nat.lt_log2_self
  by_cases hd : d ≤ n.log2 + 2
  · have hg : 1 <<< min d (n.log2 + 2) = 2 ^ d := by rw [Nat.min_eq_left hd, Nat.one_shiftLeft]
    unfold Toward.cut
    simp only [hg]
    have hG : 0 < 2 ^ d := Nat.two_pow_pos d
    generalize 2 ^ d = G at *
    have h1 := Nat.div_add_mod n G
    have h2 := Nat.mod_lt n hG
    generalize n / G = lo at *
    generalize n % G = re at *
    subst h1
    have e1 : (lo + 1) * G = lo * G + G := by rw [Nat.add_mul, Nat.one_mul]
    have e2 : G * lo = lo * G := Nat.mul_comm _ _
    by_cases c1 : G < 2 * re
    · simp [c1]; rw [e1, e2]; generalize lo * G = x at *; refine ⟨by omega, by omega, by omega⟩
    · by_cases c2 : G = 2 * re
      · by_cases c3 : lo % 2 = 1
        · have : (G == 2 * re && lo % 2 == 1) = true := by simp [c2, c3]
          have c1' : (decide (G < 2 * re)) = false := by simpa using c1
          rw [this, c1']; simp only [Bool.false_or, Bool.toNat_true]
          rw [e1, e2]; generalize lo * G = x at *; refine ⟨by omega, by omega, by omega⟩
        · have : (G == 2 * re && lo % 2 == 1) = false := by simp [c3]
          have c1' : (decide (G < 2 * re)) = false := by simpa using c1
          rw [this, c1']; simp only [Bool.false_or, Bool.toNat_false, Nat.add_zero]
          rw [e2]; generalize lo * G = x at *; refine ⟨by omega, by omega, by omega⟩
      · have : (G == 2 * re && lo % 2 == 1) = false := by simp [c2]
        have c1' : (decide (G < 2 * re)) = false := by simpa using c1
        rw [this, c1']; simp only [Bool.false_or, Bool.toNat_false, Nat.add_zero]
        rw [e2]; generalize lo * G = x at *; refine ⟨by omega, by omega, by omega⟩
  · have hg : 1 <<< min d (n.log2 + 2) = 2 ^ (n.log2 + 2) := by rw [Nat.min_eq_right (by omega), Nat.one_shiftLeft]
    have hb : 2 ^ (n.log2 + 2) = 2 * 2 ^ (n.log2 + 1) := by rw [Nat.pow_succ]; omega
    have hbig : 2 ^ (n.log2 + 2) ≤ 2 ^ d := Nat.pow_le_pow_right (by omega) (by omega)
    have h0 : Toward.even.cut s n d = 0 := by
      unfold Toward.cut
      simp only [hg]
      have : n / 2 ^ (n.log2 + 2) = 0 := Nat.div_eq_of_lt (by omega)
      have hm : n % 2 ^ (n.log2 + 2) = n := Nat.mod_eq_of_lt (by omega)
      rw [this, hm]
      have : ¬ 2 ^ (n.log2 + 2) < 2 * n := by omega
      simp [this]
    rw [h0]
    refine ⟨by omega, by omega, by omega⟩

theorem rmul_cancel {a b c : Rat} (h : a * c = b * c) (hc : 0 < c) : a = b :=
  Rat.le_antisymm (Rat.le_of_mul_le_mul_right (by rw [h]; exact Rat.le_refl) hc) (Rat.le_of_mul_le_mul_right (by rw [h]; exact Rat.le_refl) hc)

/-- what a rung is worth -/
def rv (r : Nat) : Rat := if r < 4503599627370496 then (r : Rat) * p2 (-1074) else ((4503599627370496 + r % 4503599627370496 : Nat) : Rat) * p2 (-1074 + ((r / 4503599627370496 - 1 : Nat) : Int))

theorem rv_mk (q k : Nat) (h1 : k ≤ 9007199254740992) (h2 : q = 0 ∨ 4503599627370496 ≤ k) : rv (q * 4503599627370496 + k) = (k : Rat) * p2 (-1074 + (q : Int)) := by
  unfold rv
  by_cases hk : k < 4503599627370496
  · obtain rfl : q = 0 := by omega
    rw [if_pos (by omega)]
    simp
  · rw [if_neg (by omega)]
    by_cases hk2 : k = 9007199254740992
    · subst hk2
      have e1 : (q * 4503599627370496 + 9007199254740992) % 4503599627370496 = 0 := by omega
      have e2 : (q * 4503599627370496 + 9007199254740992) / 4503599627370496 - 1 = q + 1 := by omega
      rw [e1, e2]
      have : (-1074 + ((q + 1 : Nat) : Int)) = (-1074 + (q : Int)) + 1 := by omega
      rw [this, p2_succ]
      simp only [Nat.add_zero]
      have : ((9007199254740992 : Nat) : Rat) = 2 * ((4503599627370496 : Nat) : Rat) := by
        rw [show (9007199254740992 : Nat) = 2 * 4503599627370496 from rfl]; norm_cast
      rw [this]
      grind
    · have e1 : 4503599627370496 + (q * 4503599627370496 + k) % 4503599627370496 = k := by omega
      have e2 : (q * 4503599627370496 + k) / 4503599627370496 - 1 = q := by omega
      rw [e1, e2]

/-- each rung in that form -/
theorem rung_form (r : Nat) : ∃ q k, r = q * 4503599627370496 + k ∧ k < 9007199254740992 ∧ (q = 0 ∨ 4503599627370496 ≤ k) := by
  by_cases h : r < 9007199254740992
  · exact ⟨0, r, by omega, h, .inl rfl⟩
  · exact ⟨r / 4503599627370496 - 1, r % 4503599627370496 + 4503599627370496, by omega, by omega, .inr (by omega)⟩

theorem rv_succ (q k : Nat) (h1 : k < 9007199254740992) (h2 : q = 0 ∨ 4503599627370496 ≤ k) : rv (q * 4503599627370496 + k + 1) = rv (q * 4503599627370496 + k) + p2 (-1074 + (q : Int)) := by
  rw [rv_mk q k (by omega) h2, show q * 4503599627370496 + k + 1 = q * 4503599627370496 + (k + 1) from by omega, rv_mk q (k + 1) (by omega) (by omega)]
  have : ((k + 1 : Nat) : Rat) = (k : Rat) + 1 := by norm_cast
  rw [this]; grind

theorem rv_lt_succ (r : Nat) : rv r < rv (r + 1) := by
  obtain ⟨q, k, rfl, h1, h2⟩ := rung_form r
  rw [rv_succ q k h1 h2]
  have := p2_pos (-1074 + (q : Int))
  grind

theorem rv_lt {r s : Nat} (h : r < s) : rv r < rv s := by
  induction s with
  | zero => omega
  | succ s ih =>
    by_cases e : r = s
    · subst e; exact rv_lt_succ r
    · have := ih (by omega); have := rv_lt_succ s; grind
theorem rv_le {r s : Nat} (h : r ≤ s) : rv r ≤ rv s := by
  by_cases e : r = s
  · subst e; exact Rat.le_refl
  · exact Rat.le_of_lt (rv_lt (by omega))
theorem rv_zero : rv 0 = 0 := by unfold rv; simp
theorem rv_nonneg (r : Nat) : 0 ≤ rv r := by rw [← rv_zero]; exact rv_le (Nat.zero_le _)
theorem rv_inj {r s : Nat} (h : rv r = rv s) : r = s := by
  rcases Nat.lt_trichotomy r s with h' | h' | h'
  · have := rv_lt h'; grind
  · exact h'
  · have := rv_lt h'; grind


/-- a word's place among all -/
def key (x : Nat) : Int := if x < 9223372036854775808 then (x : Int) else -((x : Int) - 9223372036854775808)

/-- a number's worth -/
def dv (s : Bool) (m : Nat) (e : Int) : Rat := if s then -((m : Rat) * p2 e) else (m : Rat) * p2 e

/-- a finite word's worth -/
def va (x : Nat) : Rat := if x < 9223372036854775808 then rv x else -rv (x - 9223372036854775808)

theorem read_fin (x : Nat) (h : x % 9223372036854775808 < 9218868437227405312) (h64 : x < 18446744073709551616) :
    ∃ m e, double.read x = .number (decide (9223372036854775808 ≤ x)) m e ∧ (m : Rat) * p2 e = rv (x % 9223372036854775808) := by
  unfold Format.read
  simp only [bn, ir, sw, lp]
  have hs : (x / 9223372036854775808 % 2 == 1) = decide (9223372036854775808 ≤ x) := by
    by_cases hx : 9223372036854775808 ≤ x
    · have : x / 9223372036854775808 % 2 = 1 := by omega
      simp [this, hx]
    · have : x / 9223372036854775808 % 2 = 0 := by omega
      simp [this, hx]
  rw [hs]
  by_cases h1 : x % 9223372036854775808 < 4503599627370496
  · rw [if_pos h1]
    exact ⟨_, _, rfl, by unfold rv; rw [if_pos h1]⟩
  · rw [if_neg h1, if_pos h]
    exact ⟨_, _, rfl, by unfold rv; rw [if_neg h1]⟩

theorem read_inf (x : Nat) (h : x % 9223372036854775808 = 9218868437227405312) (h64 : x < 18446744073709551616) :
    double.read x = .infinity (decide (9223372036854775808 ≤ x)) := by
  unfold Format.read
  simp only [bn, ir, sw, lp]
  have hs : (x / 9223372036854775808 % 2 == 1) = decide (9223372036854775808 ≤ x) := by
    by_cases hx : 9223372036854775808 ≤ x
    · have : x / 9223372036854775808 % 2 = 1 := by omega
      simp [this, hx]
    · have : x / 9223372036854775808 % 2 = 0 := by omega
      simp [this, hx]
  rw [hs, if_neg (by omega), if_neg (by omega), if_pos h]

theorem signed_val (s : Bool) (m : Nat) (i base : Int) (h : base ≤ i) : ((signed s m (i - base).toNat : Int) : Rat) * p2 base = dv s m i := by
  unfold signed dv
  have h1 : ((m <<< (i - base).toNat : Nat) : Rat) * p2 base = (m : Rat) * p2 i := by
    rw [Nat.shiftLeft_eq, Rat.natCast_mul, ← p2_nat]
    have : p2 i = p2 (((i - base).toNat : Nat) : Int) * p2 base := by rw [← p2_add]; congr 1; omega
    rw [this]; grind
  cases s
  · simp only [Bool.false_eq_true, if_false]
    exact h1
  · simp only [if_true]
    rw [Rat.intCast_neg]
    have h2 : (((m <<< (i - base).toNat : Nat) : Int) : Rat) = ((m <<< (i - base).toNat : Nat) : Rat) := rfl
    rw [h2]
    grind

theorem rcmp_int (a b : Int) (c : Rat) (hc : 0 < c) (x y : Rat) (hx : (a : Rat) * c = x) (hy : (b : Rat) * c = y) :
    (a < b ↔ x < y) ∧ (a = b ↔ x = y) := by
  subst hx; subst hy
  constructor
  · constructor
    · intro h; exact Rat.mul_lt_mul_of_pos_right (by exact_mod_cast h) hc
    · intro h
      have := Rat.lt_of_mul_lt_mul_right h (Rat.le_of_lt hc)
      exact_mod_cast this
  · constructor
    · intro h; rw [h]
    · intro h
      have := rmul_cancel h hc
      exact_mod_cast this

theorem compare_int (a b c d : Int) (h1 : a < b ↔ c < d) (h2 : a = b ↔ c = d) : compare a b = compare c d := by
  simp only [compare, compareOfLessAndEq]
  by_cases x : a < b
  · rw [if_pos x, if_pos (h1.1 x)]
  · rw [if_neg x, if_neg (fun h => x (h1.2 h))]
    by_cases y : a = b
    · rw [if_pos y, if_pos (h2.1 y)]
    · rw [if_neg y, if_neg (fun h => y (h2.2 h))]

def kz (s : Bool) (r : Nat) : Int := if s then -(r : Int) else (r : Int)
def vz (s : Bool) (r : Nat) : Rat := if s then -(rv r) else rv r

theorem rlt_trans {a b c : Rat} (h : a < b) (k : b < c) : a < c := by grind

theorem kz_vz (s t : Bool) (a b : Nat) : (kz s a < kz t b ↔ vz s a < vz t b) ∧ (kz s a = kz t b ↔ vz s a = vz t b) := by
  unfold kz vz
  have z := rv_zero
  have tri : (a < b ∧ rv a < rv b) ∨ (a = b ∧ rv a = rv b) ∨ (b < a ∧ rv b < rv a) := by
    rcases Nat.lt_trichotomy a b with h | h | h
    · exact .inl ⟨h, rv_lt h⟩
    · exact .inr (.inl ⟨h, by rw [h]⟩)
    · exact .inr (.inr ⟨h, rv_lt h⟩)
  have ta : (a = 0 ∧ rv a = 0) ∨ (0 < a ∧ 0 < rv a) := by
    rcases Nat.eq_zero_or_pos a with h | h
    · exact .inl ⟨h, by rw [h, z]⟩
    · exact .inr ⟨h, by rw [← z]; exact rv_lt h⟩
  have tb : (b = 0 ∧ rv b = 0) ∨ (0 < b ∧ 0 < rv b) := by
    rcases Nat.eq_zero_or_pos b with h | h
    · exact .inl ⟨h, by rw [h, z]⟩
    · exact .inr ⟨h, by rw [← z]; exact rv_lt h⟩
  generalize rv a = x at *
  generalize rv b = y at *
  cases s <;> cases t <;> simp only [Bool.false_eq_true, if_false, if_true]
  all_goals
    refine ⟨⟨fun h => ?_, fun h => ?_⟩, ⟨fun h => ?_, fun h => ?_⟩⟩
  all_goals
    rcases tri with ⟨t1, t2⟩ | ⟨t1, t2⟩ | ⟨t1, t2⟩ <;> rcases ta with ⟨a1, a2⟩ | ⟨a1, a2⟩ <;> rcases tb with ⟨b1, b2⟩ | ⟨b1, b2⟩ <;> first | omega | grind

theorem key_kz (x : Nat) (h64 : x < 18446744073709551616) : key x = kz (decide (9223372036854775808 ≤ x)) (x % 9223372036854775808) := by
  unfold key kz
  by_cases c : x < 9223372036854775808
  · have : ¬ 9223372036854775808 ≤ x := by omega
    rw [if_pos c, Nat.mod_eq_of_lt c]; simp [this]
  · have h1 : 9223372036854775808 ≤ x := by omega
    have h2 : x % 9223372036854775808 = x - 9223372036854775808 := by omega
    rw [if_neg c, h2]; simp only [h1, decide_true, if_true]; omega
theorem va_vz (x : Nat) (h64 : x < 18446744073709551616) : va x = vz (decide (9223372036854775808 ≤ x)) (x % 9223372036854775808) := by
  unfold va vz
  by_cases c : x < 9223372036854775808
  · have : ¬ 9223372036854775808 ≤ x := by omega
    rw [if_pos c, Nat.mod_eq_of_lt c]; simp [this]
  · have h1 : 9223372036854775808 ≤ x := by omega
    have h2 : x % 9223372036854775808 = x - 9223372036854775808 := by omega
    rw [if_neg c, h2]; simp only [h1, decide_true, if_true]

theorem key_va (x y : Nat) (hx64 : x < 18446744073709551616) (hy64 : y < 18446744073709551616) : (key x < key y ↔ va x < va y) ∧ (key x = key y ↔ va x = va y) := by
  rw [key_kz x hx64, key_kz y hy64, va_vz x hx64, va_vz y hy64]
  exact kz_vz _ _ _ _

theorem dv_va (x : Nat) (m : Nat) (e : Int) (h64 : x < 18446744073709551616) (h : (m : Rat) * p2 e = rv (x % 9223372036854775808)) : dv (decide (9223372036854775808 ≤ x)) m e = va x := by
  rw [va_vz x h64]
  unfold dv vz
  rw [h]

/-- the order of words that are no NaN -/
theorem order_key (x y : Nat) (hx : x % 9223372036854775808 ≤ 9218868437227405312) (hx64 : x < 18446744073709551616)
    (hy : y % 9223372036854775808 ≤ 9218868437227405312) (hy64 : y < 18446744073709551616) : double.order x y = some (compare (key x) (key y)) := by
  unfold Format.order
  by_cases fx : x % 9223372036854775808 = 9218868437227405312 <;> by_cases fy : y % 9223372036854775808 = 9218868437227405312
  · rw [read_inf x fx hx64, read_inf y fy hy64]
    simp only [Datum.order]
    congr 1
    by_cases a : 9223372036854775808 ≤ x <;> by_cases b : 9223372036854775808 ≤ y
    · have e1 : key x = key y := by unfold key; rw [if_neg (by omega), if_neg (by omega)]; omega
      rw [e1]; simp [a, b]
    · have e1 : key x < key y := by unfold key; rw [if_neg (by omega), if_pos (by omega)]; omega
      simp only [compare, compareOfLessAndEq, e1]; simp [a, b]
    · have e1 : key y < key x := by unfold key; rw [if_neg (by omega), if_pos (by omega)]; omega
      have e2 : ¬ key x < key y := by omega
      have e3 : ¬ key x = key y := by omega
      simp only [compare, compareOfLessAndEq, e2, e3]; simp [a, b]
    · have e1 : key x = key y := by unfold key; rw [if_pos (by omega), if_pos (by omega)]; omega
      rw [e1]; simp [a, b]
  · obtain ⟨n, j, h2, _⟩ := read_fin y (by omega) hy64
    rw [read_inf x fx hx64, h2]
    simp only [Datum.order]
    by_cases a : 9223372036854775808 ≤ x
    · have e1 : key x < key y := by unfold key; rw [if_neg (by omega)]; split <;> omega
      simp only [compare, compareOfLessAndEq, e1]; simp [a]
    · have e1 : key y < key x := by unfold key; rw [if_pos (show x < _ by omega)]; split <;> omega
      have e2 : ¬ key x < key y := by omega
      have e3 : ¬ key x = key y := by omega
      simp only [compare, compareOfLessAndEq, e2, e3]; simp [a]
  · obtain ⟨n, j, h2, _⟩ := read_fin x (by omega) hx64
    rw [read_inf y fy hy64, h2]
    simp only [Datum.order]
    by_cases a : 9223372036854775808 ≤ y
    · have e1 : key y < key x := by unfold key; rw [if_neg (show ¬ y < _ by omega)]; split <;> omega
      have e2 : ¬ key x < key y := by omega
      have e3 : ¬ key x = key y := by omega
      simp only [compare, compareOfLessAndEq, e2, e3]; simp [a]
    · have e1 : key x < key y := by unfold key; rw [if_pos (show y < _ by omega)]; split <;> omega
      simp only [compare, compareOfLessAndEq, e1]; simp [a]
  · obtain ⟨m, i, h1, v1⟩ := read_fin x (by omega) hx64
    obtain ⟨n, j, h2, v2⟩ := read_fin y (by omega) hy64
    rw [h1, h2]
    simp only [Datum.order]
    congr 1
    obtain ⟨k1, k2⟩ := key_va x y hx64 hy64
    have s1 := signed_val (decide (9223372036854775808 ≤ x)) m i (min i j) (by omega)
    have s2 := signed_val (decide (9223372036854775808 ≤ y)) n j (min i j) (by omega)
    rw [dv_va x m i hx64 v1] at s1
    rw [dv_va y n j hy64 v2] at s2
    obtain ⟨c1, c2⟩ := rcmp_int _ _ _ (p2_pos (min i j)) _ _ s1 s2
    exact compare_int _ _ _ _ (c1.trans k1.symm) (c2.trans k2.symm)

theorem nan_le {x : Nat} (h : nan x = false) : x % 9223372036854775808 ≤ 9218868437227405312 := by simpa [nan] using h
theorem nan_lt {x : Nat} (h : nan x = true) : 9218868437227405312 < x % 9223372036854775808 := by simpa [nan] using h
theorem order_none {x y : Nat} (h : nan x = true ∨ nan y = true) : double.order x y = none := by
  rw [ord_ab]
  rcases h with h | h
  · rw [ab_nan h]; rfl
  · rw [ab_nan h]; unfold ford; cases ab x <;> rfl
theorem cmp_lt (a b : Int) : (compare a b == .lt) = decide (a < b) := by
  simp only [compare, compareOfLessAndEq]
  by_cases h : a < b
  · simp [h]
  · by_cases k : a = b <;> simp [h, k]
theorem cmp_gt (a b : Int) : (compare a b == .gt) = decide (b < a) := by
  simp only [compare, compareOfLessAndEq]
  by_cases h : a < b
  · have : ¬ b < a := by omega
    simp [h, this]
  · by_cases k : a = b
    · subst k; simp
    · have : b < a := by omega
      simp [h, k, this]
theorem cmp_eq (a b : Int) : (compare a b == .eq) = decide (a = b) := by
  simp only [compare, compareOfLessAndEq]
  by_cases h : a < b
  · have : ¬ a = b := by omega
    simp [h, this]
  · by_cases k : a = b
    · subst k; simp
    · simp [h, k]
theorem some_beq {α : Type} [BEq α] (a b : α) : (some a == some b) = (a == b) := rfl
theorem order_lt {x y : Nat} (hx : nan x = false) (hy : nan y = false) (hx64 : x < 18446744073709551616) (hy64 : y < 18446744073709551616) : (double.order x y == some .lt) = decide (key x < key y) := by
  rw [order_key x y (nan_le hx) hx64 (nan_le hy) hy64, some_beq, cmp_lt]
theorem order_gt {x y : Nat} (hx : nan x = false) (hy : nan y = false) (hx64 : x < 18446744073709551616) (hy64 : y < 18446744073709551616) : (double.order x y == some .gt) = decide (key y < key x) := by
  rw [order_key x y (nan_le hx) hx64 (nan_le hy) hy64, some_beq, cmp_gt]
theorem order_eq {x y : Nat} (hx : nan x = false) (hy : nan y = false) (hx64 : x < 18446744073709551616) (hy64 : y < 18446744073709551616) : (double.order x y == some .eq) = decide (key x = key y) := by
  rw [order_key x y (nan_le hx) hx64 (nan_le hy) hy64, some_beq, cmp_eq]
theorem key_abs (b : Nat) : key (b % 9223372036854775808) = ((b % 9223372036854775808 : Nat) : Int) := by
  unfold key; rw [if_pos (by omega)]
theorem key_pos {b : Nat} (h : b < 9223372036854775808) : key b = (b : Int) := by unfold key; rw [if_pos h]
theorem nan_abs (b : Nat) : nan (b % 9223372036854775808) = nan b := by unfold nan; rw [Nat.mod_mod]
/-- the size of a float held against a positive one -/
theorem abs_gt (b c : Nat) (hc : c ≤ 9218868437227405312) : (double.order (b % 9223372036854775808) c == some .gt) = (!nan b && decide (c < b % 9223372036854775808)) := by
  cases h : nan b with
  | true => rw [order_none (.inl (by rw [nan_abs, h]))]; rfl
  | false =>
    rw [order_gt (by rw [nan_abs, h]) (by unfold nan; simp; omega) (by omega) (by omega), key_abs, key_pos (by omega)]
    simp; omega
theorem abs_le (b c : Nat) (hc : c ≤ 9218868437227405312) : (double.order (b % 9223372036854775808) c == some .lt || double.order (b % 9223372036854775808) c == some .eq) = (!nan b && decide (b % 9223372036854775808 ≤ c)) := by
  cases h : nan b with
  | true => rw [order_none (.inl (by rw [nan_abs, h]))]; rfl
  | false =>
    rw [order_lt (by rw [nan_abs, h]) (by unfold nan; simp; omega) (by omega) (by omega), order_eq (by rw [nan_abs, h]) (by unfold nan; simp; omega) (by omega) (by omega), key_abs, key_pos (by omega), ← Bool.decide_or]
    simp only [Bool.not_false, Bool.true_and]
    congr 1
    apply propext
    omega
theorem abs_ge (b c : Nat) (hc : c ≤ 9218868437227405312) : (double.order (b % 9223372036854775808) c == some .gt || double.order (b % 9223372036854775808) c == some .eq) = (!nan b && decide (c ≤ b % 9223372036854775808)) := by
  cases h : nan b with
  | true => rw [order_none (.inl (by rw [nan_abs, h]))]; rfl
  | false =>
    rw [order_gt (by rw [nan_abs, h]) (by unfold nan; simp; omega) (by omega) (by omega), order_eq (by rw [nan_abs, h]) (by unfold nan; simp; omega) (by omega) (by omega), key_abs, key_pos (by omega), ← Bool.decide_or]
    simp only [Bool.not_false, Bool.true_and]
    congr 1
    apply propext
    omega
theorem self_neq (b : Nat) (hb : b < 18446744073709551616) : (double.order b b != some .eq) = nan b := by
  cases h : nan b with
  | true => rw [order_none (.inl h)]; rfl
  | false =>
    have := order_eq h h hb hb
    simp only [decide_true] at this
    simp only [bne, this]; rfl
theorem is_zero (b : Nat) (hb : b < 18446744073709551616) : (double.order b 0 == some .eq) = decide (b % 9223372036854775808 = 0) := by
  cases h : nan b with
  | true => rw [order_none (.inl h)]; have := nan_lt h; simp; omega
  | false =>
    rw [order_eq h (by decide) hb (by decide)]
    congr 1
    apply propext
    unfold key
    split <;> simp <;> omega

end Go.Proofs.YtmmligbkecilfaaGreatDoor.Lv
