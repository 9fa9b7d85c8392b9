/- Rungs that are nearest; the root to its last digit; the root of a rounded square gives the number back. What is exact: a product, a quotient by itself, zero added. A rotation against zero, exactly. -/
import Derived.Test.YtmmligbkecilfaaGreatDoorRound
import Derived.Test.YtmmligbkecilfaaGreatDoorO
namespace Go.Proofs.YtmmligbkecilfaaGreatDoor.Lv
open Ieee

/-- a rung that is nearest to a number -/
structure Mid (r : Nat) (z : Rat) : Prop where
  lo : 0 < r → rv (r - 1) + rv r ≤ 2 * z ∧ (rv (r - 1) + rv r = 2 * z → r % 2 = 0)
  hi : 2 * z ≤ rv r + rv (r + 1) ∧ (2 * z = rv r + rv (r + 1) → r % 2 = 0)
theorem rho_mid {m : Nat} {e : Int} (hm : m ≠ 0) : Mid (rho m e) ((m : Rat) * p2 e) :=
  ⟨fun h => ⟨(rho_lower m e hm h).1, fun h2 => (rho_lower m e hm h).2 h2.symm⟩, rho_upper m e hm⟩
theorem Mid.mono {r s : Nat} {z y : Rat} (h : Mid r z) (k : Mid s y) (hzy : z ≤ y) : r ≤ s := by
  by_cases c : r ≤ s
  · exact c
  · exfalso
    obtain ⟨l1, l2⟩ := h.lo (by omega)
    obtain ⟨u1, u2⟩ := k.hi
    have a1 : rv s ≤ rv (r - 1) := rv_le (by omega)
    have a2 : rv (s + 1) ≤ rv r := rv_le (by omega)
    obtain ⟨e1, e2, e3, e4⟩ := lb1 hzy u1 l1 a1 a2
    have i1 := rv_inj e1
    have p1 := l2 e4.symm
    have p2 := u2 e3
    omega
theorem Mid.unique {r s : Nat} {z : Rat} (h : Mid r z) (k : Mid s z) : r = s :=
  Nat.le_antisymm (h.mono k Rat.le_refl) (k.mono h Rat.le_refl)
theorem Mid.exact {r : Nat} : Mid r (rv r) := by
  refine ⟨fun h => ?_, ?_⟩
  · have := rv_lt (show r - 1 < r by omega)
    exact ⟨by grind, fun h2 => by grind⟩
  · have := rv_lt_succ r
    exact ⟨by grind, fun h2 => by grind⟩
/-- strictly between the midpoints -/
theorem Mid.of_lt {r : Nat} {z : Rat} (h0 : rv (r - 1) + rv r < 2 * z) (h1 : 2 * z < rv r + rv (r + 1)) : Mid r z :=
  ⟨fun _ => ⟨by grind, fun h => by grind⟩, ⟨by grind, fun h => by grind⟩⟩

/-! ### the root's digits -/
theorem rootFrom_spec : ∀ (todo r n : Nat), r * r ≤ n → n < (r + 2 ^ todo) * (r + 2 ^ todo) → Datum.rootFrom n todo r * Datum.rootFrom n todo r ≤ n ∧ n < (Datum.rootFrom n todo r + 1) * (Datum.rootFrom n todo r + 1)
  | 0, r, n, h1, h2 => by
    unfold Datum.rootFrom
    exact ⟨h1, by simpa using h2⟩
  | todo + 1, r, n, h1, h2 => by
    unfold Datum.rootFrom
    dsimp only
    rw [Nat.shiftLeft_eq, Nat.one_mul]
    by_cases c : (r + 2 ^ todo) * (r + 2 ^ todo) ≤ n
    · rw [if_pos c]
      refine rootFrom_spec todo _ n c ?_
      rw [Nat.pow_succ] at h2
      rw [show r + 2 ^ todo + 2 ^ todo = r + 2 ^ todo * 2 by omega]
      exact h2
    · rw [if_neg c]
      exact rootFrom_spec todo r n h1 (by omega)
theorem whole_root (n : Nat) : Datum.rootFrom n (n.log2 / 2 + 1) 0 * Datum.rootFrom n (n.log2 / 2 + 1) 0 ≤ n ∧ n < (Datum.rootFrom n (n.log2 / 2 + 1) 0 + 1) * (Datum.rootFrom n (n.log2 / 2 + 1) 0 + 1) := by
  refine rootFrom_spec _ 0 n (by simp) ?_
  rw [Nat.zero_add, ← Nat.pow_add]
  have h1 : n < 2 ^ (n.log2 + 1) := Nat.lt_log2_self
  exact Nat.lt_of_lt_of_le h1 (Nat.pow_le_pow_right (by decide) (by omega))
theorem root_above {w n st H : Nat} (h1 : w * w ≤ n) (hst : st = (w * w != n).toNat) (h : n < H * H) : 2 * w + st < 2 * H := by
  have hw : w < H := by
    by_cases c : w < H
    · exact c
    · have := Nat.mul_le_mul (show H ≤ w by omega) (show H ≤ w by omega)
      omega
  have : st ≤ 1 := by subst hst; exact Bool.toNat_le _
  omega
theorem root_below {w n st H : Nat} (h2 : n < (w + 1) * (w + 1)) (hst : st = (w * w != n).toNat) (h : H * H < n) : 2 * H < 2 * w + st := by
  have hw : H ≤ w := by
    by_cases c : H ≤ w
    · exact c
    · have := Nat.mul_le_mul (show w + 1 ≤ H by omega) (show w + 1 ≤ H by omega)
      omega
  by_cases c : H = w
  · subst c
    have : (H * H != n) = true := by simp; omega
    rw [this] at hst
    simp at hst
    omega
  · omega

theorem rsq_mul (a b : Rat) : (a * b) * (a * b) = (a * a) * (b * b) := by grind
/-- the root of a number: what it is less and greater than -/
theorem root_num {m : Nat} {i : Int} (h0 : 4503599627370496 ≤ m) (h1 : m < 9007199254740992) :
    ∃ (w : Nat) (e : Int), (Datum.number false m i).root (double.fractionBits + 2) = some (.number false w (e - 1)) ∧ w ≠ 0 ∧ (2 * e = i - 56 ∨ 2 * e = i - 57) ∧
      (∀ H : Nat, (m : Rat) * p2 i < ((H : Rat) * p2 e) * ((H : Rat) * p2 e) → (w : Rat) * p2 (e - 1) < (H : Rat) * p2 e) ∧
      (∀ H : Nat, ((H : Rat) * p2 e) * ((H : Rat) * p2 e) < (m : Rat) * p2 i → (H : Rat) * p2 e < (w : Rat) * p2 (e - 1)) ∧
      (∀ H : Nat, ((H : Rat) * p2 e) * ((H : Rat) * p2 e) = (m : Rat) * p2 i → (H : Rat) * p2 e = (w : Rat) * p2 (e - 1)) := by
  have hm : m ≠ 0 := by omega
  have hl : m.log2 = 52 := (Nat.log2_eq_iff hm).2 ⟨by omega, by omega⟩
  obtain ⟨t, ht, hte⟩ : ∃ t : Nat, t = 56 + ((i - 56) % 2).toNat ∧ (t = 56 ∨ t = 57) := ⟨_, rfl, by omega⟩
  obtain ⟨e, he⟩ : ∃ e : Int, i - (t : Int) = 2 * e := ⟨(i - (t : Int)) / 2, by omega⟩
  obtain ⟨n, hn⟩ : ∃ n, n = m <<< t := ⟨_, rfl⟩
  obtain ⟨k1, k2⟩ := whole_root n
  obtain ⟨v, hv⟩ : ∃ v, v = Datum.rootFrom n (n.log2 / 2 + 1) 0 := ⟨_, rfl⟩
  rw [← hv] at k1 k2
  obtain ⟨st, hst⟩ : ∃ st, st = (v * v != n).toNat := ⟨_, rfl⟩
  have hnv : (m : Rat) * p2 i = (n : Rat) * p2 (2 * e) := by
    rw [hn, Nat.shiftLeft_eq, Rat.natCast_mul, ← p2_nat, Rat.mul_assoc, ← p2_add]
    congr 2; omega
  have hsq : ∀ H : Nat, ((H : Rat) * p2 e) * ((H : Rat) * p2 e) = ((H * H : Nat) : Rat) * p2 (2 * e) := by
    intro H
    rw [rsq_mul, ← p2_add, Rat.natCast_mul]
    congr 2; omega
  have hz : ∀ a : Nat, (a : Rat) * p2 e = ((2 * a : Nat) : Rat) * p2 (e - 1) := by
    intro a
    have := p2_succ (e - 1)
    rw [show e - 1 + 1 = e by omega] at this
    rw [this, Rat.natCast_mul, show ((2 : Nat) : Rat) = 2 from rfl]
    grind
  refine ⟨2 * v + st, e, ?_, ?_, by omega, fun H h => ?_, fun H h => ?_, fun H h => ?_⟩
  · simp only [Datum.root, if_neg hm, fbits, hl, Bool.false_eq_true, if_false]
    rw [show 2 * (52 + 2) - 52 = 56 from rfl]
    have e56 : ((56 : Nat) : Int) = 56 := rfl
    rw [e56, ← ht, ← hn, ← hv, ← hst]
    congr 2
    omega
  · intro c
    have : v = 0 := by omega
    subst this
    have hn1 : 0 < n := by
      rw [hn, Nat.shiftLeft_eq]
      exact Nat.mul_pos (by omega) (Nat.two_pow_pos t)
    have : (0 * 0 != n) = true := by simp; omega
    rw [this] at hst
    simp at hst
    omega
  · rw [hnv, hsq H] at h
    have h3 : (n : Rat) < ((H * H : Nat) : Rat) := Rat.lt_of_mul_lt_mul_right h (Rat.le_of_lt (p2_pos _))
    have h4 : n < H * H := by exact_mod_cast h3
    have h5 := root_above k1 hst h4
    rw [hz H]
    exact Rat.mul_lt_mul_of_pos_right (by exact_mod_cast h5) (p2_pos _)
  · rw [hnv, hsq H] at h
    have h3 : ((H * H : Nat) : Rat) < (n : Rat) := Rat.lt_of_mul_lt_mul_right h (Rat.le_of_lt (p2_pos _))
    have h4 : H * H < n := by exact_mod_cast h3
    have h5 := root_below k2 hst h4
    rw [hz H]
    exact Rat.mul_lt_mul_of_pos_right (by exact_mod_cast h5) (p2_pos _)
  · rw [hnv, hsq H] at h
    have h3 : ((H * H : Nat) : Rat) = (n : Rat) := rmul_cancel h (p2_pos _)
    have h4 : H * H = n := by exact_mod_cast h3
    have h6 : H = v := by
      by_cases c1 : H < v
      · have := Nat.mul_le_mul (show H + 1 ≤ v by omega) (show H + 1 ≤ v by omega)
        have h7 : (H + 1) * (H + 1) = H * H + 2 * H + 1 := by rw [Nat.add_mul, Nat.mul_add]; omega
        omega
      · by_cases c2 : v < H
        · have := Nat.mul_le_mul (show v + 1 ≤ H by omega) (show v + 1 ≤ H by omega)
          omega
        · omega
    have h5 : st = 0 := by
      rw [hst, ← h6, h4]
      simp
    rw [h6, hz v, h5]
    simp

theorem read_norm {c : Nat} (h0 : 4503599627370496 ≤ c) (h1 : c < 9218868437227405312) : double.read c = .number false (4503599627370496 + c % 4503599627370496) (-1074 + ((c / 4503599627370496 - 1 : Nat) : Int)) ∧ rv c = ((4503599627370496 + c % 4503599627370496 : Nat) : Rat) * p2 (-1074 + ((c / 4503599627370496 - 1 : Nat) : Int)) := by
  have hs : (c / 9223372036854775808 % 2 == 1) = false := by
    have : c / 9223372036854775808 % 2 = 0 := by omega
    simp [this]
  have hr : c % 9223372036854775808 = c := by omega
  constructor
  · unfold Format.read
    simp only [sw, bn, ir, lp, hs, hr]
    rw [if_neg (by omega), if_pos h1]
  · unfold rv
    rw [if_neg (by omega)]

theorem ra1 {E x u y P : Rat} (hE : 0 < E) (hu : 0 < u) (hP : P = 2 * (E * u) ∨ P = 4 * (E * u)) (hx : E + 2 * u ≤ x) (k1 : 2 * y ≤ 2 * (x * x) + P) : y < (x + u) * (x + u) := by
  have h1 : (E + 2 * u) * u ≤ x * u := Rat.mul_le_mul_of_nonneg_right hx (Rat.le_of_lt hu)
  have h2 : 0 < u * u := Rat.mul_pos hu hu
  have h5 : 0 < E * u := Rat.mul_pos hE hu
  have h3 : (x + u) * (x + u) = x * x + 2 * (x * u) + u * u := by grind
  have h4 : (E + 2 * u) * u = E * u + 2 * (u * u) := by grind
  rw [h3]
  rw [h4] at h1
  generalize x * u = a at *
  generalize u * u = b at *
  generalize x * x = c at *
  generalize E * u = d at *
  rcases hP with hP | hP <;> grind
theorem ra2 {E x u y P : Rat} (hE : 0 < E) (hu : 0 < u) (hP : P = 2 * (E * u) ∨ P = 4 * (E * u)) (hx : E + 2 * u ≤ x) (k1 : 2 * (x * x) ≤ 2 * y + P) : (x - u) * (x - u) < y := by
  have h1 : (E + 2 * u) * u ≤ x * u := Rat.mul_le_mul_of_nonneg_right hx (Rat.le_of_lt hu)
  have h2 : 0 < u * u := Rat.mul_pos hu hu
  have h5 : 0 < E * u := Rat.mul_pos hE hu
  have h3 : (x - u) * (x - u) = x * x - 2 * (x * u) + u * u := by grind
  have h4 : (E + 2 * u) * u = E * u + 2 * (u * u) := by grind
  rw [h3]
  rw [h4] at h1
  generalize x * u = a at *
  generalize u * u = b at *
  generalize x * x = c at *
  generalize E * u = d at *
  rcases hP with hP | hP <;> grind

/-- the root of a rounded square gives the number back -/
theorem sqrt_square {M q0 : Nat} (h0 : 4503599627370496 ≤ M) (h1 : M < 9007199254740992) (g0 : 600 ≤ q0) (g1 : q0 ≤ 1022) :
    ∃ Y, double.mul (q0 * 4503599627370496 + M) (q0 * 4503599627370496 + M) = some Y ∧ double.sqrt Y = some (q0 * 4503599627370496 + M) ∧ 4503599627370496 ≤ Y ∧ Y < 9218868437227405312 := by
  obtain ⟨a, ha⟩ : ∃ a, a = q0 * 4503599627370496 + M := ⟨_, rfl⟩
  rw [← ha]
  obtain ⟨u, hu⟩ : ∃ u, u = p2 (-1075 + (q0 : Int)) := ⟨_, rfl⟩
  have hu0 : 0 < u := by rw [hu]; exact p2_pos _
  have hu2 : p2 (-1074 + (q0 : Int)) = 2 * u := by rw [hu, ← p2_succ]; congr 1; omega
  have hva : rv a = (M : Rat) * (2 * u) := by rw [ha, rv_mk q0 M (by omega) (.inr h0), hu2]
  obtain ⟨E, hE⟩ : ∃ E, E = 9007199254740992 * u := ⟨_, rfl⟩
  have hE0 : 0 < E := by rw [hE]; grind
  have hEp : E = p2 (-1022 + (q0 : Int)) := by
    obtain ⟨d, hd⟩ : ∃ d : Int, d = -1075 + (q0 : Int) := ⟨_, rfl⟩
    rw [hE, hu, show (-1022 + (q0 : Int)) = ((53 : Nat) : Int) + d by omega, ← hd, p2_add ((53 : Nat) : Int) d, p2_nat 53, show (2 : Nat) ^ 53 = 9007199254740992 from by decide]
    norm_cast
  obtain ⟨r1, r2⟩ := read_norm (c := a) (by omega) (by omega)
  obtain ⟨m, hm⟩ : ∃ m, m = 4503599627370496 + a % 4503599627370496 := ⟨_, rfl⟩
  obtain ⟨e, he⟩ : ∃ e : Int, e = -1074 + ((a / 4503599627370496 - 1 : Nat) : Int) := ⟨_, rfl⟩
  rw [← hm, ← he] at r1 r2
  have hm0 : m ≠ 0 := by omega
  obtain ⟨x, hx⟩ : ∃ x, x = rv a := ⟨_, rfl⟩
  have hx2 : x = (M : Rat) * (2 * u) := by rw [hx, hva]
  have hxE : E ≤ x := by
    have : ((4503599627370496 : Nat) : Rat) ≤ (M : Rat) := by exact_mod_cast h0
    have h3 := Rat.mul_le_mul_of_nonneg_right this (show (0 : Rat) ≤ 2 * u by grind)
    rw [← hx2] at h3
    have h4 : ((4503599627370496 : Nat) : Rat) = 4503599627370496 := by norm_cast
    rw [h4] at h3
    grind
  have hxu : x < 2 * E := by
    have : (M : Rat) < ((9007199254740992 : Nat) : Rat) := by exact_mod_cast h1
    have h3 := Rat.mul_lt_mul_of_pos_right this (show (0 : Rat) < 2 * u by grind)
    rw [← hx2] at h3
    have h4 : ((9007199254740992 : Nat) : Rat) = 9007199254740992 := by norm_cast
    rw [h4] at h3
    grind
  have hxx1 : E * E ≤ x * x := by
    have h3 := Rat.mul_le_mul_of_nonneg_right hxE (show (0 : Rat) ≤ x by grind)
    have h4 := Rat.mul_le_mul_of_nonneg_right hxE (Rat.le_of_lt hE0)
    grind
  have hxx4 : x * x < 4 * (E * E) := by
    have h3 := Rat.mul_lt_mul_of_pos_right hxu (show (0 : Rat) < x by grind)
    have h4 := Rat.mul_lt_mul_of_pos_right hxu hE0
    grind
  have hmm : ((m * m : Nat) : Rat) * p2 (e + e) = x * x := by
    rw [hx, r2, rsq_mul, p2_add, Rat.natCast_mul]
  have hmm0 : m * m ≠ 0 := Nat.mul_ne_zero hm0 hm0
  obtain ⟨q, k, hr, hk2, hk1, key1, key2, _, hlow, hhigh⟩ := rho_form (m * m) (e + e) hmm0
  rw [hmm] at key1 key2 hlow hhigh
  obtain ⟨P, hP⟩ : ∃ P, P = p2 (-1074 + (q : Int)) := ⟨_, rfl⟩
  have hPp : 0 < P := by rw [hP]; exact p2_pos _
  rw [← hP] at key1 key2 hlow hhigh
  -- E u in powers
  have hEE : E * E = 9007199254740992 * (E * u) := by
    have : E * E = E * (9007199254740992 * u) := by rw [← hE]
    rw [this]; grind
  have hEu : E * u = p2 (-2097 + 2 * (q0 : Int)) := by rw [hEp, hu, ← p2_add]; congr 1; omega
  have hEu0 : 0 < E * u := Rat.mul_pos hE0 hu0
  have hEu2 : p2 (-2096 + 2 * (q0 : Int)) = 2 * (E * u) := by rw [hEu, ← p2_succ]; congr 1; omega
  have hEu4 : p2 (-2095 + 2 * (q0 : Int)) = 4 * (E * u) := by rw [show (-2095 + 2 * (q0 : Int)) = -2096 + 2 * (q0 : Int) + 1 by omega, p2_succ, hEu2]; grind
  have hEu8 : p2 (-2094 + 2 * (q0 : Int)) = 8 * (E * u) := by rw [show (-2094 + 2 * (q0 : Int)) = -2095 + 2 * (q0 : Int) + 1 by omega, p2_succ, hEu4]; grind
  rw [hEE] at hxx1 hxx4
  have hq1 : 2 * q0 ≤ q + 1022 := by
    by_cases c : 2 * q0 ≤ q + 1022
    · exact c
    · exfalso
      have : P ≤ E * u := by rw [hP, hEu]; exact p2_le (by omega)
      grind
  have hq2 : q + 1022 ≤ 2 * q0 + 1 := by
    by_cases c : q + 1022 ≤ 2 * q0 + 1
    · exact c
    · exfalso
      have h3 := hlow (by omega)
      have h4 : p2 (-2094 + 2 * (q0 : Int)) ≤ P := by rw [hP]; exact p2_le (by omega)
      rw [hEu8] at h4
      grind
  have hPu : P = 2 * (E * u) ∨ P = 4 * (E * u) := by
    rcases (show q + 1022 = 2 * q0 ∨ q + 1022 = 2 * q0 + 1 by omega) with h | h
    · exact .inl (by rw [hP, ← hEu2]; congr 1; omega)
    · exact .inr (by rw [hP, ← hEu4]; congr 1; omega)
  obtain ⟨Y, hY⟩ : ∃ Y, Y = rho (m * m) (e + e) := ⟨_, rfl⟩
  have hYv : rv Y = (k : Rat) * P := by rw [hY, hr, rv_mk q k hk2 hk1, hP]
  have hY0 : (q + 1) * 4503599627370496 ≤ Y := by rw [hY, hr]; omega
  have hY1 : Y ≤ (q + 2) * 4503599627370496 := by rw [hY, hr]; omega
  obtain ⟨s1, s2⟩ := read_norm (c := Y) (by omega) (by omega)
  obtain ⟨w, f, t1, t2, t3, t4, t5, t6⟩ := root_num (m := 4503599627370496 + Y % 4503599627370496) (i := -1074 + ((Y / 4503599627370496 - 1 : Nat) : Int)) (by omega) (by omega)
  rw [← s2] at t4 t5 t6
  have hf : f ≤ -1075 + (q0 : Int) := by omega
  have hH : ∀ j : Nat, ((j * 2 ^ (-1075 + (q0 : Int) - f).toNat : Nat) : Rat) * p2 f = (j : Rat) * u := by
    intro j
    rw [Rat.natCast_mul, ← p2_nat, Rat.mul_assoc, ← p2_add, hu]
    congr 2
    omega
  have hrho : rho w (f - 1) = a := by
    by_cases hM : M = 4503599627370496
    · have hxE2 : x = E := by rw [hx2, hM, hE]; have h4 : ((4503599627370496 : Nat) : Rat) = 4503599627370496 := by norm_cast
                              rw [h4]; grind
      have hex : rv Y = x * x := by
        have h5 : E * E = rv ((2 * q0 - 1022) * 4503599627370496 + 4503599627370496) := by
          rw [rv_mk _ _ (by decide) (.inr (by decide)), show (-1074 + ((2 * q0 - 1022 : Nat) : Int)) = -2096 + 2 * (q0 : Int) by omega, hEu2, hEE]
          have h4 : ((4503599627370496 : Nat) : Rat) = 4503599627370496 := by norm_cast
          rw [h4]; grind
        rw [hY, hxE2]
        rw [hxE2] at hmm
        rw [rho_exact hmm0 (hmm.trans h5), ← h5]
      have h6 := t6 ((2 * M) * 2 ^ (-1075 + (q0 : Int) - f).toNat) (by
        rw [hH]
        have : ((2 * M : Nat) : Rat) * u = x := by rw [hx2, Rat.natCast_mul]; have e1 : ((2 : Nat) : Rat) = 2 := rfl; rw [e1]; grind
        rw [this, hex])
      rw [hH] at h6
      refine rho_exact t2 ?_
      rw [← h6, ← hx, hx2, Rat.natCast_mul]
      have e1 : ((2 : Nat) : Rat) = 2 := rfl
      rw [e1]; grind
    · have hxl : E + 2 * u ≤ x := by
        have : ((4503599627370496 + 1 : Nat) : Rat) ≤ (M : Rat) := by exact_mod_cast (show 4503599627370496 + 1 ≤ M by omega)
        have h3 := Rat.mul_le_mul_of_nonneg_right this (show (0 : Rat) ≤ 2 * u by grind)
        rw [← hx2] at h3
        have h4 : ((4503599627370496 + 1 : Nat) : Rat) = 4503599627370496 + 1 := by norm_cast
        rw [h4] at h3
        grind
      have b1 := ra1 hE0 hu0 hPu hxl (y := rv Y) (by rw [hYv]; exact key1)
      have b2 := ra2 hE0 hu0 hPu hxl (y := rv Y) (by rw [hYv]; exact key2)
      have y1 : ((2 * M + 1 : Nat) : Rat) * u = x + u := by rw [hx2, Rat.natCast_add, Rat.natCast_mul]; have e1 : ((2 : Nat) : Rat) = 2 := rfl; have e2 : ((1 : Nat) : Rat) = 1 := rfl; rw [e1, e2]; grind
      have y2 : ((2 * M - 1 : Nat) : Rat) * u = x - u := by
        have e3 : ((2 * M - 1 : Nat) : Rat) + 1 = ((2 * M : Nat) : Rat) := by exact_mod_cast (show 2 * M - 1 + 1 = 2 * M by omega)
        rw [Rat.natCast_mul] at e3
        have e1 : ((2 : Nat) : Rat) = 2 := rfl
        rw [e1] at e3
        rw [hx2]; grind
      have z1 := t4 ((2 * M + 1) * 2 ^ (-1075 + (q0 : Int) - f).toNat) (by rw [hH, y1]; exact b1)
      have z2 := t5 ((2 * M - 1) * 2 ^ (-1075 + (q0 : Int) - f).toNat) (by rw [hH, y2]; exact b2)
      rw [hH, y1] at z1
      rw [hH, y2] at z2
      have n1 : rv (a - 1) = x - 2 * u := by
        have h3 := rv_succ q0 (M - 1) (by omega) (.inr (by omega))
        rw [show q0 * 4503599627370496 + (M - 1) + 1 = a by omega, show q0 * 4503599627370496 + (M - 1) = a - 1 by omega, hu2, ← hx] at h3
        grind
      have n2 : rv (a + 1) = x + 2 * u := by
        have h3 := rv_succ q0 M (by omega) (.inr (by omega))
        rw [← ha, hu2, ← hx] at h3
        exact h3
      have hmid : Mid a ((w : Rat) * p2 (f - 1)) := Mid.of_lt (by rw [n1, ← hx]; grind) (by rw [n2, ← hx]; grind)
      exact (rho_mid t2).unique hmid
  refine ⟨Y, ?_, ?_, by omega, by omega⟩
  · unfold Format.mul
    rw [r1]
    simp only [Datum.product, Option.map_some, Format.write, bne_self_eq_false]
    rw [nearest_rho _ _ _ hmm0, word_false, ← hY]
    congr 1
    omega
  · unfold Format.sqrt
    rw [s1, t1]
    simp only [Option.map_some, Format.write]
    rw [nearest_rho _ _ _ t2, word_false, hrho]
    congr 1
    omega
end Go.Proofs.YtmmligbkecilfaaGreatDoor.Lv
namespace Go.Proofs.YtmmligbkecilfaaGreatDoor.Lv
open Ieee

/-- the word of a sign and a rung -/
abbrev wd (s : Bool) (r : Nat) : Nat := if s then 9223372036854775808 + r else r
theorem word_wd (s : Bool) (r : Nat) : double.word s r = wd s r := by cases s <;> simp [wd, word_false, word_true]
/-- a rung's digits and its place -/
def mg (r : Nat) : Nat := if r < 4503599627370496 then r else 4503599627370496 + r % 4503599627370496
def pl (r : Nat) : Int := if r < 4503599627370496 then -1074 else -1074 + ((r / 4503599627370496 - 1 : Nat) : Int)
theorem mg_pl (r : Nat) : (mg r : Rat) * p2 (pl r) = rv r := by
  unfold mg pl rv
  by_cases h : r < 4503599627370496
  · rw [if_pos h, if_pos h, if_pos h]
  · rw [if_neg h, if_neg h, if_neg h]
theorem mg_ne {r : Nat} (h : r ≠ 0) : mg r ≠ 0 := by unfold mg; split <;> omega
theorem mg_zero : mg 0 = 0 := rfl
theorem read_wd (s : Bool) {r : Nat} (h : r < 9218868437227405312) : double.read (wd s r) = .number s (mg r) (pl r) := by
  have hs : (wd s r / 9223372036854775808 % 2 == 1) = s := by
    cases s with
    | false =>
      have : r / 9223372036854775808 % 2 = 0 := by omega
      simp [wd, this]
    | true =>
      have : (9223372036854775808 + r) / 9223372036854775808 % 2 = 1 := by omega
      show ((9223372036854775808 + r) / 9223372036854775808 % 2 == 1) = true
      rw [this]; rfl
  have hr : wd s r % 9223372036854775808 = r := by
    cases s with
    | false => simp only [wd, Bool.false_eq_true, if_false]; omega
    | true => simp only [wd, if_true]; omega
  unfold Format.read
  simp only [sw, bn, ir, lp, hs, hr]
  unfold mg pl
  by_cases h1 : r < 4503599627370496
  · rw [if_pos h1, if_pos h1, if_pos h1]
  · rw [if_neg h1, if_neg h1, if_neg h1, if_pos h]
/-- what is a rung's is written as that rung -/
theorem nearest_exact (s : Bool) {m r : Nat} {e : Int} (hr : r < 9218868437227405312) (h : (m : Rat) * p2 e = rv r) : double.nearest s m e = wd s r := by
  by_cases hm : m = 0
  · subst hm
    have h0 : rv 0 = rv r := by
      rw [rv_zero, ← h, show ((0 : Nat) : Rat) = 0 from rfl, Rat.zero_mul]
    rw [nearest_zero, word_wd, ← rv_inj h0]
  · rw [nearest_rho _ _ _ hm, rho_exact hm h, word_wd, Nat.min_eq_left (by omega)]
theorem mul_exact (s t : Bool) {x y r : Nat} (hx : x < 9218868437227405312) (hy : y < 9218868437227405312) (hr : r < 9218868437227405312) (h : rv x * rv y = rv r) :
    double.mul (wd s x) (wd t y) = some (wd (s ^^ t) r) := by
  unfold Format.mul
  rw [read_wd s hx, read_wd t hy]
  simp only [Datum.product, Option.map_some, Format.write]
  rw [nearest_exact _ hr]
  rw [← h, ← mg_pl x, ← mg_pl y, p2_add, Rat.natCast_mul]
  grind
theorem div_self (s t : Bool) {x : Nat} (h0 : x ≠ 0) (hx : x < 9218868437227405312) : double.div (wd s x) (wd t x) = some (wd (s ^^ t) 4607182418800017408) := by
  have hm := mg_ne h0
  unfold Format.div
  rw [read_wd s hx, read_wd t hx]
  simp only [Datum.quotient, if_neg hm, Option.map_some, Format.write, fbits]
  rw [show 52 + 2 + (mg x).log2 - (mg x).log2 = 54 by omega, Nat.shiftLeft_eq, Nat.mul_div_cancel_left _ (by omega), Nat.mul_mod_right]
  rw [show pl x - pl x - ((54 : Nat) : Int) - 1 = -55 by omega]
  rw [nearest_exact _ (r := 4607182418800017408) (by decide) (by decide +kernel)]
theorem zero_div (s t : Bool) {x : Nat} (h0 : x ≠ 0) (hx : x < 9218868437227405312) : double.div (wd s 0) (wd t x) = some (wd (s ^^ t) 0) := by
  have hn := mg_ne h0
  unfold Format.div
  rw [read_wd s (by decide), read_wd t hx]
  simp only [Datum.quotient, if_neg hn, Option.map_some, Format.write, fbits, mg_zero]
  rw [nearest_exact _ (r := 0) (by decide)]
  rw [Nat.zero_shiftLeft, Nat.zero_div, Nat.zero_mod]
  simp [rv_zero]
theorem nearest_dv {n : Int} {b : Int} {s : Bool} {r : Nat} (hr : r < 9218868437227405312) (h0 : r ≠ 0) (h : (n : Rat) * p2 b = dv s (mg r) (pl r)) :
    double.nearest (decide (n < 0)) n.natAbs b = wd s r := by
  have hp := mg_pl r
  have hrp : 0 < rv r := by rw [← rv_zero]; exact rv_lt (by omega)
  cases s with
  | false =>
    have h1 : (n : Rat) * p2 b = rv r := by rw [h]; exact hp
    have hn : 0 < n := by
      have h2 : (0 : Rat) * p2 b < (n : Rat) * p2 b := by rw [h1, Rat.zero_mul]; exact hrp
      have h3 := Rat.lt_of_mul_lt_mul_right h2 (Rat.le_of_lt (p2_pos b))
      exact_mod_cast h3
    obtain ⟨k, rfl⟩ := Int.eq_ofNat_of_zero_le (Int.le_of_lt hn)
    rw [decide_eq_false (by omega)]
    exact nearest_exact false hr (by rw [← h1]; rfl)
  | true =>
    have h1 : (n : Rat) * p2 b = -(rv r) := by rw [h]; show -((mg r : Rat) * p2 (pl r)) = _; rw [hp]
    have hn : n < 0 := by
      have h2 : (n : Rat) * p2 b < (0 : Rat) * p2 b := by rw [h1, Rat.zero_mul]; grind
      have h3 := Rat.lt_of_mul_lt_mul_right h2 (Rat.le_of_lt (p2_pos b))
      exact_mod_cast h3
    obtain ⟨k, hk⟩ := Int.eq_ofNat_of_zero_le (show 0 ≤ -n by omega)
    obtain rfl : n = -(k : Int) := by omega
    rw [decide_eq_true (by omega), Int.natAbs_neg, Int.natAbs_natCast]
    refine nearest_exact true hr ?_
    have h4 : ((-(k : Int) : Int) : Rat) = -(k : Rat) := by norm_cast
    rw [h4] at h1
    grind
/-- zero added changes nothing -/
theorem add_zero (s t : Bool) {x : Nat} (h0 : x ≠ 0) (hx : x < 9218868437227405312) : double.add (wd s x) (wd t 0) = some (wd s x) := by
  unfold Format.add
  rw [read_wd s hx, read_wd t (by decide)]
  simp only [Datum.sum, Option.map_some, Format.write]
  have z : signed t (mg 0) (pl 0 - min (pl x) (pl 0)).toNat = 0 := by unfold signed; cases t <;> simp [mg_zero]
  simp only [z, Int.add_zero]
  have hne : signed s (mg x) (pl x - min (pl x) (pl 0)).toNat ≠ 0 := by
    have := mg_ne h0
    have h3 : mg x <<< (pl x - min (pl x) (pl 0)).toNat ≠ 0 := by
      rw [Nat.shiftLeft_eq]; exact Nat.mul_ne_zero this (Nat.ne_of_gt (Nat.two_pow_pos _))
    unfold signed
    split <;> omega
  rw [if_neg hne]
  congr 1
  exact nearest_dv hx h0 (signed_val s (mg x) (pl x) _ (by omega))
theorem zero_add (s t : Bool) {x : Nat} (h0 : x ≠ 0) (hx : x < 9218868437227405312) : double.add (wd t 0) (wd s x) = some (wd s x) := by
  unfold Format.add
  rw [read_wd s hx, read_wd t (by decide)]
  simp only [Datum.sum, Option.map_some, Format.write]
  have z : signed t (mg 0) (pl 0 - min (pl 0) (pl x)).toNat = 0 := by unfold signed; cases t <;> simp [mg_zero]
  simp only [z, Int.zero_add]
  have hne : signed s (mg x) (pl x - min (pl 0) (pl x)).toNat ≠ 0 := by
    have := mg_ne h0
    have h3 : mg x <<< (pl x - min (pl 0) (pl x)).toNat ≠ 0 := by
      rw [Nat.shiftLeft_eq]; exact Nat.mul_ne_zero this (Nat.ne_of_gt (Nat.two_pow_pos _))
    unfold signed
    split <;> omega
  rw [if_neg hne]
  congr 1
  exact nearest_dv hx h0 (signed_val s (mg x) (pl x) _ (by omega))
end Go.Proofs.YtmmligbkecilfaaGreatDoor.Lv
namespace Go.Proofs.YtmmligbkecilfaaGreatDoor
open Lv
open Ieee
theorem p2_52 : p2 (-52) * 4503599627370496 = 1 := by
  have := p2_neg ((52 : Nat) : Int)
  rw [p2_nat, show (2 : Nat) ^ 52 = 4503599627370496 from by decide] at this
  exact_mod_cast this
theorem pw_val {k : Int} (h0 : -1022 ≤ k) (h1 : k ≤ 1023) : rv (pw k) = p2 k ∧ 4503599627370496 ≤ pw k ∧ pw k < 9218868437227405312 := by
  obtain ⟨j, hj⟩ : ∃ j : Nat, k + 1023 = (j : Int) + 1 := ⟨(k + 1022).toNat, by omega⟩
  have e : pw k = j * 4503599627370496 + 4503599627370496 := by unfold pw; rw [hj]; omega
  refine ⟨?_, by omega, by omega⟩
  rw [e, rv_mk j _ (by decide) (.inr (by decide)), show -1074 + (j : Int) = -52 + k by omega, p2_add]
  have := p2_52
  have h4 : ((4503599627370496 : Nat) : Rat) = 4503599627370496 := by norm_cast
  rw [h4]
  grind
theorem norm_form {c : Nat} (h0 : c ≠ 0) (h1 : c < 9218868437227405312) : ∃ M : Nat, 4503599627370496 ≤ M ∧ M < 9007199254740992 ∧ rv c = (M : Rat) * p2 (topP c - 52) ∧ -1074 ≤ topP c ∧ topP c ≤ 1023 ∧ (4503599627370496 ≤ c → topP c = (c / 4503599627370496 : Nat) - 1023) := by
  by_cases h : c < 4503599627370496
  · have l1 := Nat.lt_log2_self (n := c)
    have l0 := Nat.log2_self_le h0
    have l52 : c.log2 < 52 := (Nat.log2_lt h0).2 (by omega)
    obtain ⟨d, hd⟩ : ∃ d, c.log2 + d = 52 := ⟨52 - c.log2, by omega⟩
    obtain ⟨M, hM⟩ : ∃ M, M = c * 2 ^ d := ⟨_, rfl⟩
    have m0 : 4503599627370496 ≤ M := by
      have := Nat.mul_le_mul_right (2 ^ d) l0
      rw [← Nat.pow_add, hd] at this
      rw [hM]; exact this
    have m1 : M < 9007199254740992 := by
      have := Nat.mul_lt_mul_of_pos_right l1 (Nat.two_pow_pos d)
      rw [← Nat.pow_add, show c.log2 + 1 + d = 53 by omega] at this
      rw [hM]; exact this
    have ht : topP c = (c.log2 : Int) - 1074 := by
      unfold topP nx nw
      rw [if_pos h, if_pos h, show 52 - c.log2 = d by omega, ← hM]
      omega
    refine ⟨M, m0, m1, ?_, by omega, by omega, fun h2 => by omega⟩
    rw [ht, hM, Rat.natCast_mul, ← p2_nat, Rat.mul_assoc, ← p2_add]
    unfold rv
    rw [if_pos h]
    congr 2
    omega
  · have ht : topP c = (c / 4503599627370496 : Nat) - 1023 := by
      unfold topP nx nw
      rw [if_neg h, if_neg h]
      omega
    refine ⟨4503599627370496 + c % 4503599627370496, by omega, by omega, ?_, by omega, by omega, fun _ => ht⟩
    unfold rv
    rw [if_neg h, ht]
    congr 2
    omega
theorem topF_wd (s : Bool) {c : Nat} (h0 : c ≠ 0) (h1 : c < 9218868437227405312) : topF (some (wd s c)) = topP c := by
  have hm : wd s c % 9223372036854775808 = c := by
    cases s with
    | false => show c % 9223372036854775808 = c; omega
    | true => show (9223372036854775808 + c) % 9223372036854775808 = c; omega
  have hn : nan (wd s c) = false := by unfold nan; rw [hm]; simp; omega
  show topW (wd s c) = _
  unfold topW kindW
  rw [hn, hm, if_neg (show ¬ (false = true) by decide), if_neg (show ¬ c = 9218868437227405312 by omega), if_neg h0, if_pos rfl]
theorem topF_zero (s : Bool) : topF (some (wd s 0)) = -2000 := by cases s <;> decide
theorem numF_wd (s : Bool) {c : Nat} (h1 : c < 9218868437227405312) : numF (some (wd s c)) = true := by
  have hm : wd s c % 9223372036854775808 = c := by
    cases s with
    | false => show c % 9223372036854775808 = c; omega
    | true => show (9223372036854775808 + c) % 9223372036854775808 = c; omega
  unfold numF
  dsimp only
  rw [hm]
  exact decide_eq_true h1
theorem zeroF_wd (s : Bool) {c : Nat} (h1 : c < 9218868437227405312) : zeroF (some (wd s c)) = decide (c = 0) := by
  have hm : wd s c % 9223372036854775808 = c := by
    cases s with
    | false => show c % 9223372036854775808 = c; omega
    | true => show (9223372036854775808 + c) % 9223372036854775808 = c; omega
  unfold zeroF
  dsimp only
  rw [hm]
theorem fmul_wd (s t : Bool) {x y r : Nat} (hx : x < 9218868437227405312) (hy : y < 9218868437227405312) (hr : r < 9218868437227405312) (h : rv x * rv y = rv r) : fmul (some (wd s x)) (some (wd t y)) = some (wd (s ^^ t) r) := mul_exact s t hx hy hr h
theorem mul_self (s : Bool) {x : Nat} (hx : x < 9218868437227405312) : double.mul (wd s x) (wd s x) = double.mul x x := by
  unfold Format.mul
  rw [read_wd s hx]
  have := read_wd false hx
  rw [show wd false x = x from rfl] at this
  rw [this]
  simp [Datum.product]
/-- what a number is scaled to -/
theorem scaled {c : Nat} (h0 : c ≠ 0) (h1 : c < 9218868437227405312) (ht : topP c ≤ 1000) :
    ∃ (k : Int) (c' : Nat), k = max (-1000) (topP c) ∧ c' ≠ 0 ∧ c' < 9218868437227405312 ∧ (∀ s, fmul (some (wd s c)) (some (pw (-k))) = some (wd s c')) ∧ (∀ s, fmul (some (wd s c')) (some (pw k)) = some (wd s c)) ∧
      (∀ s, fmul (some (wd s 0)) (some (pw (-k))) = some (wd s 0)) ∧ ∃ Y, (∀ s, fmul (some (wd s c')) (some (wd s c')) = some Y) ∧ fsqrt (some Y) = some c' ∧ Y ≠ 0 ∧ Y < 9218868437227405312 := by
  obtain ⟨M, m0, m1, hv, t0, t1, _⟩ := norm_form h0 h1
  obtain ⟨k, hk⟩ : ∃ k, k = max (-1000) (topP c) := ⟨_, rfl⟩
  obtain ⟨q0, hq⟩ : ∃ q0 : Nat, (q0 : Int) = topP c - k + 1022 := ⟨(topP c - k + 1022).toNat, by omega⟩
  have hq0 : 600 ≤ q0 := by omega
  have hq1 : q0 ≤ 1022 := by omega
  obtain ⟨Y, y1, y2, y3, y4⟩ := sqrt_square m0 m1 hq0 hq1
  obtain ⟨p1, p2', p3⟩ := pw_val (k := -k) (by omega) (by omega)
  obtain ⟨r1, r2, r3⟩ := pw_val (k := k) (by omega) (by omega)
  have hc' : q0 * 4503599627370496 + M < 9218868437227405312 := by omega
  have hv' : rv (q0 * 4503599627370496 + M) = (M : Rat) * p2 (topP c - 52 - k) := by
    rw [rv_mk q0 M (by omega) (.inr m0)]
    congr 2
    omega
  refine ⟨k, q0 * 4503599627370496 + M, hk, by omega, hc', fun s => ?_, fun s => ?_, fun s => ?_, Y, fun s => ?_, y2, by omega, y4⟩
  · have := fmul_wd s false h1 p3 hc' (by rw [hv, hv', p1, Rat.mul_assoc, ← p2_add]; rfl)
    rw [Bool.xor_false] at this
    exact this
  · have := fmul_wd s false hc' r3 h1 (by rw [hv, hv', r1, Rat.mul_assoc, ← p2_add]; congr 2; omega)
    rw [Bool.xor_false] at this
    exact this
  · have := fmul_wd s false (x := 0) (by decide) p3 (r := 0) (by decide) (by rw [rv_zero, Rat.zero_mul])
    rw [Bool.xor_false] at this
    exact this
  · exact (mul_self s hc').trans y1
theorem zero_sq (t : Bool) : fmul (some (wd t 0)) (some (wd t 0)) = some 0 := by cases t <;> decide +kernel

/-- a rotation against zero -/
theorem of_zero (s t : Bool) {c : Nat} (h0 : c ≠ 0) (h1 : c < 9218868437227405312) (ht : topP c ≤ 1000) :
    ofF (some (wd s c)) (some (wd t 0)) = some (some (wd s 4607182418800017408), some (wd t 0), some c) := by
  obtain ⟨k, c', hk, n0, n1, e1, e2, e3, Y, e4, e5, y0, y1⟩ := scaled h0 h1 ht
  obtain ⟨M, m0, m1, hv, t0, t1, _⟩ := norm_form h0 h1
  have hK : ofK (some (wd s c)) (some (wd t 0)) = k := by unfold ofK; rw [topF_wd s h0 h1, topF_zero]; omega
  have hH : ofH (some (wd s c)) (some (wd t 0)) = some c' := by
    unfold ofH
    rw [hK, e1, e3, e4, zero_sq]
    have : fadd (some Y) (some 0) = some Y := add_zero false false y0 y1
    rw [this, e5]
  have hR : ofR (some (wd s c)) (some (wd t 0)) = some c := by unfold ofR; rw [hH, hK]; exact e2 false
  unfold ofF
  rw [numF_wd s h1, numF_wd t (by decide), zeroF_wd s h1, zeroF_wd t (by decide), hR, hH, hK, e1, e3, decide_eq_false h0, Bool.true_and, if_neg (by decide), Bool.false_and, if_neg (by decide), if_neg (by rw [show (some c : Option Nat) = some (wd false c) from rfl, numF_wd false h1]; decide)]
  have d1 := div_self s false n0 n1
  have d2 := zero_div t false n0 n1
  rw [Bool.xor_false] at d1 d2
  rw [show fdiv (some (wd s c')) (some c') = some (wd s 4607182418800017408) from d1, show fdiv (some (wd t 0)) (some c') = some (wd t 0) from d2]
theorem of_zero' (s t : Bool) {c : Nat} (h0 : c ≠ 0) (h1 : c < 9218868437227405312) (ht : topP c ≤ 1000) :
    ofF (some (wd t 0)) (some (wd s c)) = some (some (wd t 0), some (wd s 4607182418800017408), some c) := by
  obtain ⟨k, c', hk, n0, n1, e1, e2, e3, Y, e4, e5, y0, y1⟩ := scaled h0 h1 ht
  obtain ⟨M, m0, m1, hv, t0, t1, _⟩ := norm_form h0 h1
  have hK : ofK (some (wd t 0)) (some (wd s c)) = k := by unfold ofK; rw [topF_wd s h0 h1, topF_zero]; omega
  have hH : ofH (some (wd t 0)) (some (wd s c)) = some c' := by
    unfold ofH
    rw [hK, e1, e3, e4, zero_sq]
    have : fadd (some 0) (some Y) = some Y := zero_add false false y0 y1
    rw [this, e5]
  have hR : ofR (some (wd t 0)) (some (wd s c)) = some c := by unfold ofR; rw [hH, hK]; exact e2 false
  unfold ofF
  rw [numF_wd s h1, numF_wd t (by decide), zeroF_wd s h1, zeroF_wd t (by decide), hR, hH, hK, e1, e3, decide_eq_false h0, Bool.and_true, if_neg (by decide), Bool.and_false, if_neg (by decide), if_neg (by rw [show (some c : Option Nat) = some (wd false c) from rfl, numF_wd false h1]; decide)]
  have d1 := div_self s false n0 n1
  have d2 := zero_div t false n0 n1
  rw [Bool.xor_false] at d1 d2
  rw [show fdiv (some (wd s c')) (some c') = some (wd s 4607182418800017408) from d1, show fdiv (some (wd t 0)) (some c') = some (wd t 0) from d2]
end Go.Proofs.YtmmligbkecilfaaGreatDoor
