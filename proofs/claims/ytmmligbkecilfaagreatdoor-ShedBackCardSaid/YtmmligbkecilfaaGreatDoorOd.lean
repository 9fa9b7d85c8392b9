/- The operations rounded, by midpoints; the root keeps the order; what a rotation leaves on the diagonal is no less than either of its two numbers. A rotation's parts, rounded one by one; what it leaves on the diagonal is no less than either of its two numbers. -/
import Derived.Test.YtmmligbkecilfaaGreatDoorOb
namespace Go.Proofs.YtmmligbkecilfaaGreatDoor
open Lv
open Ieee

theorem nearest_mid (m : Nat) (e : Int) : ∃ ρ, Mid ρ ((m : Rat) * p2 e) ∧ ∀ s, double.nearest s m e = wd s (min ρ 9218868437227405312) := by
  by_cases hm : m = 0
  · subst hm
    refine ⟨0, ?_, fun s => by rw [nearest_zero, word_wd]; rfl⟩
    have : ((0 : Nat) : Rat) * p2 e = rv 0 := by rw [rv_zero, show ((0 : Nat) : Rat) = 0 from rfl, Rat.zero_mul]
    rw [this]
    exact Mid.exact
  · exact ⟨rho m e, rho_mid hm, fun s => by rw [nearest_rho _ _ _ hm, word_wd]⟩
theorem mul_mid {x y : Nat} (hx : x < 9218868437227405312) (hy : y < 9218868437227405312) : ∃ ρ, Mid ρ (rv x * rv y) ∧ ∀ s t, double.mul (wd s x) (wd t y) = some (wd (s ^^ t) (min ρ 9218868437227405312)) := by
  obtain ⟨ρ, h1, h2⟩ := nearest_mid (mg x * mg y) (pl x + pl y)
  refine ⟨ρ, ?_, fun s t => ?_⟩
  · have : ((mg x * mg y : Nat) : Rat) * p2 (pl x + pl y) = rv x * rv y := by
      rw [← mg_pl x, ← mg_pl y, p2_add, Rat.natCast_mul]
      grind
    rw [← this]
    exact h1
  · unfold Format.mul
    rw [read_wd s hx, read_wd t hy]
    simp only [Datum.product, Option.map_some, Format.write]
    rw [h2]
/-- a sum, rounded: its sign, and the rung that is nearest to its size -/
theorem add_gen (s t : Bool) {x y : Nat} (hx : x < 9218868437227405312) (hy : y < 9218868437227405312) : ∃ (u : Bool) (ρ : Nat) (z : Rat), 0 ≤ z ∧ Mid ρ z ∧ (if u then -z else z) = vz s x + vz t y ∧ (s = false → t = false → u = false) ∧
    double.add (wd s x) (wd t y) = some (wd u (min ρ 9218868437227405312)) := by
  obtain ⟨b, hb⟩ : ∃ b, b = min (pl x) (pl y) := ⟨_, rfl⟩
  obtain ⟨n, hn⟩ : ∃ n : Int, n = signed s (mg x) (pl x - b).toNat + signed t (mg y) (pl y - b).toNat := ⟨_, rfl⟩
  have hv : (n : Rat) * p2 b = vz s x + vz t y := by
    have k1 := signed_val s (mg x) (pl x) b (by omega)
    have k2 := signed_val t (mg y) (pl y) b (by omega)
    have d : ∀ (s : Bool) (x : Nat), dv s (mg x) (pl x) = vz s x := fun s x => by unfold dv vz; rw [mg_pl]
    rw [d] at k1 k2
    rw [hn, Rat.intCast_add, Rat.add_mul, k1, k2]
  obtain ⟨ρ, h1, h2⟩ := nearest_mid n.natAbs b
  refine ⟨if n = 0 then s && t else decide (n < 0), ρ, (n.natAbs : Rat) * p2 b, ?_, h1, ?_, ?_, ?_⟩
  · exact Rat.mul_nonneg (by exact_mod_cast Nat.zero_le _) (Rat.le_of_lt (p2_pos b))
  · rw [← hv]
    by_cases c : n = 0
    · subst c
      rw [if_pos rfl]
      have : (((0 : Int).natAbs : Nat) : Rat) = 0 := rfl
      rw [this]
      have : (((0 : Int)) : Rat) = 0 := rfl
      rw [this, Rat.zero_mul]
      split <;> simp
    · rw [if_neg c]
      by_cases c2 : n < 0
      · rw [decide_eq_true c2, if_pos rfl]
        obtain ⟨k, hk⟩ := Int.eq_ofNat_of_zero_le (show 0 ≤ -n by omega)
        obtain rfl : n = -(k : Int) := by omega
        rw [Int.natAbs_neg, Int.natAbs_natCast]
        have h4 : ((-(k : Int) : Int) : Rat) = -(k : Rat) := by norm_cast
        rw [h4]
        grind
      · rw [decide_eq_false c2, if_neg (by decide)]
        obtain ⟨k, rfl⟩ := Int.eq_ofNat_of_zero_le (show 0 ≤ n by omega)
        rw [Int.natAbs_natCast]
        rfl
  · rintro rfl rfl
    have : 0 ≤ n := by
      rw [hn]
      exact Int.add_nonneg (Int.natCast_nonneg (mg x <<< (pl x - b).toNat)) (Int.natCast_nonneg (mg y <<< (pl y - b).toNat))
    split
    · rfl
    · exact decide_eq_false (by omega)
  · unfold Format.add
    rw [read_wd s hx, read_wd t hy]
    simp only [Datum.sum, Option.map_some, Format.write]
    rw [← hb, ← hn, h2]
theorem add_mid {x y : Nat} (hx : x < 9218868437227405312) (hy : y < 9218868437227405312) : ∃ ρ, Mid ρ (rv x + rv y) ∧ double.add x y = some (min ρ 9218868437227405312) := by
  obtain ⟨u, ρ, z, h0, h1, h2, h3, h4⟩ := add_gen false false hx hy
  obtain rfl := h3 rfl rfl
  have : z = rv x + rv y := h2
  subst this
  exact ⟨ρ, h1, h4⟩

/-! ### the root -/
structure SMid (r : Nat) (X : Rat) : Prop where
  lo : 0 < r → (rv (r - 1) + rv r) * (rv (r - 1) + rv r) ≤ 4 * X ∧ ((rv (r - 1) + rv r) * (rv (r - 1) + rv r) = 4 * X → r % 2 = 0)
  hi : 4 * X ≤ (rv r + rv (r + 1)) * (rv r + rv (r + 1)) ∧ (4 * X = (rv r + rv (r + 1)) * (rv r + rv (r + 1)) → r % 2 = 0)
theorem rsq_le {a b : Rat} (ha : 0 ≤ a) (h : a ≤ b) : a * a ≤ b * b := by
  have h1 := Rat.mul_le_mul_of_nonneg_right h ha
  have h2 := Rat.mul_le_mul_of_nonneg_left h (show 0 ≤ b by grind)
  grind
theorem rsq_lt {a b : Rat} (ha : 0 ≤ a) (h : a < b) : a * a < b * b := by
  have h1 := Rat.mul_le_mul_of_nonneg_right (Rat.le_of_lt h) ha
  have h2 := Rat.mul_lt_mul_of_pos_left h (show 0 < b by grind)
  grind
theorem SMid.mono {r s : Nat} {X Y : Rat} (h : SMid r X) (k : SMid s Y) (hxy : X ≤ Y) : r ≤ s := by
  by_cases c : r ≤ s
  · exact c
  · exfalso
    obtain ⟨l1, l2⟩ := h.lo (by omega)
    obtain ⟨u1, u2⟩ := k.hi
    have a1 : rv s ≤ rv (r - 1) := rv_le (by omega)
    have a2 : rv (s + 1) ≤ rv r := rv_le (by omega)
    have p0 := rv_nonneg s
    have p1 := rv_nonneg (s + 1)
    generalize rv (r - 1) = A at *
    have hs : rv s + rv (s + 1) ≤ A + rv r := by grind
    have hq := rsq_le (show 0 ≤ rv s + rv (s + 1) by grind) hs
    have hlt : ¬ rv s + rv (s + 1) < A + rv r := fun c => by
      have := rsq_lt (show 0 ≤ rv s + rv (s + 1) by grind) c
      grind
    have e2 : rv (s + 1) = rv r := by grind
    have e1 : rv s = A := by grind
    have i1 := rv_inj e2
    have q1 := l2 (by rw [← e1, ← e2] at *; grind)
    have q2 := u2 (by rw [e1, e2] at *; grind)
    omega
theorem root_gen {m : Nat} {i : Int} (hm : m ≠ 0) (h1 : m < 9007199254740992) :
    ∃ (w : Nat) (e : Int), (Datum.number false m i).root (double.fractionBits + 2) = some (.number false w (e - 1)) ∧ w ≠ 0 ∧ 2 * e + 108 ≤ i + (m.log2 : Int) ∧ i + (m.log2 : Int) ≤ 2 * e + 109 ∧
      (∀ H : Nat, (m : Rat) * p2 i < ((H : Rat) * p2 e) * ((H : Rat) * p2 e) → (w : Rat) * p2 (e - 1) < (H : Rat) * p2 e) ∧
      (∀ H : Nat, ((H : Rat) * p2 e) * ((H : Rat) * p2 e) < (m : Rat) * p2 i → (H : Rat) * p2 e < (w : Rat) * p2 (e - 1)) ∧
      (∀ H : Nat, ((H : Rat) * p2 e) * ((H : Rat) * p2 e) = (m : Rat) * p2 i → (H : Rat) * p2 e = (w : Rat) * p2 (e - 1)) := by
  have hl : m.log2 ≤ 52 := by
    have := (Nat.log2_lt hm).2 (show m < 2 ^ 53 by omega)
    omega
  obtain ⟨l, hll⟩ : ∃ l, l = m.log2 := ⟨_, rfl⟩
  obtain ⟨t, ht, hte⟩ : ∃ t : Nat, t = 108 - l + ((i - ((108 - l : Nat) : Int)) % 2).toNat ∧ (t = 108 - l ∨ t = 109 - l) := ⟨_, rfl, by omega⟩
  obtain ⟨e, he⟩ : ∃ e : Int, i - (t : Int) = 2 * e := ⟨(i - (t : Int)) / 2, by omega⟩
  obtain ⟨n, hn⟩ : ∃ n, n = m <<< t := ⟨_, rfl⟩
  obtain ⟨k1, k2⟩ := whole_root n
  obtain ⟨v, hv⟩ : ∃ v, v = Datum.rootFrom n (n.log2 / 2 + 1) 0 := ⟨_, rfl⟩
  rw [← hv] at k1 k2
  obtain ⟨st, hst⟩ : ∃ st, st = (v * v != n).toNat := ⟨_, rfl⟩
  have hnv : (m : Rat) * p2 i = (n : Rat) * p2 (2 * e) := by
    rw [hn, Nat.shiftLeft_eq, Rat.natCast_mul, ← p2_nat, Rat.mul_assoc, ← p2_add]
    congr 2; omega
  have hsq : ∀ H : Nat, ((H : Rat) * p2 e) * ((H : Rat) * p2 e) = ((H * H : Nat) : Rat) * p2 (2 * e) := by
    intro H
    rw [rsq_mul, ← p2_add, Rat.natCast_mul]
    congr 2; omega
  have hz : ∀ a : Nat, (a : Rat) * p2 e = ((2 * a : Nat) : Rat) * p2 (e - 1) := by
    intro a
    have := p2_succ (e - 1)
    rw [show e - 1 + 1 = e by omega] at this
    rw [this, Rat.natCast_mul, show ((2 : Nat) : Rat) = 2 from rfl]
    grind
  refine ⟨2 * v + st, e, ?_, ?_, by omega, by omega, fun H h => ?_, fun H h => ?_, fun H h => ?_⟩
  · simp only [Datum.root, if_neg hm, fbits, Bool.false_eq_true, if_false]
    rw [show 2 * (52 + 2) = 108 from rfl, ← hll, ← ht, ← hn, ← hv, ← hst]
    congr 2
    omega
  · intro c
    have : v = 0 := by omega
    subst this
    have hn1 : 0 < n := by
      rw [hn, Nat.shiftLeft_eq]
      exact Nat.mul_pos (by omega) (Nat.two_pow_pos t)
    have : (0 * 0 != n) = true := by simp; omega
    rw [this] at hst
    simp at hst
    omega
  · rw [hnv, hsq H] at h
    have h3 : (n : Rat) < ((H * H : Nat) : Rat) := Rat.lt_of_mul_lt_mul_right h (Rat.le_of_lt (p2_pos _))
    have h4 : n < H * H := by exact_mod_cast h3
    have h5 := root_above k1 hst h4
    rw [hz H]
    exact Rat.mul_lt_mul_of_pos_right (by exact_mod_cast h5) (p2_pos _)
  · rw [hnv, hsq H] at h
    have h3 : ((H * H : Nat) : Rat) < (n : Rat) := Rat.lt_of_mul_lt_mul_right h (Rat.le_of_lt (p2_pos _))
    have h4 : H * H < n := by exact_mod_cast h3
    have h5 := root_below k2 hst h4
    rw [hz H]
    exact Rat.mul_lt_mul_of_pos_right (by exact_mod_cast h5) (p2_pos _)
  · rw [hnv, hsq H] at h
    have h3 : ((H * H : Nat) : Rat) = (n : Rat) := rmul_cancel h (p2_pos _)
    have h4 : H * H = n := by exact_mod_cast h3
    have h6 : H = v := by
      by_cases c1 : H < v
      · have := Nat.mul_le_mul (show H + 1 ≤ v by omega) (show H + 1 ≤ v by omega)
        have h7 : (H + 1) * (H + 1) = H * H + 2 * H + 1 := by rw [Nat.add_mul, Nat.mul_add]; omega
        omega
      · by_cases c2 : v < H
        · have := Nat.mul_le_mul (show v + 1 ≤ H by omega) (show v + 1 ≤ H by omega)
          omega
        · omega
    have h5 : st = 0 := by
      rw [hst, ← h6, h4]
      simp
    rw [h6, hz v, h5]
    simp
theorem rung_grid {s : Nat} {j : Int} (hj : -1000 ≤ j) (h : pw j ≤ s + 1) : ∃ N : Nat, rv s = (N : Rat) * p2 (j - 53) := by
  obtain ⟨q, k, rfl, hk, hq⟩ := rung_form s
  have hp : (pw j : Int) = (j + 1023) * 4503599627370496 := by unfold pw; omega
  have hqj : j + 1021 ≤ (q : Int) := by omega
  obtain ⟨d, hd⟩ := Int.eq_ofNat_of_zero_le (show 0 ≤ (q : Int) - (j + 1021) by omega)
  refine ⟨k * 2 ^ d, ?_⟩
  rw [rv_mk q k (by omega) hq, Rat.natCast_mul, ← p2_nat, Rat.mul_assoc, ← p2_add]
  congr 2
  omega
theorem sqrt_smid {x : Nat} (h0 : x ≠ 0) (hx : x < 9218868437227405312) : ∃ r, double.sqrt x = some r ∧ r < 9218868437227405312 ∧ SMid r (rv x) := by
  have hm := mg_ne h0
  have hm2 : mg x < 9007199254740992 := by unfold mg; split <;> omega
  have hp := mg_pl x
  have hpl : -1074 ≤ pl x ∧ pl x ≤ 971 := by unfold pl; split <;> omega
  obtain ⟨w, e, k1, k2, k3, k3', k4, k5, k6⟩ := root_gen (i := pl x) hm hm2
  rw [hp] at k4 k5 k6
  have hl1 := (Nat.log2_lt hm).2 (show mg x < 2 ^ 53 by omega)
  have hge : ∀ H : Nat, ((H : Rat) * p2 e) * ((H : Rat) * p2 e) ≤ rv x → (H : Rat) * p2 e ≤ (w : Rat) * p2 (e - 1) := by
    intro H h
    by_cases c : ((H : Rat) * p2 e) * ((H : Rat) * p2 e) = rv x
    · rw [k6 H c]; exact Rat.le_refl
    · exact Rat.le_of_lt (k5 H (by grind))
  have hge' : ∀ H : Nat, (H : Rat) * p2 e ≤ (w : Rat) * p2 (e - 1) → ((H : Rat) * p2 e) * ((H : Rat) * p2 e) ≤ rv x := by
    intro H h
    by_cases c : rv x < ((H : Rat) * p2 e) * ((H : Rat) * p2 e)
    · have := k4 H c; grind
    · grind
  have hle' : ∀ H : Nat, (w : Rat) * p2 (e - 1) ≤ (H : Rat) * p2 e → rv x ≤ ((H : Rat) * p2 e) * ((H : Rat) * p2 e) := by
    intro H h
    by_cases c : ((H : Rat) * p2 e) * ((H : Rat) * p2 e) < rv x
    · have := k5 H c; grind
    · grind
  obtain ⟨j, hj⟩ : ∃ j : Int, j = e + 54 := ⟨_, rfl⟩
  have hj0 : -1000 ≤ j := by omega
  have hj1 : j ≤ 512 := by omega
  obtain ⟨p1, p2', p3⟩ := pw_val (k := j) (by omega) (by omega)
  have hlow : p2 j ≤ (w : Rat) * p2 (e - 1) := by
    have := hge (2 ^ 54) (by
      rw [← p2_nat, ← p2_add, ← p2_add, ← hp]
      have a1 : ((2 ^ (mg x).log2 : Nat) : Rat) ≤ (mg x : Rat) := by exact_mod_cast Nat.log2_self_le hm
      have a2 := Rat.mul_le_mul_of_nonneg_right a1 (Rat.le_of_lt (p2_pos (pl x)))
      rw [← p2_nat, ← p2_add] at a2
      exact rle_trans (p2_le (by omega)) a2)
    rw [← p2_nat, ← p2_add] at this
    rw [hj, Int.add_comm]
    exact this
  have hr1 : pw j ≤ rho w (e - 1) := le_rho k2 (by rw [p1]; exact hlow)
  obtain ⟨big, hbig⟩ : ∃ big : Int, big = 513 := ⟨_, rfl⟩
  obtain ⟨d, hd⟩ : ∃ d : Nat, (d : Int) + e = big := ⟨(big - e).toNat, by omega⟩
  have hup : (w : Rat) * p2 (e - 1) ≤ p2 big := by
    have := k4 (2 ^ d) (by
      rw [← p2_nat d, ← p2_add, ← p2_add, hd, ← hp]
      have a1 : (mg x : Rat) < ((2 ^ 53 : Nat) : Rat) := by exact_mod_cast hm2
      have a2 := Rat.mul_lt_mul_of_pos_right a1 (p2_pos (pl x))
      rw [← p2_nat, ← p2_add] at a2
      exact rlt_of_lt_of_le a2 (p2_le (by omega)))
    rw [← p2_nat d, ← p2_add, hd] at this
    exact Rat.le_of_lt this
  obtain ⟨q1, q2, q3⟩ := pw_val (k := big) (by omega) (by omega)
  have hr2 : rho w (e - 1) ≤ pw big := rho_le k2 (by rw [q1]; exact hup)
  have hM := rho_mid (e := e - 1) k2
  refine ⟨rho w (e - 1), ?_, by omega, ?_⟩
  · have hrd : double.read x = .number false (mg x) (pl x) := read_wd false hx
    unfold Format.sqrt
    rw [hrd, k1]
    simp only [Option.map_some, Format.write]
    rw [nearest_rho _ _ _ k2, word_false, Nat.min_eq_left (by omega)]
  · generalize rho w (e - 1) = r at *
    have hgrid : ∀ s, pw j ≤ s + 1 → ∃ N : Nat, rv s = (N : Rat) * (2 * p2 e) := by
      intro s hs
      obtain ⟨N, hN⟩ := rung_grid hj0 hs
      refine ⟨N, ?_⟩
      rw [hN, ← p2_succ]
      congr 2
      omega
    constructor
    · intro hr0
      obtain ⟨N1, n1⟩ := hgrid (r - 1) (by omega)
      obtain ⟨N2, n2⟩ := hgrid r (by omega)
      obtain ⟨l1, l2⟩ := hM.lo hr0
      have hsum : rv (r - 1) + rv r = 2 * (((N1 + N2 : Nat) : Rat) * p2 e) := by rw [n1, n2, Rat.natCast_add]; grind
      rw [hsum] at l1 l2 ⊢
      have g1 := hge' (N1 + N2) (by grind)
      refine ⟨by grind, fun hq => l2 ?_⟩
      rw [k6 (N1 + N2) (by grind)]
    · obtain ⟨N1, n1⟩ := hgrid r (by omega)
      obtain ⟨N2, n2⟩ := hgrid (r + 1) (by omega)
      obtain ⟨l1, l2⟩ := hM.hi
      have hsum : rv r + rv (r + 1) = 2 * (((N1 + N2 : Nat) : Rat) * p2 e) := by rw [n1, n2, Rat.natCast_add]; grind
      rw [hsum] at l1 l2 ⊢
      have g1 := hle' (N1 + N2) (by grind)
      refine ⟨by grind, fun hq => l2 ?_⟩
      rw [k6 (N1 + N2) (by grind)]
end Go.Proofs.YtmmligbkecilfaaGreatDoor
namespace Go.Proofs.YtmmligbkecilfaaGreatDoor
open Lv
open Ieee

theorem sqrt_smid' {x : Nat} (hx : x < 9218868437227405312) : ∃ r, double.sqrt x = some r ∧ r < 9218868437227405312 ∧ SMid r (rv x) := by
  by_cases h0 : x = 0
  · subst h0
    refine ⟨0, by decide +kernel, by decide, fun h => absurd h (by decide), ?_, fun _ => rfl⟩
    have := rv_nonneg (0 + 1)
    rw [rv_zero]
    have h2 : 0 ≤ (0 + rv (0 + 1)) * (0 + rv (0 + 1)) := Rat.mul_nonneg (by grind) (by grind)
    grind
  · exact sqrt_smid h0 hx
theorem mid_le {r R : Nat} {z : Rat} (h : Mid r z) (hz : z ≤ rv R) : r ≤ R := h.mono Mid.exact hz
theorem le_mid {r R : Nat} {z : Rat} (h : Mid r z) (hz : rv R ≤ z) : R ≤ r := Mid.exact.mono h hz
theorem topF_cases (s : Bool) {c : Nat} (h1 : c < 9218868437227405312) : (c = 0 ∧ topF (some (wd s c)) = -2000) ∨ (c ≠ 0 ∧ topF (some (wd s c)) = topP c) := by
  by_cases h0 : c = 0
  · subst h0; exact .inl ⟨rfl, topF_zero s⟩
  · exact .inr ⟨h0, topF_wd s h0 h1⟩
/-- a number lies below twice its top -/
theorem top_above {c : Nat} (h0 : c ≠ 0) (h1 : c < 9218868437227405312) : p2 (topP c) ≤ rv c ∧ rv c < p2 (topP c + 1) := by
  obtain ⟨M, m0, m1, hv, _⟩ := norm_form h0 h1
  rw [hv]
  constructor
  · have a1 : ((2 ^ 52 : Nat) : Rat) ≤ (M : Rat) := by exact_mod_cast m0
    have a2 := Rat.mul_le_mul_of_nonneg_right a1 (Rat.le_of_lt (p2_pos (topP c - 52)))
    rw [← p2_nat, ← p2_add] at a2
    have e : ((52 : Nat) : Int) + (topP c - 52) = topP c := by omega
    rw [e] at a2
    exact a2
  · have a1 : (M : Rat) < ((2 ^ 53 : Nat) : Rat) := by exact_mod_cast m1
    have a2 := Rat.mul_lt_mul_of_pos_right a1 (p2_pos (topP c - 52))
    rw [← p2_nat, ← p2_add] at a2
    have e : ((53 : Nat) : Int) + (topP c - 52) = topP c + 1 := by omega
    rw [e] at a2
    exact a2
theorem scale_mid (s : Bool) {c : Nat} {k : Int} (hc : c < 9218868437227405312) (hk0 : -1000 ≤ k) (hk1 : k ≤ 1000) : ∃ ρ, Mid ρ (rv c * p2 k) ∧ fmul (some (wd s c)) (some (pw k)) = some (wd s (min ρ 9218868437227405312)) := by
  obtain ⟨p1, p2', p3⟩ := pw_val (k := k) (by omega) (by omega)
  obtain ⟨ρ, h1, h2⟩ := mul_mid hc p3
  rw [p1] at h1
  refine ⟨ρ, h1, ?_⟩
  have := h2 s false
  rw [Bool.xor_false] at this
  exact this
/-- a rotation's parts -/
structure OfParts (s t : Bool) (f g : Nat) (cc ss rr : Option Nat) (K : Int) (A B P Q S H R : Nat) : Prop where
  k0 : -1000 ≤ K
  k1 : K ≤ 1000
  hK : K = ofK (some (wd s f)) (some (wd t g))
  mA : Mid A (rv f * p2 (-K))
  mB : Mid B (rv g * p2 (-K))
  mP : Mid P (rv A * rv A)
  mQ : Mid Q (rv B * rv B)
  mS : Mid S (rv P + rv Q)
  mH : SMid H (rv S)
  mR : Mid R (rv H * p2 K)
  lA : A ≤ pw 24
  lB : B ≤ pw 24
  lS : S ≤ pw 49
  lH : H < 9218868437227405312
  lR : R < 9218868437227405312
  ec : cc = fdiv (some (wd s A)) (some H)
  es : ss = fdiv (some (wd t B)) (some H)
  er : rr = some R
theorem sq_le {A : Nat} (h : A ≤ pw 24) : rv A * rv A ≤ p2 48 := by
  have := rv_le h
  rw [(pw_val (k := 24) (by decide) (by decide)).1] at this
  have h2 := rsq_le (rv_nonneg A) this
  rw [← p2_add] at h2
  exact h2
theorem of_parts (s t : Bool) {f g : Nat} {cc ss rr : Option Nat} (hf : f < 9218868437227405312) (hg : g < 9218868437227405312) (h0 : ¬ (f = 0 ∧ g = 0)) (h : ofF (some (wd s f)) (some (wd t g)) = some (cc, ss, rr)) :
    ∃ K A B P Q S H R, OfParts s t f g cc ss rr K A B P Q S H R := by
  obtain ⟨K, hK⟩ : ∃ K, K = ofK (some (wd s f)) (some (wd t g)) := ⟨_, rfl⟩
  obtain ⟨k0, k1⟩ := ofK_range (some (wd s f)) (some (wd t g))
  rw [← hK] at k0 k1
  have htop : ∀ (s : Bool) (c : Nat), c < 9218868437227405312 → topF (some (wd s c)) ≤ 1023 ∧ (topF (some (wd s c)) - 23 ≤ K → rv c * p2 (-K) ≤ p2 24) := by
    intro s c hc
    rcases topF_cases s hc with ⟨rfl, e⟩ | ⟨hc0, e⟩
    · rw [e]
      refine ⟨by decide, fun _ => ?_⟩
      rw [rv_zero, Rat.zero_mul]
      exact Rat.le_of_lt (p2_pos _)
    · rw [e]
      obtain ⟨_, _, _, _, t0, t1, _⟩ := norm_form hc0 hc
      refine ⟨t1, fun hk => ?_⟩
      have := (top_above hc0 hc).2
      have h2 := Rat.mul_lt_mul_of_pos_right this (p2_pos (-K))
      rw [← p2_add] at h2
      exact rle_trans (Rat.le_of_lt h2) (p2_le (by omega))
  have hKm : topF (some (wd s f)) - 23 ≤ K ∧ topF (some (wd t g)) - 23 ≤ K := by
    have a1 := (htop s f hf).1
    have a2 := (htop t g hg).1
    rw [hK]
    unfold ofK
    omega
  have w24 := pw_val (k := 24) (by decide) (by decide)
  have w48 := pw_val (k := 48) (by decide) (by decide)
  have w49 := pw_val (k := 49) (by decide) (by decide)
  have l24 : pw 24 < 9218868437227405312 := w24.2.2
  have l48 : pw 48 < 9218868437227405312 := w48.2.2
  have l49 : pw 49 < 9218868437227405312 := w49.2.2
  obtain ⟨A, a1, a2⟩ := scale_mid s hf (k := -K) (by omega) (by omega)
  obtain ⟨B, b1, b2⟩ := scale_mid t hg (k := -K) (by omega) (by omega)
  have hA : A ≤ pw 24 := mid_le a1 (by rw [w24.1]; exact (htop s f hf).2 hKm.1)
  have hB : B ≤ pw 24 := mid_le b1 (by rw [w24.1]; exact (htop t g hg).2 hKm.2)
  rw [Nat.min_eq_left (by omega)] at a2 b2
  obtain ⟨P, p1, p2'⟩ := mul_mid (x := A) (y := A) (by omega) (by omega)
  obtain ⟨Q, q1, q2⟩ := mul_mid (x := B) (y := B) (by omega) (by omega)
  have hP : P ≤ pw 48 := mid_le p1 (by rw [w48.1]; exact sq_le hA)
  have hQ : Q ≤ pw 48 := mid_le q1 (by rw [w48.1]; exact sq_le hB)
  have p3 := p2' s s
  have q3 := q2 t t
  rw [Bool.xor_self, Nat.min_eq_left (by omega)] at p3 q3
  obtain ⟨S, s1, s2⟩ := add_mid (x := P) (y := Q) (by omega) (by omega)
  have hS : S ≤ pw 49 := by
    refine mid_le s1 ?_
    have r1 := rv_le hP
    have r2 := rv_le hQ
    have r3 := p2_succ 48
    rw [w48.1] at r1 r2
    rw [w49.1, show (49 : Int) = 48 + 1 from rfl, r3]
    grind
  rw [Nat.min_eq_left (by omega)] at s2
  obtain ⟨H, h1, h2, h3⟩ := sqrt_smid' (x := S) (by omega)
  obtain ⟨R, r1, r2⟩ := scale_mid false h2 (k := K) k0 k1
  have hH : ofH (some (wd s f)) (some (wd t g)) = some H := by
    unfold ofH
    rw [← hK, a2, b2]
    have e1 : fmul (some (wd s A)) (some (wd s A)) = some P := p3
    have e2 : fmul (some (wd t B)) (some (wd t B)) = some Q := q3
    have e3 : fadd (some P) (some Q) = some S := s2
    rw [e1, e2, e3]
    exact h1
  have hR : ofR (some (wd s f)) (some (wd t g)) = some (min R 9218868437227405312) := by
    unfold ofR
    rw [hH, ← hK]
    exact r2
  have hz : (zeroF (some (wd s f)) && zeroF (some (wd t g))) = false := by
    rw [zeroF_wd s hf, zeroF_wd t hg]
    by_cases c : f = 0
    · rw [decide_eq_false (show ¬ g = 0 from fun e => h0 ⟨c, e⟩), Bool.and_false]
    · rw [decide_eq_false c, Bool.false_and]
  unfold ofF at h
  rw [numF_wd s hf, numF_wd t hg, if_neg (by decide), hz, if_neg (by decide), hR, hH, ← hK, a2, b2] at h
  by_cases hn : numF (some (min R 9218868437227405312)) = false
  · rw [if_pos hn] at h; cases h
  · rw [if_neg hn] at h
    have hRi : R < 9218868437227405312 := by
      by_cases c : R < 9218868437227405312
      · exact c
      · exfalso
        rw [Nat.min_eq_right (by omega)] at hn
        exact hn (by decide)
    rw [Nat.min_eq_left (by omega)] at h
    simp only [Option.some.injEq, Prod.mk.injEq] at h
    exact ⟨K, A, B, P, Q, S, H, R, ⟨k0, k1, hK, a1, b1, p1, q1, s1, h3, r1, hA, hB, hS, h2, hRi, h.1.symm, h.2.1.symm, h.2.2.symm⟩⟩
theorem root_one : SMid (pw 0) (rv (pw 0)) := by
  obtain ⟨r, h1, h2, h3⟩ := sqrt_smid' (x := pw 0) (by decide)
  have : double.sqrt (pw 0) = some (pw 0) := by decide +kernel
  rw [this] at h1
  obtain rfl := Option.some.inj h1
  exact h3
/-- the core: one of the two numbers, scaled and squared, under the root -/
theorem grows_of {f A P S H R : Nat} {K : Int} (hf0 : f ≠ 0) (hf : f < 9218868437227405312) (ht : topP f ≤ K) (hft : -422 ≤ topP f - K)
    (mA : Mid A (rv f * p2 (-K))) (mP : Mid P (rv A * rv A)) (hPS : P ≤ S) (mH : SMid H (rv S)) (mR : Mid R (rv H * p2 K)) : f ≤ R := by
  obtain ⟨M, m0, m1, hv, t0, t1, _⟩ := norm_form hf0 hf
  obtain ⟨q0, hq⟩ : ∃ q0 : Nat, (q0 : Int) = topP f - K + 1022 := ⟨(topP f - K + 1022).toNat, by omega⟩
  obtain ⟨Y, y1, y2, y3, y4⟩ := sqrt_square m0 m1 (q0 := q0) (by omega) (by omega)
  have hA0 : q0 * 4503599627370496 + M < 9218868437227405312 := by omega
  have hv' : rv (q0 * 4503599627370496 + M) = rv f * p2 (-K) := by
    rw [rv_mk q0 M (by omega) (.inr m0), hv, Rat.mul_assoc, ← p2_add]
    congr 2
    omega
  generalize q0 * 4503599627370496 + M = A0 at *
  have eA : A = A0 := mA.unique (by rw [← hv']; exact Mid.exact)
  subst eA
  obtain ⟨ρ, e1, e2⟩ := mul_mid hA0 hA0
  have e3 := e2 false false
  have e4 : Y = min ρ 9218868437227405312 := Option.some.inj (y1.symm.trans e3)
  have e5 : Y = ρ := by omega
  subst e5
  have eP : P = Y := mP.unique e1
  subst eP
  obtain ⟨r, g1, g2, g3⟩ := sqrt_smid' y4
  rw [y2] at g1
  obtain rfl := Option.some.inj g1
  have hAH : A ≤ H := g3.mono mH (rv_le hPS)
  refine le_mid mR ?_
  have h2 := Rat.mul_le_mul_of_nonneg_right (rv_le hAH) (Rat.le_of_lt (p2_pos K))
  rw [hv', Rat.mul_assoc, ← p2_add, show -K + K = 0 by omega, p2_zero, Rat.mul_one] at h2
  exact h2
theorem grows_big {f g B Q S H R : Nat} {K : Int} (k0 : -1000 ≤ K) (k1 : K ≤ 1000) (hf0 : f ≠ 0) (hf : f < 9218868437227405312) (hft : topP f < K) (hg0 : g ≠ 0) (hg : g < 9218868437227405312) (hgt : K ≤ topP g)
    (mB : Mid B (rv g * p2 (-K))) (mQ : Mid Q (rv B * rv B)) (hQS : Q ≤ S) (mH : SMid H (rv S)) (mR : Mid R (rv H * p2 K)) : f ≤ R := by
  obtain ⟨p1, _, _⟩ := pw_val (k := 0) (by decide) (by decide)
  obtain ⟨q1, _, _⟩ := pw_val (k := K) (by omega) (by omega)
  rw [p2_zero] at p1
  have hB : pw 0 ≤ B := by
    refine le_mid mB ?_
    have h1 := rle_trans (p2_le hgt) (top_above hg0 hg).1
    have h2 := Rat.mul_le_mul_of_nonneg_right h1 (Rat.le_of_lt (p2_pos (-K)))
    rw [← p2_add, show K + -K = 0 by omega, p2_zero] at h2
    rw [p1]
    exact h2
  have hQ : pw 0 ≤ Q := by
    refine le_mid mQ ?_
    have h1 := rv_le hB
    rw [p1] at h1 ⊢
    have h2 := rsq_le (show (0 : Rat) ≤ 1 by grind) h1
    grind
  have hH : pw 0 ≤ H := root_one.mono mH (rv_le (by omega))
  have hR : pw K ≤ R := by
    refine le_mid mR ?_
    have h1 := rv_le hH
    rw [p1] at h1
    have h2 := Rat.mul_le_mul_of_nonneg_right h1 (Rat.le_of_lt (p2_pos K))
    rw [q1]
    grind
  have hfK : f ≤ pw K := by
    by_cases c : f ≤ pw K
    · exact c
    · exfalso
      have h1 := rv_lt (show pw K < f by omega)
      have h2 := (top_above hf0 hf).2
      have h3 := p2_le (show topP f + 1 ≤ K by omega)
      rw [q1] at h1
      grind
  omega
theorem rv_add_le (P Q : Nat) : rv P ≤ rv P + rv Q ∧ rv Q ≤ rv P + rv Q := by
  have := rv_nonneg P
  have := rv_nonneg Q
  grind
/-- THE PLAIN LAW: what stands on the diagonal only grows -/
theorem of_ge (s t : Bool) {f g : Nat} {cc ss rr : Option Nat} (hf : f < 9218868437227405312) (hft : topP f ≤ 1000) (hg : g < 9218868437227405312) (h : ofF (some (wd s f)) (some (wd t g)) = some (cc, ss, rr)) :
    ∃ r, rr = some r ∧ f ≤ r ∧ r < 9218868437227405312 := by
  by_cases h0 : f = 0 ∧ g = 0
  · obtain ⟨rfl, rfl⟩ := h0
    unfold ofF at h
    rw [numF_wd s (by decide), numF_wd t (by decide), if_neg (by decide), zeroF_wd s (by decide), zeroF_wd t (by decide), if_pos (by decide)] at h
    simp only [Option.some.injEq, Prod.mk.injEq] at h
    exact ⟨0, h.2.2.symm, Nat.le_refl _, by decide⟩
  · obtain ⟨K, A, B, P, Q, S, H, R, p⟩ := of_parts s t hf hg h0 h
    refine ⟨R, p.er, ?_, p.lR⟩
    by_cases hf0 : f = 0
    · omega
    have e1 := topF_wd s hf0 hf
    have hK := p.hK
    unfold ofK at hK
    rw [e1] at hK
    obtain ⟨_, _, _, _, t0, t1, _⟩ := norm_form hf0 hf
    have hPS := le_mid p.mS (rv_add_le P Q).1
    have hQS := le_mid p.mS (rv_add_le P Q).2
    by_cases c : -422 ≤ topP f - K
    · exact grows_of hf0 hf (by omega) c p.mA p.mP hPS p.mH p.mR
    · have k0 := p.k0
      rcases topF_cases t hg with ⟨_, e⟩ | ⟨hg0, e⟩
      · rw [e] at hK; omega
      · rw [e] at hK
        exact grows_big p.k0 p.k1 hf0 hf (by omega) hg0 hg (by omega) p.mB p.mQ hQS p.mH p.mR
theorem of_ge' (s t : Bool) {f g : Nat} {cc ss rr : Option Nat} (hf : f < 9218868437227405312) (hg : g < 9218868437227405312) (hgt : topP g ≤ 1000) (h : ofF (some (wd s f)) (some (wd t g)) = some (cc, ss, rr)) :
    ∃ r, rr = some r ∧ g ≤ r ∧ r < 9218868437227405312 := by
  by_cases h0 : f = 0 ∧ g = 0
  · obtain ⟨rfl, rfl⟩ := h0
    unfold ofF at h
    rw [numF_wd s (by decide), numF_wd t (by decide), if_neg (by decide), zeroF_wd s (by decide), zeroF_wd t (by decide), if_pos (by decide)] at h
    simp only [Option.some.injEq, Prod.mk.injEq] at h
    exact ⟨0, h.2.2.symm, Nat.le_refl _, by decide⟩
  · obtain ⟨K, A, B, P, Q, S, H, R, p⟩ := of_parts s t hf hg h0 h
    refine ⟨R, p.er, ?_, p.lR⟩
    by_cases hg0 : g = 0
    · omega
    have e1 := topF_wd t hg0 hg
    have hK := p.hK
    unfold ofK at hK
    rw [e1] at hK
    obtain ⟨_, _, _, _, t0, t1, _⟩ := norm_form hg0 hg
    have hPS := le_mid p.mS (rv_add_le P Q).1
    have hQS := le_mid p.mS (rv_add_le P Q).2
    by_cases c : -422 ≤ topP g - K
    · exact grows_of hg0 hg (by omega) c p.mB p.mQ hQS p.mH p.mR
    · have k0 := p.k0
      rcases topF_cases s hf with ⟨_, e⟩ | ⟨hf0, e⟩
      · rw [e] at hK; omega
      · rw [e] at hK
        exact grows_big p.k0 p.k1 hg0 hg (by omega) hf0 hf (by omega) p.mA p.mP hPS p.mH p.mR
end Go.Proofs.YtmmligbkecilfaaGreatDoor
