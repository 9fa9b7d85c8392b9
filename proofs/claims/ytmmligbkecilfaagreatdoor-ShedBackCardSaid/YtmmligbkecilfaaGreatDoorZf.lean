/- A rotation's cosine, sine and root: how far they are from what they should be. A rotation of two numbers; what it changes in the sums of products. -/
import Derived.Test.YtmmligbkecilfaaGreatDoorZd
namespace Go.Proofs.YtmmligbkecilfaaGreatDoor.Lv
open Ieee

/-- the next rung of a number that is no small one -/
theorem rv_gap {r : Nat} (h : 4503599627370496 ≤ r) : rv (r + 1) - rv r ≤ 2 * (uu * rv r) ∧ rv r - rv (r - 1) ≤ 2 * (uu * rv r) := by
  have up : ∀ r, 4503599627370496 ≤ r → rv (r + 1) - rv r ≤ 2 * (uu * rv r) := by
    intro r h
    obtain ⟨q, k, hr, h1, h2⟩ := rung_form r
    have hs := rv_succ q k h1 h2
    have hk : rv r = (k : Rat) * p2 (-1074 + (q : Int)) := by rw [hr]; exact rv_mk q k (by omega) h2
    rw [← hr] at hs
    have hk2 : 4503599627370496 ≤ k := by rcases h2 with rfl | h2 <;> omega
    have hkr : (4503599627370496 : Rat) ≤ (k : Rat) := by exact_mod_cast hk2
    have hP := p2_pos (-1074 + (q : Int))
    generalize p2 (-1074 + (q : Int)) = P at *
    have h3 : 4503599627370496 * P ≤ (k : Rat) * P := Rat.mul_le_mul_of_nonneg_right hkr (Rat.le_of_lt hP)
    have h4 := rmul_mono (Rat.le_of_lt uu_pos) h3
    have hu := uu_val
    have h5 : uu * (4503599627370496 * P) * 2 = P := by
      have : uu * (4503599627370496 * P) * 2 = (uu * 9007199254740992) * P := by grind
      rw [this, hu]; grind
    rw [hk] at hs ⊢
    rw [hs]
    grind
  refine ⟨up r h, ?_⟩
  by_cases c : 4503599627370496 ≤ r - 1
  · have h1 := up (r - 1) c
    rw [show r - 1 + 1 = r by omega] at h1
    have h2 := rmul_mono (Rat.le_of_lt uu_pos) (rv_le (show r - 1 ≤ r by omega))
    grind
  · obtain rfl : r = 4503599627370496 := by omega
    have hs := rv_succ 0 4503599627370495 (by omega) (.inl rfl)
    have hk := rv_mk 0 4503599627370496 (by omega) (.inl rfl)
    rw [show 0 * 4503599627370496 + 4503599627370495 + 1 = 4503599627370496 by omega, show 0 * 4503599627370496 + 4503599627370495 = 4503599627370496 - 1 by omega] at hs
    rw [show 0 * 4503599627370496 + 4503599627370496 = 4503599627370496 by omega] at hk
    have hu := uu_val
    have hP := p2_pos (-1074 + ((0 : Nat) : Int))
    generalize p2 (-1074 + ((0 : Nat) : Int)) = P at *
    have c1 : ((4503599627370496 : Nat) : Rat) = 4503599627370496 := by norm_cast
    rw [c1] at hk
    have h5 : 2 * (uu * rv 4503599627370496) = P := by
      rw [hk]
      have : 2 * (uu * (4503599627370496 * P)) = (uu * 9007199254740992) * P := by grind
      rw [this, hu]; grind
    rw [h5]
    grind
theorem smid_off {H : Nat} {S : Rat} (h : SMid H S) (hH : 4503599627370496 ≤ H) : (rv H * rv H) * ((1 - uu) * (1 - uu)) ≤ S ∧ S ≤ (rv H * rv H) * ((1 + uu) * (1 + uu)) := by
  obtain ⟨g1, g2⟩ := rv_gap hH
  have lo := (h.lo (by omega)).1
  have hi := h.hi.1
  have hu := uu_small
  have hh := rv_nonneg H
  have huh := rmul_nn (Rat.le_of_lt hu.2) hh
  have huh2 : uu * rv H ≤ 1/1000 * rv H := Rat.mul_le_mul_of_nonneg_right (by grind) hh
  have a1 : 2 * (rv H * (1 - uu)) ≤ rv (H - 1) + rv H := by grind
  have a2 : rv H + rv (H + 1) ≤ 2 * (rv H * (1 + uu)) := by grind
  have b0 : 0 ≤ 2 * (rv H * (1 - uu)) := by grind
  have b1 := rsq_le b0 a1
  have b2 := rsq_le (show 0 ≤ rv H + rv (H + 1) by have := rv_nonneg (H + 1); grind) a2
  generalize rv (H - 1) = x1 at *
  generalize rv (H + 1) = x2 at *
  generalize rv H = x at *
  constructor
  · have e1 : 4 * ((x * x) * ((1 - uu) * (1 - uu))) = (2 * (x * (1 - uu))) * (2 * (x * (1 - uu))) := by grind
    have e2 := Rat.le_trans b1 lo
    rw [← e1] at e2
    grind
  · have e1 : 4 * ((x * x) * ((1 + uu) * (1 + uu))) = (2 * (x * (1 + uu))) * (2 * (x * (1 + uu))) := by grind
    have e2 := Rat.le_trans hi b2
    rw [← e1] at e2
    grind
theorem smid_norm {H : Nat} {S : Rat} (h : SMid H S) (hS : p2 (-200) ≤ S) : 4503599627370496 ≤ H := by
  by_cases c : 4503599627370496 ≤ H
  · exact c
  · exfalso
    have hi := h.hi.1
    have w := pw_val (k := -1022) (by decide) (by decide)
    have hpw : pw (-1022) = 4503599627370496 := by decide
    have h1 : rv (H + 1) ≤ p2 (-1022) := by rw [← w.1, hpw]; exact rv_le (by omega)
    have h0 : rv H ≤ p2 (-1022) := by rw [← w.1, hpw]; exact rv_le (by omega)
    have h2 := rsq_le (show 0 ≤ rv H + rv (H + 1) by have := rv_nonneg (H + 1); have := rv_nonneg H; grind) (show rv H + rv (H + 1) ≤ p2 (-1022) + p2 (-1022) by grind)
    have h3 : p2 (-1022) * p2 (-1022) = p2 (-2044) := by rw [← p2_add]; rfl
    have h4 : p2 (-2044) * 2 ≤ p2 (-200) := by
      have e1 := p2_succ (-2044)
      have e2 := p2_le (show (-2044 : Int) + 1 ≤ -200 by decide)
      grind
    have h5 := p2_pos (-2044)
    grind
/-- with a sign -/
def sg (s : Bool) (x : Rat) : Rat := if s then -x else x
theorem vz_sg (s : Bool) (r : Nat) : vz s r = sg s (rv r) := rfl
theorem sg_mul (s t : Bool) (x y : Rat) : sg s x * sg t y = sg (s ^^ t) (x * y) := by unfold sg; cases s <;> cases t <;> simp <;> grind
theorem sg_self (s : Bool) (x y : Rat) : sg s x * sg s y = x * y := by unfold sg; cases s <;> simp <;> grind
theorem bd_sg {s : Bool} {x m : Rat} : Bd (sg s x) m ↔ Bd x m := by unfold sg Bd; cases s <;> simp <;> grind
theorem sg_sub (s : Bool) (x y : Rat) : sg s (x - y) = sg s x - sg s y := by unfold sg; cases s <;> simp <;> grind
theorem of_low {s t : Bool} {f g : Nat} (hf : f < 9218868437227405312) (hg : g < 9218868437227405312) (h0 : ¬ (f = 0 ∧ g = 0)) {K : Int} {A B : Nat} (hK : K = ofK (some (wd s f)) (some (wd t g))) (mA : Mid A (rv f * p2 (-K))) (mB : Mid B (rv g * p2 (-K))) :
    p2 (-148) ≤ rv A * rv A + rv B * rv B := by
  have w := pw_val (k := -74) (by decide) (by decide)
  have key : ∀ {f A : Nat}, f ≠ 0 → f < 9218868437227405312 → -74 ≤ topP f - K → Mid A (rv f * p2 (-K)) → p2 (-148) ≤ rv A * rv A := by
    intro f A hf0 hf ht mA
    have h1 := Rat.mul_le_mul_of_nonneg_right (top_above hf0 hf).1 (Rat.le_of_lt (p2_pos (-K)))
    rw [← p2_add] at h1
    have h2 : p2 (-74) ≤ p2 (topP f + -K) := p2_le (by omega)
    have h3 : pw (-74) ≤ A := le_mid mA (by rw [w.1]; exact Rat.le_trans h2 h1)
    have h4 := rv_le h3
    rw [w.1] at h4
    have h5 := rsq_le (Rat.le_of_lt (p2_pos (-74))) h4
    rw [← p2_add] at h5
    exact h5
  have hA := rsq_nn (rv A)
  have hB := rsq_nn (rv B)
  unfold ofK at hK
  rcases topF_cases s hf with ⟨rfl, e1⟩ | ⟨f0, e1⟩ <;> rcases topF_cases t hg with ⟨rfl, e2⟩ | ⟨g0, e2⟩ <;> rw [e1, e2] at hK
  · exact absurd ⟨rfl, rfl⟩ h0
  · obtain ⟨_, _, _, _, t0, t1, _⟩ := norm_form g0 hg
    have := key g0 hg (by omega) mB
    grind
  · obtain ⟨_, _, _, _, t0, t1, _⟩ := norm_form f0 hf
    have := key f0 hf (by omega) mA
    grind
  · obtain ⟨_, _, _, _, t0, t1, _⟩ := norm_form g0 hg
    obtain ⟨_, _, _, _, u0, u1, _⟩ := norm_form f0 hf
    by_cases c : topP f ≤ topP g
    · have := key g0 hg (by omega) mB
      grind
    · have := key f0 hf (by omega) mA
      grind
theorem sg_sg (s : Bool) (x : Rat) : sg s (sg s x) = x := by unfold sg; cases s <;> simp
theorem ofF_zero (s t : Bool) : ofF (some (wd s 0)) (some (wd t 0)) = some (some 4607182418800017408, some 0, some 0) := by cases s <;> cases t <;> decide
theorem fv_one : fv (some 4607182418800017408) = 1 := by
  have w := pw_val (k := 0) (by decide) (by decide)
  have e : pw 0 = 4607182418800017408 := by decide
  rw [e] at w
  have := fv_wd false w.2.2
  rw [show wd false 4607182418800017408 = 4607182418800017408 from rfl] at this
  rw [this]
  unfold vz
  rw [if_neg (by decide), w.1, p2_zero]
theorem fv_nil : fv (some 0) = 0 := by
  have := fv_wd false (r := 0) (by decide)
  rw [show wd false 0 = 0 from rfl] at this
  rw [this]
  exact rv_zero
theorem fn_one : Fn (some 4607182418800017408) := ⟨false, 4607182418800017408, rfl, by decide⟩
theorem fn_nil : Fn (some 0) := ⟨false, 0, rfl, by decide⟩
/-- a rotation's numbers -/
structure OfOk (F G C S R M : Rat) : Prop where
  one : Bd (C * C + S * S - 1) (75/10 * uu)
  on : Bd (R - (C * F + S * G)) (8 * (uu * M) + ee)
  off : Bd (C * G - S * F) (3 * (uu * M))
theorem ofE {f g cc ss rr : Option Nat} (hf : Fn f) (hg : Fn g) {M : Rat} (hM0 : 0 ≤ M) (hM : fv f * fv f + fv g * fv g ≤ M * M) (h : ofF f g = some (cc, ss, rr)) :
    Fn cc ∧ Fn ss ∧ Fn rr ∧ OfOk (fv f) (fv g) (fv cc) (fv ss) (fv rr) M := by
  obtain ⟨s, f, rfl, hf⟩ := hf
  obtain ⟨t, g, rfl, hg⟩ := hg
  have hu := uu_small
  have hu0 := Rat.le_of_lt hu.2
  have he := ee_pos
  have he0 := Rat.le_of_lt he
  have huM := rmul_nn hu0 hM0
  rw [fv_wd s hf, fv_wd t hg, vz_sg, vz_sg] at *
  by_cases h0 : f = 0 ∧ g = 0
  · obtain ⟨rfl, rfl⟩ := h0
    rw [ofF_zero] at h
    simp only [Option.some.injEq, Prod.mk.injEq] at h
    obtain ⟨rfl, rfl, rfl⟩ := h
    rw [fv_one, fv_nil, rv_zero]
    have z1 : sg s 0 = 0 := by unfold sg; cases s <;> simp
    have z2 : sg t 0 = 0 := by unfold sg; cases t <;> simp
    rw [z1, z2]
    exact ⟨fn_one, fn_nil, fn_nil, ⟨by rw [show (1 : Rat) * 1 + 0 * 0 - 1 = 0 by grind]; exact bd_zero (by grind), by rw [show (0 : Rat) - (1 * 0 + 0 * 0) = 0 by grind]; exact bd_zero (by grind), by rw [show (1 : Rat) * 0 - 0 * 0 = 0 by grind]; exact bd_zero (by grind)⟩⟩
  · obtain ⟨K, A, B, P, Q, S, H, R, O⟩ := of_parts s t hf hg h0 h
    have low := of_low hf hg h0 O.hK O.mA O.mB
    rw [sg_self, sg_self] at hM
    have pK := p2_pos K
    have nK := p2_pos (-K)
    have hKK : p2 (-K) * p2 K = 1 := by rw [← p2_add, Int.add_left_neg, p2_zero]
    obtain ⟨a, hae⟩ : ∃ a, rv f * p2 (-K) = a := ⟨_, rfl⟩
    obtain ⟨b, hbe⟩ : ∃ b, rv g * p2 (-K) = b := ⟨_, rfl⟩
    have ha0 : 0 ≤ a := by rw [← hae]; exact rmul_nn (rv_nonneg f) (Rat.le_of_lt nK)
    have hb0 : 0 ≤ b := by rw [← hbe]; exact rmul_nn (rv_nonneg g) (Rat.le_of_lt nK)
    have hfa : rv f = a * p2 K := by rw [← hae, Rat.mul_assoc, hKK, Rat.mul_one]
    have hgb : rv g = b * p2 K := by rw [← hbe, Rat.mul_assoc, hKK, Rat.mul_one]
    have mA := O.mA
    have mB := O.mB
    rw [hae] at mA
    rw [hbe] at mB
    have xa := mid_err mA ha0
    have yb := mid_err mB hb0
    have pe := mid_err O.mP (rsq_nn (rv A))
    have qe := mid_err O.mQ (rsq_nn (rv B))
    have se := mid_err O.mS (show 0 ≤ rv P + rv Q by have := rv_nonneg P; have := rv_nonneg Q; grind)
    have u2 : uu * uu = p2 (-106) := by unfold uu; rw [← p2_add]; rfl
    have t10 : p2 (-10) ≤ 1/1000 := by
      have e1 : p2 (-10) * p2 10 = 1 := by rw [← p2_add]; exact p2_zero
      have e2 := p2_nat 10
      rw [show ((10 : Nat) : Int) = 10 from rfl] at e2
      have e3 : ((2 ^ 10 : Nat) : Rat) = 1024 := by norm_cast
      rw [e2, e3] at e1
      grind
    have hN : ee ≤ 1/1000 * (uu * (rv A * rv A + rv B * rv B)) := by
      have h1 := rmul_mono hu0 low
      unfold uu at h1
      rw [← p2_add] at h1
      have h2 := Rat.mul_le_mul_of_nonneg_right t10 (Rat.le_of_lt (p2_pos (-53 + -148)))
      rw [← p2_add] at h2
      have h3 : ee ≤ p2 (-10 + (-53 + -148)) := p2_le (by decide)
      unfold uu
      grind
    have s1 := ofn1 hu.2 hu.1 he0 (rsq_nn (rv A)) (rsq_nn (rv B)) pe qe se hN
    obtain ⟨N, hNe⟩ : ∃ N, rv A * rv A + rv B * rv B = N := ⟨_, rfl⟩
    rw [hNe] at s1 low hN
    have hN0 : 0 ≤ N := Rat.le_trans (Rat.le_of_lt (p2_pos _)) low
    have hS200 : p2 (-200) ≤ rv S := by
      have h1 : uu * N ≤ 1/1000 * N := Rat.mul_le_mul_of_nonneg_right (by grind) hN0
      have h2 : p2 (-200) * 2 ≤ p2 (-148) := by
        have e1 := p2_succ (-200)
        have e2 := p2_le (show (-200 : Int) + 1 ≤ -148 by decide)
        grind
      unfold Bd at s1
      have := p2_pos (-200)
      grind
    have hHn := smid_norm O.mH hS200
    obtain ⟨o1, o2⟩ := smid_off O.mH hHn
    obtain ⟨w1, w2, w3⟩ := ofn2 hu.2 hu.1 hN0 s1 o1 o2
    have hh : 0 < rv H := by have := rv_lt (show 0 < H by omega); rwa [rv_zero] at this
    have hh80 : p2 (-80) ≤ rv H := by
      refine (bd_of_sq (Rat.le_of_lt hh) ?_).2
      rw [← p2_add]
      have h1 : p2 (-80 + -80) * 2 ≤ p2 (-148) := by
        have e1 := p2_succ (-80 + -80)
        have e2 := p2_le (show (-80 + -80 : Int) + 1 ≤ -148 by decide)
        grind
      have := p2_pos (-80 + -80)
      grind
    have hk : ee ≤ 1/1000 * (uu * uu) := by
      rw [u2]
      have h2 := Rat.mul_le_mul_of_nonneg_right t10 (Rat.le_of_lt (p2_pos (-106)))
      rw [← p2_add] at h2
      have h3 : ee ≤ p2 (-10 + -106) := p2_le (by decide)
      grind
    have hkh : ee ≤ 1/1000 * (uu * uu * rv H) := by
      rw [u2]
      have h1 := rmul_mono (Rat.le_of_lt (p2_pos (-106))) hh80
      rw [← p2_add] at h1
      have h2 := Rat.mul_le_mul_of_nonneg_right t10 (Rat.le_of_lt (p2_pos (-106 + -80)))
      rw [← p2_add] at h2
      have h3 : ee ≤ p2 (-10 + (-106 + -80)) := p2_le (by decide)
      grind
    have hx0 := rv_nonneg A
    have hy0 := rv_nonneg B
    -- cosine and sine
    have hi : rv H * (rv H)⁻¹ = 1 := Rat.mul_inv_cancel _ (by grind)
    obtain ⟨c, hce⟩ : ∃ c, rv A * (rv H)⁻¹ = c := ⟨_, rfl⟩
    obtain ⟨d, hde⟩ : ∃ d, rv B * (rv H)⁻¹ = d := ⟨_, rfl⟩
    have hc : c * rv H = rv A := by rw [← hce]; grind
    have hd : d * rv H = rv B := by rw [← hde]; grind
    have hc0 : 0 ≤ c := Rat.le_of_mul_le_mul_right (c := rv H) (by rw [hc, Rat.zero_mul]; exact hx0) hh
    have hd0 : 0 ≤ d := Rat.le_of_mul_le_mul_right (c := rv H) (by rw [hd, Rat.zero_mul]; exact hy0) hh
    have hWpos : 0 < rv H * rv H := Rat.mul_pos hh hh
    have hcd : c ≤ 2 ∧ d ≤ 2 := by
      have hZ : (c * c + d * d) * (rv H * rv H) = N := by rw [← hNe, ← hc, ← hd]; grind
      have h1 : c * c + d * d ≤ 4 := by
        refine Rat.le_of_mul_le_mul_right (c := rv H * rv H) ?_ hWpos
        rw [hZ]
        grind
      have hcc := rsq_nn c
      have hdd := rsq_nn d
      exact ⟨(bd_of_sq (by decide) (show c * c ≤ 2 * 2 by grind)).2, (bd_of_sq (by decide) (show d * d ≤ 2 * 2 by grind)).2⟩
    have two900 : (2 : Rat) ≤ p2 900 := by
      have h6 := p2_le (show (1 : Int) ≤ 900 by decide)
      rw [show (1 : Int) = 0 + 1 by decide, p2_succ, p2_zero, Rat.mul_one] at h6
      exact h6
    have hA24 := O.lA
    have hB24 := O.lB
    have w24 := (pw_val (k := 24) (by decide) (by decide)).2.2
    have fA : Fn (some (wd s A)) := ⟨s, A, rfl, by omega⟩
    have fB : Fn (some (wd t B)) := ⟨t, B, rfl, by omega⟩
    obtain ⟨c1, c2⟩ := divE fA (show H ≠ 0 by omega) O.lH (q := sg s c) (m := c) (by rw [fv_wd s (by omega), vz_sg, ← hc]; unfold sg; cases s <;> simp; grind) (bd_sg.2 (bd_self hc0)) (by grind)
    obtain ⟨d1, d2⟩ := divE fB (show H ≠ 0 by omega) O.lH (q := sg t d) (m := d) (by rw [fv_wd t (by omega), vz_sg, ← hd]; unfold sg; cases t <;> simp; grind) (bd_sg.2 (bd_self hd0)) (by grind)
    rw [← O.ec] at c1 c2
    rw [← O.es] at d1 d2
    obtain ⟨C, hC⟩ : ∃ C, sg s (fv cc) = C := ⟨_, rfl⟩
    obtain ⟨D, hD⟩ : ∃ D, sg t (fv ss) = D := ⟨_, rfl⟩
    have hC2 : fv cc = sg s C := by rw [← hC, sg_sg]
    have hD2 : fv ss = sg t D := by rw [← hD, sg_sg]
    have eC : Bd (C - c) (151/100 * (uu * c) + ee) := by
      have := c2
      rw [hC2, ← sg_sub] at this
      exact bd_sg.1 this
    have eD : Bd (D - d) (151/100 * (uu * d) + ee) := by
      have := d2
      rw [hD2, ← sg_sub] at this
      exact bd_sg.1 this
    obtain ⟨k1, k2, k3⟩ := ofn3 hu.2 hu.1 he0 hk rfl hWpos hNe w1 hc0 hd0 hc hd eC eD
    have k4 := ofn4 hu.2 hu.1 he0 hk hkh rfl hh hNe w1 hc0 hd0 hc hd eC eD k1 k2 ha0 hb0 xa yb
    have k5 := ofn5 hu.2 hu.1 he0 hk hkh rfl hh hNe w3 hc hd eC eD hc0 hd0 k1 k2 ha0 hb0 xa yb
    have k6 := ofn6 hu.2 hu.1 he0 hkh rfl hh hNe w2 w3 hx0 hy0 ha0 hb0 xa yb
    have re := mid_err O.mR (rmul_nn (Rat.le_of_lt hh) (Rat.le_of_lt pK))
    have hR : fv rr = rv R := by
      rw [O.er]
      have := fv_wd false O.lR
      rw [show wd false R = R from rfl] at this
      exact this
    have fR : Fn rr := ⟨false, R, O.er, O.lR⟩
    refine ⟨c1, d1, fR, ?_⟩
    rw [hC2, hD2, hR, hfa, hgb]
    -- the root, scaled back, is no greater than M
    have hhM : rv H * p2 K ≤ 1001/1000 * M := by
      refine (bd_of_sq (by grind) ?_).2
      have e1 : rv H * p2 K * (rv H * p2 K) = (rv H * rv H) * (p2 K * p2 K) := by grind
      have e2 : rv f * rv f + rv g * rv g = (a * a + b * b) * (p2 K * p2 K) := by rw [hfa, hgb]; grind
      rw [e2] at hM
      rw [e1]
      have h1 := Rat.mul_le_mul_of_nonneg_right k6 (rsq_nn (p2 K))
      have := rsq_nn M
      grind
    have huh := rmul_mono hu0 hhM
    constructor
    · rw [sg_self, sg_self]; exact k3
    · rw [sg_self, sg_self]
      have h1 := k4.mul (bd_self (Rat.le_of_lt pK))
      have h2 := re.add h1
      rw [show rv R - rv H * p2 K + (rv H - (C * a + D * b)) * p2 K = rv R - (C * (a * p2 K) + D * (b * p2 K)) by grind] at h2
      exact h2.mono (by grind)
    · rw [sg_mul, sg_mul, show (t ^^ s) = (s ^^ t) from Bool.xor_comm _ _, ← sg_sub]
      refine bd_sg.2 ?_
      have h1 := k5.mul (bd_self (Rat.le_of_lt pK))
      rw [show (C * b - D * a) * p2 K = C * (b * p2 K) - D * (a * p2 K) by grind] at h1
      exact h1.mono (by grind)
end Go.Proofs.YtmmligbkecilfaaGreatDoor.Lv
namespace Go.Proofs.YtmmligbkecilfaaGreatDoor.Lv
open Ieee

/-- how far one rotation may be off -/
def EE (M N : Rat) : Rat := 24 * (uu * (M * N)) + 63/10 * (ee * (M + N)) + 20 * (ee * ee)
def absQ (q : Rat) : Rat := if q < 0 then -q else q
theorem absQ_nn (q : Rat) : 0 ≤ absQ q := by unfold absQ; split <;> grind
theorem absQ_bd (q : Rat) : Bd q (absQ q) := by unfold absQ Bd; split <;> grind
theorem absQ_sq (q : Rat) : absQ q * absQ q = q * q := by unfold absQ; split <;> grind
theorem bd_mid {x m : Rat} (h : Bd x m) : absQ x ≤ m := by unfold absQ Bd at *; split <;> grind
/-- Cauchy -/
theorem cauchy {a b c d M N : Rat} (hM : 0 ≤ M) (hN : 0 ≤ N) (h1 : a * a + b * b ≤ M * M) (h2 : c * c + d * d ≤ N * N) : Bd (a * c + b * d) (M * N) := by
  refine bd_of_sq (rmul_nn hM hN) ?_
  have e : (a * c + b * d) * (a * c + b * d) + (a * d - b * c) * (a * d - b * c) = (a * a + b * b) * (c * c + d * d) := by grind
  have h3 := rmul_le (show 0 ≤ a * a + b * b by have := rsq_nn a; have := rsq_nn b; grind) (show 0 ≤ c * c + d * d by have := rsq_nn c; have := rsq_nn d; grind) h1 h2
  have h4 := rsq_nn (a * d - b * c)
  have e2 : M * M * (N * N) = M * N * (M * N) := by grind
  rw [← e2]
  grind
theorem one_le {C S : Rat} (h : Bd (C * C + S * S - 1) (75/10 * uu)) : C * C + S * S ≤ (10001/10000) * (10001/10000) := by
  have hu := uu_small
  unfold Bd at h
  grind
/-- a sum of two products of a rotation -/
theorem turn_off {c s t r : Option Nat} (hc : Fn c) (hs : Fn s) (ht : Fn t) (hr : Fn r) {M : Rat} (hM0 : 0 ≤ M) (hM : M ≤ p2 440) (h1 : Bd (fv c * fv c + fv s * fv s - 1) (75/10 * uu)) (h2 : fv t * fv t + fv r * fv r ≤ M * M) :
    (Fn (fadd (fmul c t) (fmul s r)) ∧ Bd (fv (fadd (fmul c t) (fmul s r)) - (fv c * fv t + fv s * fv r)) (21/10 * (uu * M) + 31/10 * ee) ∧ Bd (fv c * fv t + fv s * fv r) (10001/10000 * M)) ∧
    (Fn (fsub (fmul c t) (fmul s r)) ∧ Bd (fv (fsub (fmul c t) (fmul s r)) - (fv c * fv t - fv s * fv r)) (21/10 * (uu * M) + 31/10 * ee) ∧ Bd (fv c * fv t - fv s * fv r) (10001/10000 * M)) := by
  have hu := uu_small
  have hu0 := Rat.le_of_lt hu.2
  have he0 := Rat.le_of_lt ee_pos
  have hone := one_le h1
  have huM := rmul_nn hu0 hM0
  -- both products' sizes, together
  have hsum : absQ (fv c * fv t) + absQ (fv s * fv r) ≤ 10001/10000 * M := by
    have k := cauchy (a := absQ (fv c)) (b := absQ (fv s)) (c := absQ (fv t)) (d := absQ (fv r)) (M := 10001/10000) (N := M) (by grind) hM0 (by rw [absQ_sq, absQ_sq]; exact hone) (by rw [absQ_sq, absQ_sq]; exact h2)
    have a1 : absQ (fv c * fv t) ≤ absQ (fv c) * absQ (fv t) := bd_mid ((absQ_bd _).mul (absQ_bd _))
    have a2 : absQ (fv s * fv r) ≤ absQ (fv s) * absQ (fv r) := bd_mid ((absQ_bd _).mul (absQ_bd _))
    unfold Bd at k
    grind
  have n1 := absQ_nn (fv c * fv t)
  have n2 := absQ_nn (fv s * fv r)
  have p441 : p2 441 = 2 * p2 440 := by rw [show (441 : Int) = 440 + 1 by decide, p2_succ]
  have p1000 : p2 441 ≤ p2 1000 := p2_le (by decide)
  have hp : 0 < p2 440 := p2_pos 440
  have m1 := mulE hc ht (absQ_bd (fv c * fv t)) (by grind)
  have m2 := mulE hs hr (absQ_bd (fv s * fv r)) (by grind)
  obtain ⟨f1, b1⟩ := m1
  obtain ⟨f2, b2⟩ := m2
  generalize fv c * fv t = q1 at *
  generalize fv s * fv r = q2 at *
  generalize fmul c t = p1 at *
  generalize fmul s r = p2' at *
  generalize hx1 : absQ q1 = x1 at *
  generalize hx2 : absQ q2 = x2 at *
  have bq1 : Bd q1 x1 := by rw [← hx1]; exact absQ_bd _
  have bq2 : Bd q2 x2 := by rw [← hx2]; exact absQ_bd _
  have uS := rmul_mono hu0 hsum
  have e440 : ee ≤ 1/1000 * p2 440 := by
    have t10 : p2 (-10) ≤ 1/1000 := by
      have e1 : p2 (-10) * p2 10 = 1 := by rw [← p2_add]; exact p2_zero
      have e2 := p2_nat 10
      rw [show ((10 : Nat) : Int) = 10 from rfl] at e2
      have e3 : ((2 ^ 10 : Nat) : Rat) = 1024 := by norm_cast
      rw [e2, e3] at e1
      grind
    have h2 := Rat.mul_le_mul_of_nonneg_right t10 (Rat.le_of_lt (p2_pos 440))
    rw [← p2_add] at h2
    have h3 : ee ≤ p2 (-10 + 440) := p2_le (by decide)
    grind
  have hm : x1 + x2 + (uu * (x1 + x2) + 2 * ee) ≤ p2 1000 := by
    have h5 : uu * (10001/10000 * M) ≤ 1/1000 * M := by
      have : uu * M ≤ 1/10000 * M := Rat.mul_le_mul_of_nonneg_right (by grind) hM0
      grind
    grind
  have uu2 : uu * (uu * (x1 + x2) + 2 * ee) ≤ 1/10000 * (uu * (x1 + x2) + 2 * ee) := by
    have h6 := rmul_nn hu0 (show 0 ≤ x1 + x2 by grind)
    exact Rat.mul_le_mul_of_nonneg_right (by grind) (by grind)
  constructor
  · have a := addE f1 f2 (m := x1 + x2 + (uu * (x1 + x2) + 2 * ee)) (by unfold Bd at *; constructor <;> grind) hm
    refine ⟨a.1, ?_, (bq1.add bq2).mono hsum⟩
    have h7 := a.2.add (b1.add b2)
    rw [show fv (fadd p1 p2') - (fv p1 + fv p2') + (fv p1 - q1 + (fv p2' - q2)) = fv (fadd p1 p2') - (q1 + q2) by grind] at h7
    exact h7.mono (by grind)
  · have a := subE f1 f2 (m := x1 + x2 + (uu * (x1 + x2) + 2 * ee)) (by unfold Bd at *; constructor <;> grind) hm
    refine ⟨a.1, ?_, (bq1.sub bq2).mono hsum⟩
    have h7 := a.2.add (b1.sub b2)
    rw [show fv (fsub p1 p2') - (fv p1 - fv p2') + (fv p1 - q1 - (fv p2' - q2)) = fv (fsub p1 p2') - (q1 - q2) by grind] at h7
    exact h7.mono (by grind)
theorem ee_uu : ee ≤ 1/1000000 * uu ∧ ee ≤ 1/1000000 := by
  have t10 : p2 (-30) ≤ 1/1000000 := by
    have e1 : p2 (-30) * p2 30 = 1 := by rw [← p2_add]; exact p2_zero
    have e2 := p2_nat 30
    rw [show ((30 : Nat) : Int) = 30 from rfl] at e2
    have e3 : ((2 ^ 30 : Nat) : Rat) = 1073741824 := by norm_cast
    rw [e2, e3] at e1
    grind
  constructor
  · have h2 := Rat.mul_le_mul_of_nonneg_right t10 (Rat.le_of_lt uu_pos)
    unfold uu at h2 ⊢
    rw [← p2_add] at h2
    have h3 : ee ≤ p2 (-30 + -53) := p2_le (by decide)
    grind
  · have h3 : ee ≤ p2 (-30) := p2_le (by decide)
    grind
theorem ee_bits {M N : Rat} (hM : 0 ≤ M) (hN : 0 ≤ N) : 0 ≤ uu * (M * N) ∧ 0 ≤ ee * M ∧ 0 ≤ ee * N ∧ 0 ≤ ee * ee ∧ uu * (uu * (M * N)) ≤ 1/1000000 * (uu * (M * N)) ∧ uu * (ee * M) ≤ 1/1000000 * (ee * M) ∧ uu * (ee * N) ≤ 1/1000000 * (ee * N) := by
  have hu := uu_small
  have hu0 := Rat.le_of_lt hu.2
  have he0 := Rat.le_of_lt ee_pos
  have a1 := rmul_nn hu0 (rmul_nn hM hN)
  have a2 := rmul_nn he0 hM
  have a3 := rmul_nn he0 hN
  have a4 := rmul_nn he0 he0
  exact ⟨a1, a2, a3, a4, Rat.mul_le_mul_of_nonneg_right (by grind) a1, Rat.mul_le_mul_of_nonneg_right (by grind) a2, Rat.mul_le_mul_of_nonneg_right (by grind) a3⟩
/-- two columns that were both turned -/
theorem pair_both {C S ti ri tl rl xi yi xl yl M N : Rat} (hM : 0 ≤ M) (hN : 0 ≤ N) (one : Bd (C * C + S * S - 1) (75/10 * uu)) (h1 : ti * ti + ri * ri ≤ M * M) (h2 : tl * tl + rl * rl ≤ N * N)
    (e1 : Bd (xi - (C * ti + S * ri)) (21/10 * (uu * M) + 31/10 * ee)) (e2 : Bd (yi - (C * ri - S * ti)) (21/10 * (uu * M) + 31/10 * ee)) (e3 : Bd (xl - (C * tl + S * rl)) (21/10 * (uu * N) + 31/10 * ee)) (e4 : Bd (yl - (C * rl - S * tl)) (21/10 * (uu * N) + 31/10 * ee))
    (b1 : Bd (C * ti + S * ri) (10001/10000 * M)) (b2 : Bd (C * ri - S * ti) (10001/10000 * M)) (b3 : Bd (C * tl + S * rl) (10001/10000 * N)) (b4 : Bd (C * rl - S * tl) (10001/10000 * N)) :
    Bd (xi * xl + yi * yl - (ti * tl + ri * rl)) (EE M N) := by
  have c := one.mul (cauchy hM hN h1 h2)
  have d1 := ((e1.mul b3).add (b1.mul e3)).add (e1.mul e3)
  have d2 := ((e2.mul b4).add (b2.mul e4)).add (e2.mul e4)
  have d := (d1.add d2).add c
  rw [show (xi - (C * ti + S * ri)) * (C * tl + S * rl) + (C * ti + S * ri) * (xl - (C * tl + S * rl)) + (xi - (C * ti + S * ri)) * (xl - (C * tl + S * rl)) + ((yi - (C * ri - S * ti)) * (C * rl - S * tl) + (C * ri - S * ti) * (yl - (C * rl - S * tl)) + (yi - (C * ri - S * ti)) * (yl - (C * rl - S * tl))) + (C * C + S * S - 1) * (ti * tl + ri * rl) = xi * xl + yi * yl - (ti * tl + ri * rl) by grind] at d
  refine d.mono ?_
  clear d d1 d2 c e1 e2 e3 e4 b1 b2 b3 b4 one h1 h2
  obtain ⟨a1, a2, a3, a4, a5, a6, a7⟩ := ee_bits hM hN
  unfold EE
  rw [show 75/10 * uu * (M * N) = 75/10 * (uu * (M * N)) by grind,
    show (21/10 * (uu * M) + 31/10 * ee) * (10001/10000 * N) = 210021/100000 * (uu * (M * N)) + 310031/100000 * (ee * N) by grind,
    show 10001/10000 * M * (21/10 * (uu * N) + 31/10 * ee) = 210021/100000 * (uu * (M * N)) + 310031/100000 * (ee * M) by grind,
    show (21/10 * (uu * M) + 31/10 * ee) * (21/10 * (uu * N) + 31/10 * ee) = 441/100 * (uu * (uu * (M * N))) + 651/100 * (uu * (ee * M)) + 651/100 * (uu * (ee * N)) + 961/100 * (ee * ee) by grind]
  rw [show ee * (M + N) = ee * M + ee * N by grind]
  generalize uu * (uu * (M * N)) = z1 at *
  generalize uu * (M * N) = z2 at *
  generalize uu * (ee * M) = z3 at *
  generalize uu * (ee * N) = z4 at *
  generalize ee * M = z5 at *
  generalize ee * N = z6 at *
  generalize ee * ee = z7 at *
  grind
/-- the column that the rotation takes out, and one that it turned -/
theorem pair_one {C S F G R tl rl xl M N : Rat} (hM : 0 ≤ M) (hN : 0 ≤ N) (o : OfOk F G C S R M) (h1 : F * F + G * G ≤ M * M) (h2 : tl * tl + rl * rl ≤ N * N)
    (b : Bd (C * F + S * G) (10001/10000 * M)) (e3 : Bd (xl - (C * tl + S * rl)) (21/10 * (uu * N) + 31/10 * ee)) (b3 : Bd (C * tl + S * rl) (10001/10000 * N)) (b4 : Bd (C * rl - S * tl) (10001/10000 * N)) :
    Bd (R * xl - (F * tl + G * rl)) (EE M N) := by
  have c := o.one.mul (cauchy hM hN h1 h2)
  have hR := o.on.add b
  rw [show R - (C * F + S * G) + (C * F + S * G) = R by grind] at hR
  have d := (((hR.mul e3).add (o.on.mul b3)).add c).sub (o.off.mul b4)
  rw [show R * (xl - (C * tl + S * rl)) + (R - (C * F + S * G)) * (C * tl + S * rl) + (C * C + S * S - 1) * (F * tl + G * rl) - (C * G - S * F) * (C * rl - S * tl) = R * xl - (F * tl + G * rl) by grind] at d
  refine d.mono ?_
  clear d hR c e3 b b3 b4 h1 h2 o
  obtain ⟨a1, a2, a3, a4, a5, a6, a7⟩ := ee_bits hM hN
  unfold EE
  rw [show 75/10 * uu * (M * N) = 75/10 * (uu * (M * N)) by grind,
    show (8 * (uu * M) + ee + 10001/10000 * M) * (21/10 * (uu * N) + 31/10 * ee) = 168/10 * (uu * (uu * (M * N))) + 248/10 * (uu * (ee * M)) + 21/10 * (uu * (ee * N)) + 31/10 * (ee * ee) + 210021/100000 * (uu * (M * N)) + 310031/100000 * (ee * M) by grind,
    show (8 * (uu * M) + ee) * (10001/10000 * N) = 80008/10000 * (uu * (M * N)) + 10001/10000 * (ee * N) by grind,
    show 3 * (uu * M) * (10001/10000 * N) = 30003/10000 * (uu * (M * N)) by grind]
  rw [show ee * (M + N) = ee * M + ee * N by grind]
  generalize uu * (uu * (M * N)) = z1 at *
  generalize uu * (M * N) = z2 at *
  generalize uu * (ee * M) = z3 at *
  generalize uu * (ee * N) = z4 at *
  generalize ee * M = z5 at *
  generalize ee * N = z6 at *
  generalize ee * ee = z7 at *
  grind
/-- the column that the rotation takes out, by itself -/
theorem pair_self {C S F G R M : Rat} (hM : 0 ≤ M) (o : OfOk F G C S R M) (h1 : F * F + G * G ≤ M * M) (b : Bd (C * F + S * G) (10001/10000 * M)) : Bd (R * R - (F * F + G * G)) (EE M M) := by
  have h0 : Bd (F * F + G * G) (M * M) := by have := rsq_nn F; have := rsq_nn G; unfold Bd; grind
  have c := o.one.mul h0
  have hR := (o.on.add b).add b
  rw [show R - (C * F + S * G) + (C * F + S * G) + (C * F + S * G) = R + (C * F + S * G) by grind] at hR
  have d := ((o.on.mul hR).add c).sub (o.off.mul o.off)
  rw [show (R - (C * F + S * G)) * (R + (C * F + S * G)) + (C * C + S * S - 1) * (F * F + G * G) - (C * G - S * F) * (C * G - S * F) = R * R - (F * F + G * G) by grind] at d
  refine d.mono ?_
  clear d hR c b h0 h1 o
  obtain ⟨a1, a2, a3, a4, a5, a6, a7⟩ := ee_bits hM hM
  unfold EE
  rw [show 75/10 * uu * (M * M) = 75/10 * (uu * (M * M)) by grind,
    show (8 * (uu * M) + ee) * (8 * (uu * M) + ee + 10001/10000 * M + 10001/10000 * M) = 64 * (uu * (uu * (M * M))) + 16 * (uu * (ee * M)) + ee * ee + 160016/10000 * (uu * (M * M)) + 20002/10000 * (ee * M) by grind,
    show 3 * (uu * M) * (3 * (uu * M)) = 9 * (uu * (uu * (M * M))) by grind]
  rw [show ee * (M + M) = ee * M + ee * M by grind]
  generalize uu * (uu * (M * M)) = z1 at *
  generalize uu * (M * M) = z2 at *
  generalize uu * (ee * M) = z3 at *
  generalize ee * M = z5 at *
  generalize ee * ee = z7 at *
  grind
end Go.Proofs.YtmmligbkecilfaaGreatDoor.Lv
