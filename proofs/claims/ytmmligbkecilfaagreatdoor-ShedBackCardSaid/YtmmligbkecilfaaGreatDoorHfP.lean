/- Hyperbolic rotations: how far they are from what they should be. A row taken out: what it changes in the sums of products. A row taken out of a factor: the Gram list behind it. A row taken out, and one absorbed and taken out again: near to what they should be; the reference's Sub of layer 8. ShedNear, walked. ShedBack, walked. ShedNear holds of every input: the given statement Rows.ShedNearSaid. ShedBack holds of every input: the given statement Rows.ShedBackSaid. -/
import Derived.Test.YtmmligbkecilfaaGreatDoorZq
import Derived.Test.YtmmligbkecilfaaGreatDoorTb
import Derived.Test.YtmmligbkecilfaaGreatDoorWb
import Derived.Test.YtmmligbkecilfaaGreatDoorLl
import Derived.Test.YtmmligbkecilfaaGreatDoorZm
import Derived.Test.YtmmligbkecilfaaGreatDoorPa
import Derived.Test.YtmmligbkecilfaaGreatDoorTf
import Derived.Test.YtmmligbkecilfaaGreatDoorTie
import Derived.Test.YtmmligbkecilfaaGreatDoorCards
import Derived.ChangeVars
import Derived.JoinedOf
import Derived.RowKitTokens
import Derived.Stop.Joined
import Derived.SevenTiedAt
namespace Go.Proofs.YtmmligbkecilfaaGreatDoor
open Lv
open Ieee

theorem one_below {r : Nat} (h : r < 4607182418800017408) : rv r ≤ 1 - uu := by
  have hs := rv_succ 1021 9007199254740991 (by omega) (.inr (by omega))
  rw [show 1021 * 4503599627370496 + 9007199254740991 + 1 = 4607182418800017408 by omega, show 1021 * 4503599627370496 + 9007199254740991 = 4607182418800017407 by omega, show (-1074 + ((1021 : Nat) : Int)) = -53 by decide] at hs
  have h1 := fv_one
  have h2 := fv_wd false (r := 4607182418800017408) (by decide)
  rw [show wd false 4607182418800017408 = 4607182418800017408 from rfl, h1] at h2
  have h3 : (1 : Rat) = rv 4607182418800017408 := h2
  have h4 := rv_le (show r ≤ 4607182418800017407 by omega)
  have h5 : p2 (-53) = uu := rfl
  rw [h5] at hs
  grind
theorem addR {x y : Option Nat} (hx : Lv.Fn x) (hy : Lv.Fn y) (h : Lv.Fn (fadd x y)) : Bd (fv (fadd x y) - (fv x + fv y)) (uu * absQ (fv (fadd x y)) + ee) := by
  obtain ⟨s, a, rfl, ha⟩ := hx
  obtain ⟨t, b, rfl, hb⟩ := hy
  obtain ⟨u, ρ, z, hz, h1, hzv, _, h2⟩ := add_gen s t ha hb
  have e : fadd (some (wd s a)) (some (wd t b)) = some (wd u (min ρ 9218868437227405312)) := h2
  rw [e] at h ⊢
  have hρ := min_lt h
  rw [Nat.min_eq_left (by omega), fv_wd _ hρ, fv_wd s ha, fv_wd t hb, ← hzv, vz_sg, absQ_sg _ (rv_nonneg _)]
  show Bd (Lv.sg u (rv ρ) - Lv.sg u z) _
  rw [← sg_sub]
  exact bd_sg.2 (mid_res h1 hz)
theorem ee_uu3 : ee ≤ 1/1000 * (uu * uu * uu) := by
  have u3 : uu * uu * uu = p2 (-159) := by unfold uu; rw [← p2_add, ← p2_add]; rfl
  have t10 : p2 (-10) ≤ 1/1000 := by
    have e1 : p2 (-10) * p2 10 = 1 := by rw [← p2_add]; exact p2_zero
    have e2 := p2_nat 10
    rw [show ((10 : Nat) : Int) = 10 from rfl] at e2
    have e3 : ((2 ^ 10 : Nat) : Rat) = 1024 := by norm_cast
    rw [e2, e3] at e1
    grind
  rw [u3]
  have h2 := Rat.mul_le_mul_of_nonneg_right t10 (Rat.le_of_lt (p2_pos (-159)))
  rw [← p2_add] at h2
  exact Rat.le_trans (p2_le (by decide)) h2
/-- the numbers of a hyperbolic rotation's cosine -/
theorem hyc_num {s L G Q h : Rat} (hs : Bd s (1 - uu)) (h1 : Bd (L - (1 - s)) (uu * absQ L + ee)) (h2 : Bd (G - (1 + s)) (uu * absQ G + ee)) (h3 : Bd (Q - L * G) (uu * absQ (L * G) + ee)) :
    1/8 * (uu * uu) ≤ Q ∧ (0 ≤ h → h * h * ((1 - uu) * (1 - uu)) ≤ Q → Q ≤ h * h * ((1 + uu) * (1 + uu)) → Bd (h * h + s * s - 1) (6 * uu)) := by
  have hu := uu_small
  have hu0 := Rat.le_of_lt hu.2
  have he := ee_uu3
  have he0 := Rat.le_of_lt ee_pos
  have uu2 := rmul_nn hu0 hu0
  have uu3 := rmul_nn uu2 hu0
  have u9 : uu ≤ 1/1000000 := by grind
  have uu2s : uu * uu ≤ 1/1000000 * uu := Rat.mul_le_mul_of_nonneg_right u9 hu0
  have uu3s : uu * uu * uu ≤ 1/1000000 * (uu * uu) := by
    have := Rat.mul_le_mul_of_nonneg_right u9 uu2
    grind
  -- both factors
  have key : ∀ {A X : Rat}, uu ≤ A → Bd (X - A) (uu * absQ X + ee) → 1/2 * uu ≤ X ∧ Bd (X - A) (101/100 * (uu * X)) := by
    intro A X hA hX
    have hX0 : 0 ≤ X := by
      by_cases c : 0 ≤ X
      · exact c
      · exfalso
        have e : absQ X = -X := by unfold absQ; rw [if_pos (by grind)]
        rw [e] at hX
        have : uu * -X ≤ 1 * -X := Rat.mul_le_mul_of_nonneg_right (by grind) (by grind)
        unfold Bd at hX
        grind
    have e : absQ X = X := by unfold absQ; rw [if_neg (by grind)]
    rw [e] at hX
    have ux := rmul_nn hu0 hX0
    have uxs : uu * X ≤ 1/1000000 * X := Rat.mul_le_mul_of_nonneg_right u9 hX0
    have hlow : 1/2 * uu ≤ X := by unfold Bd at hX; grind
    refine ⟨hlow, hX.mono ?_⟩
    have := rmul_mono hu0 hlow
    grind
  obtain ⟨l1, l2⟩ := key (show uu ≤ 1 - s by unfold Bd at hs; grind) h1
  obtain ⟨g1, g2⟩ := key (show uu ≤ 1 + s by unfold Bd at hs; grind) h2
  have L0 : 0 ≤ L := by grind
  have G0 : 0 ≤ G := by grind
  have LG0 := rmul_nn L0 G0
  have e3 : absQ (L * G) = L * G := by unfold absQ; rw [if_neg (by grind)]
  rw [e3] at h3
  have uLG := rmul_nn hu0 LG0
  have uLGs : uu * (L * G) ≤ 1/1000000 * (L * G) := Rat.mul_le_mul_of_nonneg_right u9 LG0
  have uL := rmul_nn hu0 L0
  have uG := rmul_nn hu0 G0
  have hLG : 1/4 * (uu * uu) ≤ L * G := by
    have := rmul_le (show 0 ≤ 1/2 * uu by grind) (show 0 ≤ 1/2 * uu by grind) l1 g1
    have e : 1/2 * uu * (1/2 * uu) = 1/4 * (uu * uu) := by grind
    rw [e] at this
    exact this
  have hee : ee ≤ 1/250 * (uu * (L * G)) := by
    have := rmul_mono hu0 hLG
    grind
  -- the product against (1 - s) (1 + s)
  obtain ⟨A, hA⟩ : ∃ A, 1 - s = A := ⟨_, rfl⟩
  obtain ⟨B, hB⟩ : ∃ B, 1 + s = B := ⟨_, rfl⟩
  rw [hA] at l2
  rw [hB] at g2
  have A0 : 0 ≤ A := by unfold Bd at hs; grind
  have B0 : 0 ≤ B := by unfold Bd at hs; grind
  have AB1 : A * B ≤ 1 := by
    have := rsq_nn s
    have e : A * B = 1 - s * s := by rw [← hA, ← hB]; grind
    rw [e]; grind
  have hAL : A ≤ 1000002/1000000 * L := by
    have := Rat.mul_le_mul_of_nonneg_right u9 L0
    unfold Bd at l2
    grind
  have d1 := (l2.mul (bd_self G0))
  have d2 := (bd_self A0).mul g2
  have d3 := d1.add d2
  rw [show (L - A) * G + A * (G - B) = L * G - A * B by grind] at d3
  have uAG : uu * (A * G) ≤ 1000002/1000000 * (uu * (L * G)) := by
    have x1 := Rat.mul_le_mul_of_nonneg_right hAL G0
    have x2 := rmul_mono hu0 x1
    grind
  have d4 : Bd (L * G - A * B) (203/100 * (uu * (L * G))) := d3.mono (by grind)
  have d5 := h3.add d4
  rw [show Q - L * G + (L * G - A * B) = Q - A * B by grind] at d5
  have d6 : Bd (Q - A * B) (304/100 * (uu * (L * G))) := d5.mono (by grind)
  have hLG1 : L * G ≤ 1001/1000 := by unfold Bd at d4; grind
  have uLG1 : uu * (L * G) ≤ 1001/1000 * uu := by
    have := rmul_mono hu0 hLG1
    grind
  have d7 : Bd (Q - A * B) (305/100 * uu) := d6.mono (by grind)
  refine ⟨?_, fun hh0 k1 k2 => ?_⟩
  · have h3' := h3.1
    clear d1 d2 d3 d4 d5 d6 d7 l2 g2 h1 h2 key
    generalize L * G = z at *
    generalize uu * z = y at *
    grind
  have e : A * B = 1 - s * s := by rw [← hA, ← hB]; grind
  rw [e] at d7
  have hh := rsq_nn h
  have Q1 : Q ≤ 1001/1000 := by unfold Bd at d7; have := rsq_nn s; grind
  obtain ⟨H, hH⟩ : ∃ H, h * h = H := ⟨_, rfl⟩
  rw [hH] at k1 k2 hh ⊢
  have uH := rmul_nn hu0 hh
  have uHs : uu * H ≤ 1/1000000 * H := Rat.mul_le_mul_of_nonneg_right u9 hh
  have uuH : uu * (uu * H) ≤ 1/1000000 * (uu * H) := Rat.mul_le_mul_of_nonneg_right u9 uH
  have uuH0 := rmul_nn hu0 uH
  have k1' : H - 2 * (uu * H) + uu * (uu * H) ≤ Q := by
    rw [show H - 2 * (uu * H) + uu * (uu * H) = H * ((1 - uu) * (1 - uu)) by grind]; exact k1
  have k2' : Q ≤ H + 2 * (uu * H) + uu * (uu * H) := by
    rw [show H + 2 * (uu * H) + uu * (uu * H) = H * ((1 + uu) * (1 + uu)) by grind]; exact k2
  have H1 : H ≤ 1002/1000 := by grind
  have uH1 : uu * H ≤ 1002/1000 * uu := by
    have := rmul_mono hu0 H1
    grind
  clear k1 k2 d1 d2 d3 d4 d5 d6 key
  generalize uu * (uu * H) = y1 at *
  generalize uu * H = y2 at *
  generalize s * s = y3 at *
  unfold Bd at d7 ⊢
  constructor <;> grind
theorem fn_fw {x : Option Nat} (h : Lv.Fn x) : ∃ b, x = some b ∧ FW b x := by
  obtain ⟨s, r, rfl, hr⟩ := h
  refine ⟨_, rfl, ?_, ab_num ?_⟩
  · unfold W64; cases s <;> simp only [wd, Bool.false_eq_true, if_false, if_true] <;> omega
  · unfold Lv.nan; rw [wd_mod s (by omega)]; exact decide_eq_false (by omega)
theorem lt_one_fn {x : Option Nat} (hw : Wb x) (h : ltOne x = true) : Lv.Fn x ∧ Bd (fv x) (1 - uu) := by
  cases x with
  | none => cases h
  | some b =>
    have hb : b % 9223372036854775808 < 4607182418800017408 := of_decide_eq_true h
    have h64 := (hw b rfl).1
    obtain ⟨s, r, e, hr⟩ : ∃ (s : Bool) (r : Nat), some b = some (wd s r) ∧ r < 4607182418800017408 := by
      refine ⟨decide (9223372036854775808 ≤ b), b % 9223372036854775808, ?_, hb⟩
      by_cases c : 9223372036854775808 ≤ b
      · rw [decide_eq_true c]
        show some b = some (9223372036854775808 + b % 9223372036854775808)
        congr 1; omega
      · rw [decide_eq_false c]
        show some b = some (b % 9223372036854775808)
        congr 1; omega
    rw [e]
    refine ⟨⟨s, r, rfl, by omega⟩, ?_⟩
    rw [fv_wd s (by omega), vz_sg]
    exact bd_sg.2 ((bd_self (rv_nonneg r)).mono (one_below hr))
/-- a hyperbolic rotation's numbers -/
theorem hyE {r x cc ss : Option Nat} (hr : Lv.Fn r) (hx : Lv.Fn x) (h : hyperF r x = some (cc, ss)) :
    (∃ H, cc = some (wd false H) ∧ H ≠ 0 ∧ H < 9218868437227405312) ∧ Lv.Fn ss ∧ Bd (fv cc * fv cc + fv ss * fv ss - 1) (6 * uu) ∧ Bd (fv ss) 1 ∧ 0 ≤ fv cc ∧ Bd (fv x - fv ss * fv r) (2 * (uu * absQ (fv r)) + 2 * (ee * absQ (fv r))) := by
  have hu := uu_small
  have hu0 := Rat.le_of_lt hu.2
  have he0 := Rat.le_of_lt ee_pos
  have hn : (numF r && numF x) = true := by
    obtain ⟨s, a, rfl, ha⟩ := hr
    obtain ⟨t, b, rfl, hb⟩ := hx
    rw [numF_wd s ha, numF_wd t hb]; rfl
  have ra0 : 0 ≤ absQ (fv r) := absQ_nn _
  by_cases hz : (zeroF r && zeroF x) = true
  · rw [hyper_zero hn hz] at h
    simp only [Option.some.injEq, Prod.mk.injEq] at h
    obtain ⟨rfl, rfl⟩ := h
    rw [Bool.and_eq_true] at hz
    have z0 : ∀ {y : Option Nat}, Lv.Fn y → zeroF y = true → fv y = 0 := by
      intro y hy hz
      obtain ⟨s, a, rfl, ha⟩ := hy
      rw [zeroF_wd s ha] at hz
      have := of_decide_eq_true hz
      subst this
      rw [fv_wd s ha, vz_sg, rv_zero]
      unfold Lv.sg; cases s <;> simp
    rw [fv_one, fv_nil, z0 hx hz.2, z0 hr hz.1]
    refine ⟨⟨4607182418800017408, rfl, by decide, by decide⟩, fn_nil, ?_, ?_, by grind, ?_⟩
    · rw [show (1 : Rat) * 1 + 0 * 0 - 1 = 0 by grind]; exact bd_zero (by grind)
    · exact bd_zero (by grind)
    · rw [show (0 : Rat) - 0 * 0 = 0 by grind]
      have e : absQ 0 = 0 := by unfold absQ; simp
      rw [e]; exact bd_zero (by grind)
  · have hz : (zeroF r && zeroF x) = false := by simpa using hz
    by_cases zr : zeroF r = true
    · obtain ⟨b, _, hb⟩ := fn_fw hr
      obtain ⟨d, _, hd⟩ := fn_fw hx
      rw [zr, Bool.true_and] at hz
      rw [hyper_inf hb hd hn zr hz] at h
      cases h
    · obtain ⟨t, H, rfl, h0, hH⟩ := not_zero hr (by simpa using zr)
      rw [hyper_some hn hz] at h
      by_cases hl : ltOne (fdiv x (some (wd t H))) = true
      · rw [if_pos hl] at h
        simp only [Option.some.injEq, Prod.mk.injEq] at h
        obtain ⟨rfl, hss⟩ := h
        obtain ⟨fs, bs⟩ := lt_one_fn (fdiv_wb _ _) hl
        have hd := divR hx h0 hH fs
        rw [hss] at fs bs hd
        have b1 : Bd (fv ss) 1 := bs.mono (by grind)
        -- the cosine
        have f1 := fn_one
        have lE := subE f1 fs (m := 2) (by rw [fv_one]; unfold Bd at b1 ⊢; grind) (Rat.le_trans (show (2 : Rat) ≤ p2 1 by have := p2_succ 0; rw [p2_zero, show (0 : Int) + 1 = 1 from rfl] at this; grind) (p2_le (by decide)))
        have gE := addE f1 fs (m := 2) (by rw [fv_one]; unfold Bd at b1 ⊢; grind) (Rat.le_trans (show (2 : Rat) ≤ p2 1 by have := p2_succ 0; rw [p2_zero, show (0 : Int) + 1 = 1 from rfl] at this; grind) (p2_le (by decide)))
        have lR := subR f1 fs lE.1
        have gR := addR f1 fs gE.1
        rw [fv_one] at lR gR lE gE
        have hee := ee_uu
        have l3 : Bd (fv (fsub (some 4607182418800017408) ss)) 3 := by have := lE.2; unfold Bd at this b1 ⊢; grind
        have g3 : Bd (fv (fadd (some 4607182418800017408) ss)) 3 := by have := gE.2; unfold Bd at this b1 ⊢; grind
        have qE := mulE lE.1 gE.1 (m := 16) ((l3.mul g3).mono (by grind)) (Rat.le_trans (show (16 : Rat) ≤ p2 4 by have := p2_nat 4; rw [show ((4 : Nat) : Int) = 4 from rfl] at this; rw [this]; norm_cast) (p2_le (by decide)))
        have qR := mulR lE.1 gE.1 qE.1
        obtain ⟨q1, q2⟩ := hyc_num (h := 0) bs lR gR qR
        have hyc : hyC (fdiv x (some (wd t H))) = fsqrt (fmul (fsub (some 4607182418800017408) ss) (fadd (some 4607182418800017408) ss)) := by unfold hyC; rw [hss]
        obtain ⟨u, Q, hQ, hQl⟩ := qE.1
        rw [hQ] at hyc q1
        rw [fv_wd u hQl, vz_sg] at q1
        have uu2 := Rat.mul_pos hu.2 hu.2
        have hu' : u = false := by
          cases u with
          | false => rfl
          | true =>
            have := rv_nonneg Q
            unfold Lv.sg at q1
            simp only [if_true] at q1
            grind
        subst hu'
        have qv : fv (some (wd false Q)) = rv Q := by rw [fv_wd false hQl]; rfl
        obtain ⟨K, k1, k2, k3⟩ := sqrt_smid' (x := Q) hQl
        have hcc : hyC (fdiv x (some (wd t H))) = some (wd false K) := by
          rw [hyc]; exact k1
        have q1' : 1/8 * (uu * uu) ≤ rv Q := q1
        have hS : p2 (-200) ≤ rv Q := by
          refine Rat.le_trans ?_ q1'
          have e1 : uu * uu = p2 (-106) := by unfold uu; rw [← p2_add]; rfl
          have e2 : p2 (-106) = p2 (-109) * 8 := by
            have := p2_add (-109) 3
            rw [show (-109 : Int) + 3 = -106 from rfl] at this
            rw [this]
            have e3 := p2_nat 3
            rw [show ((3 : Nat) : Int) = 3 from rfl] at e3
            rw [e3]; congr 1
          rw [e1, e2]
          have := p2_le (show (-200 : Int) ≤ -109 by decide)
          grind
        have hKn := smid_norm k3 hS
        obtain ⟨o1, o2⟩ := smid_off k3 hKn
        have kv : fv (some (wd false K)) = rv K := by rw [fv_wd false k2]; rfl
        obtain ⟨_, q3⟩ := hyc_num (h := rv K) bs lR gR qR
        rw [hQ, qv] at q3
        refine ⟨⟨K, hcc, by omega, k2⟩, fs, ?_, b1, ?_, ?_⟩
        · rw [hcc, kv]; exact q3 (rv_nonneg K) o1 o2
        · rw [hcc, kv]; exact rv_nonneg K
        · have ra := rmul_nn hu0 ra0
          have re := rmul_nn he0 ra0
          have e1 : absQ (fv (some (wd t H)) * fv ss) ≤ absQ (fv (some (wd t H))) := by
            have h1 := (bd_self ra0)
            have h2 := (absQ_bd (fv (some (wd t H)))).mul b1
            have h3 : Bd (fv (some (wd t H)) * fv ss) (absQ (fv (some (wd t H)))) := h2.mono (by grind)
            unfold absQ at h3 ⊢
            unfold Bd at h3
            split at h3 <;> split <;> grind
          have e2 := rmul_mono hu0 e1
          rw [show fv x - fv ss * fv (some (wd t H)) = -(fv (some (wd t H)) * fv ss - fv x) by grind]
          exact hd.neg.mono (by grind)
      · rw [if_neg hl] at h; cases h
theorem absQ_mul (a b : Rat) : absQ (a * b) = absQ a * absQ b := by
  have h1 := absQ_nn (a * b)
  have h2 := rmul_nn (absQ_nn a) (absQ_nn b)
  have e : absQ (a * b) * absQ (a * b) = (absQ a * absQ b) * (absQ a * absQ b) := by
    rw [absQ_sq, show absQ a * absQ b * (absQ a * absQ b) = (absQ a * absQ a) * (absQ b * absQ b) by grind, absQ_sq, absQ_sq]; grind
  have a1 := (bd_of_sq h2 (show absQ (a * b) * absQ (a * b) ≤ _ by rw [e]; exact Rat.le_refl)).2
  have a2 := (bd_of_sq h1 (show (absQ a * absQ b) * (absQ a * absQ b) ≤ _ by rw [e]; exact Rat.le_refl)).2
  grind
theorem absQ_le {q m : Rat} (h : Bd q m) : absQ q ≤ m := by unfold absQ Bd at *; split <;> grind
/-- what Down answers, against what a rotation would give back -/
theorem downE {ss R X : Option Nat} {H : Nat} (h0 : H ≠ 0) (hH : H < 9218868437227405312) (hs : Lv.Fn ss) (hR : Lv.Fn R) (hX : Wb X) (hc1 : fv (some (wd false H)) ≤ 101/100) (hp : Lv.Fn (downP (some (wd false H)) ss R X)) (hx : Lv.Fn (downX (some (wd false H)) ss R X)) :
    Lv.Fn X ∧ Bd (fv R - (fv (some (wd false H)) * fv (downP (some (wd false H)) ss R X) + fv ss * fv X)) (253/100 * (uu * (absQ (fv (some (wd false H)) * fv (downP (some (wd false H)) ss R X)) + absQ (fv ss * fv X))) + 31/10 * ee) ∧
      Bd (fv (downX (some (wd false H)) ss R X) - (fv (some (wd false H)) * fv X - fv ss * fv (downP (some (wd false H)) ss R X))) (253/100 * (uu * (absQ (fv (some (wd false H)) * fv X) + absQ (fv ss * fv (downP (some (wd false H)) ss R X)))) + 31/10 * ee) := by
  have hu := uu_small
  have hu0 := Rat.le_of_lt hu.2
  have he0 := Rat.le_of_lt ee_pos
  have u9 : uu ≤ 1/1000000 := by grind
  have ue : uu * ee ≤ 1/1000000 * ee := Rat.mul_le_mul_of_nonneg_right u9 he0
  have ue0 := rmul_nn hu0 he0
  have fd := div_num hH (fsub_wb _ _) hp
  obtain ⟨_, fm⟩ := sub_num (fn_wb hR) (fmul_wb _ _) fd
  obtain ⟨_, fX⟩ := mul_num (fn_wb hs) hX fm
  obtain ⟨fk, fl⟩ := sub_num (fmul_wb _ _) (fmul_wb _ _) hx
  have e1 := mulR hs fX fm
  have e2 := subR hR fm fd
  have e3 := divR fd h0 hH hp
  have g1 := mulR (show Lv.Fn (some (wd false H)) from ⟨false, H, rfl, hH⟩) fX fk
  have g2 := mulR hs hp fl
  have g3 := subR fk fl hx
  refine ⟨fX, ?_, ?_⟩
  · change Bd (fv (some (wd false H)) * fv (downP (some (wd false H)) ss R X) - fv (fsub R (fmul ss X))) (152/100 * (uu * absQ (fv (some (wd false H)) * fv (downP (some (wd false H)) ss R X))) + 101/100 * (ee * absQ (fv (some (wd false H))))) at e3
    clear g1 g2 g3 fk fl hx
    generalize fv (downP (some (wd false H)) ss R X) = P at *
    have c0 : 0 ≤ fv (some (wd false H)) := by rw [fv_wd false hH]; exact rv_nonneg H
    generalize fv (some (wd false H)) = c at *
    generalize fv (fsub R (fmul ss X)) = d at *
    generalize fv (fmul ss X) = m at *
    generalize fv R = r at *
    generalize fv ss * fv X = y at *
    have ac : absQ c = c := by unfold absQ; rw [if_neg (by grind)]
    rw [ac] at e3
    have ec : ee * c ≤ ee * (101/100) := rmul_mono he0 hc1
    obtain ⟨z, hz⟩ : ∃ z, absQ (c * P) = z := ⟨_, rfl⟩
    obtain ⟨v, hv⟩ : ∃ v, absQ y = v := ⟨_, rfl⟩
    have z0 : 0 ≤ z := by rw [← hz]; exact absQ_nn _
    have v0 : 0 ≤ v := by rw [← hv]; exact absQ_nn _
    have bz : Bd (c * P) z := by rw [← hz]; exact absQ_bd _
    rw [hz] at e3 ⊢
    rw [hv] at e1 ⊢
    generalize c * P = w at *
    have uz := rmul_nn hu0 z0
    have uv := rmul_nn hu0 v0
    have uz2 : uu * (uu * z) ≤ 1/1000000 * (uu * z) := Rat.mul_le_mul_of_nonneg_right u9 uz
    have hd : absQ d ≤ z + 152/100 * (uu * z) + 11/10 * ee := absQ_le (by unfold Bd at e3 bz ⊢; grind)
    have ud := rmul_mono hu0 hd
    have ud' : uu * absQ d ≤ uu * z + 1/100000 * (uu * z) + 1/100000 * ee := by grind
    have e2' := e2.mono (show _ ≤ uu * z + 1/100000 * (uu * z) + 1/100000 * ee + ee by grind)
    clear e2 ud hd
    rw [show uu * (z + v) = uu * z + uu * v by grind]
    unfold Bd at e1 e2' e3 ⊢
    generalize uu * z = q1 at *
    generalize uu * v = q2 at *
    generalize ee * c = q3 at *
    constructor <;> grind
  · change Bd (fv (downX (some (wd false H)) ss R X) - (fv (fmul (some (wd false H)) X) - fv (fmul ss (downP (some (wd false H)) ss R X)))) (uu * absQ (fv (downX (some (wd false H)) ss R X)) + ee) at g3
    clear e1 e2 e3 fm fd
    generalize fv (downX (some (wd false H)) ss R X) = Y at *
    generalize fv (fmul (some (wd false H)) X) = k at *
    generalize fv (fmul ss (downP (some (wd false H)) ss R X)) = l at *
    generalize fv (some (wd false H)) * fv X = w at *
    generalize fv ss * fv (downP (some (wd false H)) ss R X) = y at *
    obtain ⟨z, hz⟩ : ∃ z, absQ w = z := ⟨_, rfl⟩
    obtain ⟨v, hv⟩ : ∃ v, absQ y = v := ⟨_, rfl⟩
    have z0 : 0 ≤ z := by rw [← hz]; exact absQ_nn _
    have v0 : 0 ≤ v := by rw [← hv]; exact absQ_nn _
    have bz : Bd w z := by rw [← hz]; exact absQ_bd _
    have bv : Bd y v := by rw [← hv]; exact absQ_bd _
    rw [hz] at g1 ⊢
    rw [hv] at g2 ⊢
    have uz := rmul_nn hu0 z0
    have uv := rmul_nn hu0 v0
    have uzs : uu * z ≤ 1/1000000 * z := Rat.mul_le_mul_of_nonneg_right u9 z0
    have uvs : uu * v ≤ 1/1000000 * v := Rat.mul_le_mul_of_nonneg_right u9 v0
    have uY : uu * absQ Y ≤ 1/1000000 * absQ Y := Rat.mul_le_mul_of_nonneg_right u9 (absQ_nn Y)
    have hY0 := absQ_bd Y
    have hYle : absQ Y ≤ 100001/100000 * (z + v) + 4 * ee := by
      have h1 : Bd Y (z + uu * z + ee + (v + uu * v + ee) + (1/1000000 * absQ Y + ee)) := by
        have g3' := g3.mono (show _ ≤ 1/1000000 * absQ Y + ee by grind)
        unfold Bd at g1 g2 g3' bz bv ⊢
        constructor <;> grind
      have h2 := absQ_le h1
      grind
    have ud := rmul_mono hu0 hYle
    have hb : Bd (Y - (k - l)) (100001/100000 * (uu * z + uu * v) + 100001/100000 * ee) := g3.mono (by grind)
    clear g3 ud hYle uY hY0
    rw [show uu * (z + v) = uu * z + uu * v by grind]
    unfold Bd at g1 g2 hb ⊢
    generalize uu * z = q1 at *
    generalize uu * v = q2 at *
    constructor <;> grind
/-- the norms, from the end backward -/
theorem hup_norm {c s P X R Y M : Rat} (hM : 0 ≤ M) (he : Bd (c * c + s * s - 1) (6 * uu)) (ha : Bd (R - (c * P + s * X)) (253/100 * (uu * (absQ (c * P) + absQ (s * X))) + 31/10 * ee)) (hb : Bd (Y - (c * X - s * P)) (253/100 * (uu * (absQ (c * X) + absQ (s * P))) + 31/10 * ee))
    (hT : R * R + Y * Y + 2 * EE M M ≤ M * M) : P * P + X * X ≤ M * M ∧ P * P + X * X ≤ R * R + Y * Y + 2 * EE M M := by
  have hu := uu_small
  have hu0 := Rat.le_of_lt hu.2
  have he0 := Rat.le_of_lt ee_pos
  have u9 : uu ≤ 1/1000000 := by grind
  obtain ⟨W, hW⟩ : ∃ W, P * P + X * X = W := ⟨_, rfl⟩
  have W0 : 0 ≤ W := by rw [← hW]; have := rsq_nn P; have := rsq_nn X; grind
  have uW := rmul_nn hu0 W0
  have uWs : uu * W ≤ 1/1000000 * W := Rat.mul_le_mul_of_nonneg_right u9 W0
  -- the two sums of sizes
  have two : ∀ {p q : Rat}, p * p + q * q = W → (absQ (c * p) + absQ (s * q)) * (absQ (c * p) + absQ (s * q)) ≤ W + 6 * (uu * W) := by
    intro p q h
    rw [absQ_mul, absQ_mul]
    have x1 := absQ_sq c
    have x2 := absQ_sq s
    have x3 := absQ_sq p
    have x4 := absQ_sq q
    have x5 := rsq_nn (absQ c * absQ q - absQ s * absQ p)
    have x6 : (c * c + s * s) * W ≤ (1 + 6 * uu) * W := Rat.mul_le_mul_of_nonneg_right (by unfold Bd at he; grind) W0
    have x7 : (absQ c * absQ p + absQ s * absQ q) * (absQ c * absQ p + absQ s * absQ q) + (absQ c * absQ q - absQ s * absQ p) * (absQ c * absQ q - absQ s * absQ p) = (absQ c * absQ c + absQ s * absQ s) * (absQ p * absQ p + absQ q * absQ q) := by grind
    rw [x1, x2, x3, x4, h] at x7
    grind
  obtain ⟨β, hβ⟩ : ∃ β, absQ (c * P) + absQ (s * X) = β := ⟨_, rfl⟩
  obtain ⟨γ, hγ⟩ : ∃ γ, absQ (c * X) + absQ (s * P) = γ := ⟨_, rfl⟩
  have b2 := two hW
  have g2 := two (p := X) (q := P) (by rw [← hW]; grind)
  rw [hβ] at b2 ha
  rw [hγ] at g2 hb
  have β0 : 0 ≤ β := by rw [← hβ]; have := absQ_nn (c * P); have := absQ_nn (s * X); grind
  have γ0 : 0 ≤ γ := by rw [← hγ]; have := absQ_nn (c * X); have := absQ_nn (s * P); grind
  have bu : Bd (c * P + s * X) β := by rw [← hβ]; exact (absQ_bd _).add (absQ_bd _)
  have bv : Bd (c * X - s * P) γ := by rw [← hγ]; exact (absQ_bd _).sub (absQ_bd _)
  have hsum : (c * P + s * X) * (c * P + s * X) + (c * X - s * P) * (c * X - s * P) = (c * c + s * s) * W := by rw [← hW]; grind
  have hlow : (1 - 6 * uu) * W ≤ (c * c + s * s) * W := Rat.mul_le_mul_of_nonneg_right (by unfold Bd at he; grind) W0
  obtain ⟨a, hae⟩ : ∃ a, R - (c * P + s * X) = a := ⟨_, rfl⟩
  obtain ⟨b, hbe⟩ : ∃ b, Y - (c * X - s * P) = b := ⟨_, rfl⟩
  rw [hae] at ha
  rw [hbe] at hb
  obtain ⟨x, hx⟩ : ∃ x, c * P + s * X = x := ⟨_, rfl⟩
  obtain ⟨y, hy⟩ : ∃ y, c * X - s * P = y := ⟨_, rfl⟩
  rw [hx] at bu hsum hae
  rw [hy] at bv hsum hbe
  have hR : R * R = x * x + 2 * (x * a) + a * a := by rw [show R = x + a by grind]; grind
  have hY : Y * Y = y * y + 2 * (y * b) + b * b := by rw [show Y = y + b by grind]; grind
  have xa := bu.mul ha
  have yb := bv.mul hb
  have uβ := rmul_mono hu0 b2
  have uγ := rmul_mono hu0 g2
  have xa' : Bd (x * a) (254/100 * (uu * W) + 31/10 * (ee * β)) := xa.mono (by
    rw [show β * (253/100 * (uu * β) + 31/10 * ee) = 253/100 * (uu * (β * β)) + 31/10 * (ee * β) by grind]
    have := rmul_mono hu0 uWs
    grind)
  have yb' : Bd (y * b) (254/100 * (uu * W) + 31/10 * (ee * γ)) := yb.mono (by
    rw [show γ * (253/100 * (uu * γ) + 31/10 * ee) = 253/100 * (uu * (γ * γ)) + 31/10 * (ee * γ) by grind]
    have := rmul_mono hu0 uWs
    grind)
  have main : W ≤ R * R + Y * Y + 17 * (uu * W) + 62/10 * (ee * (β + γ)) := by
    have := rsq_nn a
    have := rsq_nn b
    unfold Bd at xa' yb'
    rw [hR, hY]
    grind
  rw [hW]
  obtain ⟨T, hT'⟩ : ∃ T, R * R + Y * Y = T := ⟨_, rfl⟩
  rw [hT'] at hT main ⊢
  clear hR hY xa yb xa' yb' hae hbe ha hb bu bv hsum hlow two hx hy uβ uγ he hW hT' hβ hγ
  -- x: half of both sums
  have hd : (β + γ) * (β + γ) ≤ 4 * W + 24 * (uu * W) := by
    have := rsq_nn (β - γ)
    grind
  obtain ⟨δ, hδ⟩ : ∃ δ, β + γ = δ := ⟨_, rfl⟩
  rw [hδ] at main hd
  have δ0 : 0 ≤ δ := by rw [← hδ]; grind
  clear b2 g2 hδ β0 γ0
  have MM0 := rsq_nn M
  have uMM := rmul_nn hu0 MM0
  have eM := rmul_nn he0 hM
  have ee2 := rmul_nn he0 he0
  have hEE : 2 * EE M M = 48 * (uu * (M * M)) + 252/10 * (ee * M) + 40 * (ee * ee) := by unfold EE; grind
  rw [hEE] at hT ⊢
  have uMMs : uu * (M * M) ≤ 1/1000000 * (M * M) := Rat.mul_le_mul_of_nonneg_right u9 MM0
  have hWM : W ≤ M * M := by
    by_cases cW : W ≤ M * M
    · exact cW
    · exfalso
      have cW : M * M ≤ W := by grind
      -- sqrt-like: z with z z <= W
      obtain ⟨z, hz⟩ : ∃ z, δ = 20001/10000 * z := ⟨10000/20001 * δ, by grind⟩
      have z0 : 0 ≤ z := by grind
      rw [hz] at hd main
      have zz : z * z ≤ W := by grind
      have hee := Rat.mul_pos ee_pos ee_pos
      have k1 : (1 - 17 * uu) * (z * z) ≤ (1 - 17 * uu) * W := Rat.mul_le_mul_of_nonneg_left zz (by grind)
      have k2 : (1 - 17 * uu) * (M * M) ≤ (1 - 17 * uu) * W := Rat.mul_le_mul_of_nonneg_left cW (by grind)
      have k3 : (1 - 17 * uu) * W ≤ M * M - (48 * (uu * (M * M)) + 252/10 * (ee * M) + 40 * (ee * ee)) + 1240062/100000 * (ee * z) := by grind
      by_cases cz : z ≤ M
      · have := rmul_mono he0 cz
        have k4 : M * M - 17 * (uu * (M * M)) ≤ (1 - 17 * uu) * W := by grind
        clear k1 k2 main hd zz cW hEE
        generalize (1 - 17 * uu) * W = w at *
        generalize uu * (M * M) = y1 at *
        generalize ee * M = y2 at *
        generalize ee * z = y3 at *
        generalize ee * ee = y4 at *
        generalize M * M = y5 at *
        grind
      · obtain ⟨t, ht⟩ : ∃ t, z = M + t := ⟨z - M, by grind⟩
        have t0 : 0 ≤ t := by grind
        have Mt := rmul_nn hM t0
        have tt := rsq_nn t
        have utt : uu * (t * t) ≤ 1/1000000000 * (t * t) := Rat.mul_le_mul_of_nonneg_right (by grind) tt
        have uMt : uu * (M * t) ≤ 1/1000000 * (M * t) := Rat.mul_le_mul_of_nonneg_right u9 Mt
        have sq := rsq_nn (t - 62004/10000 * ee)
        rw [show (t - 62004/10000 * ee) * (t - 62004/10000 * ee) = t * t - 124008/10000 * (ee * t) + 3844496016/100000000 * (ee * ee) by grind] at sq
        have k4 : M * M + 2 * (M * t) + t * t - 17 * (uu * (M * M)) - 34 * (uu * (M * t)) - 17 * (uu * (t * t)) ≤ (1 - 17 * uu) * W := by
          rw [ht] at k1; grind
        have k5 : ee * z = ee * M + ee * t := by rw [ht]; grind
        rw [k5] at k3
        clear k1 k2 main hd zz cW hEE k5 ht
        generalize (1 - 17 * uu) * W = w at *
        generalize uu * (M * M) = y1 at *
        generalize uu * (M * t) = y6 at *
        generalize uu * (t * t) = y7 at *
        generalize ee * M = y2 at *
        generalize ee * t = y3 at *
        generalize ee * ee = y4 at *
        generalize M * M = y5 at *
        generalize M * t = y8 at *
        generalize t * t = y9 at *
        grind
  refine ⟨hWM, ?_⟩
  have uWM := rmul_mono hu0 hWM
  have hδ2 : δ ≤ 20001/10000 * M := (bd_of_sq (show 0 ≤ 20001/10000 * M by grind) (by
    rw [show 20001/10000 * M * (20001/10000 * M) = 400040001/100000000 * (M * M) by grind]
    grind)).2
  have eδ := rmul_mono he0 hδ2
  grind
end Go.Proofs.YtmmligbkecilfaaGreatDoor
namespace Go.Proofs.YtmmligbkecilfaaGreatDoor
open Lv
open Ieee

theorem pair_down {c s M N P X R Y P' X' R' Y' : Rat} (hM : 0 ≤ M) (hN : 0 ≤ N) (he : Bd (c * c + s * s - 1) (6 * uu)) (w1 : P * P + X * X ≤ M * M) (w2 : P' * P' + X' * X' ≤ N * N)
    (a1 : Bd (R - (c * P + s * X)) (10 * (uu * M) + 32/10 * ee)) (b1 : Bd (Y - (c * X - s * P)) (10 * (uu * M) + 32/10 * ee)) (a2 : Bd (R' - (c * P' + s * X')) (10 * (uu * N) + 32/10 * ee)) (b2 : Bd (Y' - (c * X' - s * P')) (10 * (uu * N) + 32/10 * ee)) :
    Bd (R * R' + Y * Y' - (P * P' + X * X')) (2 * EE M N) := by
  have hu := uu_small
  have hu0 := Rat.le_of_lt hu.2
  have he0 := Rat.le_of_lt ee_pos
  have u9 : uu ≤ 1/1000000 := by grind
  obtain ⟨m1, m2, m3, m4, m5, m6, m7⟩ := ee_bits hM hN
  have cs : c * c + s * s ≤ 100001/100000 * (100001/100000) := by unfold Bd at he; grind
  have norm : ∀ {P X M : Rat}, 0 ≤ M → P * P + X * X ≤ M * M → Bd (c * P + s * X) (100001/100000 * M) ∧ Bd (c * X - s * P) (100001/100000 * M) := by
    intro P X M hM h
    have h1 := cauchy (a := c) (b := s) (c := P) (d := X) (M := 100001/100000) (N := M) (by grind) hM cs h
    have h2 := cauchy (a := c) (b := s) (c := X) (d := -P) (M := 100001/100000) (N := M) (by grind) hM cs (by grind)
    exact ⟨h1, by rw [show c * X - s * P = c * X + s * -P by grind]; exact h2⟩
  obtain ⟨x1, y1⟩ := norm hM w1
  obtain ⟨x2, y2⟩ := norm hN w2
  have hPX := cauchy hM hN w1 w2
  have main : Bd ((c * c + s * s - 1) * (P * P' + X * X')) (6 * uu * (M * N)) := he.mul hPX
  have e1 := x1.mul a2
  have e2 := a1.mul x2
  have e3 := a1.mul a2
  have e4 := y1.mul b2
  have e5 := b1.mul y2
  have e6 := b1.mul b2
  have hsum := ((((((main.add e1).add e2).add e3).add e4).add e5).add e6)
  refine Eq.mp (congrArg (fun z => Bd z (2 * EE M N)) ?_) (hsum.mono ?_)
  · grind
  · unfold EE
    rw [show (10 * (uu * M) + 32/10 * ee) * (10 * (uu * N) + 32/10 * ee) = 100 * (uu * (uu * (M * N))) + 32 * (uu * (ee * M)) + 32 * (uu * (ee * N)) + 1024/100 * (ee * ee) by grind]
    rw [show 100001/100000 * M * (10 * (uu * N) + 32/10 * ee) = 100001/10000 * (uu * (M * N)) + 3200032/1000000 * (ee * M) by grind]
    rw [show (10 * (uu * M) + 32/10 * ee) * (100001/100000 * N) = 100001/10000 * (uu * (M * N)) + 3200032/1000000 * (ee * N) by grind]
    clear hsum main e1 e2 e3 e4 e5 e6 hPX x1 x2 y1 y2 norm a1 a2 b1 b2 w1 w2 he cs
    generalize uu * (uu * (M * N)) = z1 at *
    generalize uu * (ee * M) = z2 at *
    generalize uu * (ee * N) = z3 at *
    rw [show 6 * uu * (M * N) = 6 * (uu * (M * N)) by grind, show ee * (M + N) = ee * M + ee * N by grind]
    generalize uu * (M * N) = z4 at *
    generalize ee * M = z5 at *
    generalize ee * N = z6 at *
    generalize ee * ee = z7 at *
    grind
/-- the pivot's column -/
theorem diag_down {c s r x p M : Rat} (hM : 0 ≤ M) (he : Bd (c * c + s * s - 1) (6 * uu)) (hs : Bd s 1) (hc : 0 ≤ c) (h1 : Bd (x - s * r) (2 * (uu * absQ r) + 2 * (ee * absQ r))) (h2 : Bd (p - c * r) (uu * absQ (c * r) + ee)) (hT : r * r + 2 * EE M M ≤ M * M) :
    p * p + x * x ≤ M * M ∧ p * p + x * x ≤ r * r + 2 * EE M M ∧ Bd (r - (c * p + s * x)) (10 * (uu * M) + 32/10 * ee) ∧ Bd (0 - (c * x - s * p)) (10 * (uu * M) + 32/10 * ee) := by
  have hu := uu_small
  have hu0 := Rat.le_of_lt hu.2
  have he0 := Rat.le_of_lt ee_pos
  have hee := ee_uu
  have u9 : uu ≤ 1/1000000 := by grind
  have hE0 : 0 ≤ EE M M := EE_nn hM hM
  obtain ⟨ρ, hρ⟩ : ∃ ρ, absQ r = ρ := ⟨_, rfl⟩
  have ρ0 : 0 ≤ ρ := by rw [← hρ]; exact absQ_nn r
  have rr : r * r = ρ * ρ := by rw [← hρ, absQ_sq]
  have br : Bd r ρ := by rw [← hρ]; exact absQ_bd r
  have ρM : ρ ≤ M := (bd_of_sq hM (show ρ * ρ ≤ M * M by rw [← rr]; grind)).2
  have c1 : c ≤ 100001/100000 := (bd_of_sq (show (0 : Rat) ≤ 100001/100000 by grind) (by have := rsq_nn s; unfold Bd at he; grind)).2
  have bc : Bd c (100001/100000) := by unfold Bd; grind
  have uρ := rmul_nn hu0 ρ0
  have uρM := rmul_mono hu0 ρM
  have eρ : ee * ρ ≤ 1/1000000 * uu * ρ := Rat.mul_le_mul_of_nonneg_right hee.1 ρ0
  have eρ0 := rmul_nn he0 ρ0
  have hcr : absQ (c * r) ≤ 100001/100000 * ρ := absQ_le (bc.mul br)
  have ucr := rmul_mono hu0 hcr
  rw [hρ] at h1
  have k1 : Bd (x - s * r) (2001/1000 * (uu * ρ)) := h1.mono (by grind)
  have k2 : Bd (p - c * r) (100001/100000 * (uu * ρ) + ee) := h2.mono (by grind)
  obtain ⟨e1, he1⟩ : ∃ e1, p - c * r = e1 := ⟨_, rfl⟩
  obtain ⟨e2, he2⟩ : ∃ e2, x - s * r = e2 := ⟨_, rfl⟩
  rw [he2] at k1
  rw [he1] at k2
  have d1 := he.mul br
  have d2 := bc.mul k2
  have d3 := hs.mul k1
  have d4 := bc.mul k1
  have d5 := hs.mul k2
  have ρρ := rsq_nn ρ
  have uρρ := rmul_nn hu0 ρρ
  have uρρs : uu * (ρ * ρ) ≤ 1/1000000 * (ρ * ρ) := Rat.mul_le_mul_of_nonneg_right u9 ρρ
  refine (fun hW => ⟨Rat.le_trans hW hT, hW, ?_, ?_⟩) ?_
  rotate_left 1
  · have := ((d1.neg.sub d2).sub d3)
    refine Eq.mp (congrArg (fun z => Bd z (10 * (uu * M) + 32/10 * ee)) ?_) (this.mono ?_)
    · rw [← he1, ← he2]; grind
    · rw [show 6 * uu * ρ = 6 * (uu * ρ) by grind]
      grind
  · have := d5.sub d4
    refine Eq.mp (congrArg (fun z => Bd z (10 * (uu * M) + 32/10 * ee)) ?_) (this.mono ?_)
    · rw [← he1, ← he2]; grind
    · grind
  · have hp : p = c * r + e1 := by rw [← he1]; grind
    have hx : x = s * r + e2 := by rw [← he2]; grind
    have f1 := (bc.mul br).mul k2
    have f2 := (hs.mul br).mul k1
    have f3 := k2.mul k2
    have f4 := k1.mul k1
    have f5 : (c * c + s * s) * (ρ * ρ) ≤ (1 + 6 * uu) * (ρ * ρ) := Rat.mul_le_mul_of_nonneg_right (by unfold Bd at he; grind) ρρ
    have hW : p * p + x * x = (c * c + s * s) * (ρ * ρ) + 2 * (c * r * e1) + 2 * (s * r * e2) + e1 * e1 + e2 * e2 := by rw [hp, hx, ← rr]; grind
    rw [hW, rr]
    have uuρρ : uu * (uu * (ρ * ρ)) ≤ 1/1000000 * (uu * (ρ * ρ)) := Rat.mul_le_mul_of_nonneg_right u9 uρρ
    have ueρ : uu * (ee * ρ) ≤ 1/1000000 * (ee * ρ) := Rat.mul_le_mul_of_nonneg_right u9 eρ0
    have ee2 := rmul_nn he0 he0
    have ρρM := rmul_le ρ0 ρ0 ρM ρM
    have uρρM := rmul_mono hu0 ρρM
    have eρM := rmul_mono he0 ρM
    unfold EE
    unfold Bd at f1 f2 f3 f4
    have g1 := f1.2
    have g2 := f2.2
    have g3 := f3.2
    have g4 := f4.2
    rw [show 100001/100000 * ρ * (100001/100000 * (uu * ρ) + ee) = 10000200001/10000000000 * (uu * (ρ * ρ)) + 100001/100000 * (ee * ρ) by grind] at g1
    rw [show 1 * ρ * (2001/1000 * (uu * ρ)) = 2001/1000 * (uu * (ρ * ρ)) by grind] at g2
    rw [show (100001/100000 * (uu * ρ) + ee) * (100001/100000 * (uu * ρ) + ee) = 10000200001/10000000000 * (uu * (uu * (ρ * ρ))) + 200002/100000 * (uu * (ee * ρ)) + ee * ee by grind] at g3
    rw [show 2001/1000 * (uu * ρ) * (2001/1000 * (uu * ρ)) = 4004001/1000000 * (uu * (uu * (ρ * ρ))) by grind] at g4
    clear f1 f2 f3 f4 d1 d2 d3 d4 d5 hW hp hx k1 k2 h1 h2 he1 he2 rr br hρ
    generalize uu * (uu * (ρ * ρ)) = z1 at *
    generalize uu * (ee * ρ) = z2 at *
    generalize c * r * e1 = z3 at *
    generalize s * r * e2 = z4 at *
    generalize e1 * e1 = z5 at *
    generalize e2 * e2 = z6 at *
    have f6 : (c * c + s * s) * (ρ * ρ) ≤ ρ * ρ + 6 * (uu * (ρ * ρ)) := by grind
    clear f5
    generalize (c * c + s * s) * (ρ * ρ) = z7 at *
    rw [show ee * (M + M) = 2 * (ee * M) by grind]
    generalize uu * (ρ * ρ) = z8 at *
    generalize uu * (M * M) = z9 at *
    generalize ee * ρ = z10 at *
    generalize ee * M = z11 at *
    generalize ee * ee = z12 at *
    generalize ρ * ρ = z13 at *
    grind
/-- a row turned by Down, entry by entry -/
theorem gturn_at (g1 g2 : Option Nat → Option Nat → Option Nat) (j o : Nat) (p : List (Option Nat) × List (Option Nat)) : ∀ n, o + n < p.1.length → j + n < p.2.length →
    (∀ i, (gturn g1 g2 j o n p).1.getD i none = if o < i ∧ i ≤ o + n then g1 (p.1.getD i none) (p.2.getD (j + (i - o)) none) else p.1.getD i none) ∧ ∀ i, (gturn g1 g2 j o n p).2.getD i none = if j < i ∧ i ≤ j + n then g2 (p.1.getD (o + (i - j)) none) (p.2.getD i none) else p.2.getD i none
  | 0, _, _ => ⟨fun i => by rw [if_neg (by omega)]; rfl, fun i => by rw [if_neg (by omega)]; rfl⟩
  | n + 1, h1, h2 => by
    obtain ⟨k1, k2⟩ := gturn_at g1 g2 j o p n (by omega) (by omega)
    obtain ⟨l1, l2⟩ := gturn_len g1 g2 j o p n
    have q1 : (gturn g1 g2 j o n p).1.getD (o + 1 + n) none = p.1.getD (o + 1 + n) none := by rw [k1, if_neg (by omega)]
    have q2 : (gturn g1 g2 j o n p).2.getD (j + 1 + n) none = p.2.getD (j + 1 + n) none := by rw [k2, if_neg (by omega)]
    constructor
    · intro i
      simp only [gturn]
      rw [getD_set, q1, q2, l1]
      by_cases e : i = o + 1 + n
      · subst e
        rw [if_pos ⟨rfl, by omega⟩, if_pos (by omega), show j + (o + 1 + n - o) = j + 1 + n by omega]
      · rw [if_neg (fun h => e h.1), k1]
        by_cases c : o < i ∧ i ≤ o + n
        · rw [if_pos c, if_pos (by omega)]
        · rw [if_neg c, if_neg (by omega)]
    · intro i
      simp only [gturn]
      rw [getD_set, q1, q2, l2]
      by_cases e : i = j + 1 + n
      · subst e
        rw [if_pos ⟨rfl, by omega⟩, if_pos (by omega), show o + (j + 1 + n - j) = o + 1 + n by omega]
      · rw [if_neg (fun h => e h.1), k2]
        by_cases c : j < i ∧ i ≤ j + n
        · rw [if_pos c, if_pos (by omega)]
        · rw [if_neg c, if_neg (by omega)]
end Go.Proofs.YtmmligbkecilfaaGreatDoor
namespace Go.Proofs.YtmmligbkecilfaaGreatDoor
open Lv
open Ieee

theorem sstep_at {c j : Nat} {st : List (Option Nat) × List (Option Nat)} {cc ss : Option Nat} (h1 : 1 ≤ c) (h6 : c ≤ 6) (hl : st.1.length = tsz c) (hl2 : st.2.length = c + 1) (hj : j ≤ c) (hy : hyperF (st.1.getD (offs c j) none) (st.2.getD j none) = some (cc, ss)) :
    ∃ st', sstep c j st = some st' ∧ st'.1.length = tsz c ∧ st'.2.length = c + 1 ∧
      (∀ i, st'.1.getD i none = if i = offs c j then fmul cc (st.1.getD (offs c j) none) else if offs c j < i ∧ i ≤ offs c j + (c - j) then downP cc ss (st.1.getD i none) (st.2.getD (j + (i - offs c j)) none) else st.1.getD i none) ∧
      (∀ i, st'.2.getD i none = if j < i ∧ i ≤ c then downX cc ss (st.1.getD (offs c j + (i - j)) none) (st.2.getD i none) else st.2.getD i none) := by
  have hin := offs_in (c := c) (i := j) (j := 0) h1 h6 hj (by omega)
  have hin2 := offs_in (c := c) (i := j) (j := c - j) h1 h6 hj (by omega)
  have hll := gturn_len (downP cc ss) (downX cc ss) j (offs c j) (st.1.set (offs c j) (fmul cc (st.1.getD (offs c j) none)), st.2) (c - j)
  obtain ⟨k1, k2⟩ := gturn_at (downP cc ss) (downX cc ss) j (offs c j) (st.1.set (offs c j) (fmul cc (st.1.getD (offs c j) none)), st.2) (c - j) (by rw [List.length_set]; omega) (by dsimp only; omega)
  refine ⟨_, by unfold sstep; rw [hy], by rw [hll.1, List.length_set]; exact hl, by rw [hll.2]; exact hl2, fun i => ?_, fun i => ?_⟩
  · rw [k1]
    dsimp only
    rw [getD_set]
    by_cases e : i = offs c j
    · subst e
      rw [if_neg (by omega), if_pos ⟨rfl, by omega⟩, if_pos rfl]
    · rw [if_neg e]
      by_cases c2 : offs c j < i ∧ i ≤ offs c j + (c - j)
      · rw [if_pos c2, if_pos c2, if_neg (fun h => e h.1)]
      · rw [if_neg c2, if_neg c2, if_neg (fun h => e h.1)]
  · rw [k2]
    dsimp only
    by_cases c2 : j < i ∧ i ≤ c
    · rw [if_pos c2, if_pos (by omega), getD_set, if_neg (by omega)]
    · rw [if_neg c2, if_neg (by omega)]
theorem sfrom_step {c n j : Nat} {st : List (Option Nat) × List (Option Nat)} {ys : List (Option Nat)} (h : sfrom c (n + 1) j st = some ys) : ∃ cc ss st', hyperF (st.1.getD (offs c j) none) (st.2.getD j none) = some (cc, ss) ∧ sstep c j st = some st' ∧ sfrom c n (j + 1) st' = some ys := by
  unfold sfrom at h
  cases hs : sstep c j st with
  | none => rw [hs] at h; cases h
  | some st' =>
    rw [hs] at h
    have hs2 := hs
    unfold sstep at hs2
    cases hy : hyperF (st.1.getD (offs c j) none) (st.2.getD j none) with
    | none => rw [hy] at hs2; cases hs2
    | some v => exact ⟨v.1, v.2, st', rfl, rfl, h⟩
/-- the lines ahead stay -/
theorem sfrom_keep {c : Nat} (h1 : 1 ≤ c) (h6 : c ≤ 6) : ∀ (n j : Nat) (st : List (Option Nat) × List (Option Nat)) (ys : List (Option Nat)), n + j = c + 1 → st.1.length = tsz c → st.2.length = c + 1 → sfrom c n j st = some ys →
    ys.length = tsz c ∧ ∀ a l, a < j → a ≤ l → l ≤ c → ys.getD (offs c a + (l - a)) none = st.1.getD (offs c a + (l - a)) none
  | 0, j, st, ys, _, hl, _, h => by
    obtain rfl := Option.some.inj h
    exact ⟨hl, fun _ _ _ _ _ => rfl⟩
  | n + 1, j, st, ys, hnj, hl, hl2, h => by
    obtain ⟨cc, ss, st', hy, hs, h2⟩ := sfrom_step h
    obtain ⟨st2, e, k1, k2, k3, _⟩ := sstep_at h1 h6 hl hl2 (show j ≤ c by omega) hy
    rw [hs] at e
    obtain rfl := Option.some.inj e
    obtain ⟨q1, q2⟩ := sfrom_keep h1 h6 n (j + 1) st' ys (by omega) k1 k2 h2
    refine ⟨q1, fun a l ha hal hlc => ?_⟩
    rw [q2 a l (by omega) hal hlc, k3]
    have := offs_apart c h6 a j ha (by omega)
    rw [if_neg (by omega), if_neg (by omega)]
theorem tail_same {f g : Nat → Rat} {j : Nat} : ∀ n, j ≤ n → (∀ a, j ≤ a → a < n → f a = g a) → sumQ f n - sumQ f j = sumQ g n - sumQ g j
  | 0, h, _ => by obtain rfl : j = 0 := by omega
                  grind
  | n + 1, h, h2 => by
    by_cases c : j = n + 1
    · subst c; grind
    · have := tail_same n (by omega) (fun a ha hb => h2 a ha (by omega))
      have := h2 n (by omega) (by omega)
      show sumQ f n + f n - _ = sumQ g n + g n - _
      grind
/-- what a column's lines hold, from j on -/
def Hs (xs : List (Option Nat)) (c j l : Nat) : Rat := sumQ (fun a => Lx xs c a l * Lx xs c a l) (c + 1) - sumQ (fun a => Lx xs c a l * Lx xs c a l) j
theorem Hs_succ {xs : List (Option Nat)} {c j l : Nat} : Hs xs c j l = Lx xs c j l * Lx xs c j l + Hs xs c (j + 1) l := by
  unfold Hs
  show _ - _ = _ + (_ - (sumQ (fun a => Lx xs c a l * Lx xs c a l) j + Lx xs c j l * Lx xs c j l))
  grind
theorem Hs_nn {xs : List (Option Nat)} {c j l : Nat} (hj : j ≤ c + 1) : 0 ≤ Hs xs c j l := by
  have := sumQ_mono (f := fun a => Lx xs c a l * Lx xs c a l) (i := j) (c + 1) hj (fun a _ => rsq_nn _)
  unfold Hs; grind
/-- the sizes of both parts -/
theorem two_sizes {c s p q M : Rat} (hM : 0 ≤ M) (he : Bd (c * c + s * s - 1) (6 * uu)) (h : p * p + q * q ≤ M * M) : absQ (c * p) + absQ (s * q) ≤ 100001/100000 * M := by
  have hu := uu_small
  have hu0 := Rat.le_of_lt hu.2
  have MM := rsq_nn M
  refine (bd_of_sq (show 0 ≤ 100001/100000 * M by grind) ?_).2
  rw [absQ_mul, absQ_mul]
  have x1 := absQ_sq c
  have x2 := absQ_sq s
  have x3 := absQ_sq p
  have x4 := absQ_sq q
  have x5 := rsq_nn (absQ c * absQ q - absQ s * absQ p)
  have x6 : (c * c + s * s) * (p * p + q * q) ≤ (100001/100000) * (M * M) := rmul_le (by have := rsq_nn c; have := rsq_nn s; grind) (by have := rsq_nn p; have := rsq_nn q; grind) (by unfold Bd at he; grind) h
  have x7 : (absQ c * absQ p + absQ s * absQ q) * (absQ c * absQ p + absQ s * absQ q) + (absQ c * absQ q - absQ s * absQ p) * (absQ c * absQ q - absQ s * absQ p) = (absQ c * absQ c + absQ s * absQ s) * (absQ p * absQ p + absQ q * absQ q) := by grind
  rw [x1, x2, x3, x4] at x7
  grind
theorem num_fn {x : Option Nat} (hw : Wb x) (h : numF x = true) : Lv.Fn x := by
  rcases wb_cases hw with h1 | rfl | ⟨s, rfl⟩
  · exact h1
  · cases h
  · exfalso; cases s <;> revert h <;> decide
/-- columns taken out, one by one -/
theorem shed_gram {c : Nat} {M : Nat → Rat} (h1 : 1 ≤ c) (h6 : c ≤ 6) (hM0 : ∀ l, l ≤ c → 0 ≤ M l) : ∀ (n j : Nat) (st : List (Option Nat) × List (Option Nat)) (ys : List (Option Nat)), n + j = c + 1 → st.1.length = tsz c → st.2.length = c + 1 →
    (∀ a l, a ≤ l → l ≤ c → Lv.Fn (st.1.getD (offs c a + (l - a)) none)) → (∀ l, l ≤ c → Wb (st.2.getD l none)) → sfrom c n j st = some ys → (∀ a l, a ≤ l → l ≤ c → Lv.Fn (ys.getD (offs c a + (l - a)) none)) →
    (∀ l, j ≤ l → l ≤ c → Hs st.1 c j l + (n : Rat) * (2 * EE (M l) (M l)) ≤ M l * M l) →
    (∀ l, j ≤ l → l ≤ c → Lv.Fn (st.2.getD l none) ∧ fv (st.2.getD l none) * fv (st.2.getD l none) ≤ Hs st.1 c j l + (n : Rat) * (2 * EE (M l) (M l))) ∧
      ∀ i l, i ≤ c → l ≤ c → Bd (Gx ys c i l - (Gx st.1 c i l - Rx st.2 j i * Rx st.2 j l)) ((n : Rat) * (2 * EE (M i) (M l)))
  | 0, j, st, ys, hnj, hl, _, _, _, h, _, _ => by
    obtain rfl := Option.some.inj h
    refine ⟨fun l h1 h2 => by omega, fun i l hi hlc => ?_⟩
    unfold Rx
    rw [if_pos (by omega), Rat.zero_mul, show ((0 : Nat) : Rat) = 0 from rfl, Rat.zero_mul]
    refine Eq.mp (congrArg (fun z => Bd z 0) ?_) (bd_zero (Rat.le_refl (a := 0)))
    grind
  | n + 1, j, st, ys, hnj, hl, hl2, hfn, hwb, h, hys, hS => by
    have hj : j ≤ c := by omega
    obtain ⟨cc, ss, st', hy, hs, h2⟩ := sfrom_step h
    obtain ⟨st2, e, k1, k2, k3, k4⟩ := sstep_at h1 h6 hl hl2 hj hy
    rw [hs] at e
    obtain rfl := Option.some.inj e
    have hkeep := (sfrom_keep h1 h6 n (j + 1) st' ys (by omega) k1 k2 h2).2
    have hE : ∀ l, l ≤ c → 0 ≤ 2 * EE (M l) (M l) := fun l hl => by have := EE_nn (hM0 l hl) (hM0 l hl); grind
    have hother : ∀ a l, a ≤ l → l ≤ c → a ≠ j → st'.1.getD (offs c a + (l - a)) none = st.1.getD (offs c a + (l - a)) none := by
      intro a l hal hlc hne
      rw [k3]
      rcases Nat.lt_or_ge a j with h | h
      · have := offs_apart c h6 a j h hj
        rw [if_neg (by omega), if_neg (by omega)]
      · have := offs_apart c h6 j a (by omega) (by omega)
        rw [if_neg (by omega), if_neg (by omega)]
    have hfn' : ∀ a l, a ≤ l → l ≤ c → Lv.Fn (st'.1.getD (offs c a + (l - a)) none) := by
      intro a l hal hlc
      by_cases e : a = j
      · subst e
        rw [← hkeep a l (by omega) hal hlc]
        exact hys a l hal hlc
      · rw [hother a l hal hlc e]; exact hfn a l hal hlc
    have hwb' : ∀ l, l ≤ c → Wb (st'.2.getD l none) := by
      intro l hlc
      rw [k4]
      split
      · exact fsub_wb _ _
      · exact hwb l hlc
    have hLx : ∀ a l, l ≤ c → a ≠ j → Lx st'.1 c a l = Lx st.1 c a l := by
      intro a l hlc hne
      unfold Lx
      by_cases h : l < a
      · rw [if_pos h, if_pos h]
      · rw [if_neg h, if_neg h, hother a l (by omega) hlc hne]
    have hH : ∀ l, l ≤ c → Hs st'.1 c (j + 1) l = Hs st.1 c (j + 1) l := by
      intro l hlc
      unfold Hs
      exact tail_same (c + 1) (by omega) (fun a ha _ => by rw [hLx a l hlc (by omega)])
    obtain ⟨i1, i2⟩ := shed_gram h1 h6 hM0 n (j + 1) st' ys (by omega) k1 k2 hfn' hwb' h2 hys (fun l hjl hlc => by
      have a1 := hS l (by omega) hlc
      rw [natr_succ, Hs_succ] at a1
      rw [hH l hlc]
      have a2 := rsq_nn (Lx st.1 c j l)
      have a3 := hE l hlc
      grind)
    -- the rotation
    have hrj := hfn j j (Nat.le_refl _) hj
    rw [Nat.sub_self, Nat.add_zero] at hrj
    have hxj : Lv.Fn (st.2.getD j none) := by
      refine num_fn (hwb j hj) ?_
      unfold hyperF at hy
      by_cases c1 : (numF (st.1.getD (offs c j) none) && numF (st.2.getD j none)) = false
      · rw [if_pos c1] at hy; cases hy
      · simp only [Bool.not_eq_false, Bool.and_eq_true] at c1
        exact c1.2
    obtain ⟨⟨H, rfl, hH0, hHl⟩, fss, hcs, hs1, hc0, hxs⟩ := hyE hrj hxj hy
    have hu := uu_small
    have hu0 := Rat.le_of_lt hu.2
    have hc1 : fv (some (wd false H)) ≤ 101/100 := (bd_of_sq (show (0 : Rat) ≤ 101/100 by grind) (by have := rsq_nn (fv ss); unfold Bd at hcs; grind)).2
    -- every column
    have hR : ∀ l, j ≤ l → Lx st.1 c j l = fv (st.1.getD (offs c j + (l - j)) none) := fun l h => by unfold Lx; rw [if_neg (by omega)]
    have hP : ∀ l, j ≤ l → Lx st'.1 c j l = fv (st'.1.getD (offs c j + (l - j)) none) := fun l h => by unfold Lx; rw [if_neg (by omega)]
    have hX : ∀ l, j ≤ l → Rx st.2 j l = fv (st.2.getD l none) := fun l h => by unfold Rx; rw [if_neg (by omega)]
    have col : ∀ l, j ≤ l → l ≤ c → Lv.Fn (st.2.getD l none) ∧ Lx st'.1 c j l * Lx st'.1 c j l + Rx st.2 j l * Rx st.2 j l ≤ M l * M l ∧ Lx st'.1 c j l * Lx st'.1 c j l + Rx st.2 j l * Rx st.2 j l ≤ Hs st.1 c j l + ((n + 1 : Nat) : Rat) * (2 * EE (M l) (M l)) ∧
        Bd (Lx st.1 c j l - (fv (some (wd false H)) * Lx st'.1 c j l + fv ss * Rx st.2 j l)) (10 * (uu * M l) + 32/10 * ee) ∧ Bd (Rx st'.2 (j + 1) l - (fv (some (wd false H)) * Rx st.2 j l - fv ss * Lx st'.1 c j l)) (10 * (uu * M l) + 32/10 * ee) := by
      intro l hjl hlc
      have Ml := hM0 l hlc
      have a1 := hS l hjl hlc
      rw [natr_succ] at a1
      have a3 := hE l hlc
      have an := rmul_nn (ratn_nn n) a3
      rw [natr_succ]
      by_cases el : l = j
      · subst el
        have hHn := Hs_nn (xs := st.1) (c := c) (j := l + 1) (l := l) (by omega)
        rw [Hs_succ] at a1 ⊢
        have fp := hfn' l l (Nat.le_refl _) hlc
        rw [hR l (Nat.le_refl _)] at a1 ⊢
        rw [hP l (Nat.le_refl _), hX l (Nat.le_refl _)]
        rw [Nat.sub_self, Nat.add_zero] at *
        have ep : st'.1.getD (offs c l) none = fmul (some (wd false H)) (st.1.getD (offs c l) none) := by rw [k3, if_pos rfl]
        have mp := mulR (show Lv.Fn (some (wd false H)) from ⟨false, H, rfl, hHl⟩) hrj (by rw [← ep]; exact fp)
        rw [← ep] at mp
        obtain ⟨d1, d2, d3, d4⟩ := diag_down Ml hcs hs1 hc0 hxs mp (by grind)
        have eY : Rx st'.2 (l + 1) l = 0 := by unfold Rx; rw [if_pos (by omega)]
        rw [eY]
        exact ⟨hxj, d1, by grind, d3, d4⟩
      · have hY : Rx st'.2 (j + 1) l = fv (st'.2.getD l none) := by unfold Rx; rw [if_neg (by omega)]
        obtain ⟨fY, bY⟩ := i1 l (by omega) hlc
        rw [hH l hlc] at bY
        have fp := hfn' j l hjl hlc
        have ep : st'.1.getD (offs c j + (l - j)) none = downP (some (wd false H)) ss (st.1.getD (offs c j + (l - j)) none) (st.2.getD l none) := by
          rw [k3, if_neg (by omega), if_pos (by omega), show j + (offs c j + (l - j) - offs c j) = l by omega]
        have ey : st'.2.getD l none = downX (some (wd false H)) ss (st.1.getD (offs c j + (l - j)) none) (st.2.getD l none) := by
          rw [k4, if_pos (by omega)]
        rw [Hs_succ] at a1 ⊢
        rw [hR l hjl] at a1 ⊢
        rw [hP l hjl, hX l hjl, hY]
        rw [ep] at fp ⊢
        rw [ey] at fY bY ⊢
        obtain ⟨fX, dA, dB⟩ := downE hH0 hHl fss (hfn j l hjl hlc) (hwb l hlc) hc1 fp fY
        obtain ⟨u1, u2⟩ := hup_norm Ml hcs dA dB (by grind)
        have t1 := two_sizes Ml hcs u1
        have t2 := two_sizes (p := fv (st.2.getD l none)) (q := fv (downP (some (wd false H)) ss (st.1.getD (offs c j + (l - j)) none) (st.2.getD l none))) Ml hcs (by grind)
        have t1' := rmul_mono hu0 t1
        have t2' := rmul_mono hu0 t2
        have uM := rmul_nn hu0 Ml
        have he0 := Rat.le_of_lt ee_pos
        exact ⟨fX, u1, by grind, dA.mono (by grind), dB.mono (by grind)⟩
    refine ⟨fun l hjl hlc => ?_, fun i l hi hlc => ?_⟩
    · obtain ⟨f1, _, f3, _⟩ := col l hjl hlc
      refine ⟨f1, ?_⟩
      rw [hX l hjl] at f3
      have := rsq_nn (Lx st'.1 c j l)
      grind
    · have all : ∀ l, l ≤ c → Lx st'.1 c j l * Lx st'.1 c j l + Rx st.2 j l * Rx st.2 j l ≤ M l * M l ∧ Bd (Lx st.1 c j l - (fv (some (wd false H)) * Lx st'.1 c j l + fv ss * Rx st.2 j l)) (10 * (uu * M l) + 32/10 * ee) ∧ Bd (Rx st'.2 (j + 1) l - (fv (some (wd false H)) * Rx st.2 j l - fv ss * Lx st'.1 c j l)) (10 * (uu * M l) + 32/10 * ee) := by
        intro l hlc
        by_cases hjl : j ≤ l
        · obtain ⟨_, f2, _, f4, f5⟩ := col l hjl hlc
          exact ⟨f2, f4, f5⟩
        · have z1 : Lx st'.1 c j l = 0 := by unfold Lx; rw [if_pos (by omega)]
          have z2 : Lx st.1 c j l = 0 := by unfold Lx; rw [if_pos (by omega)]
          have z3 : Rx st.2 j l = 0 := by unfold Rx; rw [if_pos (by omega)]
          have z4 : Rx st'.2 (j + 1) l = 0 := by unfold Rx; rw [if_pos (by omega)]
          have uM := rmul_nn hu0 (hM0 l hlc)
          have he0 := Rat.le_of_lt ee_pos
          have MM := rsq_nn (M l)
          have nn : 0 ≤ 10 * (uu * M l) + 32/10 * ee := by grind
          rw [z1, z2, z3, z4]
          refine ⟨by grind, ?_, ?_⟩
          · rw [show (0 : Rat) - (fv (some (wd false H)) * 0 + fv ss * 0) = 0 by grind]; exact bd_zero nn
          · rw [show (0 : Rat) - (fv (some (wd false H)) * 0 - fv ss * 0) = 0 by grind]; exact bd_zero nn
      obtain ⟨w1, a1, b1⟩ := all i hi
      obtain ⟨w2, a2, b2⟩ := all l hlc
      have pd := pair_down (hM0 i hi) (hM0 l hlc) hcs w1 w2 a1 b1 a2 b2
      have hdiff : Gx st'.1 c i l - Gx st.1 c i l = Lx st'.1 c j i * Lx st'.1 c j l - Lx st.1 c j i * Lx st.1 c j l := by
        refine sumQ_one (c + 1) (by omega) (fun a ha hne => ?_)
        rw [hLx a i hi hne, hLx a l hlc hne]
      have q := i2 i l hi hlc
      rw [natr_succ]
      have := q.add pd.neg
      refine Eq.mp (congrArg (fun z => Bd z _) ?_) (this.mono (show _ ≤ ((n : Rat) + 1) * (2 * EE (M i) (M l)) by grind))
      grind
end Go.Proofs.YtmmligbkecilfaaGreatDoor
namespace Go.Proofs.YtmmligbkecilfaaGreatDoor
open Go.RowKit Lv Go.Shelf
attribute [local go_sem] Oper.semAt_some drewN_alloc drewN_setCell

def subL (qs ts : List Rat) : List Rat := List.zipWith (· - ·) qs ts
theorem subL_len {qs ts : List Rat} {n : Nat} (h : qs.length = n) (h' : ts.length = n) : (subL qs ts).length = n := by
  unfold subL; rw [List.length_zipWith, h, h', Nat.min_self]
theorem subL_get {qs ts : List Rat} {n i : Nat} (h : qs.length = n) (h' : ts.length = n) (hi : i < n) : (subL qs ts).getD i 0 = qs.getD i 0 - ts.getD i 0 := by
  unfold subL
  rw [List.getD_eq_getElem?_getD, List.getElem?_zipWith, List.getElem?_eq_getElem (by omega), List.getElem?_eq_getElem (by omega), List.getD_eq_getElem?_getD, List.getD_eq_getElem?_getD, List.getElem?_eq_getElem (by omega), List.getElem?_eq_getElem (by omega)]
  rfl
set_option maxRecDepth 100000 in
set_option maxHeartbeats 1000000 in
theorem gsub_calls (a b : Option Addr) (n c d A B : Nat) (qs ts : List Rat) (w : World) (h : DqL w (.slice a n c) qs B) (h' : DqL w (.slice b n d) ts B) (hn : n ≤ 28)
    (hA : ∀ j, j < n → Bd (qs.getD j 0) (p2 A)) (hA' : ∀ j, j < n → Bd (ts.getD j 0) (p2 A)) (hAB : A + B ≤ 9400) :
    Calls Tryz.prog 9 #[.slice a n c, .slice b n d] w fun e w' => (∃ v, e = .returned (.tuple #[v, .bool true]) ∧ OwnQ w' w.heap.size v (subL qs ts) B) ∧ Below w.heap.size w w' := by
  have HQL := Lib.hid h.len.1
  have HTL := Lib.hid h'.len.1
  have HLL := Lib.hid (subL_len HQL.out HTL.out)
  have hnn : ((n : Int) != (n : Int)) = false := by simp
  have H := Lib.hid h
  have H' := Lib.hid h'
  have HA := Lib.hid hA
  have HA' := Lib.hid hA'
  clear h h' hA hA'
  go_enter Tryz.func9, Tryz.ntmps9
  go_wp2
  go_loopw [6, 7] (fun s6 s7 wr => ∃ i : Nat, s7 = .int .i64 (i : Int) ∧ i ≤ n ∧ Hid (OwnQ wr w.heap.size s6 ((subL qs ts).take i) B ∧ Below w.heap.size w wr)) (fun _ s7 _ => n - (intOf s7).toNat)
  case atStart => exact ⟨0, rfl, Nat.zero_le _, ownQ_nil _ _ _, Below.refl _ _⟩
  case round =>
    obtain ⟨i, rfl, hi, HI⟩ := hrel
    by_cases hlt : i < n
    · have hii : (i : Int) < (n : Int) := by omega
      obtain ⟨blk, off, rfl, hcs⟩ := H.out.at (by omega)
      obtain ⟨blk', off', rfl, hcs'⟩ := H'.out.at (by omega)
      obtain ⟨s1, b1, n1, c1, e1, k10, k11, k12, k13⟩ := hcs i hlt
      obtain ⟨s2, b2, n2, c2, e2, k20, k21, k22, k23⟩ := hcs' i hlt
      have HB1 := Lib.hid (And.intro k13 (HA.out i hlt))
      have HB2 := Lib.hid (And.intro k23 (HA'.out i hlt))
      have HTK := Lib.hid (show (subL qs ts).take (i + 1) = (subL qs ts).take i ++ [qs.getD i 0 - ts.getD i 0] by rw [take_snocQ (by rw [HLL.out]; exact hlt), subL_get HQL.out HTL.out hlt])
      have HLN := Lib.hid (show ((subL qs ts).take i).length + 1 ≤ 1000 by rw [List.length_take]; omega)
      clear hcs hcs' k13 k23
      have KP := Lib.hid (show ∀ W, Below w.heap.size w W → W.cell? ⟨blk, off + i * 3, none⟩ = some (.bool s1) ∧ W.cell? ⟨blk, off + i * 3 + 1, none⟩ = some (.slice b1 n1 c1) ∧ W.cell? ⟨blk, off + i * 3 + 2, none⟩ = some (.int .i64 e1) ∧ W.cell? ⟨blk', off' + i * 3, none⟩ = some (.bool s2) ∧ W.cell? ⟨blk', off' + i * 3 + 1, none⟩ = some (.slice b2 n2 c2) ∧ W.cell? ⟨blk', off' + i * 3 + 2, none⟩ = some (.int .i64 e2) from fun W hb =>
        ⟨(hb.cell (p := ⟨blk, off + i * 3, none⟩) (cell_lt k10)).trans k10, (hb.cell (p := ⟨blk, off + i * 3 + 1, none⟩) (cell_lt k11)).trans k11, (hb.cell (p := ⟨blk, off + i * 3 + 2, none⟩) (cell_lt k12)).trans k12, (hb.cell (p := ⟨blk', off' + i * 3, none⟩) (cell_lt k20)).trans k20, (hb.cell (p := ⟨blk', off' + i * 3 + 1, none⟩) (cell_lt k21)).trans k21, (hb.cell (p := ⟨blk', off' + i * 3 + 2, none⟩) (cell_lt k22)).trans k22⟩)
      clear k10 k11 k12 k20 k21 k22
      have BD := Lib.hid (HI.out.2.drew)
      have OD := Lib.hid (HI.out.1.below (Below.refl _ _).drew)
      have K0 := Lib.hid (KP.out _ BD.out)
      have HM := Lib.hid (fun W (hb : Below w.heap.size w W) => dsub_calls _ _ _ _ A B W (HB1.out.1.below hb) HB1.out.2 (HB2.out.1.below hb) HB2.out.2 hAB)
      go_wp2
      go_region_held3 (fun w' => w'.cell? ⟨blk, off + i * 3, none⟩ = some (.bool s1) ∧ w'.cell? ⟨blk, off + i * 3 + 1, none⟩ = some (.slice b1 n1 c1) ∧ w'.cell? ⟨blk, off + i * 3 + 2, none⟩ = some (.int .i64 e1) ∧ w'.cell? ⟨blk', off' + i * 3, none⟩ = some (.bool s2) ∧ w'.cell? ⟨blk', off' + i * 3 + 1, none⟩ = some (.slice b2 n2 c2) ∧ w'.cell? ⟨blk', off' + i * 3 + 2, none⟩ = some (.int .i64 e2))
        (first
          | with_reducible exact K0.out
          | with_reducible exact K1.out
          | with_reducible exact K2.out
          | with_reducible exact K3.out)
        (first
          | (go_at_call 23; go_must (refine (HM.out _ BD.out).mono ?_; rintro e' w6 ⟨⟨z, rfl, hz⟩, hb⟩; have B6 := Lib.hid (BD.out.trans (hb.mono BD.out.size)); have HZ := Lib.hid hz; have O7 := Lib.hid ((OD.out.below hb)); obtain ⟨zs, zm, ze, ⟨za, zn, zc, rfl, _⟩, _⟩ := hz; have K1 := Lib.hid (KP.out _ B6.out); have B7 := Lib.hid (B6.out.alloc B6.out.size (.cells #[.bool zs, .slice za zn zc, .int .i64 ze] 53)); have K2 := Lib.hid (KP.out _ B7.out); clear hb))
          | (refine step_append_QQ rfl _ _ (by rfl) w.heap.size B _ _ [qs.getD i 0 - ts.getD i 0] (by rfl) (O7.out.below ((Below.refl _ _).alloc (Nat.le_refl _) _)) _ _ _ (by rfl) (dql_new HZ.out rfl) HLN.out B7.out.size ?_; intro v8 w8 hown8 hg8; have B8 := Lib.hid (B7.out.grown hg8 B7.out.size (fun k e => HI.out.1.base k e)); have K3 := Lib.hid (KP.out _ B8.out)))
      replace hown8 := Lib.hid (show OwnQ w8 w.heap.size v8 ((subL qs ts).take (i + 1)) B by rw [HTK.out]; exact hown8)
      clear hg8
      go_wp2
      go_roundw
      case rel => exact ⟨i + 1, by go_num, by omega, hown8.out, B8.out⟩
      case measure => simp [intOf]; omega
    · obtain rfl : i = n := by omega
      have hii : ¬ (i : Int) < (i : Int) := by omega
      go_wp2
      exact bodyPost_ret (v := .tuple #[u6, .bool true]) (by simp [results, Tryz.results9, go_sem]) rfl ⟨⟨_, rfl, by
        have h := HI.out.1
        rwa [List.take_of_length_le (by rw [HLL.out]; exact Nat.le_refl _)] at h⟩, HI.out.2⟩
end Go.Proofs.YtmmligbkecilfaaGreatDoor
namespace Go.Proofs.YtmmligbkecilfaaGreatDoor
open Lv
open Ieee

theorem wb_wd {x : Option Nat} (h : Wb x) : Wd x := fun b hb => (h b hb).1
theorem sfrom_words {c : Nat} (h1 : 1 ≤ c) (h6 : c ≤ 6) : ∀ (n j : Nat) (st : List (Option Nat) × List (Option Nat)) (ys : List (Option Nat)), n + j = c + 1 → st.1.length = tsz c → st.2.length = c + 1 → (∀ i, Wd (st.1.getD i none)) → sfrom c n j st = some ys → ∀ i, Wd (ys.getD i none)
  | 0, j, st, ys, _, _, _, hw, h => by
    obtain rfl := Option.some.inj h
    exact hw
  | n + 1, j, st, ys, hnj, hl, hl2, hw, h => by
    obtain ⟨cc, ss, st', hy, hs, h2⟩ := sfrom_step h
    obtain ⟨st2, e, k1, k2, k3, _⟩ := sstep_at h1 h6 hl hl2 (show j ≤ c by omega) hy
    rw [hs] at e
    obtain rfl := Option.some.inj e
    refine sfrom_words h1 h6 n (j + 1) st' ys (by omega) k1 k2 (fun i => ?_) h2
    rw [k3]
    split
    · exact wb_wd (fmul_wb _ _)
    · split
      · exact wb_wd (fdiv_wb _ _)
      · exact hw i
/-- a row taken out -/
theorem shed_near {c : Nat} {xs ls : List (Option Nat)} {Y : Option Nat} {r t : Int} {G : FacD} (hw : ∀ i, Wd (xs.getD i none)) (hw2 : ∀ i, Wd (ls.getD i none)) (hY : Wd Y) (h : sRowD ⟨(c : Int), xs, r, t⟩ ls Y = (G, 0)) :
    checkP (c : Int) xs r t = true ∧ ls.length = c ∧ G = ⟨(c : Int), G.xs, r - 1, t + ((c : Int) + 1)⟩ ∧ checkP (c : Int) G.xs (r - 1) (t + ((c : Int) + 1)) = true ∧ TriOk c xs ∧ TriOk c G.xs ∧ RowOk c 420 (ls, Y) ∧
    ∀ M : Nat → Rat, (∀ l, l ≤ c → 0 ≤ M l) → (∀ l, l ≤ c → Gx xs c l l + ((c + 1 : Nat) : Rat) * (2 * EE (M l) (M l)) ≤ M l * M l) → ∀ i l, i ≤ c → l ≤ c → Bd (Gx G.xs c i l - (Gx xs c i l - Rx (ls ++ [Y]) 0 i * Rx (ls ++ [Y]) 0 l)) (((c + 1 : Nat) : Rat) * (2 * EE (M i) (M l))) := by
  unfold sRowD at h
  by_cases e1 : sEarlyD ⟨(c : Int), xs, r, t⟩ ls Y ≠ 0
  · rw [if_pos e1] at h; exact absurd (Prod.mk.inj h).2 e1
  rw [if_neg e1] at h
  have e1 : sEarlyD ⟨(c : Int), xs, r, t⟩ ls Y = 0 := by simpa using e1
  obtain ⟨e2, er, et⟩ := sEarly_zero e1
  obtain ⟨hok, hll, ho1, ho2⟩ := early_zero e2
  dsimp only at hll er et
  have hck : checkP (c : Int) xs r t = true := hok
  have hlc : ls.length = c := by omega
  have hT : TriOk c xs := tri_ok hck (fun a l _ _ => hw _)
  obtain ⟨r0, r1, t0, t1⟩ := ok_rows hok
  dsimp only at r0 r1 t0 t1
  have hRow : RowOk c 420 (ls, Y) := by
    have key : ∀ x ∈ ls ++ [Y], Lv.Fn x ∧ Bd (fv x) (p2 ((420 : Nat) : Int)) := by
      intro x hx
      rcases List.mem_append.1 hx with hx | hx
      · obtain ⟨i, hi, rfl⟩ := List.getElem_of_mem hx
        have e : ls[i] = ls.getD i none := by rw [List.getD_eq_getElem?_getD, List.getElem?_eq_getElem hi]; rfl
        rw [e]
        refine fn_in (hw2 i) ?_
        rw [List.any_eq_false] at ho1
        have := ho1 ls[i] (List.getElem_mem hi)
        rw [e] at this
        simpa using this
      · obtain rfl := List.mem_singleton.1 hx
        exact fn_in hY ho2
    exact ⟨hlc, fun x hx => (key x hx).1, fun x hx => (key x hx).2⟩
  have hfl : (ls ++ [Y]).length = c + 1 := by rw [List.length_append, hlc]; rfl
  by_cases e3 : (shedD ⟨(c : Int), xs, r, t⟩ (ls ++ [Y])).2 ≠ 0
  · rw [if_pos e3] at h; exact absurd (Prod.mk.inj h).2 e3
  rw [if_neg e3] at h
  have e3 : (shedD ⟨(c : Int), xs, r, t⟩ (ls ++ [Y])).2 = 0 := by simpa using e3
  have hS : ∃ ys, sfrom c (c + 1) 0 (xs, ls ++ [Y]) = some ys ∧ checkP (c : Int) ys r t = true ∧ (shedD ⟨(c : Int), xs, r, t⟩ (ls ++ [Y])).1 = ⟨(c : Int), ys, r, t⟩ := by
    unfold shedD at e3 ⊢
    rw [if_pos ⟨hok, by dsimp only; omega⟩] at e3 ⊢
    dsimp only at e3 ⊢
    rw [Int.toNat_natCast] at e3 ⊢
    cases hsf : sfrom c (c + 1) 0 (xs, ls ++ [Y]) with
    | none => rw [hsf] at e3; cases e3
    | some ys =>
      rw [hsf] at e3
      dsimp only at e3 ⊢
      by_cases hcy : checkP (c : Int) ys r t = true
      · rw [if_pos hcy]; exact ⟨ys, rfl, hcy, rfl⟩
      · rw [if_neg hcy] at e3; cases e3
  obtain ⟨ys, hsf, hcy, hsD⟩ := hS
  rw [hsD] at h
  dsimp only at h
  have hG := (Prod.mk.inj h).1
  have hGx : G.xs = ys := by rw [← hG]
  have hwy := sfrom_words hT.h1 hT.h6 (c + 1) 0 (xs, ls ++ [Y]) ys (by omega) hT.len hfl hw hsf
  have hTy : TriOk c ys := tri_ok hcy (fun a l _ _ => hwy _)
  rw [hGx]
  refine ⟨hck, hlc, hG.symm, check_mk hT.h1 hT.h6 hTy.len (by omega) (by omega) (by omega) (by omega) (check_parts hcy).2.2.2, hT, hTy, hRow, fun M hM0 hM => ?_⟩
  have key := (shed_gram hT.h1 hT.h6 hM0 (c + 1) 0 (xs, ls ++ [Y]) ys (by omega) hT.len hfl (fun a l hal hlc => (hT.ok a l hal hlc).1) (fun l hlc => fn_wb (hRow.fn _ (getD_mem (by rw [hfl]; omega)))) hsf (fun a l hal hlc => (hTy.ok a l hal hlc).1) (fun l _ hlc => by
    have e : Hs xs c 0 l = Gx xs c l l := by unfold Hs Gx; show _ - 0 = _; grind
    rw [e]; exact hM l hlc)).2
  exact key
/-- THE LAW of ShedNear -/
theorem shed_law {c : Nat} {xs ls : List (Option Nat)} {Y : Option Nat} {r t : Int} {G : FacD} (hw : ∀ i, Wd (xs.getD i none)) (hw2 : ∀ i, Wd (ls.getD i none)) (hY : Wd Y) (h : sRowD ⟨(c : Int), xs, r, t⟩ ls Y = (G, 0)) :
    ∀ us A, A ≤ 860 → Norms c A (gramL c (linesD xs c)) us → ∀ i j, i ≤ j → j ≤ c →
      absR ((gramL c (linesD G.xs c)).getD (gix c i j) 0 - (subL (gramL c (linesD xs c)) (prs ((ls ++ [Y]).map fv))).getD (gix c i j) 0) ≤ bndQ (us.getD i 0) (us.getD j 0) (c + 1) := by
  obtain ⟨_, hlc, _, _, hT, hTy, hRow, near⟩ := shed_near hw hw2 hY h
  intro us A hA hN i j hij hj
  have h1 := hT.h1
  have h6 := hT.h6
  have hfl : (ls ++ [Y]).length = c + 1 := by rw [List.length_append, hlc]; rfl
  have hK4 : (c + 1) + (c + 1) ≤ 4096 := by omega
  have hKr : (((c + 1) + (c + 1) : Nat) : Rat) = ((c + 1 : Nat) : Rat) + ((c + 1 : Nat) : Rat) := by norm_cast
  have key := near (fun l => MM (us.getD l 0) ((c + 1) + (c + 1))) (fun l hl => MM_nn (hN.nn l hl) _) (fun l hl => by
    have h2 := hN.sq l hl
    rw [gram_get h1 h6 hT.len (Nat.le_refl l) hl] at h2
    have h3 := MM_sq (hN.nn l hl) h2 hK4
    rw [hKr] at h3
    grind) i j (by omega) hj
  rw [gram_get h1 h6 hTy.len hij hj, subL_get (gramL_ok (c := c) (A := 420) _ hT.lines).1 hRow.prs (gix_lt h1 h6 hij hj), gram_get h1 h6 hT.len hij hj, rowg_get hfl hij hj]
  refine bd_absR.1 (key.mono (Rat.le_trans ?_ (bnd_room (hN.nn i (by omega)) (hN.nn j hj) hK4 (show (c + 1) + (c + 1) ≤ 2 * (c + 1) by omega))))
  rw [hKr]
  grind
theorem three_parts {q e g0 g1 g2 r : Rat} (h1 : Bd (g2 - (g1 - r)) (q * (2 * e))) (h2 : Bd (g1 - (g0 + r)) (q * e)) : Bd (g2 - g0) ((q + q + q) * e) := by
  unfold Bd at *
  grind
/-- THE LAW of ShedBack -/
theorem back_law {c : Nat} {xs ls : List (Option Nat)} {Y : Option Nat} {r t : Int} {G H : FacD} (hw : ∀ i, Wd (xs.getD i none)) (hw2 : ∀ i, Wd (ls.getD i none)) (hY : Wd Y) (h : rowD ⟨(c : Int), xs, r, t⟩ ls Y = (G, 0)) (hwG : ∀ i, Wd (G.xs.getD i none)) (h' : sRowD G ls Y = (H, 0)) :
    checkP (c : Int) xs r t = true ∧ ls.length = c ∧ (∃ t', H = ⟨(c : Int), H.xs, r, t'⟩ ∧ checkP (c : Int) H.xs r t' = true) ∧ TriOk c xs ∧ TriOk c H.xs ∧ RowOk c 420 (ls, Y) ∧
    ∀ us A, A ≤ 860 → Norms c A (addL (gramL c (linesD xs c)) (prs ((ls ++ [Y]).map fv))) us → ∀ i j, i ≤ j → j ≤ c →
      absR ((gramL c (linesD H.xs c)).getD (gix c i j) 0 - (gramL c (linesD xs c)).getD (gix c i j) 0) ≤ bndQ (us.getD i 0) (us.getD j 0) (2 * c + 2) := by
  have hz : (rowD ⟨(c : Int), xs, r, t⟩ ls Y).2 = 0 := by rw [h]
  obtain ⟨hok, hll, _, _⟩ := early_zero (rowD_zero hz).1
  have hck : checkP (c : Int) xs r t = true := hok
  have hT : TriOk c xs := tri_ok hck (fun a l _ _ => hw _)
  have hRow := row_in (c := c) rfl hw2 hY hz
  have h1 := hT.h1
  have h6 := hT.h6
  have hlc : ls.length = c := hRow.len
  have hfl : (ls ++ [Y]).length = c + 1 := by rw [List.length_append, hlc]; rfl
  obtain ⟨g1, g2, g3, g4⟩ := rowD_ok hz
  rw [h] at g1 g2 g3 g4
  dsimp only at g2 g3 g4
  have hGe : G = ⟨(c : Int), G.xs, r + 1, t + ((c : Int) + 1)⟩ := by
    obtain ⟨a1, a2, a3, a4⟩ := G
    dsimp only at g2 g3 g4
    rw [g2, g3, g4]
  rw [hGe] at h'
  obtain ⟨_, _, hHe, hcH, hTG, hTH, hRow2, near⟩ := shed_near hwG hw2 hY h'
  refine ⟨hck, hlc, ⟨_, by rw [show r + 1 - 1 = r by omega] at hHe; exact hHe, by rw [show r + 1 - 1 = r by omega] at hcH; exact hcH⟩, hT, hTH, hRow2, fun us A hA hN i j hij hj => ?_⟩
  have hlen0 := (gramL_ok (c := c) (A := 420) _ hT.lines).1
  have hti : ∀ i l, i ≤ l → l ≤ c → (addL (gramL c (linesD xs c)) (prs ((ls ++ [Y]).map fv))).getD (gix c i l) 0 = Gx xs c i l + Rx (ls ++ [Y]) 0 i * Rx (ls ++ [Y]) 0 l := by
    intro i l hil hlc'
    rw [addL_get hlen0 hRow2.prs (gix_lt h1 h6 hil hlc'), gram_get h1 h6 hT.len hil hlc', rowg_get hfl hil hlc']
  obtain ⟨K, hK⟩ : ∃ K, (c + 1) + (c + 1) + (c + 1) = K := ⟨_, rfl⟩
  have hK4 : K ≤ 4096 := by omega
  have hKr : (K : Rat) = ((c + 1 : Nat) : Rat) + ((c + 1 : Nat) : Rat) + ((c + 1 : Nat) : Rat) := by rw [← hK]; norm_cast
  have hMn : ∀ l, l ≤ c → 0 ≤ MM (us.getD l 0) K := fun l hl => MM_nn (hN.nn l hl) K
  have hM4 : ∀ l, l ≤ c → MM (us.getD l 0) K ≤ p2 440 := fun l hl => MM_le (hN.nn l hl) (hN.le l hl) hA hK4
  have hsq : ∀ l, l ≤ c → Gx xs c l l + Rx (ls ++ [Y]) 0 l * Rx (ls ++ [Y]) 0 l + (((c + 1 : Nat) : Rat) + ((c + 1 : Nat) : Rat) + ((c + 1 : Nat) : Rat)) * EE (MM (us.getD l 0) K) (MM (us.getD l 0) K) ≤ MM (us.getD l 0) K * MM (us.getD l 0) K := by
    intro l hl
    have h2 := hN.sq l hl
    rw [hti l l (Nat.le_refl l) hl] at h2
    have h3 := MM_sq (hN.nn l hl) h2 hK4
    rw [hKr] at h3
    exact h3
  have hE : ∀ l, l ≤ c → 0 ≤ ((c + 1 : Nat) : Rat) * EE (MM (us.getD l 0) K) (MM (us.getD l 0) K) := fun l hl => rmul_nn (ratn_nn _) (EE_nn (hMn l hl) (hMn l hl))
  obtain ⟨_, _, _, k4⟩ := row_gram (M := fun l => MM (us.getD l 0) K) hMn hM4 (fun a l hal hlc' => (hT.ok a l hal hlc').1) hRow h (fun l hl => by
    have x1 := hsq l hl
    have x2 := hE l hl
    grind)
  have key := near (fun l => MM (us.getD l 0) K) hMn (fun l hl => by
    have x1 := hsq l hl
    have x2 := k4 l l hl hl
    unfold Bd at x2
    grind) i j (by omega) hj
  have k5 := k4 i j (by omega) hj
  rw [gram_get h1 h6 hTH.len hij hj, gram_get h1 h6 hT.len hij hj]
  have x3 : Bd (Gx H.xs c i j - Gx xs c i j) ((K : Rat) * EE (MM (us.getD i 0) K) (MM (us.getD j 0) K)) := by
    rw [hKr]
    exact three_parts key k5
  exact bd_absR.1 (x3.mono (bnd_room (hN.nn i (by omega)) (hN.nn j hj) hK4 (show K ≤ 2 * (2 * c + 2) by omega)))
end Go.Proofs.YtmmligbkecilfaaGreatDoor
namespace Go.Proofs.YtmmligbkecilfaaGreatDoor
open Go.RowKit Lv Go.Shelf
open Ieee (double Format Datum Toward)
attribute [local go_sem] Oper.semAt_some run_store_float drewN_alloc drewN_setCell

def FacCutS (wr : World) (G : FacD) (e : Int) (s s' : Value) (W : World) : Prop := ∃ b : Nat, s = .pointer (some ⟨b, 0, none⟩) ∧ s' = .int .i64 e ∧ FacAt W b G ∧ Below wr.heap.size wr W
def CelS (W : World) (b : Nat) (u0 u1 : Value) : Prop := W.cell? ⟨b, 0, none⟩ = some u0 ∧ W.cell? ⟨b, 1, none⟩ = some u1
theorem CelS.below {W W' : World} {b : Nat} {u0 u1 : Value} (h : CelS W b u0 u1) (hb : Below W.heap.size W W') : CelS W' b u0 u1 :=
  ⟨(hb.cell (p := ⟨b, 0, none⟩) (cell_lt h.1)).trans h.1, (hb.cell (p := ⟨b, 1, none⟩) (cell_lt h.2)).trans h.2⟩
theorem CelS.new (W : World) (u0 u1 : Value) (t : TypeId) : CelS (W.alloc (.cells #[u0, u1] t)) W.heap.size u0 u1 := ⟨by simp [go_sem], by simp [go_sem]⟩
theorem bd_sub_p2 {q t : Rat} {A : Nat} (h : Bd q (p2 A)) (h' : Bd t (p2 A)) : Bd (q - t) (p2 ((A + 1 : Nat) : Int)) := by
  rw [show ((A + 1 : Nat) : Int) = (A : Int) + 1 by omega, p2_succ]
  exact (h.sub h').mono (by grind)

set_option maxRecDepth 100000 in
set_option maxHeartbeats 4000000 in
theorem shedNear_walk (w : World) (a0 a1 a2 : Addr) (LD : Laid w a0 a1 a2) (F : FacD) (a : Option Addr) (n cap : Nat) (h : Row w (.slice a n cap) F.xs) (ls : List (Option Nat)) (Y : Option Nat) (b : Option Addr) (m d y : Nat) (hl : Row w (.slice b m d) ls) (hy : FW y Y) :
    Calls Tryz.prog 3 #[.agg #[.int .i64 F.cols, .slice a n cap, .int .i64 F.rws, .int .i64 F.trn], .agg #[.slice b m d, .float .f64 y]] w fun e w' => e = .returned (.bool true) ∧ Below w.heap.size w w' := by
  have hB1 := (Below.refl w.heap.size w).alloc (Nat.le_refl _) (.cells #[.int .i64 F.cols, .slice a n cap, .int .i64 F.rws, .int .i64 F.trn] 24)
  have hB := hB1.alloc (by simp) (.cells #[.slice b m d, .float .f64 y] 27)
  have HR := Lib.hid h
  have HLD := Lib.hid LD
  clear LD
  have HL := Lib.hid hl
  have HB := Lib.hid hB
  have HB1 := Lib.hid hB1
  by_cases h1 : 60 < n
  · have h1i : (60 : Int) < (n : Int) := by omega
    clear h hl hy hB1
    go_enter Tryz.func3, Tryz.ntmps3
    go_wp2_with (go_at_call 5; refine (live11_calls _ a0 a1 a2 (HLD.out.below hB)).mono ?_; rintro e w6 ⟨rfl, hb6⟩)
    go_ret
    exact ⟨rfl, hB.trans (hb6.mono (by simp; omega))⟩
  have h1i : ¬ (60 : Int) < (n : Int) := by omega
  by_cases h2 : 20 < m
  · have h2i : (20 : Int) < (m : Int) := by omega
    clear h hl hy hB1
    go_enter Tryz.func3, Tryz.ntmps3
    go_wp2_with (go_at_call 5; refine (live11_calls _ a0 a1 a2 (HLD.out.below hB)).mono ?_; rintro e w6 ⟨rfl, hb6⟩)
    go_ret
    exact ⟨rfl, hB.trans (hb6.mono (by simp; omega))⟩
  have h2i : ¬ (20 : Int) < (m : Int) := by omega
  have C3 := Lib.hid ((Cells4.new w (.int .i64 F.cols) (.slice a n cap) (.int .i64 F.rws) (.int .i64 F.trn) 24).alloc (.cells #[.slice b m d, .float .f64 y] 27))
  have hd3 : CelS ((w.alloc (.cells #[.int .i64 F.cols, .slice a n cap, .int .i64 F.rws, .int .i64 F.trn] 24)).alloc (.cells #[.slice b m d, .float .f64 y] 27)) (w.heap.size + 1) (.slice b m d) (.float .f64 y) := by
    have := CelS.new (w.alloc (.cells #[.int .i64 F.cols, .slice a n cap, .int .i64 F.rws, .int .i64 F.trn] 24)) (.slice b m d) (.float .f64 y) 27
    simpa using this
  have D3 := Lib.hid hd3
  clear hd3
  have AR := Lib.hid (fun W ld hF hL => srow_calls F a b n cap m d y ls W a0 a1 a2 ld hF hL hy)
  have HW := Lib.hid (And.intro (row_wd h) (And.intro (row_wd hl) (fw_wd hy)))
  have HY := Lib.hid hy
  obtain ⟨R, hR⟩ : ∃ R, R = sRowD F ls Y := ⟨_, rfl⟩
  rw [← hR] at AR
  obtain ⟨G, ge⟩ := R
  obtain ⟨W2, hW2⟩ : ∃ x, x = (w.alloc (.cells #[.int .i64 F.cols, .slice a n cap, .int .i64 F.rws, .int .i64 F.trn] 24)).alloc (.cells #[.slice b m d, .float .f64 y] 27) := ⟨_, rfl⟩
  rw [← hW2] at C3 D3 HB
  by_cases hge : ge ≠ 0
  · have hne : (ge != 0) = true := by simpa using hge
    clear h hl hy hR hB hB1
    go_enter Tryz.func3, Tryz.ntmps3
    go_upto_region 3 with (fail)
    rw [← hW2]
    clear hW2
    obtain ⟨c0, c1, c2, c3, _, _, _, _⟩ := C3.out
    obtain ⟨d0, d1⟩ := D3.out
    go_wp2_with (first
      | (go_at_call 6; go_must (refine (AR.out _ (HLD.out.below HB.out) (HR.out.below HB.out) (HL.out.below HB.out)).mono ?_; rintro e wL ⟨⟨ga, gn, gcp, he, hrow⟩, hbL⟩; dsimp only at he hrow; subst he; have BL := Lib.hid (HB.out.trans ((hbL.alloc hbL.size (.cells #[.int .i64 G.cols, .slice ga gn gcp, .int .i64 G.rws, .int .i64 G.trn] 24)).mono HB.out.size)); clear hrow hbL))
      | (go_at_call 5; refine (live11_calls _ a0 a1 a2 (HLD.out.below BL.out)).mono ?_; rintro e w8 ⟨rfl, hb8⟩))
    go_ret
    exact ⟨rfl, BL.out.trans (hb8.mono BL.out.size)⟩
  · obtain rfl : ge = 0 := by simpa using hge
    obtain ⟨rk1, rk2, rk3, rk4⟩ := sRowD_ok (F := F) (ls := ls) (Y := Y) (by rw [← hR])
    rw [← hR] at rk1 rk2 rk3 rk4
    obtain ⟨ez1, ez2, _, _⟩ := early_zero (sEarly_zero (sRowD_zero (F := F) (ls := ls) (Y := Y) (by rw [← hR])).1).1
    obtain ⟨fc, fx, fr, ft⟩ := F
    obtain ⟨gc, gx, gr, gt⟩ := G
    dsimp only at rk1 rk2 rk3 rk4 ez2
    obtain ⟨c, rfl⟩ := Int.eq_ofNat_of_zero_le (show 0 ≤ fc by have := ok_cols ez1; dsimp only at this; omega)
    subst rk2 rk3 rk4
    have hckg : checkP (c : Int) gx (fr - 1) (ft + ((c : Int) + 1)) = true := rk1
    obtain ⟨hckf, _, _, _, hTx, hTy, hRow, _⟩ := shed_near HW.out.1 HW.out.2.1 HW.out.2.2 hR.symm
    have hNear := shed_law HW.out.1 HW.out.2.1 HW.out.2.2 hR.symm
    dsimp only at hTy hNear
    have hml : (m : Int) = (c : Int) := by have := hl.len; omega
    obtain rfl : m = c := by omega
    have h1c := hTx.h1
    have h6c := hTx.h6
    obtain ⟨s, hs⟩ : ∃ s, tsz m = s := ⟨_, rfl⟩
    have hsb := tsz_bounds h1c h6c
    rw [hs] at hsb
    obtain ⟨k, hk⟩ : ∃ k, m + 1 = k := ⟨_, rfl⟩
    have hki : (m : Int) + 1 = (k : Int) := by omega
    have hkw : IntKind.i64.wrap (k : Int) = (k : Int) := IntWalk.i64_in _ (by omega)
    have HNE := Lib.hid hNear
    rw [hk] at HNE
    -- the four lists
    have LF := gramL_ok (c := m) (A := 420) _ hTx.lines
    have LG := gramL_ok (c := m) (A := 420) _ hTy.lines
    rw [linesD_len, hs] at LF LG
    have hpr := hRow.prs
    dsimp only at hpr
    rw [hs] at hpr
    have hpb : ∀ j, j < s → Bd ((prs ((ls ++ [Y]).map fv)).getD j 0) (p2 ((859 : Nat) : Int)) := fun j hj => bd_p2_mono (hRow.pbd _ (getD_memQ (by dsimp only; omega))) (by omega)
    have GF := Lib.hid (fun W hW => gfactor_calls m 420 fr ft a n cap fx W hW hckf hTx.lines (by omega))
    have GG := Lib.hid (fun W ga gn gcp hW => gfactor_calls m 420 (fr - 1) (ft + ((m : Int) + 1)) ga gn gcp gx W hW hckg hTy.lines (by omega))
    have GR := Lib.hid (fun W hW => grow_calls b m d y 420 ls Y W hW HY.out h1c h6c hRow.fn hRow.bd (by omega))
    have e5 : ft + ((m : Int) + 1) = ft + (m : Int) + 1 := by omega
    rw [e5] at AR GG
    generalize gramL m (linesD fx m) = qf at *
    generalize gramL m (linesD gx m) = qg at *
    generalize prs ((ls ++ [Y]).map fv) = qr at *
    have PF := Lib.hid (show ∀ j, j < s → Bd (qf.getD j 0) (p2 ((859 : Nat) : Int)) from fun j hj => bd_p2_mono (LF.2 j hj) (by omega))
    have PG := Lib.hid (show ∀ j, j < s → Bd (qg.getD j 0) (p2 ((860 : Nat) : Int)) from fun j hj => bd_p2_mono (LG.2 j hj) (by omega))
    have PR := Lib.hid hpb
    have LQ := Lib.hid (And.intro LF.1 (And.intro hpr LG.1))
    have PS := Lib.hid (show ∀ j, j < s → Bd ((subL qf qr).getD j 0) (p2 ((860 : Nat) : Int)) from fun j hj => by
      rw [subL_get LF.1 hpr hj]
      exact bd_sub_p2 (PF.out j hj) (PR.out j hj))
    have PF0 := Lib.hid (show ∀ j, j < s → Bd (qf.getD j 0) (p2 ((860 : Nat) : Int)) from fun j hj => bd_p2_mono (PF.out j hj) (by omega))
    have HS := Lib.hid hs
    clear h hl hy hR hB hB1 rk1 ez1 ez2 hckf hckg hge hml e5 hTx hTy hRow hNear LF LG hpr hpb hs HW HY
    go_enter Tryz.func3, Tryz.ntmps3
    go_upto_region 3 with (fail)
    rw [← hW2]
    clear hW2
    go_cut [5, 6] from 28 to 33 (fun s5 s6 wx => FacCutS W2 ⟨(m : Int), gx, fr - 1, ft + (m : Int) + 1⟩ 0 s5 s6 wx)
    case first =>
      obtain ⟨c0, c1, c2, c3, _, _, _, _⟩ := C3.out
      obtain ⟨d0, d1⟩ := D3.out
      go_wp2_with (go_at_call 6; go_must (refine (AR.out _ (HLD.out.below HB.out) (HR.out.below HB.out) (HL.out.below HB.out)).mono ?_; rintro e wL ⟨⟨ga, gn, gcp, he, hrow⟩, hbL⟩; dsimp only at he hrow; subst he))
      go_meet
      case rel => exact ⟨_, rfl, rfl, FacAt.new (F := ⟨(m : Int), gx, fr - 1, ft + (m : Int) + 1⟩) hrow, hbL.alloc hbL.size _⟩
    case rest =>
      obtain ⟨b5, rfl, rfl, F5, B5⟩ := hcut
      obtain ⟨W5, rfl⟩ : ∃ x, x = wc := ⟨_, rfl⟩
      have B5' := Lib.hid (HB.out.trans (B5.mono HB.out.size))
      have C5 := Lib.hid (C3.out.below B5)
      have D5 := Lib.hid (D3.out.below B5)
      obtain ⟨fa, fn, fcp, fC, fR⟩ := F5
      have FC := Lib.hid fC
      have FR := Lib.hid fR
      have HR5 := Lib.hid (HR.out.below B5'.out)
      have HL5 := Lib.hid (HL.out.below B5'.out)
      obtain ⟨c0, c1, c2, c3, _, _, _, _⟩ := C5.out
      obtain ⟨d0, d1⟩ := D5.out
      obtain ⟨x0, x1, x2, x3, _, _, _, _⟩ := FC.out
      clear fC fR AR C3 D3
      go_wp2_with (first
        | (go_at_call_of 7 (Value.agg #[.int .i64 (m : Int), .slice a n cap, .int .i64 fr, .int .i64 ft]); go_must (refine (GF.out _ HR5.out).mono ?_; rintro e w6 ⟨⟨v, rfl, hv⟩, hb6⟩; obtain ⟨pa, pc, hpv, _, _⟩ := hv.form; rw [LQ.out.1] at hpv; subst hpv; have Q6 := Lib.hid hv.dql; have B6 := Lib.hid hb6; have C6 := Lib.hid (C5.out.below hb6); have FC6 := Lib.hid (FC.out.below hb6); have D6 := Lib.hid (D5.out.below hb6); clear c0 c1 c2 c3 d0 d1 x0 x1 x2 x3 hb6 hv; obtain ⟨c0, c1, c2, c3, _, _, _, _⟩ := C6.out; obtain ⟨d0, d1⟩ := D6.out; obtain ⟨x0, x1, x2, x3, _, _, _, _⟩ := FC6.out))
        | (go_at_call 8; go_must (refine (GR.out _ (HL5.out.below B6.out)).mono ?_; rintro e w7 ⟨⟨v, rfl, hv⟩, hb7⟩; obtain ⟨ra, rc, hpv, _, _⟩ := hv.form; rw [LQ.out.2.1] at hpv; subst hpv; have R7 := Lib.hid hv.dql; have Q7 := Lib.hid (Q6.out.below hb7); have B7 := Lib.hid (B6.out.trans (hb7.mono B6.out.size)); have C7 := Lib.hid (C6.out.below hb7); have FC7 := Lib.hid (FC6.out.below hb7); clear c0 c1 c2 c3 d0 d1 x0 x1 x2 x3 hb7 hv; obtain ⟨c0, c1, c2, c3, _, _, _, _⟩ := C7.out; obtain ⟨x0, x1, x2, x3, _, _, _, _⟩ := FC7.out))
        | (go_at_call 9; go_must (refine (gsub_calls pa ra s pc rc 859 2148 qf qr w7 Q7.out R7.out (by omega) PF.out PR.out (by omega)).mono ?_; rintro e w8 ⟨⟨v, rfl, hv⟩, hb8⟩; obtain ⟨sa, sc, hpv, _, _⟩ := hv.form; rw [subL_len LQ.out.1 LQ.out.2.1] at hpv; subst hpv; have S8 := Lib.hid hv.dql; have P8 := Lib.hid (Q7.out.below hb8); have B8 := Lib.hid (B7.out.trans (hb8.mono B7.out.size)); have C8 := Lib.hid (C7.out.below hb8); have FC8 := Lib.hid (FC7.out.below hb8); clear c0 c1 c2 c3 x0 x1 x2 x3 hb8 hv; obtain ⟨c0, c1, c2, c3, _, _, _, _⟩ := C8.out; obtain ⟨x0, x1, x2, x3, _, _, _, _⟩ := FC8.out))
        | (go_at_call 7; go_must (refine (GG.out _ _ _ _ (FR.out.below B8.out)).mono ?_; rintro e w9 ⟨⟨v, rfl, hv⟩, hb9⟩; obtain ⟨ga, gc, hpv, _, _⟩ := hv.form; rw [LQ.out.2.2] at hpv; subst hpv; have G9 := Lib.hid hv.dql; have S9 := Lib.hid (S8.out.below hb9); have P9 := Lib.hid (P8.out.below hb9); have B9 := Lib.hid (B8.out.trans (hb9.mono B8.out.size)); have C9 := Lib.hid (C8.out.below hb9); clear c0 c1 c2 c3 x0 x1 x2 x3 hb9 hv; obtain ⟨c0, c1, c2, c3, _, _, _, _⟩ := C9.out))
        | (go_at_call 10; go_must (refine (echeck_calls m k s 860 sa pa ga sc pc gc (subL qf qr) qf qg w9 S9.out P9.out G9.out h1c h6c HS.out.symm PS.out PF0.out PG.out (by omega) (by omega) (fun us hN i j hij hj => HNE.out us 860 (by omega) hN i j hij hj)).mono ?_; rintro e w10 ⟨rfl, hb10⟩; have B10 := Lib.hid (B9.out.trans (hb10.mono B9.out.size)); clear c0 c1 c2 c3 hb10))
        | (go_at_call 5; refine (live11_calls _ a0 a1 a2 (HLD.out.below (B5'.out.trans (B10.out.mono B5'.out.size)))).mono ?_; rintro e w11 ⟨rfl, hb11⟩))
      go_ret
      exact ⟨rfl, (B5'.out.trans (B10.out.mono B5'.out.size)).trans (hb11.mono (by have := B5'.out.size; have := B10.out.size; omega))⟩
end Go.Proofs.YtmmligbkecilfaaGreatDoor
namespace Go.Proofs.YtmmligbkecilfaaGreatDoor
open Go.RowKit Lv Go.Shelf
open Ieee (double Format Datum Toward)
attribute [local go_sem] Oper.semAt_some run_store_float drewN_alloc drewN_setCell

set_option maxRecDepth 100000 in
set_option maxHeartbeats 4000000 in
theorem shedBack_walk (w : World) (a0 a1 a2 : Addr) (LD : Laid w a0 a1 a2) (F : FacD) (a : Option Addr) (n cap : Nat) (h : Row w (.slice a n cap) F.xs) (ls : List (Option Nat)) (Y : Option Nat) (b : Option Addr) (m d y : Nat) (hl : Row w (.slice b m d) ls) (hy : FW y Y) :
    Calls Tryz.prog 4 #[.agg #[.int .i64 F.cols, .slice a n cap, .int .i64 F.rws, .int .i64 F.trn], .agg #[.slice b m d, .float .f64 y]] w fun e w' => e = .returned (.bool true) ∧ Below w.heap.size w w' := by
  have hB1 := (Below.refl w.heap.size w).alloc (Nat.le_refl _) (.cells #[.int .i64 F.cols, .slice a n cap, .int .i64 F.rws, .int .i64 F.trn] 24)
  have hB := hB1.alloc (by simp) (.cells #[.slice b m d, .float .f64 y] 27)
  have HR := Lib.hid h
  have HLD := Lib.hid LD
  clear LD
  have HL := Lib.hid hl
  have HB := Lib.hid hB
  have HB1 := Lib.hid hB1
  by_cases h1 : 60 < n
  · have h1i : (60 : Int) < (n : Int) := by omega
    clear h hl hy hB1
    go_enter Tryz.func4, Tryz.ntmps4
    go_wp2_with (go_at_call 5; refine (live11_calls _ a0 a1 a2 (HLD.out.below hB)).mono ?_; rintro e w6 ⟨rfl, hb6⟩)
    go_ret
    exact ⟨rfl, hB.trans (hb6.mono (by simp; omega))⟩
  have h1i : ¬ (60 : Int) < (n : Int) := by omega
  by_cases h2 : 20 < m
  · have h2i : (20 : Int) < (m : Int) := by omega
    clear h hl hy hB1
    go_enter Tryz.func4, Tryz.ntmps4
    go_wp2_with (go_at_call 5; refine (live11_calls _ a0 a1 a2 (HLD.out.below hB)).mono ?_; rintro e w6 ⟨rfl, hb6⟩)
    go_ret
    exact ⟨rfl, hB.trans (hb6.mono (by simp; omega))⟩
  have h2i : ¬ (20 : Int) < (m : Int) := by omega
  have C3 := Lib.hid ((Cells4.new w (.int .i64 F.cols) (.slice a n cap) (.int .i64 F.rws) (.int .i64 F.trn) 24).alloc (.cells #[.slice b m d, .float .f64 y] 27))
  have hd3 : CelS ((w.alloc (.cells #[.int .i64 F.cols, .slice a n cap, .int .i64 F.rws, .int .i64 F.trn] 24)).alloc (.cells #[.slice b m d, .float .f64 y] 27)) (w.heap.size + 1) (.slice b m d) (.float .f64 y) := by
    have := CelS.new (w.alloc (.cells #[.int .i64 F.cols, .slice a n cap, .int .i64 F.rws, .int .i64 F.trn] 24)) (.slice b m d) (.float .f64 y) 27
    simpa using this
  have D3 := Lib.hid hd3
  clear hd3
  have AR := Lib.hid (fun W hF hL => arow_calls F a b n cap m d y ls W hF hL hy)
  have HW := Lib.hid (And.intro (row_wd h) (And.intro (row_wd hl) (fw_wd hy)))
  have HY := Lib.hid hy
  have HLL := Lib.hid hl.len
  obtain ⟨R, hR⟩ : ∃ R, R = rowD F ls Y := ⟨_, rfl⟩
  rw [← hR] at AR
  obtain ⟨G, ge⟩ := R
  have SR := Lib.hid (fun W (ga : Option Addr) (gn gcp : Nat) ld hF hL => srow_calls G ga b gn gcp m d y ls W a0 a1 a2 ld hF hL hy)
  obtain ⟨S, hS⟩ : ∃ S, S = sRowD G ls Y := ⟨_, rfl⟩
  rw [← hS] at SR
  obtain ⟨H, he⟩ := S
  obtain ⟨W2, hW2⟩ : ∃ x, x = (w.alloc (.cells #[.int .i64 F.cols, .slice a n cap, .int .i64 F.rws, .int .i64 F.trn] 24)).alloc (.cells #[.slice b m d, .float .f64 y] 27) := ⟨_, rfl⟩
  rw [← hW2] at C3 D3 HB
  have HRS := Lib.hid (And.intro hR hS)
  clear h hl hy hR hS hB hB1
  go_enter Tryz.func4, Tryz.ntmps4
  go_upto_region 3 with (fail)
  rw [← hW2]
  clear hW2
  go_cut [5, 6] from 30 to 35 (fun s5 s6 wx => FacCutS W2 G ge s5 s6 wx)
  case first =>
    obtain ⟨c0, c1, c2, c3, _, _, _, _⟩ := C3.out
    obtain ⟨d0, d1⟩ := D3.out
    go_wp2_with (go_at_call 11; go_must (refine (AR.out _ (HR.out.below HB.out) (HL.out.below HB.out)).mono ?_; rintro e wL ⟨⟨ga, gn, gcp, hee, hrow⟩, hbL⟩; dsimp only at hee hrow; subst hee))
    go_meet
    case rel => exact ⟨_, rfl, rfl, FacAt.new (F := G) hrow, hbL.alloc hbL.size _⟩
  case rest =>
    obtain ⟨b5, rfl, rfl, F5, B5⟩ := hcut
    obtain ⟨W5, rfl⟩ : ∃ x, x = wc := ⟨_, rfl⟩
    have B5' := Lib.hid (HB.out.trans (B5.mono HB.out.size))
    have C5 := Lib.hid (C3.out.below B5)
    have D5 := Lib.hid (D3.out.below B5)
    obtain ⟨fa, fn, fcp, fC, fR⟩ := F5
    have FC := Lib.hid fC
    have FR := Lib.hid fR
    clear B5 fC fR
    go_upto_region 4 with (fail)
    go_cut [7, 8] from 36 to 41 (fun s5 s6 wx => FacCutS W5 H he s5 s6 wx)
    case first =>
      obtain ⟨x0, x1, x2, x3, _, _, _, _⟩ := FC.out
      obtain ⟨d0, d1⟩ := D5.out
      go_wp2_with (go_at_call 6; go_must (refine (SR.out _ _ _ _ (HLD.out.below B5'.out) FR.out (HL.out.below B5'.out)).mono ?_; rintro e wL ⟨⟨ga, gn, gcp, hee, hrow⟩, hbL⟩; dsimp only at hee hrow; subst hee))
      go_meet
      case rel => exact ⟨_, rfl, rfl, FacAt.new (F := H) hrow, hbL.alloc hbL.size _⟩
    case rest =>
      obtain ⟨b7, rfl, rfl, F7, B7⟩ := hcut
      obtain ⟨W7, rfl⟩ : ∃ x, x = wc := ⟨_, rfl⟩
      have B7' := Lib.hid (B5'.out.trans (B7.mono B5'.out.size))
      have C7 := Lib.hid (C5.out.below B7)
      have D7 := Lib.hid (D5.out.below B7)
      have H7 := Lib.hid F7
      have HG := Lib.hid (row_wd FR.out)
      clear F7 B7 AR SR C3 D3 C5 D5 FC FR
      by_cases hge : ge = 0 ∧ he = 0
      · obtain ⟨rfl, rfl⟩ := hge
        obtain ⟨hR, hS⟩ := HRS.out
        obtain ⟨ez1, ez2, _, _⟩ := early_zero (rowD_zero (F := F) (ls := ls) (Y := Y) (by rw [← hR])).1
        obtain ⟨fc, fx, fr, ft⟩ := F
        dsimp only at ez2
        obtain ⟨c, rfl⟩ := Int.eq_ofNat_of_zero_le (show 0 ≤ fc by have := ok_cols ez1; dsimp only at this; omega)
        obtain ⟨hckf, _, ⟨ht, hHe, hckh⟩, hTx, hTy, hRow, hNear⟩ := back_law HW.out.1 HW.out.2.1 HW.out.2.2 hR.symm HG.out hS.symm
        obtain ⟨hc, hx, hr, ht'⟩ := H
        dsimp only at hHe hckh hTy hNear
        injection hHe with e1 e2 e3 e4
        have e3 := e3.symm
        have e4 := e4.symm
        subst e1 e3 e4
        have hml : (m : Int) = (c : Int) := by have := HLL.out; omega
        obtain rfl : m = c := by omega
        have h1c := hTx.h1
        have h6c := hTx.h6
        obtain ⟨s, hs⟩ : ∃ s, tsz m = s := ⟨_, rfl⟩
        have hsb := tsz_bounds h1c h6c
        rw [hs] at hsb
        obtain ⟨k2, hk2⟩ : ∃ k, 2 * m = k := ⟨_, rfl⟩
        obtain ⟨k, hk⟩ : ∃ k, 2 * m + 2 = k := ⟨_, rfl⟩
        have hk2i : 2 * (m : Int) = (k2 : Int) := by omega
        have hk2w : IntKind.i64.wrap (k2 : Int) = (k2 : Int) := IntWalk.i64_in _ (by omega)
        have hki : (k2 : Int) + 2 = (k : Int) := by omega
        have hkw : IntKind.i64.wrap (k : Int) = (k : Int) := IntWalk.i64_in _ (by omega)
        rw [hk] at hNear
        have HNE := Lib.hid hNear
        have LF := gramL_ok (c := m) (A := 420) _ hTx.lines
        have LG := gramL_ok (c := m) (A := 420) _ hTy.lines
        rw [linesD_len, hs] at LF LG
        have hpr := hRow.prs
        dsimp only at hpr
        rw [hs] at hpr
        have hpb : ∀ j, j < s → Bd ((prs ((ls ++ [Y]).map fv)).getD j 0) (p2 ((859 : Nat) : Int)) := fun j hj => bd_p2_mono (hRow.pbd _ (getD_memQ (by dsimp only; omega))) (by omega)
        have GF := Lib.hid (fun W hW => gfactor_calls m 420 fr ft a n cap fx W hW hckf hTx.lines (by omega))
        have GG := Lib.hid (fun W ga gn gcp hW => gfactor_calls m 420 fr ht ga gn gcp hx W hW hckh hTy.lines (by omega))
        have GR := Lib.hid (fun W hW => grow_calls b m d y 420 ls Y W hW HY.out h1c h6c hRow.fn hRow.bd (by omega))
        generalize gramL m (linesD fx m) = qf at *
        generalize gramL m (linesD hx m) = qg at *
        generalize prs ((ls ++ [Y]).map fv) = qr at *
        have PF := Lib.hid (show ∀ j, j < s → Bd (qf.getD j 0) (p2 ((859 : Nat) : Int)) from fun j hj => bd_p2_mono (LF.2 j hj) (by omega))
        have PG := Lib.hid (show ∀ j, j < s → Bd (qg.getD j 0) (p2 ((860 : Nat) : Int)) from fun j hj => bd_p2_mono (LG.2 j hj) (by omega))
        have PF0 := Lib.hid (show ∀ j, j < s → Bd (qf.getD j 0) (p2 ((860 : Nat) : Int)) from fun j hj => bd_p2_mono (PF.out j hj) (by omega))
        have PR := Lib.hid hpb
        have LQ := Lib.hid (And.intro LF.1 (And.intro hpr LG.1))
        have PS := Lib.hid (show ∀ j, j < s → Bd ((addL qf qr).getD j 0) (p2 ((860 : Nat) : Int)) from fun j hj => by
          rw [addL_get LF.1 hpr hj]
          exact bd_add_p2 (PF.out j hj) (PR.out j hj))
        have HS := Lib.hid hs
        have hrr : (fr == fr) = true := by simp
        clear hR hS ez1 ez2 hckf hckh hml hTx hTy hRow hNear LF LG hpr hpb hs HW HRS HG HLL
        obtain ⟨ha, hn, hcp, hC, hRr⟩ := H7.out
        have XC := Lib.hid hC
        have XR := Lib.hid hRr
        have HR7 := Lib.hid (HR.out.below B7'.out)
        have HL7 := Lib.hid (HL.out.below B7'.out)
        obtain ⟨c0, c1, c2, c3, _, _, _, _⟩ := C7.out
        obtain ⟨d0, d1⟩ := D7.out
        obtain ⟨x0, x1, x2, x3, _, _, _, _⟩ := XC.out
        clear hC hRr
        go_wp2_with (first
          | (go_at_call_of 7 (Value.agg #[.int .i64 (m : Int), .slice a n cap, .int .i64 fr, .int .i64 ft]); go_must (refine (GF.out _ HR7.out).mono ?_; rintro e w6 ⟨⟨v, rfl, hv⟩, hb6⟩; obtain ⟨pa, pc, hpv, _, _⟩ := hv.form; rw [LQ.out.1] at hpv; subst hpv; have Q6 := Lib.hid hv.dql; have B6 := Lib.hid hb6; have C6 := Lib.hid (C7.out.below hb6); have FC6 := Lib.hid (XC.out.below hb6); have D6 := Lib.hid (D7.out.below hb6); clear c0 c1 c2 c3 d0 d1 x0 x1 x2 x3 hb6 hv; obtain ⟨c0, c1, c2, c3, _, _, _, _⟩ := C6.out; obtain ⟨d0, d1⟩ := D6.out; obtain ⟨x0, x1, x2, x3, _, _, _, _⟩ := FC6.out))
          | (go_at_call 8; go_must (refine (GR.out _ (HL7.out.below B6.out)).mono ?_; rintro e w7 ⟨⟨v, rfl, hv⟩, hb7⟩; obtain ⟨ra, rc, hpv, _, _⟩ := hv.form; rw [LQ.out.2.1] at hpv; subst hpv; have R7 := Lib.hid hv.dql; have Q7 := Lib.hid (Q6.out.below hb7); have B8 := Lib.hid (B6.out.trans (hb7.mono B6.out.size)); have C8 := Lib.hid (C6.out.below hb7); have FC8 := Lib.hid (FC6.out.below hb7); clear c0 c1 c2 c3 d0 d1 x0 x1 x2 x3 hb7 hv; obtain ⟨c0, c1, c2, c3, _, _, _, _⟩ := C8.out; obtain ⟨x0, x1, x2, x3, _, _, _, _⟩ := FC8.out))
          | (go_at_call 12; go_must (refine (gadd_calls pa ra s pc rc 859 2148 qf qr w7 Q7.out R7.out (by omega) PF.out PR.out (by omega)).mono ?_; rintro e w8 ⟨⟨v, rfl, hv⟩, hb8⟩; obtain ⟨sa, sc, hpv, _, _⟩ := hv.form; rw [addL_len LQ.out.1 LQ.out.2.1] at hpv; subst hpv; have S8 := Lib.hid hv.dql; have P8 := Lib.hid (Q7.out.below hb8); have B9 := Lib.hid (B8.out.trans (hb8.mono B8.out.size)); have C9 := Lib.hid (C8.out.below hb8); have FC9 := Lib.hid (FC8.out.below hb8); clear c0 c1 c2 c3 x0 x1 x2 x3 hb8 hv; obtain ⟨c0, c1, c2, c3, _, _, _, _⟩ := C9.out; obtain ⟨x0, x1, x2, x3, _, _, _, _⟩ := FC9.out))
          | (go_at_call 7; go_must (refine (GG.out _ _ _ _ (XR.out.below B9.out)).mono ?_; rintro e w9 ⟨⟨v, rfl, hv⟩, hb9⟩; obtain ⟨ga, gc, hpv, _, _⟩ := hv.form; rw [LQ.out.2.2] at hpv; subst hpv; have G9 := Lib.hid hv.dql; have S9 := Lib.hid (S8.out.below hb9); have P9 := Lib.hid (P8.out.below hb9); have B10 := Lib.hid (B9.out.trans (hb9.mono B9.out.size)); have C10 := Lib.hid (C9.out.below hb9); have FC10 := Lib.hid (FC9.out.below hb9); clear c0 c1 c2 c3 x0 x1 x2 x3 hb9 hv; obtain ⟨c0, c1, c2, c3, _, _, _, _⟩ := C10.out))
          | (go_at_call 10; go_must (refine (echeck_calls m k s 860 pa sa ga pc sc gc qf (addL qf qr) qg w9 P9.out S9.out G9.out h1c h6c HS.out.symm PF0.out PS.out PG.out (by omega) (by omega) (fun us hN i j hij hj => HNE.out us 860 (by omega) hN i j hij hj)).mono ?_; rintro e w10 ⟨rfl, hb10⟩; have B11 := Lib.hid (B10.out.trans (hb10.mono B10.out.size)); have C11 := Lib.hid (C10.out.below hb10); have FC11 := Lib.hid (FC10.out.below hb10); clear c0 c1 c2 c3 hb10; obtain ⟨c0, c1, c2, c3, _, _, _, _⟩ := C11.out; obtain ⟨x0, x1, x2, x3, _, _, _, _⟩ := FC11.out))
          | (go_at_call 5; refine (live11_calls _ a0 a1 a2 (HLD.out.below (B7'.out.trans (B11.out.mono B7'.out.size)))).mono ?_; rintro e w11 ⟨rfl, hb11⟩))
        go_ret
        exact ⟨rfl, (B7'.out.trans (B11.out.mono B7'.out.size)).trans (hb11.mono (by have := B7'.out.size; have := B11.out.size; omega))⟩
      · have hne : ((ge != 0) = true) ∨ ((ge != 0) = false ∧ (he != 0) = true) := by
          by_cases e : ge = 0
          · subst e
            exact .inr ⟨rfl, by simpa using hge⟩
          · exact .inl (by simpa using e)
        clear HRS HW hge
        rcases hne with hne | ⟨hne, hne2⟩
        · go_wp2_with (go_at_call 5; refine (live11_calls _ a0 a1 a2 (HLD.out.below B7'.out)).mono ?_; rintro e w13 ⟨rfl, hb13⟩)
          go_ret
          exact ⟨rfl, B7'.out.trans (hb13.mono B7'.out.size)⟩
        · go_wp2_with (go_at_call 5; refine (live11_calls _ a0 a1 a2 (HLD.out.below B7'.out)).mono ?_; rintro e w13 ⟨rfl, hb13⟩)
          go_ret
          exact ⟨rfl, B7'.out.trans (hb13.mono B7'.out.size)⟩
end Go.Proofs.YtmmligbkecilfaaGreatDoor
namespace Go.Proofs.YtmmligbkecilfaaGreatDoor
open Go.ChangeShapes Go.WideShapes Go.ChangeAt Go.RowKit Lv

set_option maxRecDepth 100000 in
theorem shedNear_lifted (os : Os) (started : os.Started) (H : Type) (enc : TypeId × Value → H) :
    ReturnsInHanded {} Tryz.checked os 3 .any (fun w args => (Rows.shedNearSpec.pre enc Tryz.prog Tryz.f3 Rows.shedNearRow.domain false w args ∧ laidMet Tryz.prog laid3 w) ∧ sizedMet enc Tryz.prog Tryz.f3 (OpenSpec.ofChange Rows.shedNearSpec) false w args)
      (Rows.shedNearSpec.post enc Tryz.prog Tryz.f3 false true false false) := by
  refine returnsInHanded_of_change_and (C := Tryz.checked) (X := fun w _ => laidMet Tryz.prog laid3 w) (fun _ _ _ hh h => h.of_heap hh) own started (by kernel_rfl) Tryz.func3
    (ChangeSpec.witness_at (enc := enc) (C := Tryz.checked) (os := os) (X := fun w _ => laidMet Tryz.prog laid3 w) false (laidWorld os) #[.agg #[.int .i64 0, .slice none 0 0, .int .i64 0, .int .i64 0], .agg #[.slice none 0 0, .float .f64 0]] 12 rfl (by kernel_rfl) (by kernel_rfl) (by kernel_rfl) (by kernel_rfl) (by kernel_rfl) (laidWorld_met os _)) ?_
  intro W base args ds gs before hval0 hW _ _ hL _
  obtain ⟨la0, la1, la2, LD⟩ := laid_of_met hL
  have hval : ∀ (j : Nat) t v, Tryz.f3.params[j]? = some t → args[j]? = some v → Value.okWide Tryz.prog W .any base t v := hval0
  have hW' := hW
  obtain ⟨p, q, hA0, hV, rfl, hfz, hnd⟩ := hW
  have hA : DataW.TrodAll enc Tryz.prog W 0 (fun _ => true) true Tryz.f3.params.toList args.toList ds p := hA0
  rw [Tryz.params3] at hA hval
  obtain ⟨v0, vs0, d0, ds0, p0, q0, hargs, rfl, rfl, h0, r0⟩ := trodAll_cons hA
  obtain ⟨v1, vs1, d1, ds1, p1, q1, rfl, rfl, rfl, h1, r1⟩ := trodAll_cons r0
  obtain ⟨rfl, rfl, rfl⟩ := trodAll_nil r1
  obtain rfl : args = #[v0, v1] := by cases args; simp_all
  obtain ⟨rfl, rfl⟩ := trodVars_none hV
  have k0 := h0
  have lt0 : ∀ x ∈ p0, x.block < W.heap.size := by obtain ⟨m, hm⟩ := k0; exact DataW.trod_lt m _ _ _ hm
  obtain ⟨F0, a0, n0, c0, rfl, w0⟩ := open_factor (hval 0 24 v0 rfl rfl) h0
  have k1 := h1
  have lt1 : ∀ x ∈ p1, x.block < W.heap.size := by obtain ⟨m, hm⟩ := k1; exact DataW.trod_lt m _ _ _ hm
  obtain ⟨l1, Y1, a1, n1, c1, y1, rfl, w1, u1⟩ := open_rowD (hval 1 27 v1 rfl rfl) h1
  clear hA0 hval0
  refine (shedNear_walk W la0 la1 la2 LD F0 a0 n0 c0 w0 l1 Y1 a1 n1 c1 y1 w1 u1).mono fun e W' ⟨he, bel⟩ => ?_
  subst he
  exact ⟨_, rfl, _, _, _, [], _, [], hW', trodAll_mk1 (shut_bool Tryz.underlying4 _), (trodAll_cons_mk (Below.trod laidOut (by kernel_rfl) (of_decide_eq_true (by kernel_rfl)) k0 bel lt0) (trodAll_cons_mk (Below.trod laidOut (by kernel_rfl) (of_decide_eq_true (by kernel_rfl)) k1 bel lt1) trodAll_mk0)), rfl, bel.frame _, fun h => by cases h⟩

theorem shedNear_holds : Rows.ShedNearSaid :=
  OpenClaim.holds_of_wide 3 Tryz.f3 rfl rfl rfl rfl rfl rfl rfl ⟨rfl, rfl, rfl, rfl, rfl⟩ rfl rfl rfl rfl rfl (by kernel_rfl) Tryz.func3 (by kernel_rfl)
    (of_decide_eq_true (by kernel_rfl)) (by unfold Func.isWrapper; first | (rw [if_pos (by decide +kernel)]; kernel_rfl) | (rw [if_neg (by decide +kernel)]; exact ⟨rfl, rfl⟩))
    (fun os started H enc _ => shedNear_lifted os started H enc)

set_option maxRecDepth 100000 in
theorem shedNear_card : Rows.ShedNearCardSaid :=
  Claim7.holds_tied_plain_at .later [] [.sentinel, .sentinel, .sentinel] true (true, Rows.shedNearCard.stood.harness.2) true
    shedNear_holds (fun _ h => by cases h) (by kernel_rfl) (fun _ h => by cases h) shedNear_row_tie rfl ⟨rfl, rfl⟩ (by kernel_rfl) rfl
    (fun f fn hf hfn => by
      obtain rfl : f = 3 := Option.some.inj ((show Tryz.prog.funcNamed Rows.shedNearRow.func = some 3 by kernel_rfl).symm.trans hf) |>.symm
      obtain rfl : fn = Tryz.f3 := (Option.some.inj (Tryz.func3.symm.trans hfn)).symm
      exact ⟨by kernel_rfl, fun j t ht => by
        rw [Tryz.params3] at ht
        rcases j with _ | j
        · obtain rfl : t = 24 := by simpa using ht.symm
          exact (show Tryz.prog.wantsStandIn 24 = false by kernel_rfl)
        rcases j with _ | j
        · obtain rfl : t = 27 := by simpa using ht.symm
          exact (show Tryz.prog.wantsStandIn 27 = false by kernel_rfl)
        simp at ht⟩)
    (by kernel_rfl)
#print axioms shedNear_card
#print axioms shedNear_holds
end Go.Proofs.YtmmligbkecilfaaGreatDoor
namespace Go.Proofs.YtmmligbkecilfaaGreatDoor
open Go.ChangeShapes Go.WideShapes Go.ChangeAt Go.RowKit Lv

set_option maxRecDepth 100000 in
theorem shedBack_lifted (os : Os) (started : os.Started) (H : Type) (enc : TypeId × Value → H) :
    ReturnsInHanded {} Tryz.checked os 4 .any (fun w args => (Rows.shedBackSpec.pre enc Tryz.prog Tryz.f4 Rows.shedBackRow.domain false w args ∧ laidMet Tryz.prog laid3 w) ∧ sizedMet enc Tryz.prog Tryz.f4 (OpenSpec.ofChange Rows.shedBackSpec) false w args)
      (Rows.shedBackSpec.post enc Tryz.prog Tryz.f4 false true false false) := by
  refine returnsInHanded_of_change_and (C := Tryz.checked) (X := fun w _ => laidMet Tryz.prog laid3 w) (fun _ _ _ hh h => h.of_heap hh) own started (by kernel_rfl) Tryz.func4
    (ChangeSpec.witness_at (enc := enc) (C := Tryz.checked) (os := os) (X := fun w _ => laidMet Tryz.prog laid3 w) false (laidWorld os) #[.agg #[.int .i64 0, .slice none 0 0, .int .i64 0, .int .i64 0], .agg #[.slice none 0 0, .float .f64 0]] 12 rfl (by kernel_rfl) (by kernel_rfl) (by kernel_rfl) (by kernel_rfl) (by kernel_rfl) (laidWorld_met os _)) ?_
  intro W base args ds gs before hval0 hW _ _ hL _
  obtain ⟨la0, la1, la2, LD⟩ := laid_of_met hL
  have hval : ∀ (j : Nat) t v, Tryz.f4.params[j]? = some t → args[j]? = some v → Value.okWide Tryz.prog W .any base t v := hval0
  have hW' := hW
  obtain ⟨p, q, hA0, hV, rfl, hfz, hnd⟩ := hW
  have hA : DataW.TrodAll enc Tryz.prog W 0 (fun _ => true) true Tryz.f4.params.toList args.toList ds p := hA0
  rw [Tryz.params4] at hA hval
  obtain ⟨v0, vs0, d0, ds0, p0, q0, hargs, rfl, rfl, h0, r0⟩ := trodAll_cons hA
  obtain ⟨v1, vs1, d1, ds1, p1, q1, rfl, rfl, rfl, h1, r1⟩ := trodAll_cons r0
  obtain ⟨rfl, rfl, rfl⟩ := trodAll_nil r1
  obtain rfl : args = #[v0, v1] := by cases args; simp_all
  obtain ⟨rfl, rfl⟩ := trodVars_none hV
  have k0 := h0
  have lt0 : ∀ x ∈ p0, x.block < W.heap.size := by obtain ⟨m, hm⟩ := k0; exact DataW.trod_lt m _ _ _ hm
  obtain ⟨F0, a0, n0, c0, rfl, w0⟩ := open_factor (hval 0 24 v0 rfl rfl) h0
  have k1 := h1
  have lt1 : ∀ x ∈ p1, x.block < W.heap.size := by obtain ⟨m, hm⟩ := k1; exact DataW.trod_lt m _ _ _ hm
  obtain ⟨l1, Y1, a1, n1, c1, y1, rfl, w1, u1⟩ := open_rowD (hval 1 27 v1 rfl rfl) h1
  clear hA0 hval0
  refine (shedBack_walk W la0 la1 la2 LD F0 a0 n0 c0 w0 l1 Y1 a1 n1 c1 y1 w1 u1).mono fun e W' ⟨he, bel⟩ => ?_
  subst he
  exact ⟨_, rfl, _, _, _, [], _, [], hW', trodAll_mk1 (shut_bool Tryz.underlying4 _), (trodAll_cons_mk (Below.trod laidOut (by kernel_rfl) (of_decide_eq_true (by kernel_rfl)) k0 bel lt0) (trodAll_cons_mk (Below.trod laidOut (by kernel_rfl) (of_decide_eq_true (by kernel_rfl)) k1 bel lt1) trodAll_mk0)), rfl, bel.frame _, fun h => by cases h⟩

theorem shedBack_holds : Rows.ShedBackSaid :=
  OpenClaim.holds_of_wide 4 Tryz.f4 rfl rfl rfl rfl rfl rfl rfl ⟨rfl, rfl, rfl, rfl, rfl⟩ rfl rfl rfl rfl rfl (by kernel_rfl) Tryz.func4 (by kernel_rfl)
    (of_decide_eq_true (by kernel_rfl)) (by unfold Func.isWrapper; first | (rw [if_pos (by decide +kernel)]; kernel_rfl) | (rw [if_neg (by decide +kernel)]; exact ⟨rfl, rfl⟩))
    (fun os started H enc _ => shedBack_lifted os started H enc)

set_option maxRecDepth 100000 in
theorem shedBack_card : Rows.ShedBackCardSaid :=
  Claim7.holds_tied_plain_at .later [] [.sentinel, .sentinel, .sentinel] true (true, Rows.shedBackCard.stood.harness.2) true
    shedBack_holds (fun _ h => by cases h) (by kernel_rfl) (fun _ h => by cases h) shedBack_row_tie rfl ⟨rfl, rfl⟩ (by kernel_rfl) rfl
    (fun f fn hf hfn => by
      obtain rfl : f = 4 := Option.some.inj ((show Tryz.prog.funcNamed Rows.shedBackRow.func = some 4 by kernel_rfl).symm.trans hf) |>.symm
      obtain rfl : fn = Tryz.f4 := (Option.some.inj (Tryz.func4.symm.trans hfn)).symm
      exact ⟨by kernel_rfl, fun j t ht => by
        rw [Tryz.params4] at ht
        rcases j with _ | j
        · obtain rfl : t = 24 := by simpa using ht.symm
          exact (show Tryz.prog.wantsStandIn 24 = false by kernel_rfl)
        rcases j with _ | j
        · obtain rfl : t = 27 := by simpa using ht.symm
          exact (show Tryz.prog.wantsStandIn 27 = false by kernel_rfl)
        simp at ht⟩)
    (by kernel_rfl)
#print axioms shedBack_card
#print axioms shedBack_holds
end Go.Proofs.YtmmligbkecilfaaGreatDoor
