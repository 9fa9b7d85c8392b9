/- Solving: how far a number is from what it is taken from. Solving: what a row's entries times the answers come to is near to the last column's entry. The statements' fits of layer 16. -/
import Derived.Test.YtnboegeljaplbaaZh
import Derived.Test.YtnboegeljaplbaaVd
import Derived.Test.YtnboegeljaplbaaZm
namespace Go.Proofs.Ytnboegeljaplbaa
open Lv
open Ieee

/-- a float's word that is no NaN's -/
def Wb (x : Option Nat) : Prop := ∀ b, x = some b → b < 18446744073709551616 ∧ b % 9223372036854775808 ≤ 9218868437227405312
theorem ab_le {b : Nat} (h64 : W64 b) (h : ab b = some b) : b < 18446744073709551616 ∧ b % 9223372036854775808 ≤ 9218868437227405312 := by
  refine ⟨h64, ?_⟩
  obtain ⟨_, hn⟩ := ab_some h
  exact nan_le hn
theorem f2_wb {op : Nat → Nat → Option Nat} (h : ∀ a b r, op a b = some r → W64 r ∧ ab r = some r) (x y : Option Nat) : Wb (f2 op x y) := by
  intro b hb
  cases x with
  | none => cases hb
  | some x =>
    cases y with
    | none => cases hb
    | some y => exact ab_le (h x y b hb).1 (h x y b hb).2
theorem fsub_wb (x y : Option Nat) : Wb (fsub x y) := f2_wb (fun _ _ _ h => ⟨sub_w64 h, sub_res h⟩) x y
theorem fmul_wb (x y : Option Nat) : Wb (fmul x y) := f2_wb (fun _ _ _ h => ⟨mul_w64 h, mul_res h⟩) x y
theorem fdiv_wb (x y : Option Nat) : Wb (fdiv x y) := f2_wb (fun _ _ _ h => ⟨div_w64 h, div_res h⟩) x y
/-- a number, an infinity, or none -/
theorem wb_cases {x : Option Nat} (h : Wb x) : Lv.Fn x ∨ x = none ∨ ∃ s, x = some (wd s 9218868437227405312) := by
  cases x with
  | none => exact .inr (.inl rfl)
  | some b =>
    obtain ⟨h1, h2⟩ := h b rfl
    have e : some b = some (wd (decide (9223372036854775808 ≤ b)) (b % 9223372036854775808)) := by
      by_cases c : 9223372036854775808 ≤ b
      · rw [decide_eq_true c]
        show some b = some (9223372036854775808 + b % 9223372036854775808)
        congr 1; omega
      · rw [decide_eq_false c]
        show some b = some (b % 9223372036854775808)
        congr 1; omega
    by_cases c : b % 9223372036854775808 = 9218868437227405312
    · rw [c] at e
      exact .inr (.inr ⟨_, e⟩)
    · exact .inl ⟨_, _, e, by omega⟩
theorem fn_num {x : Option Nat} (hw : Wb x) (h : numF x = true) : Lv.Fn x := by
  rcases wb_cases hw with h1 | rfl | ⟨s, rfl⟩
  · exact h1
  · cases h
  · exfalso
    cases s <;> revert h <;> decide
theorem read_inf (s : Bool) : double.read (wd s 9218868437227405312) = .infinity s := by cases s <;> decide +kernel
theorem not_inf (s : Bool) : ¬ Lv.Fn (some (wd s 9218868437227405312)) := by
  rintro ⟨t, r, e, hr⟩
  have e2 := Option.some.inj e
  unfold wd at e2
  cases s <;> cases t <;> simp at e2 <;> omega
theorem write_inf (s : Bool) : double.write (.infinity s) = wd s 9218868437227405312 := by cases s <;> decide +kernel
theorem not_none : ¬ Lv.Fn none := by rintro ⟨_, _, h, _⟩; cases h
theorem sub_num {x y : Option Nat} (hx : Wb x) (hy : Wb y) (h : Lv.Fn (fsub x y)) : Lv.Fn x ∧ Lv.Fn y := by
  rcases wb_cases hx with hx | rfl | ⟨s, rfl⟩
  · rcases wb_cases hy with hy | rfl | ⟨t, rfl⟩
    · exact ⟨hx, hy⟩
    · exfalso
      obtain ⟨s, a, rfl, _⟩ := hx
      exact not_none h
    · exfalso
      obtain ⟨s, a, rfl, ha⟩ := hx
      have e : fsub (some (wd s a)) (some (wd t 9218868437227405312)) = some (wd (!t) 9218868437227405312) := by
        show double.sub _ _ = _
        unfold Format.sub
        rw [read_wd s ha, read_inf]
        simp only [Datum.opposite, Datum.sum, Option.map_some, write_inf]
      rw [e] at h
      exact not_inf _ h
  · exact absurd h not_none
  · exfalso
    rcases wb_cases hy with hy | rfl | ⟨t, rfl⟩
    · obtain ⟨t, b, rfl, hb⟩ := hy
      have e : fsub (some (wd s 9218868437227405312)) (some (wd t b)) = some (wd s 9218868437227405312) := by
        show double.sub _ _ = _
        unfold Format.sub
        rw [read_wd t hb, read_inf]
        simp only [Datum.opposite, Datum.sum, Option.map_some, write_inf]
      rw [e] at h
      exact not_inf _ h
    · exact not_none h
    · have e : fsub (some (wd s 9218868437227405312)) (some (wd t 9218868437227405312)) = if s = !t then some (wd s 9218868437227405312) else none := by
        show double.sub _ _ = _
        unfold Format.sub
        rw [read_inf, read_inf]
        simp only [Datum.opposite, Datum.sum]
        split
        · simp only [Option.map_some, write_inf]
        · rfl
      rw [e] at h
      split at h
      · exact not_inf _ h
      · exact not_none h
theorem mul_num {x y : Option Nat} (hx : Wb x) (hy : Wb y) (h : Lv.Fn (fmul x y)) : Lv.Fn x ∧ Lv.Fn y := by
  rcases wb_cases hx with hx | rfl | ⟨s, rfl⟩
  · rcases wb_cases hy with hy | rfl | ⟨t, rfl⟩
    · exact ⟨hx, hy⟩
    · exfalso
      obtain ⟨s, a, rfl, _⟩ := hx
      exact not_none h
    · exfalso
      obtain ⟨s, a, rfl, ha⟩ := hx
      have e : fmul (some (wd s a)) (some (wd t 9218868437227405312)) = if mg a = 0 then none else some (wd (t ^^ s) 9218868437227405312) := by
        show double.mul _ _ = _
        unfold Format.mul
        rw [read_wd s ha, read_inf]
        simp only [Datum.product]
        split
        · rfl
        · simp only [Option.map_some, write_inf]
      rw [e] at h
      split at h
      · exact not_none h
      · exact not_inf _ h
  · exact absurd h not_none
  · exfalso
    rcases wb_cases hy with hy | rfl | ⟨t, rfl⟩
    · obtain ⟨t, b, rfl, hb⟩ := hy
      have e : fmul (some (wd s 9218868437227405312)) (some (wd t b)) = if mg b = 0 then none else some (wd (s ^^ t) 9218868437227405312) := by
        show double.mul _ _ = _
        unfold Format.mul
        rw [read_wd t hb, read_inf]
        simp only [Datum.product]
        split
        · rfl
        · simp only [Option.map_some, write_inf]
      rw [e] at h
      split at h
      · exact not_none h
      · exact not_inf _ h
    · exact not_none h
    · have e : fmul (some (wd s 9218868437227405312)) (some (wd t 9218868437227405312)) = some (wd (s ^^ t) 9218868437227405312) := by
        show double.mul _ _ = _
        unfold Format.mul
        rw [read_inf, read_inf]
        simp only [Datum.product, Option.map_some, write_inf]
      rw [e] at h
      exact not_inf _ h
theorem div_num {x : Option Nat} {t : Bool} {H : Nat} (hH : H < 9218868437227405312) (hx : Wb x) (h : Lv.Fn (fdiv x (some (wd t H)))) : Lv.Fn x := by
  rcases wb_cases hx with hx | rfl | ⟨s, rfl⟩
  · exact hx
  · exact absurd h not_none
  · exfalso
    have e : fdiv (some (wd s 9218868437227405312)) (some (wd t H)) = some (wd (s ^^ t) 9218868437227405312) := by
      show double.div _ _ = _
      unfold Format.div
      rw [read_inf, read_wd t hH]
      simp only [Datum.quotient, Option.map_some, write_inf]
    rw [e] at h
    exact not_inf _ h
/-! ### off by little of what comes -/
/-- a rounding is off by little of what it comes to -/
theorem mid_res {r : Nat} {z : Rat} (h : Mid r z) (hz0 : 0 ≤ z) : Bd (rv r - z) (uu * rv r + ee) := by
  have hu := uu_small
  have hup := uu_pos
  have hep := ee_pos
  have hr := rv_nonneg r
  have hur := rmul_nn (Rat.le_of_lt hup) hr
  have hi := h.hi.1
  by_cases c : 4503599627370496 ≤ r
  · obtain ⟨g1, g2⟩ := rv_gap c
    have lo := (h.lo (by omega)).1
    unfold Bd
    constructor <;> grind
  · -- a small one: the rungs are 2 ee apart
    have he2 : ee * 2 = p2 (-1074) := by
      unfold ee
      rw [show (-1074 : Int) = -1075 + 1 by decide, p2_succ]
      grind
    have hs := rv_succ 0 r (by omega) (.inl rfl)
    rw [show 0 * 4503599627370496 + r + 1 = r + 1 by omega, show 0 * 4503599627370496 + r = r by omega, show (-1074 + ((0 : Nat) : Int)) = -1074 by decide] at hs
    by_cases h0 : r = 0
    · subst h0
      have e0 := rv_zero
      unfold Bd
      constructor <;> grind
    · have lo := (h.lo (by omega)).1
      have hs2 := rv_succ 0 (r - 1) (by omega) (.inl rfl)
      rw [show 0 * 4503599627370496 + (r - 1) + 1 = r by omega, show 0 * 4503599627370496 + (r - 1) = r - 1 by omega, show (-1074 + ((0 : Nat) : Int)) = -1074 by decide] at hs2
      unfold Bd
      constructor <;> grind
theorem min_lt {s : Bool} {ρ : Nat} (h : Lv.Fn (some (wd s (min ρ 9218868437227405312)))) : ρ < 9218868437227405312 := by
  by_cases c : ρ < 9218868437227405312
  · exact c
  · exfalso
    rw [Nat.min_eq_right (by omega)] at h
    exact not_inf s h
theorem absQ_sg (s : Bool) {x : Rat} (h : 0 ≤ x) : absQ (Lv.sg s x) = x := by
  unfold absQ Lv.sg
  cases s
  · simp only [Bool.false_eq_true, if_false]; rw [if_neg (by grind)]
  · simp only [if_true]
    split <;> grind
theorem mulR {x y : Option Nat} (hx : Lv.Fn x) (hy : Lv.Fn y) (h : Lv.Fn (fmul x y)) : Bd (fv (fmul x y) - fv x * fv y) (uu * absQ (fv x * fv y) + ee) := by
  obtain ⟨s, a, rfl, ha⟩ := hx
  obtain ⟨t, b, rfl, hb⟩ := hy
  obtain ⟨ρ, h1, h2⟩ := mul_mid ha hb
  have e : fmul (some (wd s a)) (some (wd t b)) = some (wd (s ^^ t) (min ρ 9218868437227405312)) := h2 s t
  rw [e] at h ⊢
  have hρ := min_lt h
  rw [Nat.min_eq_left (by omega), fv_wd _ hρ, fv_wd s ha, fv_wd t hb, vz_sg, vz_sg, vz_sg, sg_mul, ← sg_sub]
  have hz : 0 ≤ rv a * rv b := rmul_nn (rv_nonneg _) (rv_nonneg _)
  rw [absQ_sg _ hz]
  exact bd_sg.2 (mid_err h1 hz)
theorem subR {x y : Option Nat} (hx : Lv.Fn x) (hy : Lv.Fn y) (h : Lv.Fn (fsub x y)) : Bd (fv (fsub x y) - (fv x - fv y)) (uu * absQ (fv (fsub x y)) + ee) := by
  obtain ⟨s, a, rfl, ha⟩ := hx
  obtain ⟨t, b, rfl, hb⟩ := hy
  obtain ⟨u, ρ, z, hz, h1, hzv, _, h2⟩ := add_gen s (!t) ha hb
  have e : fsub (some (wd s a)) (some (wd t b)) = some (wd u (min ρ 9218868437227405312)) := (sub_wdZ s t ha hb).trans h2
  rw [e] at h ⊢
  have hρ := min_lt h
  rw [Nat.min_eq_left (by omega), fv_wd _ hρ, fv_wd s ha, fv_wd t hb, vz_sub, ← hzv, vz_sg, absQ_sg _ (rv_nonneg _)]
  show Bd (Lv.sg u (rv ρ) - Lv.sg u z) _
  rw [← sg_sub]
  exact bd_sg.2 (mid_res h1 hz)
theorem divR {x : Option Nat} (hx : Lv.Fn x) {t : Bool} {H : Nat} (h0 : H ≠ 0) (hH : H < 9218868437227405312) (h : Lv.Fn (fdiv x (some (wd t H)))) :
    Bd (fv (some (wd t H)) * fv (fdiv x (some (wd t H))) - fv x) (152/100 * (uu * absQ (fv (some (wd t H)) * fv (fdiv x (some (wd t H))))) + 101/100 * (ee * absQ (fv (some (wd t H))))) := by
  obtain ⟨s, a, rfl, ha⟩ := hx
  have hHp : 0 < rv H := by have := rv_lt (show 0 < H by omega); rwa [rv_zero] at this
  have he0 := Rat.le_of_lt ee_pos
  have hu := uu_small
  have hu0 := Rat.le_of_lt hu.2
  by_cases c : a = 0
  · subst c
    have e : fdiv (some (wd s 0)) (some (wd t H)) = some (wd (s ^^ t) 0) := zero_div s t h0 hH
    rw [e, fv_wd (s ^^ t) (r := 0) (by decide), fv_wd t hH, fv_wd s (r := 0) (by decide), vz_sg, vz_sg, vz_sg, rv_zero]
    have z1 : ∀ s, Lv.sg s 0 = 0 := by intro s; unfold Lv.sg; cases s <;> simp
    rw [z1, z1, Rat.mul_zero, absQ_sg _ (Rat.le_of_lt hHp)]
    have := rmul_nn he0 (Rat.le_of_lt hHp)
    have hz : absQ 0 = 0 := by unfold absQ; simp
    rw [hz]
    rw [show (0 : Rat) - 0 = 0 by grind]
    exact bd_zero (by grind)
  · have hi : rv H * (rv H)⁻¹ = 1 := Rat.mul_inv_cancel _ (by grind)
    obtain ⟨z, hz⟩ : ∃ z, rv a * (rv H)⁻¹ = z := ⟨_, rfl⟩
    have hzq : z * rv H = rv a := by rw [← hz]; grind
    have hz0 : 0 ≤ z := Rat.le_of_mul_le_mul_right (c := rv H) (by rw [hzq, Rat.zero_mul]; exact rv_nonneg a) hHp
    obtain ⟨ρ, v, h1, h2, h3, h4⟩ := div_gen c h0 ha hH hzq
    have e : fdiv (some (wd s a)) (some (wd t H)) = some (wd (s ^^ t) (min ρ 9218868437227405312)) := h4 s t
    rw [e] at h ⊢
    have hρ := min_lt h
    rw [Nat.min_eq_left (by omega), fv_wd _ hρ, fv_wd t hH, fv_wd s ha, vz_sg, vz_sg, vz_sg, sg_mul, show (t ^^ (s ^^ t)) = s by cases s <;> cases t <;> rfl, ← sg_sub]
    have hr0 := rv_nonneg ρ
    rw [absQ_sg _ (Rat.le_of_lt hHp), absQ_sg _ (rmul_nn (Rat.le_of_lt hHp) hr0)]
    refine bd_sg.2 ?_
    have k1 := mid_res h1 h2
    have uz : uu * z ≤ 1/10000 * z := Rat.mul_le_mul_of_nonneg_right (by grind) hz0
    have hzv : z ≤ 10001/10000 * v := by unfold Bd at h3; grind
    have ur : uu * rv ρ ≤ 1/10000 * rv ρ := Rat.mul_le_mul_of_nonneg_right (by grind) hr0
    have hvr : v ≤ 10001/10000 * rv ρ + ee := by unfold Bd at k1; grind
    have u1 := rmul_mono hu0 hzv
    have u2 := rmul_mono hu0 hvr
    have ue : uu * ee ≤ 1/10000 * ee := Rat.mul_le_mul_of_nonneg_right (by grind) he0
    have k2 := k1.add h3
    rw [show rv ρ - v + (v - z) = rv ρ - z by grind] at k2
    have ur0 := rmul_nn hu0 hr0
    have k3 : Bd (rv ρ - z) (152/100 * (uu * rv ρ) + 101/100 * ee) := k2.mono (by grind)
    have k4 := k3.mul (bd_self (Rat.le_of_lt hHp))
    rw [show (rv ρ - z) * rv H = rv H * rv ρ - rv a by rw [← hzq]; grind] at k4
    exact k4.mono (by grind)
theorem less_wb {s : Option Nat} {a b : Nat → Option Nat} (hs : Wb s) : ∀ n, Wb (lessF s a b n)
  | 0 => hs
  | _ + 1 => fsub_wb _ _
/-- what is left when products are taken off -/
theorem less_off {s : Option Nat} {a b : Nat → Option Nat} (hs : Wb s) : ∀ n, n ≤ 6 → (∀ k, k < n → Wb (a k) ∧ Wb (b k)) → Lv.Fn (lessF s a b n) →
    Lv.Fn s ∧ (∀ k, k < n → Lv.Fn (a k) ∧ Lv.Fn (b k)) ∧
    Bd (fv s - sumQ (fun k => fv (a k) * fv (b k)) n - fv (lessF s a b n)) (1001/1000 * ((n : Rat) * (uu * (absQ (fv (lessF s a b n)) + sumQ (fun k => absQ (fv (a k) * fv (b k))) n))) + 3 * ((n : Rat) * ee))
  | 0, _, _, h => by
    refine ⟨h, fun k hk => absurd hk (Nat.not_lt_zero _), ?_⟩
    show Bd (fv s - 0 - fv s) _
    rw [show fv s - 0 - fv s = 0 by grind, show ((0 : Nat) : Rat) = 0 from rfl, Rat.zero_mul, Rat.zero_mul]
    exact bd_zero (by grind)
  | n + 1, hn, hw, h => by
    obtain ⟨hS, hp⟩ := sub_num (less_wb hs n) (fmul_wb _ _) h
    obtain ⟨ha, hb⟩ := mul_num (hw n (by omega)).1 (hw n (by omega)).2 hp
    obtain ⟨k1, k2, k3⟩ := less_off hs n (by omega) (fun k hk => hw k (by omega)) hS
    refine ⟨k1, fun k hk => ?_, ?_⟩
    · by_cases e : k = n
      · subst e; exact ⟨ha, hb⟩
      · exact k2 k (by omega)
    · have m1 := mulR ha hb hp
      have m2 := subR hS hp h
      have e1 : sumQ (fun k => fv (a k) * fv (b k)) (n + 1) = sumQ (fun k => fv (a k) * fv (b k)) n + fv (a n) * fv (b n) := rfl
      have e2 : sumQ (fun k => absQ (fv (a k) * fv (b k))) (n + 1) = sumQ (fun k => absQ (fv (a k) * fv (b k))) n + absQ (fv (a n) * fv (b n)) := rfl
      have hP := sumQ_nn (f := fun k => absQ (fv (a k) * fv (b k))) n (fun k _ => absQ_nn _)
      have hL : lessF s a b (n + 1) = fsub (lessF s a b n) (fmul (a n) (b n)) := rfl
      rw [e1, e2, natr_succ]
      rw [hL] at h ⊢
      generalize sumQ (fun k => absQ (fv (a k) * fv (b k))) n = P at *
      generalize sumQ (fun k => fv (a k) * fv (b k)) n = T0 at *
      generalize hq : fv (a n) * fv (b n) = q at *
      generalize fv (fmul (a n) (b n)) = p at *
      generalize fv (fsub (lessF s a b n) (fmul (a n) (b n))) = S' at *
      generalize fv (lessF s a b n) = S at *
      have hu := uu_small
      have hu0 := Rat.le_of_lt hu.2
      have he0 := Rat.le_of_lt ee_pos
      have hnr : (n : Rat) ≤ 6 := by exact_mod_cast (show n ≤ 6 by omega)
      have hn0 := ratn_nn n
      generalize (n : Rat) = N at *
      have q0 := absQ_nn q
      have s0 := absQ_nn S'
      have t0 := absQ_nn S
      have bq := absQ_bd q
      have bs := absQ_bd S'
      -- the size of what was there before
      have hSb : absQ S ≤ absQ S' + absQ q + uu * absQ S' + uu * absQ q + 2 * ee := bd_mid (by
        unfold Bd at *
        constructor <;> grind)
      have uq := rmul_nn hu0 q0
      have us := rmul_nn hu0 s0
      have uP := rmul_nn hu0 hP
      have u1 := rmul_mono hu0 hSb
      have u2 : uu * (uu * absQ S') ≤ 1/1000000 * (uu * absQ S') := Rat.mul_le_mul_of_nonneg_right (by grind) us
      have u3 : uu * (uu * absQ q) ≤ 1/1000000 * (uu * absQ q) := Rat.mul_le_mul_of_nonneg_right (by grind) uq
      have u4 : uu * ee ≤ 1/1000000 * ee := Rat.mul_le_mul_of_nonneg_right (by grind) he0
      have key : uu * (absQ S + P) ≤ 1000001/1000000 * (uu * absQ S') + 1000001/1000000 * (uu * absQ q) + 2/1000000 * ee + uu * P := by grind
      have k5 := rmul_mono hn0 key
      have n1 : N * (uu * absQ S') ≤ 6 * (uu * absQ S') := Rat.mul_le_mul_of_nonneg_right hnr us
      have n2 : N * (uu * absQ q) ≤ 6 * (uu * absQ q) := Rat.mul_le_mul_of_nonneg_right hnr uq
      have n3 : N * ee ≤ 6 * ee := Rat.mul_le_mul_of_nonneg_right hnr he0
      have k6 := (k3.sub m2).add m1
      rw [show fv s - T0 - S - (S' - (S - p)) + (p - q) = fv s - (T0 + q) - S' by grind] at k6
      refine k6.mono ?_
      rw [show (N + 1) * (uu * (absQ S' + (P + absQ q))) = N * (uu * absQ S') + N * (uu * P) + N * (uu * absQ q) + uu * absQ S' + uu * P + uu * absQ q by grind]
      rw [show N * (1000001/1000000 * (uu * absQ S') + 1000001/1000000 * (uu * absQ q) + 2/1000000 * ee + uu * P) = 1000001/1000000 * (N * (uu * absQ S')) + 1000001/1000000 * (N * (uu * absQ q)) + 2/1000000 * (N * ee) + N * (uu * P) by grind] at k5
      rw [show (N + 1) * ee = N * ee + ee by grind]
      clear k3 m1 m2 k6 u1 key bq bs hSb
      generalize N * (uu * absQ S') = x1 at *
      generalize N * (uu * absQ q) = x2 at *
      generalize N * (uu * P) = x3 at *
      generalize N * ee = x4 at *
      generalize N * (uu * (absQ S + P)) = x5 at *
      generalize uu * absQ S' = y1 at *
      generalize uu * absQ q = y2 at *
      generalize uu * P = y3 at *
      grind
end Go.Proofs.Ytnboegeljaplbaa
namespace Go.Proofs.Ytnboegeljaplbaa
open Lv
open Ieee

theorem absQ_eq (q : Rat) : absQ q = absR q := rfl
theorem p1070 : p2 (-1070) = 32 * ee := by
  have e1 := p2_nat 5
  rw [show ((5 : Nat) : Int) = 5 from rfl] at e1
  have e3 : ((2 ^ 5 : Nat) : Rat) = 32 := by norm_cast
  rw [e3] at e1
  unfold ee
  rw [← e1, ← p2_add]; rfl
theorem row_fits {Z : Option Nat} {t : Bool} {H n m : Nat} {a b : Nat → Option Nat} (hn : n + 1 ≤ m) (hm : m ≤ 6) (hZ : Wb Z) (hab : ∀ k, k < n → Wb (a k) ∧ Wb (b k)) (h0 : H ≠ 0) (hH : H < 9218868437227405312)
    (hx : Lv.Fn (fdiv (lessF Z a b n) (some (wd t H)))) :
    Lv.Fn Z ∧ (∀ k, k < n → Lv.Fn (a k) ∧ Lv.Fn (b k)) ∧
    absR (fv Z - (fv (some (wd t H)) * fv (fdiv (lessF Z a b n) (some (wd t H))) + sumQ (fun k => fv (a k) * fv (b k)) n)) ≤
      (absR (fv (some (wd t H)) * fv (fdiv (lessF Z a b n) (some (wd t H)))) + sumQ (fun k => absR (fv (a k) * fv (b k))) n) * ((m + 2 : Nat) : Rat) * p2 (-53) + ((m : Rat) + absR (fv (some (wd t H)))) * p2 (-1070) := by
  have hS := div_num hH (less_wb hZ n) hx
  obtain ⟨k1, k2, k3⟩ := less_off hZ n (by omega) hab hS
  refine ⟨k1, k2, ?_⟩
  have d1 := divR hS h0 hH hx
  rw [p1070, show p2 (-53) = uu from rfl]
  have hP := sumQ_nn (f := fun k => absQ (fv (a k) * fv (b k))) n (fun k _ => absQ_nn _)
  rw [show (fun k => absR (fv (a k) * fv (b k))) = (fun k => absQ (fv (a k) * fv (b k))) from rfl]
  generalize sumQ (fun k => absQ (fv (a k) * fv (b k))) n = P at *
  generalize sumQ (fun k => fv (a k) * fv (b k)) n = T at *
  have hd0 := absQ_nn (fv (some (wd t H)))
  rw [show absR (fv (some (wd t H))) = absQ (fv (some (wd t H))) from rfl]
  generalize absQ (fv (some (wd t H))) = δ at *
  have hy0 := absQ_nn (fv (some (wd t H)) * fv (fdiv (lessF Z a b n) (some (wd t H))))
  have hyb := absQ_bd (fv (some (wd t H)) * fv (fdiv (lessF Z a b n) (some (wd t H))))
  rw [show absR (fv (some (wd t H)) * fv (fdiv (lessF Z a b n) (some (wd t H)))) = absQ (fv (some (wd t H)) * fv (fdiv (lessF Z a b n) (some (wd t H)))) from rfl]
  generalize hY : fv (some (wd t H)) * fv (fdiv (lessF Z a b n) (some (wd t H))) = Y at *
  generalize absQ Y = y at *
  have hu := uu_small
  have hu0 := Rat.le_of_lt hu.2
  have he0 := Rat.le_of_lt ee_pos
  have hSb : absQ (fv (lessF Z a b n)) ≤ y + (152/100 * (uu * y) + 101/100 * (ee * δ)) := bd_mid (by
    unfold Bd at *
    constructor <;> grind)
  have hs0 := absQ_nn (fv (lessF Z a b n))
  generalize absQ (fv (lessF Z a b n)) = σ at *
  generalize fv (lessF Z a b n) = S at *
  have hnm : (n : Rat) + 1 ≤ (m : Rat) := by exact_mod_cast hn
  have hm6 : (m : Rat) ≤ 6 := by exact_mod_cast hm
  have hn0 := ratn_nn n
  have em : ((m + 2 : Nat) : Rat) = (m : Rat) + 2 := by norm_cast
  rw [em]
  generalize (m : Rat) = M at *
  generalize (n : Rat) = N at *
  have k4 := k3.sub d1
  rw [show fv Z - T - S - (Y - S) = fv Z - (Y + T) by grind] at k4
  refine bd_absR.1 (k4.mono ?_)
  clear k4 k3 d1 hyb
  -- the sizes
  have uy := rmul_nn hu0 hy0
  have uP := rmul_nn hu0 hP
  have eδ := rmul_nn he0 hd0
  have u1 := rmul_mono hu0 hSb
  have u2 : uu * (uu * y) ≤ 1/1000000 * (uu * y) := Rat.mul_le_mul_of_nonneg_right (by grind) uy
  have u3 : uu * (ee * δ) ≤ 1/1000000 * (ee * δ) := Rat.mul_le_mul_of_nonneg_right (by grind) eδ
  have key : uu * (σ + P) ≤ 1001/1000 * (uu * y) + 1/1000 * (ee * δ) + uu * P := by grind
  have k5 := rmul_mono hn0 key
  have n1 : N * (uu * y) ≤ (M - 1) * (uu * y) := Rat.mul_le_mul_of_nonneg_right (by grind) uy
  have n2 : N * (uu * P) ≤ (M - 1) * (uu * P) := Rat.mul_le_mul_of_nonneg_right (by grind) uP
  have n3 : N * ee ≤ (M - 1) * ee := Rat.mul_le_mul_of_nonneg_right (by grind) he0
  have n4 : N * (ee * δ) ≤ 6 * (ee * δ) := Rat.mul_le_mul_of_nonneg_right (by grind) eδ
  have n5 : M * (uu * y) ≤ 6 * (uu * y) := Rat.mul_le_mul_of_nonneg_right hm6 uy
  have n6 : M * (uu * P) ≤ 6 * (uu * P) := Rat.mul_le_mul_of_nonneg_right hm6 uP
  have n7 : 0 ≤ M * ee := rmul_nn (by grind) he0
  rw [show N * (1001/1000 * (uu * y) + 1/1000 * (ee * δ) + uu * P) = 1001/1000 * (N * (uu * y)) + 1/1000 * (N * (ee * δ)) + N * (uu * P) by grind] at k5
  rw [show (M - 1) * (uu * y) = M * (uu * y) - uu * y by grind] at n1
  rw [show (M - 1) * (uu * P) = M * (uu * P) - uu * P by grind] at n2
  rw [show (M - 1) * ee = M * ee - ee by grind] at n3
  rw [show (y + P) * (M + 2) * uu + (M + δ) * (32 * ee) = M * (uu * y) + 2 * (uu * y) + M * (uu * P) + 2 * (uu * P) + 32 * (M * ee) + 32 * (ee * δ) by grind]
  clear key u1 hSb hY
  generalize N * (uu * (σ + P)) = x1 at *
  generalize N * (uu * y) = x2 at *
  generalize N * (uu * P) = x3 at *
  generalize M * (uu * y) = x4 at *
  generalize M * (uu * P) = x5 at *
  generalize N * ee = x6 at *
  generalize M * ee = x7 at *
  generalize N * (ee * δ) = x8 at *
  generalize uu * y = x9 at *
  generalize uu * P = x10 at *
  generalize ee * δ = x11 at *
  grind
theorem sumQ_split (f : Nat → Rat) (i : Nat) : ∀ m, sumQ f (i + m) = sumQ f i + sumQ (fun k => f (i + k)) m
  | 0 => by show sumQ f i = sumQ f i + 0; grind
  | m + 1 => by
    show sumQ f (i + m) + f (i + m) = sumQ f i + (sumQ (fun k => f (i + k)) m + f (i + m))
    rw [sumQ_split f i m]; grind
theorem sumQ_zero {f : Nat → Rat} : ∀ n, (∀ k, k < n → f k = 0) → sumQ f n = 0
  | 0, _ => rfl
  | n + 1, h => by
    show sumQ f n + f n = 0
    rw [sumQ_zero n (fun k hk => h k (by omega)), h n (by omega)]; grind
/-- nothing ahead of place i -/
theorem sumQ_from {f : Nat → Rat} {c i : Nat} (hi : i < c) (h : ∀ k, k < i → f k = 0) : sumQ f c = f i + sumQ (fun k => f (i + 1 + k)) (c - (i + 1)) := by
  have e : c = (i + 1) + (c - (i + 1)) := by omega
  have := sumQ_split f (i + 1) (c - (i + 1))
  rw [← e] at this
  rw [this]
  show sumQ f i + f i + _ = _
  rw [sumQ_zero i h]; grind
theorem backT_drop (xs : List (Option Nat)) (c : Nat) : ∀ (m n k : Nat), n + m = c → (backT xs c n).getD k none = (backT xs c c).getD (m + k) none
  | 0, n, k, h => by obtain rfl : n = c := by omega
                     rw [Nat.zero_add]
  | m + 1, n, k, h => by
    rw [show m + 1 + k = m + (k + 1) by omega, ← backT_drop xs c m (n + 1) (k + 1) (by omega)]
    rfl
theorem ent_wb {c i k : Nat} {xs : List (Option Nat)} (hT : TriOk c xs) (hi : i ≤ c) (hk : k ≤ c) : Lv.Fn (ent xs c i k) := by
  unfold ent
  rw [getD_lineP hi k (by omega)]
  split
  · exact fn_nil
  · exact (hT.ok i k (by omega) hk).1
theorem fn_wb {x : Option Nat} (h : Lv.Fn x) : Wb x := by
  obtain ⟨s, r, rfl, hr⟩ := h
  intro b hb
  obtain rfl := Option.some.inj hb
  unfold wd
  split <;> omega
theorem not_zero {x : Option Nat} (h : Lv.Fn x) (hz : zeroF x = false) : ∃ t H, x = some (wd t H) ∧ H ≠ 0 ∧ H < 9218868437227405312 := by
  obtain ⟨s, r, rfl, hr⟩ := h
  refine ⟨s, r, rfl, fun e => ?_, hr⟩
  rw [zeroF_wd s hr, e] at hz
  cases hz
/-- what Back comes to, row by row -/
theorem back_fits {c : Nat} {xs ys : List (Option Nat)} {rws trn : Int} (hw : ∀ i, Wd (xs.getD i none)) (h : backD ⟨(c : Int), xs, rws, trn⟩ = (ys, 0)) :
    checkP (c : Int) xs rws trn = true ∧ TriOk c xs ∧ ys.length = c ∧ (∀ k, k < c → Lv.Fn (ys.getD k none)) ∧ ∀ i, i < c →
      absR (fv (ent xs c i c) - sumQ (fun k => fv (ent xs c i k) * fv (ys.getD k none)) c) ≤ sumQ (fun k => absR (fv (ent xs c i k) * fv (ys.getD k none))) c * ((c + 2 : Nat) : Rat) * p2 (-53) + ((c : Rat) + absR (fv (ent xs c i i))) * p2 (-1070) := by
  unfold backD at h
  by_cases h1 : (⟨(c : Int), xs, rws, trn⟩ : FacD).ok = false
  · rw [if_pos h1] at h; cases (Prod.mk.inj h).2
  · rw [if_neg h1] at h
    dsimp only at h
    rw [Int.toNat_natCast] at h
    have hck : checkP (c : Int) xs rws trn = true := by simpa [FacD.ok] using h1
    have hT := tri_ok hck (fun a l _ _ => hw _)
    by_cases h2 : singD xs c = true
    · rw [if_pos h2] at h; cases (Prod.mk.inj h).2
    · rw [if_neg h2] at h
      unfold answD at h
      by_cases h3 : (backT xs c c).any (fun x => !numF x) = true
      · rw [if_pos h3] at h; cases (Prod.mk.inj h).2
      · rw [if_neg h3] at h
        obtain rfl := (Prod.mk.inj h).1
        have hlen := backT_len xs c c
        have hget : ∀ i, i < c → (backT xs c c).getD i none = fdiv (lessF (ent xs c i c) (fun k => ent xs c i (i + 1 + k)) (fun k => (backT xs c c).getD (i + 1 + k) none) (c - (i + 1))) (ent xs c i i) := by
          intro i hi
          have e := backT_drop xs c i (c - i) 0 (by omega)
          rw [Nat.add_zero] at e
          rw [← e]
          obtain ⟨n, hn⟩ : ∃ n, c - i = n + 1 := ⟨c - i - 1, by omega⟩
          rw [hn]
          have e2 : c - (n + 1) = i := by omega
          show fdiv (lessF (ent xs c (c - (n + 1)) c) (fun k => ent xs c (c - (n + 1)) (c - (n + 1) + 1 + k)) (fun k => (backT xs c n).getD k none) n) (ent xs c (c - (n + 1)) (c - (n + 1))) = _
          rw [e2, show c - (i + 1) = n by omega]
          congr 1
          refine lessF_congr n (fun k _ => rfl) (fun k _ => ?_)
          exact backT_drop xs c (i + 1) n k (by omega)
        have hnum : ∀ k, k < c → Lv.Fn ((backT xs c c).getD k none) := by
          intro k hk
          refine fn_num ?_ ?_
          · rw [hget k hk]; exact fdiv_wb _ _
          · have h4 : (backT xs c c).any (fun x => !numF x) = false := by simpa using h3
            rw [List.any_eq_false] at h4
            have := h4 _ (getD_mem (ls := backT xs c c) (i := k) (by omega))
            simpa using this
        refine ⟨hck, hT, hlen, hnum, fun i hi => ?_⟩
        have hz : zeroF (ent xs c i i) = false := by
          have h4 : singD xs c = false := by simpa using h2
          unfold singD at h4
          rw [List.any_eq_false] at h4
          have := h4 i (List.mem_range.2 hi)
          simpa using this
        obtain ⟨t, H, hd, hd0, hdH⟩ := not_zero (ent_wb hT (by omega) (by omega)) hz
        have hx := hnum i hi
        rw [hget i hi, hd] at hx
        obtain ⟨_, _, k3⟩ := row_fits (m := c) (show c - (i + 1) + 1 ≤ c by omega) hT.h6 (fn_wb (ent_wb hT (by omega) (Nat.le_refl c))) (fun k hk => ⟨fn_wb (ent_wb hT (by omega) (by omega)), fn_wb (hnum _ (by omega))⟩) hd0 hdH hx
        rw [← hd, ← hget i hi] at k3
        have hzero : ∀ k, k < i → fv (ent xs c i k) = 0 := by
          intro k hk
          unfold ent
          rw [getD_lineP (by omega) k (by omega), if_pos hk, fv_nil]
        rw [sumQ_from (f := fun k => fv (ent xs c i k) * fv ((backT xs c c).getD k none)) hi (fun k hk => by rw [hzero k hk, Rat.zero_mul])]
        rw [sumQ_from (f := fun k => absR (fv (ent xs c i k) * fv ((backT xs c c).getD k none))) hi (fun k hk => by rw [hzero k hk, Rat.zero_mul]; unfold absR; simp)]
        exact k3
end Go.Proofs.Ytnboegeljaplbaa
namespace Go.Proofs.Ytnboegeljaplbaa
open Go.RowKit Lv Go.Shelf
attribute [local go_sem] Oper.semAt_some drewN_alloc drewN_setCell

set_option maxRecDepth 100000 in
set_option maxHeartbeats 1000000 in
theorem sexact_calls (b : Nat) (x : Option Nat) (w : World) (h : FW b x) (hx : Lv.Fn x) :
    Calls Try.prog 60 #[.float .f64 b] w fun e' w' => (∃ z, e' = .returned z ∧ Dq w' z (fv x) 1074) ∧ Below w.heap.size w w' := by
  have HB0 := Lib.hid ((Below.refl w.heap.size w).alloc (Nat.le_refl _) (.cells #[.bool false, .slice none 0 0, .int .i64 0] 70))
  have E0 := Lib.hid (Cells3.new w (.bool false) (.slice none 0 0) (.int .i64 0) 70)
  have DF := Lib.hid (fun W => dfrom_calls b x W h hx)
  clear h hx
  go_enter Try.func60, Try.ntmps60
  go_upto_region 2 with (go_at_call 40; go_must (refine (DF.out _).mono ?_; rintro e' w1 ⟨⟨z, rfl, hz⟩, hb⟩; have B1 := Lib.hid (HB0.out.trans (hb.mono HB0.out.size)); have HZ := Lib.hid hz; obtain ⟨zs, zm, ze, ⟨za, zn, zc, rfl, _⟩, _⟩ := hz; have F1 := Lib.hid ((E0.out.below hb).alloc (.cells #[.bool zs, .slice za zn zc, .int .i64 ze] 70)); clear hb))
  have B2 := Lib.hid (B1.out.alloc B1.out.size (.cells #[.bool zs, .slice za zn zc, .int .i64 ze] 70))
  have Z2 := Lib.hid (HZ.out.below ((Below.refl _ _).alloc (Nat.le_refl _) (.cells #[.bool zs, .slice za zn zc, .int .i64 ze] 70)))
  have C2 := Lib.hid (Cells3.new w1 (.bool zs) (.slice za zn zc) (.int .i64 ze) 70)
  generalize w1.alloc (.cells #[.bool zs, .slice za zn zc, .int .i64 ze] 70) = W at *
  obtain ⟨_, _, _, x3, x4, x5⟩ := F1.out
  obtain ⟨y0, y1, y2, _, _, _⟩ := C2.out
  have P := F1.out.put (.bool zs) (.slice za zn zc) (.int .i64 ze)
  go_wp2
  exact bodyPost_ret (v := .agg #[.bool zs, .slice za zn zc, .int .i64 ze]) (by simp [results, Try.results60, go_sem, P.c0, P.c1, P.c2]) rfl ⟨⟨_, rfl, Z2.out.put3 F1.out _ _ _⟩, below_put3 B2.out (Nat.le_refl _) _ _ _⟩
theorem below_putC {w W : World} {b : Nat} {u0 u1 u2 : Value} (h : Below w.heap.size w W) (_ : Cells3 W b u0 u1 u2) (hb : w.heap.size ≤ b) (v0 v1 v2 : Value) : Below w.heap.size w (((W.setCell ⟨b, 0, none⟩ v0).setCell ⟨b, 1, none⟩ v1).setCell ⟨b, 2, none⟩ v2) := below_put3 h hb v0 v1 v2
/-- a dyad in new cells of its own -/
def DCutN (wr : World) (q : Rat) (s : Value) (wx : World) : Prop :=
  ∃ (g : Nat) (s0 : Bool) (a : Option Addr) (n c : Nat) (e : Int), s = .pointer (some ⟨g, 0, none⟩) ∧ wr.heap.size ≤ g ∧ Cells3 wx g (.bool s0) (.slice a n c) (.int .i64 e) ∧ Dq wx (.agg #[.bool s0, .slice a n c, .int .i64 e]) q 2148 ∧ Below wr.heap.size wr wx
theorem sum_bd {f : Nat → Rat} {A : Nat} : ∀ n, (∀ i, i < n → Bd (f i) (p2 (A : Int))) → Bd (sumQ f n) (p2 ((A + n : Nat) : Int))
  | 0, _ => zero_bd _
  | n + 1, h => bd_add_p2 (sum_bd n (fun i hi => h i (by omega))) (bd_p2_mono (h n (by omega)) (Nat.le_add_right _ _))
/-- a dyad in cells of its own -/
def DBox (W : World) (g : Nat) (q : Rat) (B : Nat) : Prop := ∃ (s : Bool) (a : Option Addr) (n c : Nat) (e : Int), Cells3 W g (.bool s) (.slice a n c) (.int .i64 e) ∧ Dq W (.agg #[.bool s, .slice a n c, .int .i64 e]) q B
theorem DBox.below {W W' : World} {g : Nat} {q : Rat} {B : Nat} (h : DBox W g q B) (hb : Below W.heap.size W W') : DBox W' g q B := by
  obtain ⟨s, a, n, c, e, h1, h2⟩ := h
  exact ⟨s, a, n, c, e, h1.below hb, h2.below hb⟩
theorem DBox.mono {W : World} {g : Nat} {q : Rat} {B B' : Nat} (h : DBox W g q B) (hB : B ≤ B') : DBox W g q B' := by
  obtain ⟨s, a, n, c, e, h1, h2⟩ := h
  exact ⟨s, a, n, c, e, h1, h2.mono hB⟩
theorem fn_bd {x : Option Nat} (h : Lv.Fn x) : Bd (fv x) (p2 ((1024 : Nat) : Int)) := by
  obtain ⟨s, r, rfl, hr⟩ := h
  have w := pw_val (k := 1023) (by decide) (by decide)
  rw [fv_wd s hr, vz_sg]
  refine bd_sg.2 ((bd_self (rv_nonneg r)).mono ?_)
  have h1 : rv r ≤ rv 9218868437227405312 := rv_le (by omega)
  have h2 := rv_mk 2046 4503599627370496 (by omega) (.inr (by omega))
  rw [show 2046 * 4503599627370496 + 4503599627370496 = 9218868437227405312 + 0 by omega] at h2
  rw [Nat.add_zero] at h2
  rw [h2] at h1
  have h3 : ((4503599627370496 : Nat) : Rat) = p2 52 := by
    have := p2_nat 52
    rw [show ((52 : Nat) : Int) = 52 from rfl] at this
    rw [this]
  rw [h3, ← p2_add] at h1
  exact h1
theorem rv_int (q m k s : Nat) (hm : m = k * 2 ^ s) (h1 : m ≤ 9007199254740992) (h2 : 4503599627370496 ≤ m) (he : -1074 + (q : Int) = -(s : Int)) : rv (q * 4503599627370496 + m) = (k : Rat) := by
  rw [rv_mk q m h1 (.inr h2), he, hm, Rat.natCast_mul, ← p2_nat, Rat.mul_assoc, ← p2_add, Int.add_right_neg, p2_zero, Rat.mul_one]
theorem conv_of {k b q m s : Nat} (hb : floatOfInt .f64 (k : Int) = b) (e : b = q * 4503599627370496 + m) (hlt : b < 9218868437227405312) (hm : m = k * 2 ^ s) (h1 : m ≤ 9007199254740992) (h2 : 4503599627370496 ≤ m) (he : -1074 + (q : Int) = -(s : Int)) :
    ∃ X, FW (floatOfInt .f64 (k : Int)) X ∧ Lv.Fn X ∧ fv X = (k : Rat) := by
  refine ⟨some b, ?_, ⟨false, b, rfl, hlt⟩, ?_⟩
  · rw [hb]
    exact ⟨by unfold W64; omega, by unfold ab nan; simp; omega⟩
  · have := fv_wd false hlt
    rw [show wd false b = b from rfl] at this
    rw [this]
    show rv b = _
    rw [e]
    exact rv_int q m k s hm h1 h2 he
theorem conv_ok {k : Nat} (h1 : 1 ≤ k) (h6 : k ≤ 6) : ∃ X, FW (floatOfInt .f64 (k : Int)) X ∧ Lv.Fn X ∧ fv X = (k : Rat) := by
  have hk : k = 1 ∨ k = 2 ∨ k = 3 ∨ k = 4 ∨ k = 5 ∨ k = 6 := by omega
  rcases hk with rfl | rfl | rfl | rfl | rfl | rfl
  · exact conv_of (b := 4607182418800017408) (q := 1022) (m := 4503599627370496) (s := 52) (by decide +kernel) (by decide) (by decide) (by decide) (by decide) (by decide) (by decide)
  · exact conv_of (b := 4611686018427387904) (q := 1023) (m := 4503599627370496) (s := 51) (by decide +kernel) (by decide) (by decide) (by decide) (by decide) (by decide) (by decide)
  · exact conv_of (b := 4613937818241073152) (q := 1023) (m := 6755399441055744) (s := 51) (by decide +kernel) (by decide) (by decide) (by decide) (by decide) (by decide) (by decide)
  · exact conv_of (b := 4616189618054758400) (q := 1024) (m := 4503599627370496) (s := 50) (by decide +kernel) (by decide) (by decide) (by decide) (by decide) (by decide) (by decide)
  · exact conv_of (b := 4617315517961601024) (q := 1024) (m := 5629499534213120) (s := 50) (by decide +kernel) (by decide) (by decide) (by decide) (by decide) (by decide) (by decide)
  · exact conv_of (b := 4618441417868443648) (q := 1024) (m := 6755399441055744) (s := 50) (by decide +kernel) (by decide) (by decide) (by decide) (by decide) (by decide) (by decide)
set_option maxRecDepth 100000 in
set_option maxHeartbeats 8000000 in
theorem sfits_calls (a b : Option Addr) (k ca cb zb pb : Nat) (us vs : List (Option Nat)) (Z P : Option Nat) (w : World) (ha : Row w (.slice a k ca) us) (hb : Row w (.slice b k cb) vs) (hz : FW zb Z) (hp : FW pb P) (h1 : 1 ≤ k) (h6 : k ≤ 6)
    (fa : ∀ j, j < k → Lv.Fn (us.getD j none)) (fb : ∀ j, j < k → Lv.Fn (vs.getD j none)) (fZ : Lv.Fn Z) (fP : Lv.Fn P)
    (hin : absR (fv Z - sumQ (fun j => fv (us.getD j none) * fv (vs.getD j none)) k) ≤ sumQ (fun j => absR (fv (us.getD j none) * fv (vs.getD j none))) k * ((k + 2 : Nat) : Rat) * p2 (-53) + ((k : Rat) + absR (fv P)) * p2 (-1070)) :
    Calls Try.prog 26 #[.slice a k ca, .slice b k cb, .float .f64 zb, .int .i64 (k : Int), .float .f64 pb] w fun e w' => e = .returned (.bool true) ∧ Below w.heap.size w w' := by
  have EZ := Lib.hid (fun W => sexact_calls zb Z W hz fZ)
  have EP := Lib.hid (fun W => sexact_calls pb P W hp fP)
  have HA := Lib.hid ha
  have HB := Lib.hid hb
  have FA := Lib.hid fa
  have FB := Lib.hid fb
  have FZ := Lib.hid (fn_bd fZ)
  have FP := Lib.hid (fn_bd fP)
  have HI := Lib.hid hin
  obtain ⟨KX, kx1, kx2, kx3⟩ := conv_ok h1 h6
  have EK := Lib.hid (fun W => sexact_calls (floatOfInt .f64 (k : Int)) KX W kx1 kx2)
  rw [kx3] at EK
  obtain ⟨k2, hk2e⟩ : ∃ k2, k + 2 = k2 := ⟨_, rfl⟩
  have hk2 : (k : Int) + 2 = (k2 : Int) := by omega
  have hkw : IntKind.i64.wrap (k2 : Int) = (k2 : Int) := IntWalk.i64_in _ (by omega)
  have hk28 : k2 ≤ 8 := by omega
  rw [hk2e] at HI
  clear kx1 kx2 kx3
  clear ha hb hz hp fa fb fZ fP hin
  go_enter Try.func26, Try.ntmps26
  go_upto_region 2 with (go_at_call 60; go_must (refine (EZ.out _).mono ?_; rintro e' w1 ⟨⟨z, rfl, hz⟩, hb⟩; have B1 := Lib.hid hb; have HZ := Lib.hid hz; obtain ⟨zs, zm, ze, ⟨za, zn, zc, rfl, _⟩, _⟩ := hz; clear hb))
  have hg : w1.heap.size < (w1.alloc (.cells #[.bool zs, .slice za zn zc, .int .i64 ze] 70)).heap.size := by simp
  have W1 := Lib.hid (show Below w.heap.size w ((w1.alloc (.cells #[.bool zs, .slice za zn zc, .int .i64 ze] 70)).alloc (.cells #[.bool false, .slice none 0 0, .int .i64 0] 70)) from (B1.out.alloc B1.out.size _).alloc (by have := B1.out.size; simp; omega) _)
  have X11 : DBox ((w1.alloc (.cells #[.bool zs, .slice za zn zc, .int .i64 ze] 70)).alloc (.cells #[.bool false, .slice none 0 0, .int .i64 0] 70)) w1.heap.size (fv Z) 2148 := ⟨zs, za, zn, zc, ze, (Cells3.new w1 _ _ _ _).alloc _, ((HZ.out.below ((Below.refl _ _).alloc (Nat.le_refl _) _)).below ((Below.refl _ _).alloc (Nat.le_refl _) _)).mono (by omega)⟩
  have X12 : DBox ((w1.alloc (.cells #[.bool zs, .slice za zn zc, .int .i64 ze] 70)).alloc (.cells #[.bool false, .slice none 0 0, .int .i64 0] 70)) (w1.heap.size + 1) 0 2148 := ⟨false, none, 0, 0, 0, Cells3.new2 w1 _ _ _ _ _, dq_zero _ _⟩
  have hgw := B1.out.size
  have H11 := Lib.hid X11
  have H12 := Lib.hid X12
  clear X11 X12 hg
  go_wp2
  generalize (w1.alloc (.cells #[.bool zs, .slice za zn zc, .int .i64 ze] 70)).alloc (.cells #[.bool false, .slice none 0 0, .int .i64 0] 70) = W0 at *
  generalize w1.heap.size = g1 at *
  clear HZ B1
  go_loopw [13] (fun s13 wr => ∃ j : Nat, s13 = .int .i64 (j : Int) ∧ j ≤ k ∧ Hid (DBox wr g1 (fv Z - sumQ (fun j => fv (us.getD j none) * fv (vs.getD j none)) j) 2148 ∧ DBox wr (g1 + 1) (sumQ (fun j => absR (fv (us.getD j none) * fv (vs.getD j none))) j) 2148 ∧ Below w.heap.size w wr)) (fun s13 _ => k - (intOf s13).toNat)
  case atStart => exact ⟨0, rfl, Nat.zero_le _, by show DBox _ _ (fv Z - 0) _; rw [show fv Z - 0 = fv Z by grind]; exact H11.out, H12.out, W1.out⟩
  case round =>
    obtain ⟨j, rfl, hj, HL⟩ := hrel
    by_cases hlt : j < k
    · have hjj : (j : Int) < (k : Int) := by omega
      obtain ⟨ga, oa, rfl, hca⟩ := row_cell (HA.out.below HL.out.2.2) (by omega)
      obtain ⟨gb, ob, rfl, hcb⟩ := row_cell (HB.out.below HL.out.2.2) (by omega)
      obtain ⟨x, hx, hfx⟩ := hca j hlt
      obtain ⟨y, hy, hfy⟩ := hcb j hlt
      have HX := Lib.hid (fun W => sexact_calls x _ W hfx (FA.out j hlt))
      have HY := Lib.hid (fun W => sexact_calls y _ W hfy (FB.out j hlt))
      have HM := Lib.hid (fun v u W h h' => dmul_calls v u (fv (us.getD j none)) (fv (vs.getD j none)) 1024 1074 1024 1074 W h (fn_bd (FA.out j hlt)) h' (fn_bd (FB.out j hlt)) (by omega))
      have e1 : sumQ (fun j => fv (us.getD j none) * fv (vs.getD j none)) (j + 1) = sumQ (fun j => fv (us.getD j none) * fv (vs.getD j none)) j + fv (us.getD j none) * fv (vs.getD j none) := rfl
      have e2 : sumQ (fun j => absR (fv (us.getD j none) * fv (vs.getD j none))) (j + 1) = sumQ (fun j => absR (fv (us.getD j none) * fv (vs.getD j none))) j + absR (fv (us.getD j none) * fv (vs.getD j none)) := rfl
      have HE := Lib.hid (And.intro e1 e2)
      have BP := Lib.hid (bd_mul_p2 (fn_bd (FA.out j hlt)) (fn_bd (FB.out j hlt)))
      have BT := Lib.hid (show Bd (fv Z - sumQ (fun j => fv (us.getD j none) * fv (vs.getD j none)) j) (p2 ((2060 : Nat) : Int)) by
        rw [Rat.sub_eq_add_neg]
        refine bd_p2_mono (bd_add_p2 (A := 2054) (bd_p2_mono FZ.out (by omega)) (Bd.neg (bd_p2_mono (sum_bd (A := 2048) j (fun i hi => bd_mul_p2 (fn_bd (FA.out i (by omega))) (fn_bd (FB.out i (by omega))))) (by omega)))) (by omega))
      have BS := Lib.hid (show Bd (sumQ (fun j => absR (fv (us.getD j none) * fv (vs.getD j none))) j) (p2 ((2060 : Nat) : Int)) from bd_p2_mono (sum_bd (A := 2048) j (fun i hi => bd_absR'.2 (bd_mul_p2 (fn_bd (FA.out i (by omega))) (fn_bd (FB.out i (by omega)))))) (by omega))
      clear e1 e2 hca hcb hfx hfy
      have KK := Lib.hid (show ∀ W, Below wr.heap.size wr W → W.cell? ⟨ga, oa + j, none⟩ = some (.float .f64 x) ∧ W.cell? ⟨gb, ob + j, none⟩ = some (.float .f64 y) from fun W hb => ⟨(hb.cell (p := ⟨ga, oa + j, none⟩) (cell_lt hx)).trans hx, (hb.cell (p := ⟨gb, ob + j, none⟩) (cell_lt hy)).trans hy⟩)
      clear hx hy
      generalize fv (us.getD j none) = X at *
      generalize fv (vs.getD j none) = Y at *
      go_wp2
      go_cut [14] from 32 to 42 (fun s14 wx => DCutN wr (X * Y) s14 wx)
      case first =>
        rename_i J K' hJ hK'
        have bA := Lib.hid (show Below wr.heap.size wr wr.drew from (Below.refl _ _).drew)
        have bB := Lib.hid (show Below wr.heap.size wr (wr.alloc (.cells #[.bool false, .slice none 0 0, .int .i64 0] 70)).drew from ((Below.refl wr.heap.size wr).alloc (Nat.le_refl _) _).drew)
        have zB := Lib.hid (show Cells3 (wr.alloc (.cells #[.bool false, .slice none 0 0, .int .i64 0] 70)).drew wr.heap.size (.bool false) (.slice none 0 0) (.int .i64 0) from (Cells3.new wr _ _ _ 70).below ((Below.refl _ _).drew))
        have ka := Lib.hid (KK.out _ bA.out)
        have kb := Lib.hid (KK.out _ bB.out)
        go_region_held3 (fun w' => w'.cell? ⟨ga, oa + j, none⟩ = some (.float .f64 x) ∧ w'.cell? ⟨gb, ob + j, none⟩ = some (.float .f64 y))
          (first
            | with_reducible exact ka.out
            | with_reducible exact kb.out
            | with_reducible exact K5.out
            | with_reducible exact K5a.out
            | with_reducible exact K6.out
            | with_reducible exact K6a.out
            | with_reducible exact K7.out
            | with_reducible exact K7a.out
            | with_reducible exact K8.out
            | with_reducible exact K9.out)
          (first
            | (go_at_call_of 60 (Value.float .f64 x); refine (HX.out _).mono ?_; rintro e' w5 ⟨⟨z1, rfl, hz⟩, hb⟩; have B5' : Below wr.heap.size wr w5 := (by first | with_reducible exact bA.out.trans (hb.mono bA.out.size) | with_reducible exact bB.out.trans (hb.mono bB.out.size)); have B5 := Lib.hid B5'; have Z5 := Lib.hid hz; have K5 := Lib.hid (KK.out _ B5'); have B5a := Lib.hid (B5'.alloc B5'.size (.cells #[.bool false, .slice none 0 0, .int .i64 0] 70)); have K5a := Lib.hid (KK.out _ B5a.out); (first | ((with_reducible have yy := zB.out.below hb); have F5 := Lib.hid yy; clear yy) | (have YN : True := trivial)); clear B5' hz hb)
            | (go_at_call_of 60 (Value.float .f64 y); refine (HY.out _).mono ?_; rintro e' w6 ⟨⟨z2, rfl, hz⟩, hb⟩; have B6' : Below wr.heap.size wr w6 := (by first | with_reducible exact B5.out.trans (hb.mono B5.out.size) | with_reducible exact B5a.out.trans (hb.mono B5a.out.size)); have X6' : Dq w6 z1 X 1074 := (by first | with_reducible exact Z5.out.below hb | with_reducible exact (Z5.out.below ((Below.refl _ _).alloc (Nat.le_refl _) _)).below hb); have B6 := Lib.hid B6'; have X6 := Lib.hid X6'; have Z6 := Lib.hid hz; have K6 := Lib.hid (KK.out _ B6'); have B6a := Lib.hid (B6'.alloc B6'.size (.cells #[.bool false, .slice none 0 0, .int .i64 0] 70)); have K6a := Lib.hid (KK.out _ B6a.out); (first | ((with_reducible have yy := F5.out.below hb); have F6 := Lib.hid yy; clear yy) | ((with_reducible have yy := (Cells3.new w5 (.bool false) (.slice none 0 0) (.int .i64 0) 70).below hb); have F6 := Lib.hid yy; clear yy) | (have YN : True := trivial)); clear B6' X6' hz hb)
            | (go_at_call 41; refine (HM.out _ _ _ (by first | with_reducible exact X6.out | with_reducible exact X6.out.below ((Below.refl _ _).alloc (Nat.le_refl _) _)) (by first | with_reducible exact Z6.out | with_reducible exact Z6.out.below ((Below.refl _ _).alloc (Nat.le_refl _) _))).mono ?_; rintro e' w7 ⟨⟨z3, rfl, hz⟩, hb⟩; have B7' : Below wr.heap.size wr w7 := (by first | with_reducible exact B6.out.trans (hb.mono B6.out.size) | with_reducible exact B6a.out.trans (hb.mono B6a.out.size)); have B7 := Lib.hid B7'; have Z7 := Lib.hid hz; obtain ⟨zs, zm, ze, ⟨za, zn, zc, rfl, _⟩, _⟩ := hz; have K7 := Lib.hid (KK.out _ B7'); have B7a := Lib.hid (B7'.alloc B7'.size (.cells #[.bool false, .slice none 0 0, .int .i64 0] 70)); have K7a := Lib.hid (KK.out _ B7a.out); have B8 := Lib.hid (B7'.alloc B7'.size (.cells #[.bool zs, .slice za zn zc, .int .i64 ze] 70)); have K8 := Lib.hid (KK.out _ B8.out); (first | ((with_reducible have yy := F6.out.below hb); have F7 := Lib.hid yy; obtain ⟨y0, y1, y2, y3, y4, y5⟩ := yy; have B9 := Lib.hid (below_putC B7' F7.out (by first | exact Nat.le_refl _ | exact B5.out.size) (.bool zs) (.slice za zn zc) (.int .i64 ze)); have K9 := Lib.hid (KK.out _ B9.out)) | ((with_reducible have yy := (Cells3.new w6 (.bool false) (.slice none 0 0) (.int .i64 0) 70).below hb); have F7 := Lib.hid yy; obtain ⟨y0, y1, y2, y3, y4, y5⟩ := yy; have B9 := Lib.hid (below_putC B7' F7.out B6.out.size (.bool zs) (.slice za zn zc) (.int .i64 ze)); have K9 := Lib.hid (KK.out _ B9.out)) | (have YN : True := trivial)); clear B7' hb))
        all_goals
          refine hK' _ _ (Met.intro (hJ _ _ ?_))
          (repeat apply Exists.intro)
          refine ⟨?_, rfl⟩
          unfold DCutN
          (first
            | (refine ⟨w7.heap.size, zs, za, zn, zc, ze, rfl, B7.out.size, ?_⟩; with_reducible exact ⟨Cells3.new w7 _ _ _ _, Z7.out.below ((Below.refl _ _).alloc (Nat.le_refl _) _), B8.out⟩)
            | (refine ⟨_, zs, za, zn, zc, ze, rfl, (by first | exact Nat.le_refl _ | exact B5.out.size | exact B6.out.size), ?_⟩; with_reducible exact ⟨F7.out.put _ _ _, Z7.out.put3 F7.out _ _ _, B9.out⟩))
      case rest =>
        obtain ⟨g, s0, a0, n0, c0, e0, rfl, hgr, E, hq, hbc⟩ := hcut
        obtain ⟨s1, a1, n1, c1, e1, E1, Q1⟩ := HL.out.1.below hbc
        obtain ⟨s2, a2, n2, c2, e2, E2, Q2⟩ := HL.out.2.1.below hbc
        have hgl : g1 + 1 < wr.heap.size := by
          obtain ⟨_, _, _, _, _, EE2, _⟩ := HL.out.2.1
          exact EE2.lt
        have HE0 := Lib.hid E
        have HE1 := Lib.hid E1
        have HE2 := Lib.hid E2
        have HQ0 := Lib.hid hq
        have HQ1 := Lib.hid Q1
        have HQ2 := Lib.hid Q2
        have HBc := Lib.hid (HL.out.2.2.trans (hbc.mono HL.out.2.2.size))
        clear hq Q1 Q2 hbc KK HX HY HM
        obtain ⟨x0, x1, x2, _, _, _⟩ := E
        obtain ⟨y0, y1, y2, _, _, _⟩ := E1
        clear E2
        go_upto_region 8 with (go_at_call 46; go_must (refine (dsub_calls _ _ _ _ 2060 2148 wc HQ1.out BT.out HQ0.out (bd_p2_mono BP.out (by omega)) (by omega)).mono ?_; rintro e' w8 ⟨⟨z, rfl, hz⟩, hb⟩; have B8 := Lib.hid (HBc.out.trans (hb.mono HBc.out.size)); have HZ := Lib.hid hz; obtain ⟨zs, zm, ze, ⟨za, zn, zc, rfl, _⟩, _⟩ := hz; have G0 := Lib.hid (HE0.out.below hb); have G1 := Lib.hid (HE1.out.below hb); have G2 := Lib.hid (HE2.out.below hb); have P0 := Lib.hid (HQ0.out.below hb); have P2' := Lib.hid (HQ2.out.below hb); clear x0 x1 x2 y0 y1 y2 hb; obtain ⟨_, _, _, x3, x4, x5⟩ := G1.out))
        have K0 := Lib.hid (G0.out.put_other (b' := g1) (by omega) (.bool zs) (.slice za zn zc) (.int .i64 ze))
        have K1 := Lib.hid (G1.out.put (.bool zs) (.slice za zn zc) (.int .i64 ze))
        have K2 := Lib.hid (G2.out.put_other (b' := g1) (by omega) (.bool zs) (.slice za zn zc) (.int .i64 ze))
        have R0 := Lib.hid (P0.out.put3 G1.out (.bool zs) (.slice za zn zc) (.int .i64 ze))
        have R1 := Lib.hid (HZ.out.put3 G1.out (.bool zs) (.slice za zn zc) (.int .i64 ze))
        have R2 := Lib.hid (P2'.out.put3 G1.out (.bool zs) (.slice za zn zc) (.int .i64 ze))
        have BW := Lib.hid (below_put3 B8.out hgw (.bool zs) (.slice za zn zc) (.int .i64 ze))
        clear x3 x4 x5 G0 G1 G2 P0 P2' B8 HZ
        generalize ((w8.setCell ⟨g1, 0, none⟩ (.bool zs)).setCell ⟨g1, 1, none⟩ (.slice za zn zc)).setCell ⟨g1, 2, none⟩ (.int .i64 ze) = W8 at *
        have bA := Lib.hid (show Below W8.heap.size W8 W8.drew from (Below.refl _ _).drew)
        obtain ⟨x0, x1, x2, _, _, _⟩ := K0.out.below bA.out
        obtain ⟨y0, y1, y2, y3, y4, y5⟩ := K2.out.below bA.out
        go_region_with (first
          | (go_at_call 45; go_must (refine (dabs_calls _ (X * Y) 2048 2148 _ (R0.out.below bA.out) BP.out (by omega)).mono ?_; rintro e' w9 ⟨⟨z, rfl, hz⟩, hb⟩; have B9 := Lib.hid (bA.out.trans (hb.mono bA.out.size)); have A9 := Lib.hid hz; clear x0 x1 x2 y0 y1 y2 y3 y4 y5; obtain ⟨x0, x1, x2, _, _, _⟩ := K0.out.below B9.out; obtain ⟨y0, y1, y2, y3, y4, y5⟩ := K2.out.below B9.out; clear hz hb))
          | (go_at_call 42; go_must (refine (dadd_calls _ _ _ _ 2060 2148 _ (R2.out.below B9.out) BS.out A9.out (bd_absR'.2 (bd_p2_mono BP.out (by omega))) (by omega)).mono ?_; rintro e' w10 ⟨⟨z, rfl, hz⟩, hb⟩; have B10 := Lib.hid (B9.out.trans (hb.mono B9.out.size)); have HZ := Lib.hid hz; obtain ⟨zs, zm, ze, ⟨za, zn, zc, rfl, _⟩, _⟩ := hz; have L1 := Lib.hid (K1.out.below B10.out); have L2 := Lib.hid (K2.out.below B10.out); have M1 := Lib.hid (R1.out.below B10.out); clear x0 x1 x2 y0 y1 y2 y3 y4 y5 hb; obtain ⟨y0, y1, y2, y3, y4, y5⟩ := L2.out)))
        all_goals
          have N1 := Lib.hid (show DBox _ g1 (fv Z - sumQ (fun j => fv (us.getD j none) * fv (vs.getD j none)) (j + 1)) 2148 from ⟨_, _, _, _, _, L1.out.put_other (b' := g1 + 1) (by omega) (.bool zs) (.slice za zn zc) (.int .i64 ze), by rw [HE.out.1, show fv Z - (sumQ (fun j => fv (us.getD j none) * fv (vs.getD j none)) j + X * Y) = fv Z - sumQ (fun j => fv (us.getD j none) * fv (vs.getD j none)) j - X * Y by grind]; exact M1.out.put3 L2.out _ _ _⟩)
          have N2 := Lib.hid (show DBox _ (g1 + 1) (sumQ (fun j => absR (fv (us.getD j none) * fv (vs.getD j none))) (j + 1)) 2148 from ⟨_, _, _, _, _, L2.out.put (.bool zs) (.slice za zn zc) (.int .i64 ze), by rw [HE.out.2]; exact HZ.out.put3 L2.out _ _ _⟩)
          have N3 := Lib.hid (below_put3 (BW.out.trans (B10.out.mono BW.out.size)) (show w.heap.size ≤ g1 + 1 by omega) (.bool zs) (.slice za zn zc) (.int .i64 ze))
          clear L1 L2 M1 HZ y0 y1 y2 y3 y4 y5
          go_wp2
          go_roundw
          case rel => exact ⟨j + 1, by go_num, by omega, N1.out, N2.out, N3.out⟩
          case measure => simp [intOf]; omega
    · obtain rfl : j = k := by omega
      have hjj : ¬ (j : Int) < (j : Int) := by omega
      have BT := Lib.hid (show Bd (fv Z - sumQ (fun j => fv (us.getD j none) * fv (vs.getD j none)) j) (p2 ((2060 : Nat) : Int)) by
        rw [Rat.sub_eq_add_neg]
        refine bd_p2_mono (bd_add_p2 (A := 2054) (bd_p2_mono FZ.out (by omega)) (Bd.neg (bd_p2_mono (sum_bd (A := 2048) j (fun i hi => bd_mul_p2 (fn_bd (FA.out i hi)) (fn_bd (FB.out i hi)))) (by omega)))) (by omega))
      have BS := Lib.hid (show Bd (sumQ (fun j => absR (fv (us.getD j none) * fv (vs.getD j none))) j) (p2 ((2060 : Nat) : Int)) from bd_p2_mono (sum_bd (A := 2048) j (fun i hi => bd_absR'.2 (bd_mul_p2 (fn_bd (FA.out i hi)) (fn_bd (FB.out i hi))))) (by omega))
      have HI2 := Lib.hid HI.out
      clear FA FB HI
      generalize fv Z - sumQ (fun j => fv (us.getD j none) * fv (vs.getD j none)) j = T at *
      generalize sumQ (fun j => absR (fv (us.getD j none) * fv (vs.getD j none))) j = S at *
      obtain ⟨s1, a1, n1, c1, e1, E1, Q1⟩ := HL.out.1
      obtain ⟨s2, a2, n2, c2, e2, E2, Q2⟩ := HL.out.2.1
      have HE1 := Lib.hid E1
      have HE2 := Lib.hid E2
      have HQ1 := Lib.hid Q1
      have HQ2 := Lib.hid Q2
      have HBw := Lib.hid HL.out.2.2
      have KB := Lib.hid (bd_p2_mono (A' := 2059) (nat_bd (k := j) (n := 3) (Nat.lt_of_le_of_lt h6 (by decide))) (by omega))
      have PB := Lib.hid (bd_absR'.2 (bd_p2_mono (A' := 2059) FP.out (by omega)))
      have BL := Lib.hid (bd_add_p2 KB.out PB.out)
      have TB := Lib.hid (bd_mul_p2 (A' := 4) BS.out (nat_bd (k := k2) (n := 4) (Nat.lt_of_le_of_lt hk28 (by decide))))
      clear E1 Q1 Q2 HL W1 H11 H12
      go_upto_region 9 with (fail)
      go_upto_region 10 with (first
        | (go_at_call_of 60 (Value.float .f64 (floatOfInt .f64 (j : Int))); refine (EK.out _).mono ?_; rintro e' w4 ⟨⟨z4, rfl, hz⟩, hb⟩; have B4 := Lib.hid hb; have Z4 := Lib.hid hz; clear hz hb)
        | (go_at_call 60; refine (EP.out _).mono ?_; rintro e' w5 ⟨⟨z5, rfl, hz⟩, hb⟩; have B5 := Lib.hid (B4.out.trans (hb.mono B4.out.size)); have Y4 := Lib.hid (Z4.out.below hb); have Z5 := Lib.hid hz; clear hz hb)
        | (go_at_call 45; refine (dabs_calls z5 (fv P) 1024 1074 _ Z5.out FP.out (by omega)).mono ?_; rintro e' w6 ⟨⟨z6, rfl, hz⟩, hb⟩; have B6 := Lib.hid (B5.out.trans (hb.mono B5.out.size)); have Y5 := Lib.hid (Y4.out.below hb); have Z6 := Lib.hid hz; clear hz hb)
        | (go_at_call 42; go_must (refine (dadd_calls z4 z6 _ _ 2059 1074 _ Y5.out KB.out Z6.out PB.out (by omega)).mono ?_; rintro e' w7 ⟨⟨z7, rfl, hz⟩, hb⟩; have B7 := Lib.hid (B6.out.trans (hb.mono B6.out.size)); have Z7 := Lib.hid hz; obtain ⟨zs, zm, ze, ⟨za, zn, zc, rfl, _⟩, _⟩ := hz; clear hb)))
      have B8 := Lib.hid (B7.out.alloc B7.out.size (.cells #[.bool zs, .slice za zn zc, .int .i64 ze] 70))
      have E15 := Lib.hid (Cells3.new w7 (.bool zs) (.slice za zn zc) (.int .i64 ze) 70)
      have Q15 := Lib.hid (Z7.out.below ((Below.refl _ _).alloc (Nat.le_refl _) (.cells #[.bool zs, .slice za zn zc, .int .i64 ze] 70)))
      have hg15 := B7.out.size
      generalize w7.alloc (.cells #[.bool zs, .slice za zn zc, .int .i64 ze] 70) = W8 at *
      generalize w7.heap.size = g15 at *
      clear Z7 B7 B4 Z4 B5 Y4 Z5 B6 Y5 Z6
      have F2 := Lib.hid (HE2.out.below B8.out)
      have R2 := Lib.hid (HQ2.out.below B8.out)
      obtain ⟨x0, x1, x2, _, _, _⟩ := F2.out
      go_upto_region 11 with (first
        | (go_at_call 61; go_must (refine (dtimes_calls _ S k2 2060 2148 W8 R2.out BS.out (Nat.lt_of_le_of_lt hk28 (by decide)) (by omega)).mono ?_; rintro e' w9 ⟨⟨z9, rfl, hz⟩, hb⟩; have B9 := Lib.hid hb; have Z9 := Lib.hid hz; clear hz hb))
        | (go_at_call 62; go_must (refine (dpow_calls (-53) 0 53 _ (by omega) (by omega) (by omega) (by omega)).mono ?_; rintro e' w10 ⟨⟨z10, rfl, hz⟩, hb⟩; have B10 := Lib.hid (B9.out.trans (hb.mono B9.out.size)); have Y9 := Lib.hid (Z9.out.below hb); have Z10 := Lib.hid hz; clear hz hb))
        | (go_at_call 41; go_must (refine (dmul_calls z9 z10 _ _ (2060 + 4) 2148 0 53 _ Y9.out TB.out Z10.out (p2_bd (k := -53) (A := 0) (by omega)) (by omega)).mono ?_; rintro e' w11 ⟨⟨z11, rfl, hz⟩, hb⟩; have B11 := Lib.hid (B10.out.trans (hb.mono B10.out.size)); have Z11 := Lib.hid hz; obtain ⟨ys, ym, ye, ⟨ya, yn, yc, rfl, _⟩, _⟩ := hz; clear hb)))
      have B12 := Lib.hid (B11.out.alloc B11.out.size (.cells #[.bool ys, .slice ya yn yc, .int .i64 ye] 70))
      have E16 := Lib.hid (Cells3.new w11 (.bool ys) (.slice ya yn yc) (.int .i64 ye) 70)
      have Q16 := Lib.hid (Z11.out.below ((Below.refl _ _).alloc (Nat.le_refl _) (.cells #[.bool ys, .slice ya yn yc, .int .i64 ye] 70)))
      have hg16 := B11.out.size
      generalize w11.alloc (.cells #[.bool ys, .slice ya yn yc, .int .i64 ye] 70) = W12 at *
      generalize w11.heap.size = g16 at *
      have hlt15 := E15.out.lt
      have hlt1 := HE1.out.lt
      have BT12 := Lib.hid (B8.out.trans (B12.out.mono B8.out.size))
      have F15 := Lib.hid (E15.out.below B12.out)
      have R15 := Lib.hid (Q15.out.below B12.out)
      have M16 := Lib.hid (bd_mul_p2 TB.out (p2_bd (k := -53) (A := 0) (by omega)))
      have M15 := Lib.hid (bd_mul_p2 BL.out (p2_bd (k := -1070) (A := 0) (by omega)))
      clear x0 x1 x2 B9 Z9 B10 Y9 Z10 B11 Z11 F2 R2
      go_cut [16] from 63 to 67 (fun s16 wx => s16 = .pointer (some ⟨g16, 0, none⟩) ∧ DBox wx g16 (S * (k2 : Rat) * p2 (-53) + ((j : Rat) + absR (fv P)) * p2 (-1070)) 2201 ∧ Below wr.heap.size wr wx)
      case first =>
        rename_i J K' hJ hK'
        have bA := Lib.hid (show Below W12.heap.size W12 W12.drew from (Below.refl _ _).drew)
        obtain ⟨x0, x1, x2, _, _, _⟩ := F15.out.below bA.out
        obtain ⟨y0, y1, y2, y3, y4, y5⟩ := E16.out.below bA.out
        go_region_with (first
          | (go_at_call 62; go_must (refine (dpow_calls (-1070) 0 1070 _ (by omega) (by omega) (by omega) (by omega)).mono ?_; rintro e' w13 ⟨⟨z13, rfl, hz⟩, hb⟩; have B13 := Lib.hid (bA.out.trans (hb.mono bA.out.size)); have Z13 := Lib.hid hz; clear x0 x1 x2 y0 y1 y2 y3 y4 y5 hz hb; obtain ⟨x0, x1, x2, _, _, _⟩ := F15.out.below B13.out; obtain ⟨y0, y1, y2, y3, y4, y5⟩ := E16.out.below B13.out))
          | (go_at_call 41; go_must (refine (dmul_calls _ z13 _ _ 2060 1074 0 1070 _ (R15.out.below B13.out) BL.out Z13.out (p2_bd (k := -1070) (A := 0) (by omega)) (by omega)).mono ?_; rintro e' w14 ⟨⟨z14, rfl, hz⟩, hb⟩; have B14 := Lib.hid (B13.out.trans (hb.mono B13.out.size)); have Z14 := Lib.hid hz; clear x0 x1 x2 y0 y1 y2 y3 y4 y5 hz hb; obtain ⟨y0, y1, y2, y3, y4, y5⟩ := E16.out.below B14.out))
          | (go_at_call 42; go_must (refine (dadd_calls _ z14 _ _ 2064 2201 _ ((Q16.out.below B14.out).mono (by omega)) M16.out (Z14.out.mono (by omega)) (bd_p2_mono M15.out (by omega)) (by omega)).mono ?_; rintro e' w15 ⟨⟨z15, rfl, hz⟩, hb⟩; have B15 := Lib.hid (B14.out.trans (hb.mono B14.out.size)); have Z15 := Lib.hid hz; obtain ⟨ts, tm, te, ⟨ta, tn, tc, rfl, _⟩, _⟩ := hz; have L16 := Lib.hid (E16.out.below B15.out); clear y0 y1 y2 y3 y4 y5 hb; obtain ⟨y0, y1, y2, y3, y4, y5⟩ := L16.out)))
        all_goals
          refine hK' _ _ (Met.intro (hJ _ _ ?_))
          (repeat apply Exists.intro)
          refine ⟨?_, rfl⟩
          exact ⟨rfl, ⟨_, _, _, _, _, L16.out.put (.bool ts) (.slice ta tn tc) (.int .i64 te), Z15.out.put3 L16.out _ _ _⟩, below_putC (BT12.out.trans (B15.out.mono BT12.out.size)) L16.out (Nat.le_trans B8.out.size hg16) _ _ _⟩
      case rest =>
        obtain ⟨rfl, h16, hbw⟩ := hcut
        obtain ⟨s6, a6, n6, c6, e6, E6, Q6⟩ := h16
        have HE6 := Lib.hid E6
        have HQ6 := Lib.hid Q6
        have HB6 := Lib.hid hbw
        clear E6 Q6 hbw
        have bA := Lib.hid (show Below wc.heap.size wc wc.drew from (Below.refl _ _).drew)
        have KP := Lib.hid (fun W (hb : Below wc.heap.size wc W) => six_keep ((HE1.out.below HB6.out).below hb) (HE6.out.below hb))
        have ka := Lib.hid (KP.out _ bA.out)
        have MM' := Lib.hid (bd_add_p2 (A := 2064) M16.out (bd_p2_mono M15.out (by omega)))
        have hr : cmpQ (absR T) (S * (k2 : Rat) * p2 (-53) + ((j : Rat) + absR (fv P)) * p2 (-1070)) ≤ 0 := by
          have h0 := cmpQ_le (a := absR T) (b := S * (k2 : Rat) * p2 (-53) + ((j : Rat) + absR (fv P)) * p2 (-1070))
          rw [decide_eq_true HI2.out] at h0
          exact of_decide_eq_true h0
        have CM := Lib.hid (fun z u W h h' => dcmp_calls z u (absR T) (S * (k2 : Rat) * p2 (-53) + ((j : Rat) + absR (fv P)) * p2 (-1070)) 2065 2201 W h (bd_absR'.2 (bd_p2_mono BT.out (by omega))) h' MM'.out (by omega))
        generalize cmpQ (absR T) (S * (k2 : Rat) * p2 (-53) + ((j : Rat) + absR (fv P)) * p2 (-1070)) = r at *
        go_wp2
        go_region_held3 (fun w' => w'.cell? ⟨g1, 0, none⟩ = some (.bool s1) ∧ w'.cell? ⟨g1, 1, none⟩ = some (.slice a1 n1 c1) ∧ w'.cell? ⟨g1, 2, none⟩ = some (.int .i64 e1) ∧ w'.cell? ⟨g16, 0, none⟩ = some (.bool s6) ∧ w'.cell? ⟨g16, 1, none⟩ = some (.slice a6 n6 c6) ∧ w'.cell? ⟨g16, 2, none⟩ = some (.int .i64 e6))
          (first
            | with_reducible exact ka.out
            | with_reducible exact K7.out
            | with_reducible exact K8.out)
          (first
            | (go_at_call 45; go_must (refine (dabs_calls _ T 2060 2148 _ ((HQ1.out.below HB6.out).below bA.out) BT.out (by omega)).mono ?_; rintro e' w17 ⟨⟨z17, rfl, hz⟩, hb⟩; have B17 := Lib.hid (bA.out.trans (hb.mono bA.out.size)); have Z17 := Lib.hid hz; have K7 := Lib.hid (KP.out _ B17.out); clear hz hb))
            | (go_at_call 47; go_must (refine (CM.out z17 _ _ (Z17.out.mono (by omega)) (HQ6.out.below B17.out)).mono ?_; rintro e' w18 ⟨rfl, hb⟩; have B18 := Lib.hid (B17.out.trans (hb.mono B17.out.size)); have K8 := Lib.hid (KP.out _ B18.out); clear hb)))
        go_wp2
        go_ret
        exact ⟨rfl, HBw.out.trans ((HB6.out.trans (B18.out.mono HB6.out.size)).mono HBw.out.size)⟩
end Go.Proofs.Ytnboegeljaplbaa
