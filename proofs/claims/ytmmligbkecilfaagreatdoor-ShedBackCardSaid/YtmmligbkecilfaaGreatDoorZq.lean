/- Solving: how far a number is from what it is taken from. Solving: what a row's entries times the answers come to is near to the last column's entry. The statements' fits of layer 16. -/
import Derived.Test.YtmmligbkecilfaaGreatDoorZh
import Derived.Test.YtmmligbkecilfaaGreatDoorVd
import Derived.Test.YtmmligbkecilfaaGreatDoorZm
namespace Go.Proofs.YtmmligbkecilfaaGreatDoor
open Lv
open Ieee

/-- a float's word that is no NaN's -/
def Wb (x : Option Nat) : Prop := ∀ b, x = some b → b < 18446744073709551616 ∧ b % 9223372036854775808 ≤ 9218868437227405312
theorem ab_le {b : Nat} (h64 : W64 b) (h : ab b = some b) : b < 18446744073709551616 ∧ b % 9223372036854775808 ≤ 9218868437227405312 := by
  refine ⟨h64, ?_⟩
  obtain ⟨_, hn⟩ := ab_some h
  exact nan_le hn
theorem f2_wb {op : Nat → Nat → Option Nat} (h : ∀ a b r, op a b = some r → W64 r ∧ ab r = some r) (x y : Option Nat) : Wb (f2 op x y) := by
  intro b hb
  cases x with
  | none => cases hb
  | some x =>
    cases y with
    | none => cases hb
    | some y => exact ab_le (h x y b hb).1 (h x y b hb).2
theorem fsub_wb (x y : Option Nat) : Wb (fsub x y) := f2_wb (fun _ _ _ h => ⟨sub_w64 h, sub_res h⟩) x y
theorem fmul_wb (x y : Option Nat) : Wb (fmul x y) := f2_wb (fun _ _ _ h => ⟨mul_w64 h, mul_res h⟩) x y
theorem fdiv_wb (x y : Option Nat) : Wb (fdiv x y) := f2_wb (fun _ _ _ h => ⟨div_w64 h, div_res h⟩) x y
/-- a number, an infinity, or none -/
theorem wb_cases {x : Option Nat} (h : Wb x) : Lv.Fn x ∨ x = none ∨ ∃ s, x = some (wd s 9218868437227405312) := by
  cases x with
  | none => exact .inr (.inl rfl)
  | some b =>
    obtain ⟨h1, h2⟩ := h b rfl
    have e : some b = some (wd (decide (9223372036854775808 ≤ b)) (b % 9223372036854775808)) := by
      by_cases c : 9223372036854775808 ≤ b
      · rw [decide_eq_true c]
        show some b = some (9223372036854775808 + b % 9223372036854775808)
        congr 1; omega
      · rw [decide_eq_false c]
        show some b = some (b % 9223372036854775808)
        congr 1; omega
    by_cases c : b % 9223372036854775808 = 9218868437227405312
    · rw [c] at e
      exact .inr (.inr ⟨_, e⟩)
    · exact .inl ⟨_, _, e, by omega⟩
theorem fn_num {x : Option Nat} (hw : Wb x) (h : numF x = true) : Lv.Fn x := by
  rcases wb_cases hw with h1 | rfl | ⟨s, rfl⟩
  · exact h1
  · cases h
  · exfalso
    cases s <;> revert h <;> decide
theorem read_inf (s : Bool) : double.read (wd s 9218868437227405312) = .infinity s := by cases s <;> decide +kernel
theorem not_inf (s : Bool) : ¬ Lv.Fn (some (wd s 9218868437227405312)) := by
  rintro ⟨t, r, e, hr⟩
  have e2 := Option.some.inj e
  unfold wd at e2
  cases s <;> cases t <;> simp at e2 <;> omega
theorem write_inf (s : Bool) : double.write (.infinity s) = wd s 9218868437227405312 := by cases s <;> decide +kernel
theorem not_none : ¬ Lv.Fn none := by rintro ⟨_, _, h, _⟩; cases h
theorem sub_num {x y : Option Nat} (hx : Wb x) (hy : Wb y) (h : Lv.Fn (fsub x y)) : Lv.Fn x ∧ Lv.Fn y := by
  rcases wb_cases hx with hx | rfl | ⟨s, rfl⟩
  · rcases wb_cases hy with hy | rfl | ⟨t, rfl⟩
    · exact ⟨hx, hy⟩
    · exfalso
      obtain ⟨s, a, rfl, _⟩ := hx
      exact not_none h
    · exfalso
      obtain ⟨s, a, rfl, ha⟩ := hx
      have e : fsub (some (wd s a)) (some (wd t 9218868437227405312)) = some (wd (!t) 9218868437227405312) := by
        show double.sub _ _ = _
        unfold Format.sub
        rw [read_wd s ha, read_inf]
        simp only [Datum.opposite, Datum.sum, Option.map_some, write_inf]
      rw [e] at h
      exact not_inf _ h
  · exact absurd h not_none
  · exfalso
    rcases wb_cases hy with hy | rfl | ⟨t, rfl⟩
    · obtain ⟨t, b, rfl, hb⟩ := hy
      have e : fsub (some (wd s 9218868437227405312)) (some (wd t b)) = some (wd s 9218868437227405312) := by
        show double.sub _ _ = _
        unfold Format.sub
        rw [read_wd t hb, read_inf]
        simp only [Datum.opposite, Datum.sum, Option.map_some, write_inf]
      rw [e] at h
      exact not_inf _ h
    · exact not_none h
    · have e : fsub (some (wd s 9218868437227405312)) (some (wd t 9218868437227405312)) = if s = !t then some (wd s 9218868437227405312) else none := by
        show double.sub _ _ = _
        unfold Format.sub
        rw [read_inf, read_inf]
        simp only [Datum.opposite, Datum.sum]
        split
        · simp only [Option.map_some, write_inf]
        · rfl
      rw [e] at h
      split at h
      · exact not_inf _ h
      · exact not_none h
theorem mul_num {x y : Option Nat} (hx : Wb x) (hy : Wb y) (h : Lv.Fn (fmul x y)) : Lv.Fn x ∧ Lv.Fn y := by
  rcases wb_cases hx with hx | rfl | ⟨s, rfl⟩
  · rcases wb_cases hy with hy | rfl | ⟨t, rfl⟩
    · exact ⟨hx, hy⟩
    · exfalso
      obtain ⟨s, a, rfl, _⟩ := hx
      exact not_none h
    · exfalso
      obtain ⟨s, a, rfl, ha⟩ := hx
      have e : fmul (some (wd s a)) (some (wd t 9218868437227405312)) = if mg a = 0 then none else some (wd (t ^^ s) 9218868437227405312) := by
        show double.mul _ _ = _
        unfold Format.mul
        rw [read_wd s ha, read_inf]
        simp only [Datum.product]
        split
        · rfl
        · simp only [Option.map_some, write_inf]
      rw [e] at h
      split at h
      · exact not_none h
      · exact not_inf _ h
  · exact absurd h not_none
  · exfalso
    rcases wb_cases hy with hy | rfl | ⟨t, rfl⟩
    · obtain ⟨t, b, rfl, hb⟩ := hy
      have e : fmul (some (wd s 9218868437227405312)) (some (wd t b)) = if mg b = 0 then none else some (wd (s ^^ t) 9218868437227405312) := by
        show double.mul _ _ = _
        unfold Format.mul
        rw [read_wd t hb, read_inf]
        simp only [Datum.product]
        split
        · rfl
        · simp only [Option.map_some, write_inf]
      rw [e] at h
      split at h
      · exact not_none h
      · exact not_inf _ h
    · exact not_none h
    · have e : fmul (some (wd s 9218868437227405312)) (some (wd t 9218868437227405312)) = some (wd (s ^^ t) 9218868437227405312) := by
        show double.mul _ _ = _
        unfold Format.mul
        rw [read_inf, read_inf]
        simp only [Datum.product, Option.map_some, write_inf]
      rw [e] at h
      exact not_inf _ h
theorem div_num {x : Option Nat} {t : Bool} {H : Nat} (hH : H < 9218868437227405312) (hx : Wb x) (h : Lv.Fn (fdiv x (some (wd t H)))) : Lv.Fn x := by
  rcases wb_cases hx with hx | rfl | ⟨s, rfl⟩
  · exact hx
  · exact absurd h not_none
  · exfalso
    have e : fdiv (some (wd s 9218868437227405312)) (some (wd t H)) = some (wd (s ^^ t) 9218868437227405312) := by
      show double.div _ _ = _
      unfold Format.div
      rw [read_inf, read_wd t hH]
      simp only [Datum.quotient, Option.map_some, write_inf]
    rw [e] at h
    exact not_inf _ h
/-! ### off by little of what comes -/
/-- a rounding is off by little of what it comes to -/
theorem mid_res {r : Nat} {z : Rat} (h : Mid r z) (hz0 : 0 ≤ z) : Bd (rv r - z) (uu * rv r + ee) := by
  have hu := uu_small
  have hup := uu_pos
  have hep := ee_pos
  have hr := rv_nonneg r
  have hur := rmul_nn (Rat.le_of_lt hup) hr
  have hi := h.hi.1
  by_cases c : 4503599627370496 ≤ r
  · obtain ⟨g1, g2⟩ := rv_gap c
    have lo := (h.lo (by omega)).1
    unfold Bd
    constructor <;> grind
  · -- a small one: the rungs are 2 ee apart
    have he2 : ee * 2 = p2 (-1074) := by
      unfold ee
      rw [show (-1074 : Int) = -1075 + 1 by decide, p2_succ]
      grind
    have hs := rv_succ 0 r (by omega) (.inl rfl)
    rw [show 0 * 4503599627370496 + r + 1 = r + 1 by omega, show 0 * 4503599627370496 + r = r by omega, show (-1074 + ((0 : Nat) : Int)) = -1074 by decide] at hs
    by_cases h0 : r = 0
    · subst h0
      have e0 := rv_zero
      unfold Bd
      constructor <;> grind
    · have lo := (h.lo (by omega)).1
      have hs2 := rv_succ 0 (r - 1) (by omega) (.inl rfl)
      rw [show 0 * 4503599627370496 + (r - 1) + 1 = r by omega, show 0 * 4503599627370496 + (r - 1) = r - 1 by omega, show (-1074 + ((0 : Nat) : Int)) = -1074 by decide] at hs2
      unfold Bd
      constructor <;> grind
theorem min_lt {s : Bool} {ρ : Nat} (h : Lv.Fn (some (wd s (min ρ 9218868437227405312)))) : ρ < 9218868437227405312 := by
  by_cases c : ρ < 9218868437227405312
  · exact c
  · exfalso
    rw [Nat.min_eq_right (by omega)] at h
    exact not_inf s h
theorem absQ_sg (s : Bool) {x : Rat} (h : 0 ≤ x) : absQ (Lv.sg s x) = x := by
  unfold absQ Lv.sg
  cases s
  · simp only [Bool.false_eq_true, if_false]; rw [if_neg (by grind)]
  · simp only [if_true]
    split <;> grind
theorem mulR {x y : Option Nat} (hx : Lv.Fn x) (hy : Lv.Fn y) (h : Lv.Fn (fmul x y)) : Bd (fv (fmul x y) - fv x * fv y) (uu * absQ (fv x * fv y) + ee) := by
  obtain ⟨s, a, rfl, ha⟩ := hx
  obtain ⟨t, b, rfl, hb⟩ := hy
  obtain ⟨ρ, h1, h2⟩ := mul_mid ha hb
  have e : fmul (some (wd s a)) (some (wd t b)) = some (wd (s ^^ t) (min ρ 9218868437227405312)) := h2 s t
  rw [e] at h ⊢
  have hρ := min_lt h
  rw [Nat.min_eq_left (by omega), fv_wd _ hρ, fv_wd s ha, fv_wd t hb, vz_sg, vz_sg, vz_sg, sg_mul, ← sg_sub]
  have hz : 0 ≤ rv a * rv b := rmul_nn (rv_nonneg _) (rv_nonneg _)
  rw [absQ_sg _ hz]
  exact bd_sg.2 (mid_err h1 hz)
theorem subR {x y : Option Nat} (hx : Lv.Fn x) (hy : Lv.Fn y) (h : Lv.Fn (fsub x y)) : Bd (fv (fsub x y) - (fv x - fv y)) (uu * absQ (fv (fsub x y)) + ee) := by
  obtain ⟨s, a, rfl, ha⟩ := hx
  obtain ⟨t, b, rfl, hb⟩ := hy
  obtain ⟨u, ρ, z, hz, h1, hzv, _, h2⟩ := add_gen s (!t) ha hb
  have e : fsub (some (wd s a)) (some (wd t b)) = some (wd u (min ρ 9218868437227405312)) := (sub_wdZ s t ha hb).trans h2
  rw [e] at h ⊢
  have hρ := min_lt h
  rw [Nat.min_eq_left (by omega), fv_wd _ hρ, fv_wd s ha, fv_wd t hb, vz_sub, ← hzv, vz_sg, absQ_sg _ (rv_nonneg _)]
  show Bd (Lv.sg u (rv ρ) - Lv.sg u z) _
  rw [← sg_sub]
  exact bd_sg.2 (mid_res h1 hz)
theorem divR {x : Option Nat} (hx : Lv.Fn x) {t : Bool} {H : Nat} (h0 : H ≠ 0) (hH : H < 9218868437227405312) (h : Lv.Fn (fdiv x (some (wd t H)))) :
    Bd (fv (some (wd t H)) * fv (fdiv x (some (wd t H))) - fv x) (152/100 * (uu * absQ (fv (some (wd t H)) * fv (fdiv x (some (wd t H))))) + 101/100 * (ee * absQ (fv (some (wd t H))))) := by
  obtain ⟨s, a, rfl, ha⟩ := hx
  have hHp : 0 < rv H := by have := rv_lt (show 0 < H by omega); rwa [rv_zero] at this
  have he0 := Rat.le_of_lt ee_pos
  have hu := uu_small
  have hu0 := Rat.le_of_lt hu.2
  by_cases c : a = 0
  · subst c
    have e : fdiv (some (wd s 0)) (some (wd t H)) = some (wd (s ^^ t) 0) := zero_div s t h0 hH
    rw [e, fv_wd (s ^^ t) (r := 0) (by decide), fv_wd t hH, fv_wd s (r := 0) (by decide), vz_sg, vz_sg, vz_sg, rv_zero]
    have z1 : ∀ s, Lv.sg s 0 = 0 := by intro s; unfold Lv.sg; cases s <;> simp
    rw [z1, z1, Rat.mul_zero, absQ_sg _ (Rat.le_of_lt hHp)]
    have := rmul_nn he0 (Rat.le_of_lt hHp)
    have hz : absQ 0 = 0 := by unfold absQ; simp
    rw [hz]
    rw [show (0 : Rat) - 0 = 0 by grind]
    exact bd_zero (by grind)
  · have hi : rv H * (rv H)⁻¹ = 1 := Rat.mul_inv_cancel _ (by grind)
    obtain ⟨z, hz⟩ : ∃ z, rv a * (rv H)⁻¹ = z := ⟨_, rfl⟩
    have hzq : z * rv H = rv a := by rw [← hz]; grind
    have hz0 : 0 ≤ z := Rat.le_of_mul_le_mul_right (c := rv H) (by rw [hzq, Rat.zero_mul]; exact rv_nonneg a) hHp
    obtain ⟨ρ, v, h1, h2, h3, h4⟩ := div_gen c h0 ha hH hzq
    have e : fdiv (some (wd s a)) (some (wd t H)) = some (wd (s ^^ t) (min ρ 9218868437227405312)) := h4 s t
    rw [e] at h ⊢
    have hρ := min_lt h
    rw [Nat.min_eq_left (by omega), fv_wd _ hρ, fv_wd t hH, fv_wd s ha, vz_sg, vz_sg, vz_sg, sg_mul, show (t ^^ (s ^^ t)) = s by cases s <;> cases t <;> rfl, ← sg_sub]
    have hr0 := rv_nonneg ρ
    rw [absQ_sg _ (Rat.le_of_lt hHp), absQ_sg _ (rmul_nn (Rat.le_of_lt hHp) hr0)]
    refine bd_sg.2 ?_
    have k1 := mid_res h1 h2
    have uz : uu * z ≤ 1/10000 * z := Rat.mul_le_mul_of_nonneg_right (by grind) hz0
    have hzv : z ≤ 10001/10000 * v := by unfold Bd at h3; grind
    have ur : uu * rv ρ ≤ 1/10000 * rv ρ := Rat.mul_le_mul_of_nonneg_right (by grind) hr0
    have hvr : v ≤ 10001/10000 * rv ρ + ee := by unfold Bd at k1; grind
    have u1 := rmul_mono hu0 hzv
    have u2 := rmul_mono hu0 hvr
    have ue : uu * ee ≤ 1/10000 * ee := Rat.mul_le_mul_of_nonneg_right (by grind) he0
    have k2 := k1.add h3
    rw [show rv ρ - v + (v - z) = rv ρ - z by grind] at k2
    have ur0 := rmul_nn hu0 hr0
    have k3 : Bd (rv ρ - z) (152/100 * (uu * rv ρ) + 101/100 * ee) := k2.mono (by grind)
    have k4 := k3.mul (bd_self (Rat.le_of_lt hHp))
    rw [show (rv ρ - z) * rv H = rv H * rv ρ - rv a by rw [← hzq]; grind] at k4
    exact k4.mono (by grind)
theorem less_wb {s : Option Nat} {a b : Nat → Option Nat} (hs : Wb s) : ∀ n, Wb (lessF s a b n)
  | 0 => hs
  | _ + 1 => fsub_wb _ _
/-- what is left when products are taken off -/
theorem less_off {s : Option Nat} {a b : Nat → Option Nat} (hs : Wb s) : ∀ n, n ≤ 6 → (∀ k, k < n → Wb (a k) ∧ Wb (b k)) → Lv.Fn (lessF s a b n) →
    Lv.Fn s ∧ (∀ k, k < n → Lv.Fn (a k) ∧ Lv.Fn (b k)) ∧
    Bd (fv s - sumQ (fun k => fv (a k) * fv (b k)) n - fv (lessF s a b n)) (1001/1000 * ((n : Rat) * (uu * (absQ (fv (lessF s a b n)) + sumQ (fun k => absQ (fv (a k) * fv (b k))) n))) + 3 * ((n : Rat) * ee))
  | 0, _, _, h => by
    refine ⟨h, fun k hk => absurd hk (Nat.not_lt_zero _), ?_⟩
    show Bd (fv s - 0 - fv s) _
    rw [show fv s - 0 - fv s = 0 by grind, show ((0 : Nat) : Rat) = 0 from rfl, Rat.zero_mul, Rat.zero_mul]
    exact bd_zero (by grind)
  | n + 1, hn, hw, h => by
    obtain ⟨hS, hp⟩ := sub_num (less_wb hs n) (fmul_wb _ _) h
    obtain ⟨ha, hb⟩ := mul_num (hw n (by omega)).1 (hw n (by omega)).2 hp
    obtain ⟨k1, k2, k3⟩ := less_off hs n (by omega) (fun k hk => hw k (by omega)) hS
    refine ⟨k1, fun k hk => ?_, ?_⟩
    · by_cases e : k = n
      · subst e; exact ⟨ha, hb⟩
      · exact k2 k (by omega)
    · have m1 := mulR ha hb hp
      have m2 := subR hS hp h
      have e1 : sumQ (fun k => fv (a k) * fv (b k)) (n + 1) = sumQ (fun k => fv (a k) * fv (b k)) n + fv (a n) * fv (b n) := rfl
      have e2 : sumQ (fun k => absQ (fv (a k) * fv (b k))) (n + 1) = sumQ (fun k => absQ (fv (a k) * fv (b k))) n + absQ (fv (a n) * fv (b n)) := rfl
      have hP := sumQ_nn (f := fun k => absQ (fv (a k) * fv (b k))) n (fun k _ => absQ_nn _)
      have hL : lessF s a b (n + 1) = fsub (lessF s a b n) (fmul (a n) (b n)) := rfl
      rw [e1, e2, natr_succ]
      rw [hL] at h ⊢
      generalize sumQ (fun k => absQ (fv (a k) * fv (b k))) n = P at *
      generalize sumQ (fun k => fv (a k) * fv (b k)) n = T0 at *
      generalize hq : fv (a n) * fv (b n) = q at *
      generalize fv (fmul (a n) (b n)) = p at *
      generalize fv (fsub (lessF s a b n) (fmul (a n) (b n))) = S' at *
      generalize fv (lessF s a b n) = S at *
      have hu := uu_small
      have hu0 := Rat.le_of_lt hu.2
      have he0 := Rat.le_of_lt ee_pos
      have hnr : (n : Rat) ≤ 6 := by exact_mod_cast (show n ≤ 6 by omega)
      have hn0 := ratn_nn n
      generalize (n : Rat) = N at *
      have q0 := absQ_nn q
      have s0 := absQ_nn S'
      have t0 := absQ_nn S
      have bq := absQ_bd q
      have bs := absQ_bd S'
      -- the size of what was there before
      have hSb : absQ S ≤ absQ S' + absQ q + uu * absQ S' + uu * absQ q + 2 * ee := bd_mid (by
        unfold Bd at *
        constructor <;> grind)
      have uq := rmul_nn hu0 q0
      have us := rmul_nn hu0 s0
      have uP := rmul_nn hu0 hP
      have u1 := rmul_mono hu0 hSb
      have u2 : uu * (uu * absQ S') ≤ 1/1000000 * (uu * absQ S') := Rat.mul_le_mul_of_nonneg_right (by grind) us
      have u3 : uu * (uu * absQ q) ≤ 1/1000000 * (uu * absQ q) := Rat.mul_le_mul_of_nonneg_right (by grind) uq
      have u4 : uu * ee ≤ 1/1000000 * ee := Rat.mul_le_mul_of_nonneg_right (by grind) he0
      have key : uu * (absQ S + P) ≤ 1000001/1000000 * (uu * absQ S') + 1000001/1000000 * (uu * absQ q) + 2/1000000 * ee + uu * P := by grind
      have k5 := rmul_mono hn0 key
      have n1 : N * (uu * absQ S') ≤ 6 * (uu * absQ S') := Rat.mul_le_mul_of_nonneg_right hnr us
      have n2 : N * (uu * absQ q) ≤ 6 * (uu * absQ q) := Rat.mul_le_mul_of_nonneg_right hnr uq
      have n3 : N * ee ≤ 6 * ee := Rat.mul_le_mul_of_nonneg_right hnr he0
      have k6 := (k3.sub m2).add m1
      rw [show fv s - T0 - S - (S' - (S - p)) + (p - q) = fv s - (T0 + q) - S' by grind] at k6
      refine k6.mono ?_
      rw [show (N + 1) * (uu * (absQ S' + (P + absQ q))) = N * (uu * absQ S') + N * (uu * P) + N * (uu * absQ q) + uu * absQ S' + uu * P + uu * absQ q by grind]
      rw [show N * (1000001/1000000 * (uu * absQ S') + 1000001/1000000 * (uu * absQ q) + 2/1000000 * ee + uu * P) = 1000001/1000000 * (N * (uu * absQ S')) + 1000001/1000000 * (N * (uu * absQ q)) + 2/1000000 * (N * ee) + N * (uu * P) by grind] at k5
      rw [show (N + 1) * ee = N * ee + ee by grind]
      clear k3 m1 m2 k6 u1 key bq bs hSb
      generalize N * (uu * absQ S') = x1 at *
      generalize N * (uu * absQ q) = x2 at *
      generalize N * (uu * P) = x3 at *
      generalize N * ee = x4 at *
      generalize N * (uu * (absQ S + P)) = x5 at *
      generalize uu * absQ S' = y1 at *
      generalize uu * absQ q = y2 at *
      generalize uu * P = y3 at *
      grind
end Go.Proofs.YtmmligbkecilfaaGreatDoor
namespace Go.Proofs.YtmmligbkecilfaaGreatDoor
open Lv
open Ieee

theorem absQ_eq (q : Rat) : absQ q = absR q := rfl
theorem p1070 : p2 (-1070) = 32 * ee := by
  have e1 := p2_nat 5
  rw [show ((5 : Nat) : Int) = 5 from rfl] at e1
  have e3 : ((2 ^ 5 : Nat) : Rat) = 32 := by norm_cast
  rw [e3] at e1
  unfold ee
  rw [← e1, ← p2_add]; rfl
theorem row_fits {Z : Option Nat} {t : Bool} {H n m : Nat} {a b : Nat → Option Nat} (hn : n + 1 ≤ m) (hm : m ≤ 6) (hZ : Wb Z) (hab : ∀ k, k < n → Wb (a k) ∧ Wb (b k)) (h0 : H ≠ 0) (hH : H < 9218868437227405312)
    (hx : Lv.Fn (fdiv (lessF Z a b n) (some (wd t H)))) :
    Lv.Fn Z ∧ (∀ k, k < n → Lv.Fn (a k) ∧ Lv.Fn (b k)) ∧
    absR (fv Z - (fv (some (wd t H)) * fv (fdiv (lessF Z a b n) (some (wd t H))) + sumQ (fun k => fv (a k) * fv (b k)) n)) ≤
      (absR (fv (some (wd t H)) * fv (fdiv (lessF Z a b n) (some (wd t H)))) + sumQ (fun k => absR (fv (a k) * fv (b k))) n) * ((m + 2 : Nat) : Rat) * p2 (-53) + ((m : Rat) + absR (fv (some (wd t H)))) * p2 (-1070) := by
  have hS := div_num hH (less_wb hZ n) hx
  obtain ⟨k1, k2, k3⟩ := less_off hZ n (by omega) hab hS
  refine ⟨k1, k2, ?_⟩
  have d1 := divR hS h0 hH hx
  rw [p1070, show p2 (-53) = uu from rfl]
  have hP := sumQ_nn (f := fun k => absQ (fv (a k) * fv (b k))) n (fun k _ => absQ_nn _)
  rw [show (fun k => absR (fv (a k) * fv (b k))) = (fun k => absQ (fv (a k) * fv (b k))) from rfl]
  generalize sumQ (fun k => absQ (fv (a k) * fv (b k))) n = P at *
  generalize sumQ (fun k => fv (a k) * fv (b k)) n = T at *
  have hd0 := absQ_nn (fv (some (wd t H)))
  rw [show absR (fv (some (wd t H))) = absQ (fv (some (wd t H))) from rfl]
  generalize absQ (fv (some (wd t H))) = δ at *
  have hy0 := absQ_nn (fv (some (wd t H)) * fv (fdiv (lessF Z a b n) (some (wd t H))))
  have hyb := absQ_bd (fv (some (wd t H)) * fv (fdiv (lessF Z a b n) (some (wd t H))))
  rw [show absR (fv (some (wd t H)) * fv (fdiv (lessF Z a b n) (some (wd t H)))) = absQ (fv (some (wd t H)) * fv (fdiv (lessF Z a b n) (some (wd t H)))) from rfl]
  generalize hY : fv (some (wd t H)) * fv (fdiv (lessF Z a b n) (some (wd t H))) = Y at *
  generalize absQ Y = y at *
  have hu := uu_small
  have hu0 := Rat.le_of_lt hu.2
  have he0 := Rat.le_of_lt ee_pos
  have hSb : absQ (fv (lessF Z a b n)) ≤ y + (152/100 * (uu * y) + 101/100 * (ee * δ)) := bd_mid (by
    unfold Bd at *
    constructor <;> grind)
  have hs0 := absQ_nn (fv (lessF Z a b n))
  generalize absQ (fv (lessF Z a b n)) = σ at *
  generalize fv (lessF Z a b n) = S at *
  have hnm : (n : Rat) + 1 ≤ (m : Rat) := by exact_mod_cast hn
  have hm6 : (m : Rat) ≤ 6 := by exact_mod_cast hm
  have hn0 := ratn_nn n
  have em : ((m + 2 : Nat) : Rat) = (m : Rat) + 2 := by norm_cast
  rw [em]
  generalize (m : Rat) = M at *
  generalize (n : Rat) = N at *
  have k4 := k3.sub d1
  rw [show fv Z - T - S - (Y - S) = fv Z - (Y + T) by grind] at k4
  refine bd_absR.1 (k4.mono ?_)
  clear k4 k3 d1 hyb
  -- the sizes
  have uy := rmul_nn hu0 hy0
  have uP := rmul_nn hu0 hP
  have eδ := rmul_nn he0 hd0
  have u1 := rmul_mono hu0 hSb
  have u2 : uu * (uu * y) ≤ 1/1000000 * (uu * y) := Rat.mul_le_mul_of_nonneg_right (by grind) uy
  have u3 : uu * (ee * δ) ≤ 1/1000000 * (ee * δ) := Rat.mul_le_mul_of_nonneg_right (by grind) eδ
  have key : uu * (σ + P) ≤ 1001/1000 * (uu * y) + 1/1000 * (ee * δ) + uu * P := by grind
  have k5 := rmul_mono hn0 key
  have n1 : N * (uu * y) ≤ (M - 1) * (uu * y) := Rat.mul_le_mul_of_nonneg_right (by grind) uy
  have n2 : N * (uu * P) ≤ (M - 1) * (uu * P) := Rat.mul_le_mul_of_nonneg_right (by grind) uP
  have n3 : N * ee ≤ (M - 1) * ee := Rat.mul_le_mul_of_nonneg_right (by grind) he0
  have n4 : N * (ee * δ) ≤ 6 * (ee * δ) := Rat.mul_le_mul_of_nonneg_right (by grind) eδ
  have n5 : M * (uu * y) ≤ 6 * (uu * y) := Rat.mul_le_mul_of_nonneg_right hm6 uy
  have n6 : M * (uu * P) ≤ 6 * (uu * P) := Rat.mul_le_mul_of_nonneg_right hm6 uP
  have n7 : 0 ≤ M * ee := rmul_nn (by grind) he0
  rw [show N * (1001/1000 * (uu * y) + 1/1000 * (ee * δ) + uu * P) = 1001/1000 * (N * (uu * y)) + 1/1000 * (N * (ee * δ)) + N * (uu * P) by grind] at k5
  rw [show (M - 1) * (uu * y) = M * (uu * y) - uu * y by grind] at n1
  rw [show (M - 1) * (uu * P) = M * (uu * P) - uu * P by grind] at n2
  rw [show (M - 1) * ee = M * ee - ee by grind] at n3
  rw [show (y + P) * (M + 2) * uu + (M + δ) * (32 * ee) = M * (uu * y) + 2 * (uu * y) + M * (uu * P) + 2 * (uu * P) + 32 * (M * ee) + 32 * (ee * δ) by grind]
  clear key u1 hSb hY
  generalize N * (uu * (σ + P)) = x1 at *
  generalize N * (uu * y) = x2 at *
  generalize N * (uu * P) = x3 at *
  generalize M * (uu * y) = x4 at *
  generalize M * (uu * P) = x5 at *
  generalize N * ee = x6 at *
  generalize M * ee = x7 at *
  generalize N * (ee * δ) = x8 at *
  generalize uu * y = x9 at *
  generalize uu * P = x10 at *
  generalize ee * δ = x11 at *
  grind
theorem sumQ_split (f : Nat → Rat) (i : Nat) : ∀ m, sumQ f (i + m) = sumQ f i + sumQ (fun k => f (i + k)) m
  | 0 => by show sumQ f i = sumQ f i + 0; grind
  | m + 1 => by
    show sumQ f (i + m) + f (i + m) = sumQ f i + (sumQ (fun k => f (i + k)) m + f (i + m))
    rw [sumQ_split f i m]; grind
theorem sumQ_zero {f : Nat → Rat} : ∀ n, (∀ k, k < n → f k = 0) → sumQ f n = 0
  | 0, _ => rfl
  | n + 1, h => by
    show sumQ f n + f n = 0
    rw [sumQ_zero n (fun k hk => h k (by omega)), h n (by omega)]; grind
/-- nothing ahead of place i -/
theorem sumQ_from {f : Nat → Rat} {c i : Nat} (hi : i < c) (h : ∀ k, k < i → f k = 0) : sumQ f c = f i + sumQ (fun k => f (i + 1 + k)) (c - (i + 1)) := by
  have e : c = (i + 1) + (c - (i + 1)) := by omega
  have := sumQ_split f (i + 1) (c - (i + 1))
  rw [← e] at this
  rw [this]
  show sumQ f i + f i + _ = _
  rw [sumQ_zero i h]; grind
theorem backT_drop (xs : List (Option Nat)) (c : Nat) : ∀ (m n k : Nat), n + m = c → (backT xs c n).getD k none = (backT xs c c).getD (m + k) none
  | 0, n, k, h => by obtain rfl : n = c := by omega
                     rw [Nat.zero_add]
  | m + 1, n, k, h => by
    rw [show m + 1 + k = m + (k + 1) by omega, ← backT_drop xs c m (n + 1) (k + 1) (by omega)]
    rfl
theorem ent_wb {c i k : Nat} {xs : List (Option Nat)} (hT : TriOk c xs) (hi : i ≤ c) (hk : k ≤ c) : Lv.Fn (ent xs c i k) := by
  unfold ent
  rw [getD_lineP hi k (by omega)]
  split
  · exact fn_nil
  · exact (hT.ok i k (by omega) hk).1
theorem fn_wb {x : Option Nat} (h : Lv.Fn x) : Wb x := by
  obtain ⟨s, r, rfl, hr⟩ := h
  intro b hb
  obtain rfl := Option.some.inj hb
  unfold wd
  split <;> omega
theorem not_zero {x : Option Nat} (h : Lv.Fn x) (hz : zeroF x = false) : ∃ t H, x = some (wd t H) ∧ H ≠ 0 ∧ H < 9218868437227405312 := by
  obtain ⟨s, r, rfl, hr⟩ := h
  refine ⟨s, r, rfl, fun e => ?_, hr⟩
  rw [zeroF_wd s hr, e] at hz
  cases hz
/-- what Back comes to, row by row -/
theorem back_fits {c : Nat} {xs ys : List (Option Nat)} {rws trn : Int} (hw : ∀ i, Wd (xs.getD i none)) (h : backD ⟨(c : Int), xs, rws, trn⟩ = (ys, 0)) :
    checkP (c : Int) xs rws trn = true ∧ TriOk c xs ∧ ys.length = c ∧ (∀ k, k < c → Lv.Fn (ys.getD k none)) ∧ ∀ i, i < c →
      absR (fv (ent xs c i c) - sumQ (fun k => fv (ent xs c i k) * fv (ys.getD k none)) c) ≤ sumQ (fun k => absR (fv (ent xs c i k) * fv (ys.getD k none))) c * ((c + 2 : Nat) : Rat) * p2 (-53) + ((c : Rat) + absR (fv (ent xs c i i))) * p2 (-1070) := by
  unfold backD at h
  by_cases h1 : (⟨(c : Int), xs, rws, trn⟩ : FacD).ok = false
  · rw [if_pos h1] at h; cases (Prod.mk.inj h).2
  · rw [if_neg h1] at h
    dsimp only at h
    rw [Int.toNat_natCast] at h
    have hck : checkP (c : Int) xs rws trn = true := by simpa [FacD.ok] using h1
    have hT := tri_ok hck (fun a l _ _ => hw _)
    by_cases h2 : singD xs c = true
    · rw [if_pos h2] at h; cases (Prod.mk.inj h).2
    · rw [if_neg h2] at h
      unfold answD at h
      by_cases h3 : (backT xs c c).any (fun x => !numF x) = true
      · rw [if_pos h3] at h; cases (Prod.mk.inj h).2
      · rw [if_neg h3] at h
        obtain rfl := (Prod.mk.inj h).1
        have hlen := backT_len xs c c
        have hget : ∀ i, i < c → (backT xs c c).getD i none = fdiv (lessF (ent xs c i c) (fun k => ent xs c i (i + 1 + k)) (fun k => (backT xs c c).getD (i + 1 + k) none) (c - (i + 1))) (ent xs c i i) := by
          intro i hi
          have e := backT_drop xs c i (c - i) 0 (by omega)
          rw [Nat.add_zero] at e
          rw [← e]
          obtain ⟨n, hn⟩ : ∃ n, c - i = n + 1 := ⟨c - i - 1, by omega⟩
          rw [hn]
          have e2 : c - (n + 1) = i := by omega
          show fdiv (lessF (ent xs c (c - (n + 1)) c) (fun k => ent xs c (c - (n + 1)) (c - (n + 1) + 1 + k)) (fun k => (backT xs c n).getD k none) n) (ent xs c (c - (n + 1)) (c - (n + 1))) = _
          rw [e2, show c - (i + 1) = n by omega]
          congr 1
          refine lessF_congr n (fun k _ => rfl) (fun k _ => ?_)
          exact backT_drop xs c (i + 1) n k (by omega)
        have hnum : ∀ k, k < c → Lv.Fn ((backT xs c c).getD k none) := by
          intro k hk
          refine fn_num ?_ ?_
          · rw [hget k hk]; exact fdiv_wb _ _
          · have h4 : (backT xs c c).any (fun x => !numF x) = false := by simpa using h3
            rw [List.any_eq_false] at h4
            have := h4 _ (getD_mem (ls := backT xs c c) (i := k) (by omega))
            simpa using this
        refine ⟨hck, hT, hlen, hnum, fun i hi => ?_⟩
        have hz : zeroF (ent xs c i i) = false := by
          have h4 : singD xs c = false := by simpa using h2
          unfold singD at h4
          rw [List.any_eq_false] at h4
          have := h4 i (List.mem_range.2 hi)
          simpa using this
        obtain ⟨t, H, hd, hd0, hdH⟩ := not_zero (ent_wb hT (by omega) (by omega)) hz
        have hx := hnum i hi
        rw [hget i hi, hd] at hx
        obtain ⟨_, _, k3⟩ := row_fits (m := c) (show c - (i + 1) + 1 ≤ c by omega) hT.h6 (fn_wb (ent_wb hT (by omega) (Nat.le_refl c))) (fun k hk => ⟨fn_wb (ent_wb hT (by omega) (by omega)), fn_wb (hnum _ (by omega))⟩) hd0 hdH hx
        rw [← hd, ← hget i hi] at k3
        have hzero : ∀ k, k < i → fv (ent xs c i k) = 0 := by
          intro k hk
          unfold ent
          rw [getD_lineP (by omega) k (by omega), if_pos hk, fv_nil]
        rw [sumQ_from (f := fun k => fv (ent xs c i k) * fv ((backT xs c c).getD k none)) hi (fun k hk => by rw [hzero k hk, Rat.zero_mul])]
        rw [sumQ_from (f := fun k => absR (fv (ent xs c i k) * fv ((backT xs c c).getD k none))) hi (fun k hk => by rw [hzero k hk, Rat.zero_mul]; unfold absR; simp)]
        exact k3
end Go.Proofs.YtmmligbkecilfaaGreatDoor
namespace Go.Proofs.YtmmligbkecilfaaGreatDoor
open Go.RowKit Lv Go.Shelf
attribute [local go_sem] Oper.semAt_some drewN_alloc drewN_setCell

theorem below_putC {w W : World} {b : Nat} {u0 u1 u2 : Value} (h : Below w.heap.size w W) (_ : Cells3 W b u0 u1 u2) (hb : w.heap.size ≤ b) (v0 v1 v2 : Value) : Below w.heap.size w (((W.setCell ⟨b, 0, none⟩ v0).setCell ⟨b, 1, none⟩ v1).setCell ⟨b, 2, none⟩ v2) := below_put3 h hb v0 v1 v2
/-- a dyad in new cells of its own -/
def DCutN (wr : World) (q : Rat) (s : Value) (wx : World) : Prop :=
  ∃ (g : Nat) (s0 : Bool) (a : Option Addr) (n c : Nat) (e : Int), s = .pointer (some ⟨g, 0, none⟩) ∧ wr.heap.size ≤ g ∧ Cells3 wx g (.bool s0) (.slice a n c) (.int .i64 e) ∧ Dq wx (.agg #[.bool s0, .slice a n c, .int .i64 e]) q 2148 ∧ Below wr.heap.size wr wx
theorem sum_bd {f : Nat → Rat} {A : Nat} : ∀ n, (∀ i, i < n → Bd (f i) (p2 (A : Int))) → Bd (sumQ f n) (p2 ((A + n : Nat) : Int))
  | 0, _ => zero_bd _
  | n + 1, h => bd_add_p2 (sum_bd n (fun i hi => h i (by omega))) (bd_p2_mono (h n (by omega)) (Nat.le_add_right _ _))
/-- a dyad in cells of its own -/
def DBox (W : World) (g : Nat) (q : Rat) (B : Nat) : Prop := ∃ (s : Bool) (a : Option Addr) (n c : Nat) (e : Int), Cells3 W g (.bool s) (.slice a n c) (.int .i64 e) ∧ Dq W (.agg #[.bool s, .slice a n c, .int .i64 e]) q B
theorem DBox.below {W W' : World} {g : Nat} {q : Rat} {B : Nat} (h : DBox W g q B) (hb : Below W.heap.size W W') : DBox W' g q B := by
  obtain ⟨s, a, n, c, e, h1, h2⟩ := h
  exact ⟨s, a, n, c, e, h1.below hb, h2.below hb⟩
theorem DBox.mono {W : World} {g : Nat} {q : Rat} {B B' : Nat} (h : DBox W g q B) (hB : B ≤ B') : DBox W g q B' := by
  obtain ⟨s, a, n, c, e, h1, h2⟩ := h
  exact ⟨s, a, n, c, e, h1, h2.mono hB⟩
theorem fn_bd {x : Option Nat} (h : Lv.Fn x) : Bd (fv x) (p2 ((1024 : Nat) : Int)) := by
  obtain ⟨s, r, rfl, hr⟩ := h
  have w := pw_val (k := 1023) (by decide) (by decide)
  rw [fv_wd s hr, vz_sg]
  refine bd_sg.2 ((bd_self (rv_nonneg r)).mono ?_)
  have h1 : rv r ≤ rv 9218868437227405312 := rv_le (by omega)
  have h2 := rv_mk 2046 4503599627370496 (by omega) (.inr (by omega))
  rw [show 2046 * 4503599627370496 + 4503599627370496 = 9218868437227405312 + 0 by omega] at h2
  rw [Nat.add_zero] at h2
  rw [h2] at h1
  have h3 : ((4503599627370496 : Nat) : Rat) = p2 52 := by
    have := p2_nat 52
    rw [show ((52 : Nat) : Int) = 52 from rfl] at this
    rw [this]
  rw [h3, ← p2_add] at h1
  exact h1
theorem rv_int (q m k s : Nat) (hm : m = k * 2 ^ s) (h1 : m ≤ 9007199254740992) (h2 : 4503599627370496 ≤ m) (he : -1074 + (q : Int) = -(s : Int)) : rv (q * 4503599627370496 + m) = (k : Rat) := by
  rw [rv_mk q m h1 (.inr h2), he, hm, Rat.natCast_mul, ← p2_nat, Rat.mul_assoc, ← p2_add, Int.add_right_neg, p2_zero, Rat.mul_one]
theorem conv_of {k b q m s : Nat} (hb : floatOfInt .f64 (k : Int) = b) (e : b = q * 4503599627370496 + m) (hlt : b < 9218868437227405312) (hm : m = k * 2 ^ s) (h1 : m ≤ 9007199254740992) (h2 : 4503599627370496 ≤ m) (he : -1074 + (q : Int) = -(s : Int)) :
    ∃ X, FW (floatOfInt .f64 (k : Int)) X ∧ Lv.Fn X ∧ fv X = (k : Rat) := by
  refine ⟨some b, ?_, ⟨false, b, rfl, hlt⟩, ?_⟩
  · rw [hb]
    exact ⟨by unfold W64; omega, by unfold ab nan; simp; omega⟩
  · have := fv_wd false hlt
    rw [show wd false b = b from rfl] at this
    rw [this]
    show rv b = _
    rw [e]
    exact rv_int q m k s hm h1 h2 he
theorem conv_ok {k : Nat} (h1 : 1 ≤ k) (h6 : k ≤ 6) : ∃ X, FW (floatOfInt .f64 (k : Int)) X ∧ Lv.Fn X ∧ fv X = (k : Rat) := by
  have hk : k = 1 ∨ k = 2 ∨ k = 3 ∨ k = 4 ∨ k = 5 ∨ k = 6 := by omega
  rcases hk with rfl | rfl | rfl | rfl | rfl | rfl
  · exact conv_of (b := 4607182418800017408) (q := 1022) (m := 4503599627370496) (s := 52) (by decide +kernel) (by decide) (by decide) (by decide) (by decide) (by decide) (by decide)
  · exact conv_of (b := 4611686018427387904) (q := 1023) (m := 4503599627370496) (s := 51) (by decide +kernel) (by decide) (by decide) (by decide) (by decide) (by decide) (by decide)
  · exact conv_of (b := 4613937818241073152) (q := 1023) (m := 6755399441055744) (s := 51) (by decide +kernel) (by decide) (by decide) (by decide) (by decide) (by decide) (by decide)
  · exact conv_of (b := 4616189618054758400) (q := 1024) (m := 4503599627370496) (s := 50) (by decide +kernel) (by decide) (by decide) (by decide) (by decide) (by decide) (by decide)
  · exact conv_of (b := 4617315517961601024) (q := 1024) (m := 5629499534213120) (s := 50) (by decide +kernel) (by decide) (by decide) (by decide) (by decide) (by decide) (by decide)
  · exact conv_of (b := 4618441417868443648) (q := 1024) (m := 6755399441055744) (s := 50) (by decide +kernel) (by decide) (by decide) (by decide) (by decide) (by decide) (by decide)
end Go.Proofs.YtmmligbkecilfaaGreatDoor
