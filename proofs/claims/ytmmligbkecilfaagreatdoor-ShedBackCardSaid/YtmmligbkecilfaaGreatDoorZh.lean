/- A line rotated into a factor: its Gram list is near to what it was, and the line's products, together. A line rotated into a factor, all of it; what the reference's bound leaves room for. -/
import Derived.Test.YtmmligbkecilfaaGreatDoorZf
import Derived.Test.YtmmligbkecilfaaGreatDoorOe
import Derived.Test.YtmmligbkecilfaaGreatDoorUg
namespace Go.Proofs.YtmmligbkecilfaaGreatDoor
open Lv
open Ieee

def sumQ (f : Nat → Rat) : Nat → Rat
  | 0 => 0
  | n + 1 => sumQ f n + f n
theorem sumQ_same {f g : Nat → Rat} : ∀ n, (∀ a, a < n → f a = g a) → sumQ f n = sumQ g n
  | 0, _ => rfl
  | n + 1, h => by unfold sumQ; rw [sumQ_same n (fun a ha => h a (by omega)), h n (by omega)]
theorem sumQ_one {f g : Nat → Rat} {j : Nat} : ∀ n, j < n → (∀ a, a < n → a ≠ j → f a = g a) → sumQ f n - sumQ g n = f j - g j
  | 0, h, _ => by omega
  | n + 1, hj, h => by
    unfold sumQ
    by_cases c : j = n
    · subst c
      rw [sumQ_same j (fun a ha => h a (by omega) (by omega))]
      grind
    · have := sumQ_one n (by omega) (fun a ha hne => h a (by omega) hne)
      rw [h n (by omega) (by omega)]
      grind
theorem sumQ_nn {f : Nat → Rat} : ∀ n, (∀ a, a < n → 0 ≤ f a) → 0 ≤ sumQ f n
  | 0, _ => Rat.le_refl
  | n + 1, h => by
    have := sumQ_nn n (fun a ha => h a (by omega))
    have := h n (by omega)
    unfold sumQ; grind
theorem sumQ_ge {f : Nat → Rat} {j : Nat} : ∀ n, j < n → (∀ a, a < n → 0 ≤ f a) → f j ≤ sumQ f n
  | 0, h, _ => by omega
  | n + 1, hj, h => by
    unfold sumQ
    by_cases c : j = n
    · subst c
      have := sumQ_nn (f := f) j (fun a ha => h a (by omega))
      grind
    · have := sumQ_ge (j := j) n (by omega) (fun a ha => h a (by omega))
      have := h n (by omega)
      grind
/-- entry l of a triangle's line a -/
def Lx (xs : List (Option Nat)) (c a l : Nat) : Rat := if l < a then 0 else fv (xs.getD (offs c a + (l - a)) none)
/-- a line's entry, from column j on -/
def Rx (r : List (Option Nat)) (j l : Nat) : Rat := if l < j then 0 else fv (r.getD l none)
/-- a triangle's Gram list -/
def Gx (xs : List (Option Nat)) (c i l : Nat) : Rat := sumQ (fun a => Lx xs c a i * Lx xs c a l) (c + 1)
/-- with what is left of a line -/
def Gmx (c j : Nat) (st : List (Option Nat) × List (Option Nat)) (i l : Nat) : Rat := Gx st.1 c i l + Rx st.2 j i * Rx st.2 j l
/-- all are numbers -/
structure AllFn (c j : Nat) (st : List (Option Nat) × List (Option Nat)) : Prop where
  tri : ∀ a l, a ≤ l → l ≤ c → Lv.Fn (st.1.getD (offs c a + (l - a)) none)
  row : ∀ l, j ≤ l → l ≤ c → Lv.Fn (st.2.getD l none)
theorem EE_nn {M N : Rat} (hM : 0 ≤ M) (hN : 0 ≤ N) : 0 ≤ EE M N := by
  obtain ⟨a1, a2, a3, a4, _⟩ := ee_bits hM hN
  unfold EE
  rw [show ee * (M + N) = ee * M + ee * N by grind]
  generalize uu * (M * N) = z2 at *
  generalize ee * M = z5 at *
  generalize ee * N = z6 at *
  generalize ee * ee = z7 at *
  grind
theorem EE_comm (M N : Rat) : EE M N = EE N M := by unfold EE; rw [show M * N = N * M by grind, show M + N = N + M by grind]

theorem step_gram {c j : Nat} {st : List (Option Nat) × List (Option Nat)} {cc ss r : Option Nat} {M : Nat → Rat} (h1 : 1 ≤ c) (h6 : c ≤ 6) (hl : st.1.length = tsz c) (hl2 : st.2.length = c + 1) (hj : j ≤ c)
    (hof : ofF (st.1.getD (offs c j) none) (st.2.getD j none) = some (cc, ss, r)) (hfn : AllFn c j st) (hM0 : ∀ l, l ≤ c → 0 ≤ M l) (hM : ∀ l, l ≤ c → M l ≤ p2 440) (hS : ∀ l, l ≤ c → Gmx c j st l l ≤ M l * M l) :
    ∃ st', rstep c j st = some st' ∧ st'.1.length = tsz c ∧ st'.2.length = c + 1 ∧ AllFn c (j + 1) st' ∧ ∀ i l, i ≤ c → l ≤ c → Bd (Gmx c (j + 1) st' i l - Gmx c j st i l) (EE (M i) (M l)) := by
  obtain ⟨st', hst, k1, k2, k3, k4⟩ := rstep_at h1 h6 hl hl2 hj hof
  refine ⟨st', hst, k1, k2, ?_⟩
  -- line j's entries and the row's
  have hjj := hfn.tri j j (Nat.le_refl _) hj
  rw [Nat.sub_self, Nat.add_zero] at hjj
  have hrj := hfn.row j (Nat.le_refl _) hj
  have hsq : ∀ l, j ≤ l → l ≤ c → fv (st.1.getD (offs c j + (l - j)) none) * fv (st.1.getD (offs c j + (l - j)) none) + fv (st.2.getD l none) * fv (st.2.getD l none) ≤ M l * M l := by
    intro l hjl hlc
    have h := hS l hlc
    unfold Gmx Gx at h
    have h2 := sumQ_ge (f := fun a => Lx st.1 c a l * Lx st.1 c a l) (j := j) (c + 1) (by omega) (fun a _ => rsq_nn _)
    have e1 : Lx st.1 c j l = fv (st.1.getD (offs c j + (l - j)) none) := by unfold Lx; rw [if_neg (by omega)]
    have e2 : Rx st.2 j l = fv (st.2.getD l none) := by unfold Rx; rw [if_neg (by omega)]
    rw [e1] at h2
    rw [e2] at h
    grind
  have hFG := hsq j (Nat.le_refl _) hj
  rw [Nat.sub_self, Nat.add_zero] at hFG
  obtain ⟨fc, fs, fr, O⟩ := ofE hjj hrj (hM0 j hj) hFG hof
  -- each column turned
  have hturn : ∀ l, j < l → l ≤ c → _ := fun l hjl hlc => turn_off fc fs (hfn.tri j l (by omega) hlc) (hfn.row l (by omega) hlc) (hM0 l hlc) (hM l hlc) O.one (hsq l (by omega) hlc)
  have hturn2 : ∀ l, j < l → l ≤ c → _ := fun l hjl hlc => turn_off fc fs (hfn.row l (by omega) hlc) (hfn.tri j l (by omega) hlc) (hM0 l hlc) (hM l hlc) O.one (by have := hsq l (by omega) hlc; grind)
  -- what stands where afterwards
  have hnew : ∀ l, j < l → l ≤ c → st'.1.getD (offs c j + (l - j)) none = fadd (fmul cc (st.1.getD (offs c j + (l - j)) none)) (fmul ss (st.2.getD l none)) := by
    intro l hjl hlc
    rw [k3, if_neg (by omega), if_pos (by omega), show j + (offs c j + (l - j) - offs c j) = l by omega]
  have hnewr : ∀ l, j < l → l ≤ c → st'.2.getD l none = fsub (fmul cc (st.2.getD l none)) (fmul ss (st.1.getD (offs c j + (l - j)) none)) := by
    intro l hjl hlc
    rw [k4, if_pos (by omega)]
  have hdiag : st'.1.getD (offs c j) none = r := by rw [k3, if_pos rfl]
  have hother : ∀ a l, a ≤ l → l ≤ c → a ≠ j → st'.1.getD (offs c a + (l - a)) none = st.1.getD (offs c a + (l - a)) none := by
    intro a l hal hlc hne
    rw [k3]
    rcases Nat.lt_or_ge a j with h | h
    · have := offs_apart c h6 a j h hj
      rw [if_neg (by omega), if_neg (by omega)]
    · have := offs_apart c h6 j a (by omega) (by omega)
      rw [if_neg (by omega), if_neg (by omega)]
  constructor
  · refine ⟨fun a l hal hlc => ?_, fun l hjl hlc => ?_⟩
    · by_cases e : a = j
      · subst e
        by_cases e2 : l = a
        · subst e2; rw [Nat.sub_self, Nat.add_zero, hdiag]; exact fr
        · rw [hnew l (by omega) hlc]; exact (hturn l (by omega) hlc).1.1
      · rw [hother a l hal hlc e]; exact hfn.tri a l hal hlc
    · rw [hnewr l (by omega) hlc]; exact (hturn2 l (by omega) hlc).2.1
  · intro i l hi hlc
    -- only line j and the row differ
    have hdiff : Gx st'.1 c i l - Gx st.1 c i l = Lx st'.1 c j i * Lx st'.1 c j l - Lx st.1 c j i * Lx st.1 c j l := by
      refine sumQ_one (c + 1) (by omega) (fun a ha hne => ?_)
      have e : ∀ l, l ≤ c → Lx st'.1 c a l = Lx st.1 c a l := by
        intro l hlc
        unfold Lx
        by_cases h : l < a
        · rw [if_pos h, if_pos h]
        · rw [if_neg h, if_neg h, hother a l (by omega) hlc hne]
      rw [e i hi, e l hlc]
    unfold Gmx
    rw [show Gx st'.1 c i l + Rx st'.2 (j + 1) i * Rx st'.2 (j + 1) l - (Gx st.1 c i l + Rx st.2 j i * Rx st.2 j l) = (Gx st'.1 c i l - Gx st.1 c i l) + (Rx st'.2 (j + 1) i * Rx st'.2 (j + 1) l - Rx st.2 j i * Rx st.2 j l) by grind, hdiff]
    have Mi := hM0 i hi
    have Ml := hM0 l hlc
    have zl : ∀ l, l < j → Lx st'.1 c j l = 0 ∧ Lx st.1 c j l = 0 ∧ Rx st'.2 (j + 1) l = 0 ∧ Rx st.2 j l = 0 := by
      intro l h
      unfold Lx Rx
      rw [if_pos h, if_pos h, if_pos (by omega), if_pos h]
      exact ⟨rfl, rfl, rfl, rfl⟩
    have ej : Lx st'.1 c j j = fv r ∧ Lx st.1 c j j = fv (st.1.getD (offs c j) none) ∧ Rx st'.2 (j + 1) j = 0 ∧ Rx st.2 j j = fv (st.2.getD j none) := by
      unfold Lx Rx
      rw [if_neg (by omega), if_neg (by omega), if_pos (by omega), if_neg (by omega), Nat.sub_self, Nat.add_zero, hdiag]
      exact ⟨rfl, rfl, rfl, rfl⟩
    have el : ∀ l, j < l → l ≤ c → Lx st'.1 c j l = fv (fadd (fmul cc (st.1.getD (offs c j + (l - j)) none)) (fmul ss (st.2.getD l none))) ∧ Lx st.1 c j l = fv (st.1.getD (offs c j + (l - j)) none) ∧
        Rx st'.2 (j + 1) l = fv (fsub (fmul cc (st.2.getD l none)) (fmul ss (st.1.getD (offs c j + (l - j)) none))) ∧ Rx st.2 j l = fv (st.2.getD l none) := by
      intro l hjl hlc
      unfold Lx Rx
      rw [if_neg (by omega), if_neg (by omega), if_neg (by omega), if_neg (by omega), hnew l hjl hlc, hnewr l hjl hlc]
      exact ⟨rfl, rfl, rfl, rfl⟩
    have z0 : Bd (0 : Rat) (EE (M i) (M l)) := bd_zero (EE_nn Mi Ml)
    rcases Nat.lt_trichotomy i j with hi2 | hi2 | hi2
    · obtain ⟨a1, a2, a3, a4⟩ := zl i hi2
      rw [a1, a2, a3, a4]
      simpa [Rat.sub_eq_add_neg, Rat.add_zero] using z0
    · subst hi2
      obtain ⟨a1, a2, a3, a4⟩ := ej
      rcases Nat.lt_trichotomy l i with hl3 | hl3 | hl3
      · obtain ⟨b1, b2, b3, b4⟩ := zl l hl3
        rw [b1, b2, b3, b4]
        simpa [Rat.sub_eq_add_neg, Rat.add_zero] using z0
      · subst hl3
        rw [a1, a2, a3, a4]
        have bP := cauchy (a := fv cc) (b := fv ss) (c := fv (st.1.getD (offs c l) none)) (d := fv (st.2.getD l none)) (M := 10001/10000) (N := M l) (by grind) Ml (one_le O.one) hFG
        have := pair_self Ml O hFG bP
        rw [show fv r * fv r - fv (st.1.getD (offs c l) none) * fv (st.1.getD (offs c l) none) + (0 * 0 - fv (st.2.getD l none) * fv (st.2.getD l none)) = fv r * fv r - (fv (st.1.getD (offs c l) none) * fv (st.1.getD (offs c l) none) + fv (st.2.getD l none) * fv (st.2.getD l none)) by grind]
        exact this
      · obtain ⟨b1, b2, b3, b4⟩ := el l hl3 hlc
        obtain ⟨⟨_, t2, t3⟩, _⟩ := hturn l hl3 hlc
        obtain ⟨_, ⟨_, _, t4⟩⟩ := hturn2 l hl3 hlc
        rw [a1, a2, a3, a4, b1, b2, b4]
        have bP := cauchy (a := fv cc) (b := fv ss) (c := fv (st.1.getD (offs c i) none)) (d := fv (st.2.getD i none)) (M := 10001/10000) (N := M i) (by grind) Mi (one_le O.one) hFG
        have := pair_one Mi Ml O hFG (hsq l (by omega) hlc) bP t2 t3 t4
        rw [Rat.zero_mul]
        refine Eq.mp (congrArg (fun z => Bd z (EE (M i) (M l))) ?_) this
        grind
    · obtain ⟨a1, a2, a3, a4⟩ := el i hi2 hi
      obtain ⟨⟨_, s2, s3⟩, _⟩ := hturn i hi2 hi
      obtain ⟨_, ⟨_, s5, s4⟩⟩ := hturn2 i hi2 hi
      rcases Nat.lt_trichotomy l j with hl3 | hl3 | hl3
      · obtain ⟨b1, b2, b3, b4⟩ := zl l hl3
        rw [b1, b2, b3, b4]
        simpa [Rat.sub_eq_add_neg, Rat.add_zero] using z0
      · subst hl3
        obtain ⟨b1, b2, b3, b4⟩ := ej
        rw [a1, a2, a4, b1, b2, b3, b4]
        have bP := cauchy (a := fv cc) (b := fv ss) (c := fv (st.1.getD (offs c l) none)) (d := fv (st.2.getD l none)) (M := 10001/10000) (N := M l) (by grind) Ml (one_le O.one) hFG
        have := pair_one Ml Mi O hFG (hsq i (by omega) hi) bP s2 s3 s4
        rw [Rat.mul_zero, EE_comm]
        refine Eq.mp (congrArg (fun z => Bd z (EE (M l) (M i))) ?_) this
        grind
      · obtain ⟨b1, b2, b3, b4⟩ := el l hl3 hlc
        obtain ⟨⟨_, t2, t3⟩, _⟩ := hturn l hl3 hlc
        obtain ⟨_, ⟨_, t5, t4⟩⟩ := hturn2 l hl3 hlc
        rw [a1, a2, a3, a4, b1, b2, b3, b4]
        have := pair_both Mi Ml O.one (hsq i (by omega) hi) (hsq l (by omega) hlc) s2 s5 t2 t5 s3 s4 t3 t4
        refine Eq.mp (congrArg (fun z => Bd z (EE (M i) (M l))) ?_) this
        grind
end Go.Proofs.YtmmligbkecilfaaGreatDoor
namespace Go.Proofs.YtmmligbkecilfaaGreatDoor
open Lv
open Ieee

theorem natr_succ (n : Nat) : ((n + 1 : Nat) : Rat) = (n : Rat) + 1 := by norm_cast
theorem rline_gram {c : Nat} {M : Nat → Rat} (h1 : 1 ≤ c) (h6 : c ≤ 6) (hM0 : ∀ l, l ≤ c → 0 ≤ M l) (hM : ∀ l, l ≤ c → M l ≤ p2 440) : ∀ (n j : Nat) (st : List (Option Nat) × List (Option Nat)) (ys : List (Option Nat)), n + j = c + 1 → st.1.length = tsz c → st.2.length = c + 1 →
    AllFn c j st → (∀ l, l ≤ c → Gmx c j st l l + (n : Rat) * EE (M l) (M l) ≤ M l * M l) → rlineFrom c n j st = some ys →
    ys.length = tsz c ∧ (∀ a l, a ≤ l → l ≤ c → Lv.Fn (ys.getD (offs c a + (l - a)) none)) ∧ ∀ i l, i ≤ c → l ≤ c → Bd (Gx ys c i l - Gmx c j st i l) ((n : Rat) * EE (M i) (M l))
  | 0, j, st, ys, hnj, hl, _, hfn, _, h => by
    obtain rfl := Option.some.inj h
    refine ⟨hl, hfn.tri, fun i l hi hlc => ?_⟩
    unfold Gmx Rx
    rw [if_pos (by omega), Rat.zero_mul, show ((0 : Nat) : Rat) = 0 from rfl, Rat.zero_mul]
    refine Eq.mp (congrArg (fun z => Bd z 0) ?_) (bd_zero (Rat.le_refl (a := 0)))
    grind
  | n + 1, j, st, ys, hnj, hl, hl2, hfn, hS, h => by
    have hj : j ≤ c := by omega
    unfold rlineFrom at h
    cases hof : ofF (st.1.getD (offs c j) none) (st.2.getD j none) with
    | none =>
      have : rstep c j st = none := by unfold rstep; rw [hof]
      rw [this] at h
      cases h
    | some v =>
      obtain ⟨cc, ss, r⟩ := v
      have hS0 : ∀ l, l ≤ c → Gmx c j st l l ≤ M l * M l := by
        intro l hlc
        have h1 := hS l hlc
        have h2 := rmul_nn (show (0 : Rat) ≤ ((n + 1 : Nat) : Rat) by exact_mod_cast Nat.zero_le _) (EE_nn (hM0 l hlc) (hM0 l hlc))
        grind
      obtain ⟨st', e, k1, k2, k3, k4⟩ := step_gram h1 h6 hl hl2 hj hof hfn hM0 hM hS0
      rw [e] at h
      dsimp only at h
      obtain ⟨q1, q2, q3⟩ := rline_gram h1 h6 hM0 hM n (j + 1) st' ys (by omega) k1 k2 k3 (fun l hlc => by
        have h1 := hS l hlc
        have h2 := k4 l l hlc hlc
        rw [natr_succ] at h1
        unfold Bd at h2
        grind) h
      refine ⟨q1, q2, fun i l hi hlc => ?_⟩
      have h3 := (q3 i l hi hlc).add (k4 i l hi hlc)
      rw [natr_succ]
      rw [show Gx ys c i l - Gmx c (j + 1) st' i l + (Gmx c (j + 1) st' i l - Gmx c j st i l) = Gx ys c i l - Gmx c j st i l by grind] at h3
      exact h3.mono (by grind)

/-! ### the bound -/
/-- what a column's norm is taken to be -/
def MM (U : Rat) (K : Nat) : Rat := (1 + p2 (-30)) * U + 15 * ((K : Rat) * ee)
theorem t30 : 0 < p2 (-30) ∧ p2 (-30) * 1073741824 = 1 := by
  refine ⟨p2_pos _, ?_⟩
  have e1 : p2 (-30) * p2 30 = 1 := by rw [← p2_add]; exact p2_zero
  have e2 := p2_nat 30
  rw [show ((30 : Nat) : Int) = 30 from rfl] at e2
  have e3 : ((2 ^ 30 : Nat) : Rat) = 1073741824 := by norm_cast
  rw [e2, e3] at e1
  exact e1
theorem MM_nn {U : Rat} (hU : 0 ≤ U) (K : Nat) : 0 ≤ MM U K := by
  have h1 := rmul_nn (Rat.le_of_lt t30.1) hU
  have h2 := rmul_nn (ratn_nn K) (Rat.le_of_lt ee_pos)
  unfold MM; grind
theorem MM_sq {U S : Rat} (hU : 0 ≤ U) (hS : S ≤ U * U) {K : Nat} (hK : K ≤ 4096) : S + (K : Rat) * EE (MM U K) (MM U K) ≤ MM U K * MM U K := by
  have hk0 := ratn_nn K
  have hk1 : (K : Rat) ≤ 4096 := by exact_mod_cast hK
  have ht := t30
  have hu := uu_val
  have hup := uu_pos
  have he0 := Rat.le_of_lt ee_pos
  have hKe0 := rmul_nn hk0 he0
  -- the integer K is no greater than its square
  have hKK : (K : Rat) ≤ (K : Rat) * (K : Rat) := by
    have : K ≤ K * K := by
      rcases Nat.eq_zero_or_pos K with h | h
      · subst h; exact Nat.le_refl _
      · exact Nat.le_mul_of_pos_left K h
    exact_mod_cast this
  unfold EE MM
  generalize (K : Rat) = k at *
  generalize p2 (-30) = t at *
  obtain ⟨M, hM⟩ : ∃ M, (1 + t) * U + 15 * (k * ee) = M := ⟨_, rfl⟩
  rw [hM]
  have tU := rmul_nn (Rat.le_of_lt ht.1) hU
  have hM0 : 0 ≤ M := by rw [← hM]; grind
  have hMM := rsq_nn M
  have uK : 24 * (uu * k) ≤ 1/50 * t := by
    have h1 := rmul_mono (Rat.le_of_lt hup) hk1
    grind
  have a1 : 24 * (uu * k) * (M * M) ≤ 1/50 * t * (M * M) := Rat.mul_le_mul_of_nonneg_right uK hMM
  have eM : k * ee * M = (1 + t) * (k * ee * U) + 15 * (k * ee * (k * ee)) := by rw [← hM]; grind
  have MMe : M * M = (1 + t) * (1 + t) * (U * U) + 30 * (1 + t) * (k * ee * U) + 225 * (k * ee * (k * ee)) := by rw [← hM]; grind
  have kee : k * (ee * ee) ≤ k * ee * (k * ee) := by
    have h1 := Rat.mul_le_mul_of_nonneg_right hKK (rmul_nn he0 he0)
    grind
  have kU := rmul_nn hKe0 hU
  have kk := rsq_nn (k * ee)
  have UU := rsq_nn U
  have goal1 : k * (24 * (uu * (M * M)) + 63/10 * (ee * (M + M)) + 20 * (ee * ee)) = 24 * (uu * k) * (M * M) + 126/10 * (k * ee * M) + 20 * (k * (ee * ee)) := by grind
  rw [goal1]
  generalize hz1 : k * ee * U = z1 at *
  generalize hz2 : k * ee * (k * ee) = z2 at *
  generalize hz3 : U * U = z3 at *
  generalize hz4 : k * (ee * ee) = z4 at *
  generalize hz5 : k * ee * M = z5 at *
  generalize hz6 : M * M = z6 at *
  generalize hz7 : 24 * (uu * k) * z6 = z7 at *
  have tt : t ≤ 1/1000000 := by grind
  have b1 : t * z1 ≤ 1/1000000 * z1 := Rat.mul_le_mul_of_nonneg_right tt kU
  have b2 : t * z2 ≤ 1/1000000 * z2 := Rat.mul_le_mul_of_nonneg_right tt kk
  have b3 : t * (t * z3) ≤ 1/1000000 * (t * z3) := Rat.mul_le_mul_of_nonneg_right tt (rmul_nn (Rat.le_of_lt ht.1) UU)
  have b4 : t * (t * (t * z3)) ≤ 1/1000000 * (t * (t * z3)) := Rat.mul_le_mul_of_nonneg_right tt (rmul_nn (Rat.le_of_lt ht.1) (rmul_nn (Rat.le_of_lt ht.1) UU))
  have b5 : t * (t * z1) ≤ 1/1000000 * (t * z1) := Rat.mul_le_mul_of_nonneg_right tt (rmul_nn (Rat.le_of_lt ht.1) kU)
  have c3 := rmul_nn (Rat.le_of_lt ht.1) UU
  have c4 := rmul_nn (Rat.le_of_lt ht.1) c3
  have c1 := rmul_nn (Rat.le_of_lt ht.1) kU
  have tz6 : t * z6 = t * z3 + 2 * (t * (t * z3)) + t * (t * (t * z3)) + 30 * (t * z1) + 30 * (t * (t * z1)) + 225 * (t * z2) := by rw [MMe]; grind
  have MMe' : z6 = z3 + 2 * (t * z3) + t * (t * z3) + 30 * z1 + 30 * (t * z1) + 225 * z2 := by rw [MMe]; grind
  have eM' : z5 = z1 + t * z1 + 15 * z2 := by rw [eM]; grind
  have a1' : z7 ≤ 1/50 * (t * z6) := by rw [show 1/50 * (t * z6) = 1/50 * t * z6 by grind]; exact a1
  clear a1 MMe eM hz1 hz2 hz3 hz4 hz5 hz6 hz7 goal1 hM uK hKK hk1 hu
  generalize t * (t * (t * z3)) = y1 at *
  generalize t * (t * z3) = y2 at *
  generalize t * z3 = y3 at *
  generalize t * (t * z1) = y4 at *
  generalize t * z1 = y5 at *
  generalize t * z2 = y6 at *
  generalize t * z6 = y7 at *
  grind
theorem bnd_room {U V : Rat} (hU : 0 ≤ U) (hV : 0 ≤ V) {K k : Nat} (hK : K ≤ 4096) (hk : K ≤ 2 * k) : (K : Rat) * EE (MM U K) (MM V K) ≤ bndQ U V k := by
  have hk0 := ratn_nn K
  have hk00 := ratn_nn k
  have hk1 : (K : Rat) ≤ 4096 := by exact_mod_cast hK
  have hk2 : (K : Rat) ≤ 2 * (k : Rat) := by exact_mod_cast hk
  have ht := t30
  have hu := uu_val
  have hup := uu_pos
  have hep := ee_pos
  have he0 := Rat.le_of_lt ee_pos
  have kk : (k : Rat) ≤ (k : Rat) * (k : Rat) := by
    have : k ≤ k * k := by
      rcases Nat.eq_zero_or_pos k with h | h
      · subst h; exact Nat.le_refl _
      · exact Nat.le_mul_of_pos_left k h
    exact_mod_cast this
  have p1060 : p2 (-1060) = 32768 * ee := by
    have e1 := p2_nat 15
    rw [show ((15 : Nat) : Int) = 15 from rfl] at e1
    have e3 : ((2 ^ 15 : Nat) : Rat) = 32768 := by norm_cast
    rw [e3] at e1
    unfold ee
    rw [← e1, ← p2_add]; rfl
  have p2140 : p2 (-2140) = 1024 * (ee * ee) := by
    have e1 := p2_nat 10
    rw [show ((10 : Nat) : Int) = 10 from rfl] at e1
    have e3 : ((2 ^ 10 : Nat) : Rat) = 1024 := by norm_cast
    rw [e3] at e1
    unfold ee
    rw [← e1, ← p2_add, ← p2_add]; rfl
  have c64 : ((64 * k : Nat) : Rat) = 64 * (k : Rat) := by norm_cast
  unfold bndQ EE MM
  rw [p1060, p2140, c64, show p2 (-53) = uu from rfl]
  generalize (K : Rat) = a at *
  generalize (k : Rat) = b at *
  generalize p2 (-30) = t at *
  -- three kinds of parts
  have tt : t ≤ 1/1000000 := by grind
  have uU := rmul_nn (Rat.le_of_lt hup) (rmul_nn hU hV)
  have e1 : a * (24 * (uu * (((1 + t) * U + 15 * (a * ee)) * ((1 + t) * V + 15 * (a * ee)))) + 63/10 * (ee * ((1 + t) * U + 15 * (a * ee) + ((1 + t) * V + 15 * (a * ee)))) + 20 * (ee * ee)) =
      24 * ((1 + t) * (1 + t)) * (a * (uu * (U * V))) + (360 * (uu * a) * (1 + t) + 63/10 * (1 + t)) * (a * (ee * (U + V))) + (5400 * (uu * a) + 189) * (a * a * (ee * ee)) + 20 * (a * (ee * ee)) := by grind
  rw [e1]
  have ua : uu * a ≤ 1/1000000 := by
    have h1 := rmul_mono (Rat.le_of_lt hup) hk1
    grind
  have ua0 := rmul_nn (Rat.le_of_lt hup) hk0
  have t2 : (1 + t) * (1 + t) ≤ 11/10 := by
    have := Rat.mul_le_mul_of_nonneg_right tt (Rat.le_of_lt ht.1)
    grind
  have aUV0 := rmul_nn hk0 uU
  have eUV := rmul_nn he0 (show 0 ≤ U + V by grind)
  have aeUV0 := rmul_nn hk0 eUV
  have ee0 := rmul_nn he0 he0
  have f1 : 24 * ((1 + t) * (1 + t)) * (a * (uu * (U * V))) ≤ 27 * (a * (uu * (U * V))) := Rat.mul_le_mul_of_nonneg_right (by grind) aUV0
  have f2 : a * (uu * (U * V)) ≤ 2 * b * (uu * (U * V)) := Rat.mul_le_mul_of_nonneg_right hk2 uU
  have uat : uu * a * (1 + t) ≤ 1/1000000 * (1 + t) := Rat.mul_le_mul_of_nonneg_right ua (by grind)
  have f3 : (360 * (uu * a) * (1 + t) + 63/10 * (1 + t)) * (a * (ee * (U + V))) ≤ 7 * (a * (ee * (U + V))) := Rat.mul_le_mul_of_nonneg_right (by grind) aeUV0
  have f4 : a * (ee * (U + V)) ≤ 2 * b * (ee * (U + V)) := Rat.mul_le_mul_of_nonneg_right hk2 eUV
  have aa : a * a ≤ 2 * b * (2 * b) := rsq_le hk0 hk2
  have f5 : (5400 * (uu * a) + 189) * (a * a * (ee * ee)) ≤ 190 * (a * a * (ee * ee)) := Rat.mul_le_mul_of_nonneg_right (by grind) (rmul_nn (rsq_nn a) ee0)
  have f6 : a * a * (ee * ee) ≤ 2 * b * (2 * b) * (ee * ee) := Rat.mul_le_mul_of_nonneg_right aa ee0
  have f7 : a * (ee * ee) ≤ 2 * b * (ee * ee) := Rat.mul_le_mul_of_nonneg_right hk2 ee0
  have f8 : b * (ee * ee) ≤ b * b * (ee * ee) := Rat.mul_le_mul_of_nonneg_right kk ee0
  have g1 := rmul_nn hk00 uU
  have g2 := rmul_nn hk00 eUV
  have g3 := rmul_nn (rsq_nn b) ee0
  have e2 : U * V * (64 * b) * uu + (U + V) * b * (32768 * ee) + 1024 * (ee * ee) * b * b = 64 * (b * (uu * (U * V))) + 32768 * (b * (ee * (U + V))) + 1024 * (b * b * (ee * ee)) := by grind
  rw [e2]
  rw [show 2 * b * (uu * (U * V)) = 2 * (b * (uu * (U * V))) by grind] at f2
  rw [show 2 * b * (ee * (U + V)) = 2 * (b * (ee * (U + V))) by grind] at f4
  rw [show 2 * b * (2 * b) * (ee * ee) = 4 * (b * b * (ee * ee)) by grind] at f6
  rw [show 2 * b * (ee * ee) = 2 * (b * (ee * ee)) by grind] at f7
  clear e1 e2 uat aa t2 ua tt
  generalize 24 * ((1 + t) * (1 + t)) * (a * (uu * (U * V))) = w1 at *
  generalize (360 * (uu * a) * (1 + t) + 63/10 * (1 + t)) * (a * (ee * (U + V))) = w2 at *
  generalize (5400 * (uu * a) + 189) * (a * a * (ee * ee)) = w3 at *
  generalize a * (uu * (U * V)) = x1 at *
  generalize b * (uu * (U * V)) = x2 at *
  generalize a * (ee * (U + V)) = x3 at *
  generalize b * (ee * (U + V)) = x4 at *
  generalize a * a * (ee * ee) = x5 at *
  generalize b * b * (ee * ee) = x6 at *
  generalize a * (ee * ee) = x7 at *
  generalize b * (ee * ee) = x8 at *
  grind
end Go.Proofs.YtmmligbkecilfaaGreatDoor
