/- Solving: the answers against the factor's Gram list, by the rows' sum. SolveNormal, walked. SolveRidge, walked. -/
import Derived.Test.YtnboegeljaplbaaGreatZq
import Derived.Test.YtnboegeljaplbaaGreatVl
import Derived.Test.YtnboegeljaplbaaGreatZv
namespace Go.Proofs.YtnboegeljaplbaaGreat
open Lv
open Ieee

theorem sumQ_add {f g : Nat → Rat} : ∀ n, sumQ (fun k => f k + g k) n = sumQ f n + sumQ g n
  | 0 => by show (0 : Rat) = 0 + 0; grind
  | n + 1 => by
    show sumQ (fun k => f k + g k) n + (f n + g n) = sumQ f n + f n + (sumQ g n + g n)
    rw [sumQ_add n]; grind
theorem sumQ_mul {f : Nat → Rat} (c : Rat) : ∀ n, sumQ (fun k => c * f k) n = c * sumQ f n
  | 0 => by show (0 : Rat) = c * 0; grind
  | n + 1 => by
    show sumQ (fun k => c * f k) n + c * f n = c * (sumQ f n + f n)
    rw [sumQ_mul c n]; grind
theorem sumQ_le {f g : Nat → Rat} : ∀ n, (∀ k, k < n → f k ≤ g k) → sumQ f n ≤ sumQ g n
  | 0, _ => Rat.le_refl
  | n + 1, h => by
    have h1 := sumQ_le n (fun k hk => h k (by omega))
    have h2 := h n (by omega)
    show sumQ f n + f n ≤ sumQ g n + g n
    grind
/-- sums one way and the other -/
theorem sumQ_swap {f : Nat → Nat → Rat} (m : Nat) : ∀ n, sumQ (fun a => sumQ (fun j => f a j) m) n = sumQ (fun j => sumQ (fun a => f a j) n) m
  | 0 => by
    show (0 : Rat) = _
    rw [sumQ_zero (f := fun j => sumQ (fun a => f a j) 0) m (fun k _ => rfl)]
  | n + 1 => by
    show sumQ (fun a => sumQ (fun j => f a j) m) n + sumQ (fun j => f n j) m = sumQ (fun j => sumQ (fun a => f a j) n + f n j) m
    rw [sumQ_swap m n, sumQ_add]
theorem sumQ_bd {f g : Nat → Rat} : ∀ n, (∀ k, k < n → Bd (f k) (g k)) → Bd (sumQ f n) (sumQ g n)
  | 0, _ => bd_zero Rat.le_refl
  | n + 1, h => (sumQ_bd n (fun k hk => h k (by omega))).add (h n (by omega))
/-- Cauchy, for lists -/
theorem cauchyN {p q : Nat → Rat} : ∀ n, sumQ (fun a => p a * q a) n * sumQ (fun a => p a * q a) n ≤ sumQ (fun a => p a * p a) n * sumQ (fun a => q a * q a) n
  | 0 => by show (0 : Rat) * 0 ≤ 0 * 0; grind
  | n + 1 => by
    have ih := cauchyN (p := p) (q := q) n
    have hA := sumQ_nn (f := fun a => p a * p a) n (fun a _ => rsq_nn _)
    have hB := sumQ_nn (f := fun a => q a * q a) n (fun a _ => rsq_nn _)
    show (sumQ (fun a => p a * q a) n + p n * q n) * (sumQ (fun a => p a * q a) n + p n * q n) ≤ (sumQ (fun a => p a * p a) n + p n * p n) * (sumQ (fun a => q a * q a) n + q n * q n)
    generalize sumQ (fun a => p a * q a) n = S at *
    generalize sumQ (fun a => p a * p a) n = A at *
    generalize sumQ (fun a => q a * q a) n = B at *
    generalize p n = x at *
    generalize q n = y at *
    have hx := rsq_nn x
    have hy := rsq_nn y
    have n1 := rmul_nn hA hy
    have n2 := rmul_nn hB hx
    have h1 : Bd (2 * (S * (x * y))) (A * (y * y) + B * (x * x)) := by
      refine bd_of_sq (by grind) ?_
      have e1 : 2 * (S * (x * y)) * (2 * (S * (x * y))) = 4 * ((S * S) * ((x * x) * (y * y))) := by grind
      have e2 := Rat.mul_le_mul_of_nonneg_right ih (rmul_nn hx hy)
      have e3 := rsq_nn (A * (y * y) - B * (x * x))
      rw [e1]
      grind
    unfold Bd at h1
    grind
theorem cauchyB {p q : Nat → Rat} {U V : Rat} {n : Nat} (hU : 0 ≤ U) (hV : 0 ≤ V) (h1 : sumQ (fun a => p a * p a) n ≤ U * U) (h2 : sumQ (fun a => q a * q a) n ≤ V * V) : sumQ (fun a => p a * q a) n ≤ U * V := by
  refine (bd_of_sq (rmul_nn hU hV) (Rat.le_trans (cauchyN n) ?_)).2
  have h3 := rmul_le (sumQ_nn (f := fun a => p a * p a) n (fun a _ => rsq_nn _)) (sumQ_nn (f := fun a => q a * q a) n (fun a _ => rsq_nn _)) h1 h2
  rw [show U * V * (U * V) = U * U * (V * V) by grind]
  exact h3
theorem absR_sq (q : Rat) : absR q * absR q = q * q := absQ_sq q
theorem absR_mul (a b : Rat) : absR (a * b) = absR a * absR b := by
  have h1 := absR_nn (a * b)
  have h2 := rmul_nn (absR_nn a) (absR_nn b)
  have e : absR (a * b) * absR (a * b) = (absR a * absR b) * (absR a * absR b) := by
    rw [absR_sq, show absR a * absR b * (absR a * absR b) = (absR a * absR a) * (absR b * absR b) by grind, absR_sq, absR_sq]; grind
  have a1 := (bd_of_sq h2 (show absR (a * b) * absR (a * b) ≤ _ by rw [e]; exact Rat.le_refl)).2
  have a2 := (bd_of_sq h1 (show (absR a * absR b) * (absR a * absR b) ≤ _ by rw [e]; exact Rat.le_refl)).2
  grind
theorem absR_bd (q : Rat) : Bd q (absR q) := absQ_bd q
/-- the rows' residuals, summed: rows L a, answers x, norms U -/
theorem normal_sum {c i : Nat} {L : Nat → Nat → Rat} {x U : Nat → Rat} (h1 : 1 ≤ c) (h6 : c ≤ 6) (hi : i < c) (hU : ∀ l, l ≤ c → 0 ≤ U l) (hsq : ∀ l, l ≤ c → sumQ (fun a => L a l * L a l) (c + 1) ≤ U l * U l) (hlast : ∀ l, l < c → L c l = 0)
    (hres : ∀ a, a < c → absR (L a c - sumQ (fun j => L a j * x j) c) ≤ sumQ (fun j => absR (L a j * x j)) c * ((c + 2 : Nat) : Rat) * p2 (-53) + ((c : Rat) + absR (L a a)) * p2 (-1070)) :
    Bd (sumQ (fun a => L a i * L a c) (c + 1) - sumQ (fun j => sumQ (fun a => L a i * L a j) (c + 1) * x j) c)
      (bndQ (U i) (U c) 1 + sumQ (fun j => bndQ (U i) (U j) 1 * absR (x j)) c + (U i + p2 (-1060)) * (1 + sumQ (fun l => U l) (c + 1)) * p2 (-1060)) := by
  have hUi := hU i (by omega)
  -- the entries are no greater than the norms
  have hent : ∀ a l, a ≤ c → l ≤ c → absR (L a l) ≤ U l := by
    intro a l ha hl
    refine (bd_of_sq (hU l hl) ?_).2
    rw [absR_sq]
    exact Rat.le_trans (sumQ_ge (f := fun a => L a l * L a l) (j := a) (c + 1) (by omega) (fun _ _ => rsq_nn _)) (hsq l hl)
  -- the sum by rows
  have e1 : sumQ (fun a => L a i * L a c) (c + 1) - sumQ (fun j => sumQ (fun a => L a i * L a j) (c + 1) * x j) c = sumQ (fun a => L a i * (L a c - sumQ (fun j => L a j * x j) c)) c := by
    have s1 : ∀ l, sumQ (fun a => L a i * L a l) (c + 1) = sumQ (fun a => L a i * L a l) c := by
      intro l
      show sumQ (fun a => L a i * L a l) c + L c i * L c l = _
      rw [hlast i hi]; grind
    rw [s1 c, sumQ_same (f := fun j => sumQ (fun a => L a i * L a j) (c + 1) * x j) (g := fun j => sumQ (fun a => L a i * (L a j * x j)) c) c (fun j _ => by
      rw [s1 j, Rat.mul_comm, ← sumQ_mul]
      exact sumQ_same c (fun a _ => by grind))]
    rw [← sumQ_swap c c (f := fun a j => L a i * (L a j * x j))]
    have s2 : sumQ (fun a => sumQ (fun j => L a i * (L a j * x j)) c) c = sumQ (fun a => L a i * sumQ (fun j => L a j * x j) c) c := sumQ_same c (fun a _ => sumQ_mul _ c)
    rw [s2]
    have s3 := sumQ_add (f := fun a => L a i * (L a c - sumQ (fun j => L a j * x j) c)) (g := fun a => L a i * sumQ (fun j => L a j * x j) c) c
    rw [sumQ_same (g := fun a => L a i * L a c) c (fun a _ => by grind)] at s3
    rw [s3]; grind
  rw [e1]
  obtain ⟨N, hN⟩ : ∃ N : Rat, ((c + 2 : Nat) : Rat) = N := ⟨_, rfl⟩
  rw [hN] at hres
  have hN8 : N ≤ 8 := by rw [← hN]; exact_mod_cast (show c + 2 ≤ 8 by omega)
  have hN0 : 0 ≤ N := by rw [← hN]; exact ratn_nn _
  have hc6 : (c : Rat) ≤ 6 := by exact_mod_cast h6
  have hc0 := ratn_nn c
  have hu0 := Rat.le_of_lt uu_pos
  have he0 := Rat.le_of_lt ee_pos
  -- each row's part
  have hrow : ∀ a, a < c → Bd (L a i * (L a c - sumQ (fun j => L a j * x j) c)) (sumQ (fun j => N * uu * (absR (L a i) * absR (L a j) * absR (x j))) c + (6 * U i + U i * U a) * (32 * ee)) := by
    intro a ha
    have b1 := (absR_bd (L a i)).mul ((bd_absR.2 (hres a ha)))
    refine b1.mono ?_
    have s1 : sumQ (fun j => N * uu * (absR (L a i) * absR (L a j) * absR (x j))) c = absR (L a i) * (sumQ (fun j => absR (L a j * x j)) c * N * p2 (-53)) := by
      rw [show p2 (-53) = uu from rfl, show absR (L a i) * (sumQ (fun j => absR (L a j * x j)) c * N * uu) = (N * uu * absR (L a i)) * sumQ (fun j => absR (L a j * x j)) c by grind, ← sumQ_mul]
      exact sumQ_same c (fun j _ => by rw [absR_mul]; grind)
    rw [s1, p1070]
    have t1 := hent a i (by omega) (by omega)
    have t2 := hent a a (by omega) (by omega)
    have t3 := rmul_le (absR_nn (L a i)) (show 0 ≤ (c : Rat) + absR (L a a) by have := absR_nn (L a a); grind) t1 (show (c : Rat) + absR (L a a) ≤ 6 + U a by grind)
    have t4 := Rat.mul_le_mul_of_nonneg_right t3 (show 0 ≤ 32 * ee by grind)
    grind
  have hsum := sumQ_bd c hrow
  refine hsum.mono ?_
  clear hsum hrow e1 hres
  rw [sumQ_add, sumQ_swap]
  -- the first part: column by column
  have f1 : ∀ j, j < c → sumQ (fun a => N * uu * (absR (L a i) * absR (L a j) * absR (x j))) c ≤ bndQ (U i) (U j) 1 * absR (x j) := by
    intro j hj
    have s1 : sumQ (fun a => N * uu * (absR (L a i) * absR (L a j) * absR (x j))) c = N * uu * absR (x j) * sumQ (fun a => absR (L a i) * absR (L a j)) c := by
      rw [← sumQ_mul]
      exact sumQ_same c (fun a _ => by grind)
    have hUj := hU j (by omega)
    have cb : sumQ (fun a => absR (L a i) * absR (L a j)) c ≤ U i * U j := by
      refine cauchyB hUi hUj ?_ ?_
      · rw [sumQ_same (g := fun a => L a i * L a i) c (fun a _ => absR_sq _)]
        exact Rat.le_trans (sumQ_mono (c + 1) (by omega) (fun a _ => rsq_nn _)) (hsq i (by omega))
      · rw [sumQ_same (g := fun a => L a j * L a j) c (fun a _ => absR_sq _)]
        exact Rat.le_trans (sumQ_mono (c + 1) (by omega) (fun a _ => rsq_nn _)) (hsq j (by omega))
    rw [s1]
    have xn := absR_nn (x j)
    have ux := rmul_nn hu0 xn
    have Nux := rmul_nn hN0 ux
    have t1 := rmul_mono (show 0 ≤ N * uu * absR (x j) by grind) cb
    have UU := rmul_nn hUi hUj
    have t2 : N * (uu * absR (x j) * (U i * U j)) ≤ 8 * (uu * absR (x j) * (U i * U j)) := Rat.mul_le_mul_of_nonneg_right hN8 (rmul_nn ux UU)
    have t3 : 64 * uu * (U i * U j) ≤ bndQ (U i) (U j) 1 := by
      unfold bndQ
      rw [show p2 (-53) = uu from rfl, show ((64 * 1 : Nat) : Rat) = 64 by norm_cast, show ((1 : Nat) : Rat) = 1 from rfl]
      have q1 := rmul_nn (show 0 ≤ U i + U j by grind) (Rat.le_of_lt (p2_pos (-1060)))
      have q2 := Rat.le_of_lt (p2_pos (-2140))
      grind
    have t4 := Rat.mul_le_mul_of_nonneg_right t3 xn
    have t5 := rmul_nn ux UU
    grind
  have f2 := sumQ_le c f1
  have bn : 0 ≤ bndQ (U i) (U c) 1 := by
    unfold bndQ
    have hUc := hU c (Nat.le_refl c)
    have q1 := rmul_nn (rmul_nn (rmul_nn hUi hUc) (ratn_nn (64 * 1))) (Rat.le_of_lt (p2_pos (-53)))
    have q2 := rmul_nn (rmul_nn (show 0 ≤ U i + U c by grind) (ratn_nn 1)) (Rat.le_of_lt (p2_pos (-1060)))
    have q3 := rmul_nn (rmul_nn (Rat.le_of_lt (p2_pos (-2140))) (ratn_nn 1)) (ratn_nn 1)
    grind
  -- the second part
  have f3 : sumQ (fun a => (6 * U i + U i * U a) * (32 * ee)) c ≤ (U i + p2 (-1060)) * (1 + sumQ (fun l => U l) (c + 1)) * p2 (-1060) := by
    have p1060 : p2 (-1060) = 32768 * ee := by
      have e1 := p2_nat 15
      rw [show ((15 : Nat) : Int) = 15 from rfl] at e1
      have e3 : ((2 ^ 15 : Nat) : Rat) = 32768 := by norm_cast
      rw [e3] at e1
      unfold ee
      rw [← e1, ← p2_add]; rfl
    have s1 : sumQ (fun a => (6 * U i + U i * U a) * (32 * ee)) c = sumQ (fun _ => 6 * U i * (32 * ee)) c + (U i * (32 * ee)) * sumQ (fun a => U a) c := by
      rw [← sumQ_mul, ← sumQ_add]
      exact sumQ_same c (fun a _ => by grind)
    have s2 : ∀ n : Nat, sumQ (fun _ => 6 * U i * (32 * ee)) n = (n : Rat) * (6 * U i * (32 * ee)) := by
      intro n
      induction n with
      | zero => show (0 : Rat) = _; rw [show ((0 : Nat) : Rat) = 0 from rfl]; grind
      | succ n ih => show sumQ (fun _ => 6 * U i * (32 * ee)) n + _ = _; rw [ih, natr_succ]; grind
    have hS := sumQ_nn (f := fun l => U l) c (fun l hl => hU l (by omega))
    have hUc := hU c (Nat.le_refl c)
    have s3 : sumQ (fun l => U l) (c + 1) = sumQ (fun l => U l) c + U c := rfl
    rw [s1, s2, s3, p1060]
    generalize sumQ (fun a => U a) c = T at *
    have q0 := rmul_nn hUi he0
    have q1 : (c : Rat) * (U i * ee) ≤ 6 * (U i * ee) := Rat.mul_le_mul_of_nonneg_right hc6 q0
    have q2 := rmul_nn q0 hS
    have q3 := rmul_nn q0 hUc
    have q4 := rmul_nn (rmul_nn he0 he0) (show 0 ≤ 1 + (T + U c) by grind)
    rw [show (U i + 32768 * ee) * (1 + (T + U c)) * (32768 * ee) = 32768 * (U i * ee) + 32768 * (U i * ee * T) + 32768 * (U i * ee * U c) + 1073741824 * (ee * ee * (1 + (T + U c))) by grind]
    rw [show (c : Rat) * (6 * U i * (32 * ee)) + U i * (32 * ee) * T = 192 * ((c : Rat) * (U i * ee)) + 32 * (U i * ee * T) by grind]
    generalize U i * ee = z1 at *
    generalize z1 * T = z2 at *
    generalize z1 * U c = z3 at *
    generalize ee * ee * (1 + (T + U c)) = z4 at *
    grind
  grind
end Go.Proofs.YtnboegeljaplbaaGreat
namespace Go.Proofs.YtnboegeljaplbaaGreat
open Go.RowKit Lv Go.Shelf
open Ieee (double Format Datum Toward)
attribute [local go_sem] Oper.semAt_some run_store_float drewN_alloc drewN_setCell

theorem back_err' {F : FacD} {ys : List (Option Nat)} (h : backD F = (ys, 0)) : F.ok = true := by
  unfold backD at h
  by_cases h1 : F.ok = false
  · rw [if_pos h1] at h; cases (Prod.mk.inj h).2
  · simpa using h1
theorem gx_symm {xs : List (Option Nat)} {c i j : Nat} : Gx xs c i j = Gx xs c j i := by
  unfold Gx
  exact sumQ_same _ (fun a _ => Rat.mul_comm _ _)
/-- the answers against the factor's Gram list -/
theorem solve_normal {c A : Nat} {xs ys : List (Option Nat)} (hT : TriOk c xs) (hyl : ys.length = c)
    (hfit : ∀ i, i < c → absR (fv (ent xs c i c) - sumQ (fun k => fv (ent xs c i k) * fv (ys.getD k none)) c) ≤ sumQ (fun k => absR (fv (ent xs c i k) * fv (ys.getD k none))) c * ((c + 2 : Nat) : Rat) * p2 (-53) + ((c : Rat) + absR (fv (ent xs c i i))) * p2 (-1070))
    {us : List Rat} (hN : Norms c A (gramL c (linesD xs c)) us) {i : Nat} (hi : i < c) :
    absR ((gramL c (linesD xs c)).getD (gix c i c) 0 - sumQ (fun j => (gramL c (linesD xs c)).getD (gix c (min i j) (max i j)) 0 * (ys.map fv).getD j 0) c) ≤ mostN us (ys.map fv) c i 0 := by
  have h1 := hT.h1
  have h6 := hT.h6
  have eL : ∀ a l, a ≤ c → l ≤ c → fv (ent xs c a l) = Lx xs c a l := fun a l ha hl => lx_line ha hl
  have eX : ∀ j, j < c → (ys.map fv).getD j 0 = fv (ys.getD j none) := fun j hj => getD_fv (by omega)
  have hres : ∀ a, a < c → absR (Lx xs c a c - sumQ (fun j => Lx xs c a j * fv (ys.getD j none)) c) ≤ sumQ (fun j => absR (Lx xs c a j * fv (ys.getD j none))) c * ((c + 2 : Nat) : Rat) * p2 (-53) + ((c : Rat) + absR (Lx xs c a a)) * p2 (-1070) := by
    intro a ha
    have := hfit a ha
    rw [eL a c (by omega) (by omega), eL a a (by omega) (by omega), sumQ_same (f := fun k => fv (ent xs c a k) * fv (ys.getD k none)) (g := fun j => Lx xs c a j * fv (ys.getD j none)) c (fun k hk => by rw [eL a k (by omega) (by omega)]), sumQ_same (f := fun k => absR (fv (ent xs c a k) * fv (ys.getD k none))) (g := fun j => absR (Lx xs c a j * fv (ys.getD j none))) c (fun k hk => by rw [eL a k (by omega) (by omega)])] at this
    exact this
  have key := normal_sum (L := fun a l => Lx xs c a l) (x := fun j => fv (ys.getD j none)) (U := fun l => us.getD l 0) h1 h6 hi hN.nn (fun l hl => by
    have := hN.sq l hl
    rw [gram_get h1 h6 hT.len (Nat.le_refl l) hl] at this
    exact this) (fun l hl => by unfold Lx; rw [if_pos hl]) hres
  rw [bd_absR] at key
  have e0 : ∀ j, j ≤ c → (gramL c (linesD xs c)).getD (gix c (min i j) (max i j)) 0 = sumQ (fun a => Lx xs c a i * Lx xs c a j) (c + 1) := by
    intro j hj
    rw [gram_get h1 h6 hT.len (by omega) (by omega)]
    by_cases h : i ≤ j
    · rw [Nat.min_eq_left h, Nat.max_eq_right h]; rfl
    · rw [Nat.min_eq_right (by omega), Nat.max_eq_left (by omega), gx_symm]; rfl
  have ec := e0 c (Nat.le_refl c)
  rw [Nat.min_eq_left (by omega), Nat.max_eq_right (by omega)] at ec
  rw [ec, sumQ_same (g := fun j => sumQ (fun a => Lx xs c a i * Lx xs c a j) (c + 1) * fv (ys.getD j none)) c (fun j hj => by rw [e0 j (by omega), eX j hj])]
  unfold mostN
  rw [sumQ_same (f := fun j => bndQ (us.getD i 0) (us.getD j 0) (0 + 1) * absR ((ys.map fv).getD j 0)) (g := fun j => bndQ (us.getD i 0) (us.getD j 0) 1 * absR (fv (ys.getD j none))) c (fun j hj => by rw [eX j hj])]
  exact key

end Go.Proofs.YtnboegeljaplbaaGreat
namespace Go.Proofs.YtnboegeljaplbaaGreat
open Lv
open Ieee

/-- with a ridge that is not 0 nothing on the diagonal is 0 -/
theorem ridge_diag {c : Nat} {mu : Option Nat} {g : Nat} (hmu : mu = some g) (hg : g ≤ pw 420) {r t : Int} : ∀ (n j : Nat) (gx : List (Option Nat)) (H : FacD), n + j = c → (∀ i, i < tsz c → Wd (gx.getD i none)) → ridgeLoop c mu n j ⟨(c : Int), gx, r, t⟩ = (H, true) →
    (∀ i, i ≤ c → GeD (gx.getD (offs c i) none) (gx.getD (offs c i) none) → GeD (gx.getD (offs c i) none) (H.xs.getD (offs c i) none)) ∧ (∀ i, j ≤ i → i < c → GeD (some g) (H.xs.getD (offs c i) none)) ∧ (∀ i, i < tsz c → Wd (H.xs.getD i none))
  | 0, j, gx, H, hn, hw, h => by
    have hG : (⟨(c : Int), gx, r, t⟩ : FacD) = H := (Prod.mk.inj h).1
    subst hG
    exact ⟨fun i _ h => h, fun i h1 h2 => by omega, hw⟩
  | n + 1, j, gx, H, hn, hw, h => by
    unfold ridgeLoop at h
    by_cases hz : (lineD ⟨(c : Int), gx, r, t⟩ (ridgeL c j mu) (j : Int)).2 = false
    · rw [if_pos hz] at h; cases h
    · rw [if_neg hz] at h
      have hz : (lineD ⟨(c : Int), gx, r, t⟩ (ridgeL c j mu) (j : Int)).2 = true := by simpa using hz
      have hL : lineD ⟨(c : Int), gx, r, t⟩ (ridgeL c j mu) (j : Int) = ((lineD ⟨(c : Int), gx, r, t⟩ (ridgeL c j mu) (j : Int)).1, true) := Prod.ext rfl hz
      obtain ⟨_, _, _, hGe, _, _⟩ := line_from hL
      have hget : ∀ i, i ≤ c → (ridgeL c j mu).getD i none = if i = j then mu else some 0 := by
        intro i hi
        unfold ridgeL
        rw [getD_set, List.length_replicate]
        by_cases e : i = j
        · rw [if_pos ⟨e, by omega⟩, if_pos e]
        · rw [if_neg (fun h => e h.1), if_neg e, List.getD_eq_getElem?_getD, List.getElem?_replicate, if_pos (by omega)]; rfl
      have hwl : ∀ i, i ≤ c → Wd ((ridgeL c j mu).getD i none) := by
        intro i hi b hb
        rw [hget i hi] at hb
        have hp : pw 420 < 18446744073709551616 := by decide
        by_cases e : i = j
        · rw [if_pos e, hmu] at hb; obtain rfl := Option.some.inj hb; omega
        · rw [if_neg e] at hb; obtain rfl := Option.some.inj hb; decide
      obtain ⟨_, q1, q2, q3⟩ := line_grows hw hwl hL
      rw [hGe] at h
      generalize (lineD ⟨(c : Int), gx, r, t⟩ (ridgeL c j mu) (j : Int)).1 = G at *
      obtain ⟨p1, p2, p3⟩ := ridge_diag hmu hg n (j + 1) G.xs H (by omega) q1 h
      have hself : ∀ i, i ≤ c → GeD (G.xs.getD (offs c i) none) (G.xs.getD (offs c i) none) := by
        intro i hi
        obtain ⟨f, g', _, e2, _, e4⟩ := q2 i hi
        exact ⟨g', g', e2, e2, Nat.le_refl _, e4⟩
      refine ⟨fun i hi _ => (q2 i hi).trans (p1 i hi (hself i hi)), fun i h1 h2 => ?_, p3⟩
      by_cases e : i = j
      · subst e
        exact (q3 g (by rw [hget i (by omega), if_pos rfl, hmu]) hg).trans (p1 i (by omega) (hself i (by omega)))
      · exact p2 i (by omega) h2
/-- a ridge that is not refused: it is 0, or it is not -/
theorem ridge_open {F : FacD} {mu : Option Nat} {G : FacD} (h : ridgeD F mu = (G, 0)) : F.ok = true ∧ ((zeroF mu = true ∧ G = F) ∨ (zeroF mu = false ∧ ∃ g, mu = some g ∧ g ≠ 0 ∧ g ≤ pw 420 ∧ (ridgeLoop F.cols.toNat mu F.cols.toNat 0 F).2 = true ∧ G.cols = (ridgeLoop F.cols.toNat mu F.cols.toNat 0 F).1.cols ∧ G.xs = (ridgeLoop F.cols.toNat mu F.cols.toNat 0 F).1.xs)) := by
  unfold ridgeD at h
  cases he : ridgeEarly F mu with
  | some v =>
    rw [he] at h
    dsimp only at h
    subst h
    unfold ridgeEarly at he
    split at he
    · cases Prod.mk.inj (Option.some.inj he) |>.2
    · rename_i hok
      split at he
      · cases Prod.mk.inj (Option.some.inj he) |>.2
      · split at he
        · rename_i h3
          exact ⟨by simpa using hok, .inl ⟨h3, (Prod.mk.inj (Option.some.inj he)).1.symm⟩⟩
        · split at he
          · cases Prod.mk.inj (Option.some.inj he) |>.2
          · cases he
  | none =>
    rw [he] at h
    dsimp only at h
    unfold ridgeEarly at he
    split at he
    · cases he
    · rename_i hok
      split at he
      · cases he
      · rename_i hos
        split at he
        · cases he
        · rename_i hz
          have hz : zeroF mu = false := by simpa using hz
          refine ⟨by simpa using hok, .inr ⟨hz, ?_⟩⟩
          simp only [Bool.or_eq_true, not_or, Bool.not_eq_true] at hos
          obtain ⟨ho, hs⟩ := hos
          obtain ⟨g, rfl⟩ : ∃ g, mu = some g := by
            cases mu with
            | none => cases ho
            | some g => exact ⟨g, rfl⟩
          have hsg : ¬ 9223372036854775808 ≤ g := of_decide_eq_false hs
          have hg0 : g ≠ 0 := by
            have h5 : ¬ g % 9223372036854775808 = 0 := of_decide_eq_false hz
            omega
          have hg4 : g ≤ pw 420 := by
            have h2 : inW g = true := by simpa [outF] using ho
            have h3 : pw 400 ≤ pw 420 := by decide
            unfold inW at h2
            simp at h2
            omega
          by_cases hl : (ridgeLoop F.cols.toNat (some g) F.cols.toNat 0 F).2 = false
          · rw [if_pos hl] at h; cases (Prod.mk.inj h).2
          · rw [if_neg hl] at h
            exact ⟨g, rfl, hg0, hg4, by simpa using hl, by rw [← (Prod.mk.inj h).1], by rw [← (Prod.mk.inj h).1]⟩
theorem ridge_cols {F : FacD} {mu : Option Nat} {G : FacD} (h : ridgeD F mu = (G, 0)) : G.cols = F.cols := by
  obtain ⟨hok, ⟨_, rfl⟩ | ⟨_, g, rfl, _, _, hl, hc, _⟩⟩ := ridge_open h
  · rfl
  · have key : ∀ (n j : Nat) (H : FacD), H.ok = true → (ridgeLoop F.cols.toNat (some g) n j H).2 = true → (ridgeLoop F.cols.toNat (some g) n j H).1.cols = H.cols := by
      intro n
      induction n with
      | zero => intro j H _ _; rfl
      | succ n ih =>
        intro j H hH h2
        unfold ridgeLoop at h2 ⊢
        by_cases hz : (lineD H (ridgeL F.cols.toNat j (some g)) (j : Int)).2 = false
        · rw [if_pos hz] at h2; cases h2
        · rw [if_neg hz] at h2 ⊢
          obtain ⟨k1, k2, _⟩ := lineD_ok (show (lineD H (ridgeL F.cols.toNat j (some g)) (j : Int)).2 = true by simpa using hz)
          rw [ih (j + 1) _ k1 h2, k2]
    rw [hc, key _ 0 F hok hl]
theorem ridge_form {F : FacD} (hok : F.ok = true) : ∃ c : Nat, F.cols = (c : Int) ∧ F = ⟨(c : Int), F.xs, F.rws, F.trn⟩ := by
  obtain ⟨fc, fx, fr, ft⟩ := F
  obtain ⟨c, rfl⟩ := Int.eq_ofNat_of_zero_le (show 0 ≤ fc by have := ok_cols hok; dsimp only at this; omega)
  exact ⟨c, rfl, rfl⟩
/-- what comes with a ridge: words; with one that is not 0 nothing is singular -/
theorem ridge_end {F : FacD} {mu : Option Nat} {G : FacD} (hw : ∀ i, Wd (F.xs.getD i none)) (h : ridgeD F mu = (G, 0)) : (zeroF mu = true → G = F) ∧ (zeroF mu = false → singD G.xs G.cols.toNat = false) ∧ (∀ i, i < tsz F.cols.toNat → Wd (G.xs.getD i none)) := by
  have hcol := ridge_cols h
  obtain ⟨hok, ⟨hz, rfl⟩ | ⟨hz, g, rfl, h0, h4, hl, _, hx⟩⟩ := ridge_open h
  · exact ⟨fun _ => rfl, fun h => (by rw [hz] at h; cases h), fun i _ => hw i⟩
  · obtain ⟨c, hc, hF⟩ := ridge_form hok
    rw [hcol]
    rw [hc, Int.toNat_natCast] at hl hx ⊢
    have hL : ridgeLoop c (some g) c 0 ⟨(c : Int), F.xs, F.rws, F.trn⟩ = ((ridgeLoop c (some g) c 0 F).1, true) := by
      rw [← hF]; exact Prod.ext rfl hl
    obtain ⟨_, p2, p3⟩ := ridge_diag rfl h4 c 0 F.xs _ (by omega) (fun i _ => hw i) hL
    refine ⟨fun h => (by rw [hz] at h; cases h), fun _ => ?_, fun i hi => by rw [hx]; exact p3 i hi⟩
    unfold singD
    rw [List.any_eq_false]
    intro i hi
    have hic := List.mem_range.1 hi
    obtain ⟨f, b, e1, e2, e3, e4⟩ := p2 i (Nat.zero_le _) hic
    obtain rfl := Option.some.inj e1
    unfold ent
    rw [getD_lineP (by omega) i (by omega), if_neg (by omega), Nat.sub_self, Nat.add_zero, hx, e2]
    show ¬ decide (b % 9223372036854775808 = 0) = true
    simp
    omega
theorem answD_err {ys : List (Option Nat)} : (answD ys).2 ≠ 7 := by
  unfold answD
  split <;> simp
theorem back_sing {G : FacD} (h : singD G.xs G.cols.toNat = false) : (backD G).2 ≠ 7 := by
  unfold backD
  split
  · decide
  · rw [h, if_neg (by decide)]; exact answD_err
end Go.Proofs.YtnboegeljaplbaaGreat
namespace Go.Proofs.YtnboegeljaplbaaGreat
open Go.RowKit Lv Go.Shelf
open Ieee (double Format Datum Toward)
attribute [local go_sem] Oper.semAt_some run_store_float drewN_alloc drewN_setCell

set_option maxRecDepth 100000 in
set_option maxHeartbeats 4000000 in
theorem solveRidge_walk (w : World) (F : FacD) (a : Option Addr) (n cap : Nat) (h : Row w (.slice a n cap) F.xs) (y : Nat) (mu : Option Nat) (hy : FW y mu) :
    Calls Tryz.prog 5 #[.agg #[.int .i64 F.cols, .slice a n cap, .int .i64 F.rws, .int .i64 F.trn], .float .f64 y] w fun e w' => e = .returned (.bool true) ∧ Below w.heap.size w w' := by
  have HB := Lib.hid ((Below.refl w.heap.size w).alloc (Nat.le_refl _) (.cells #[.int .i64 F.cols, .slice a n cap, .int .i64 F.rws, .int .i64 F.trn] 28))
  have C0 := Lib.hid (Cells4.new w (.int .i64 F.cols) (.slice a n cap) (.int .i64 F.rws) (.int .i64 F.trn) 28)
  have HR := Lib.hid h
  by_cases h1 : 60 < n
  · have h1i : (60 : Int) < (n : Int) := by omega
    clear h
    go_enter Tryz.func5, Tryz.ntmps5
    go_wp2_with (go_at_call 13; refine (live16_calls _).mono ?_; rintro e w6 ⟨rfl, hb6⟩)
    go_ret
    exact ⟨rfl, HB.out.trans (hb6.mono (by simp))⟩
  have h1i : ¬ (60 : Int) < (n : Int) := by omega
  have A1 := Lib.hid (fun W hW => sridge_calls F a n cap y W hW hy)
  have A2 := Lib.hid (fun W hW => aridge_calls F a n cap y W hW hy)
  have hwF := row_wd h
  have hS : sridgeD F mu = if (ridgeD F mu).2 ≠ 0 then ([], (ridgeD F mu).2) else backD (ridgeD F mu).1 := rfl
  obtain ⟨R, hR⟩ : ∃ R, R = ridgeD F mu := ⟨_, rfl⟩
  rw [← hR] at A2 hS
  obtain ⟨G, ge⟩ := R
  by_cases hge : ge ≠ 0
  · have hne : (ge != 0) = true := by simpa using hge
    have hee : (ge == ge) = true := by simp
    rw [if_pos hge] at hS
    rw [hS] at A1
    clear h hR hge hS hwF
    go_enter Tryz.func5, Tryz.ntmps5
    go_wp2_with (first
      | (go_at_call 14; go_must (refine (A1.out _ (HR.out.below HB.out)).mono ?_; rintro e w2 ⟨⟨pa, pn, pcp, rfl, hp⟩, hb2⟩; dsimp only at hp; have hpl := hp.len; obtain rfl : pn = 0 := hpl.symm; have B2 := Lib.hid (HB.out.trans (hb2.mono HB.out.size)); have C2 := Lib.hid (C0.out.below hb2); obtain ⟨c0, c1, c2, c3, _, _, _, _⟩ := C2.out; clear hb2 hp hpl))
      | (go_at_call 15; go_must (refine (A2.out _ (HR.out.below B2.out)).mono ?_; rintro e w3 ⟨⟨ga, gn, gcp, he, hrow⟩, hb3⟩; dsimp only at he hrow; subst he; have B3 := Lib.hid (B2.out.trans ((hb3.alloc hb3.size (.cells #[.int .i64 G.cols, .slice ga gn gcp, .int .i64 G.rws, .int .i64 G.trn] 28)).mono B2.out.size)); clear hrow hb3 c0 c1 c2 c3))
      | (go_at_call 13; refine (live16_calls _).mono ?_; rintro e w8 ⟨rfl, hb8⟩))
    go_ret
    exact ⟨rfl, B3.out.trans (hb8.mono B3.out.size)⟩
  · obtain rfl : ge = 0 := by simpa using hge
    rw [if_neg (by simp)] at hS
    dsimp only at hS
    rw [hS] at A1
    have BC := Lib.hid (fun W b m d (hW : Row W (.slice b m d) G.xs) => back_calls G b m d W hW)
    have hz0 := is_zero' y hy.1
    rw [zeroW_F hy] at hz0
    have hcol := ridge_cols hR.symm
    obtain ⟨hGF, hsg, hwG⟩ := ridge_end hwF hR.symm
    have h7 : zeroF mu = false → (backD G).2 ≠ 7 := fun hz => back_sing (hsg hz)
    clear hS hsg
    obtain ⟨D, hD⟩ : ∃ D, D = backD G := ⟨_, rfl⟩
    rw [← hD] at A1 BC h7
    obtain ⟨ys, ye⟩ := D
    have hyy : (ye != ye) = false := by simp
    by_cases hye : ye ≠ 0
    · have hyn : (ye != 0) = true := by simpa using hye
      cases hz : zeroF mu
      · rw [hz] at hz0
        have hy7 : (ye == 7) = false := by simpa using h7 hz
        have hz1 : ¬ FloatKind.f64.format.order y 0 = some Ordering.eq := by simpa using hz0
        clear h hR hge hye hD hz hGF hcol hwF hwG h7
        go_enter Tryz.func5, Tryz.ntmps5
        go_upto_region 5 with (first
          | (go_at_call 14; go_must (refine (A1.out _ (HR.out.below HB.out)).mono ?_; rintro e w2 ⟨⟨pa, pn, pcp, rfl, hp⟩, hb2⟩; dsimp only at hp; have P2 := Lib.hid hp; have B2 := Lib.hid (HB.out.trans (hb2.mono HB.out.size)); have C2 := Lib.hid (C0.out.below hb2); obtain ⟨c0, c1, c2, c3, _, _, _, _⟩ := C2.out; clear hb2 hp))
          | (go_at_call 15; go_must (refine (A2.out _ (HR.out.below B2.out)).mono ?_; rintro e w3 ⟨⟨ga, gn, gcp, he, hrow⟩, hb3⟩; dsimp only at he hrow; subst he; have hb4 := hb3.alloc hb3.size (.cells #[.int .i64 G.cols, .slice ga gn gcp, .int .i64 G.rws, .int .i64 G.trn] 28); have B4 := Lib.hid (B2.out.trans (hb4.mono B2.out.size)); have P4 := Lib.hid (P2.out.below hb4); have C4 := Lib.hid (C2.out.below hb4); have D4 := Lib.hid (Cells4.new w3 (.int .i64 G.cols) (.slice ga gn gcp) (.int .i64 G.rws) (.int .i64 G.trn) 28); have R4 := Lib.hid (hrow.alloc (.cells #[.int .i64 G.cols, .slice ga gn gcp, .int .i64 G.rws, .int .i64 G.trn] 28)); have hs4 := hb3.size; clear hrow hb3 hb4 c0 c1 c2 c3)))
        generalize w3.alloc (.cells #[.int .i64 G.cols, .slice ga gn gcp, .int .i64 G.rws, .int .i64 G.trn] 28) = W4 at *
        generalize w3.heap.size = g7 at *
        obtain ⟨c0, c1, c2, c3, _, _, _, _⟩ := C4.out
        obtain ⟨d0, d1, d2, d3, _, _, _, _⟩ := D4.out
        go_upto_region 8 with (go_at_call 16; go_must (refine (BC.out _ _ _ _ R4.out).mono ?_; rintro e w5 ⟨⟨qa, qn, qcp, rfl, hq⟩, hb5⟩; dsimp only at hq; have B5 := Lib.hid (B4.out.trans (hb5.mono B4.out.size)); have P5 := Lib.hid (P4.out.below hb5); have Q5 := Lib.hid hq; have C5 := Lib.hid (C4.out.below hb5); have D5 := Lib.hid (D4.out.below hb5); have R5 := Lib.hid (R4.out.below hb5); clear hq hb5 c0 c1 c2 c3 d0 d1 d2 d3))
        obtain rfl : pn = qn := by have h1 := P5.out.len; have h2 := Q5.out.len; omega
        obtain ⟨c0, c1, c2, c3, _, _, _, _⟩ := C5.out
        obtain ⟨d0, d1, d2, d3, _, _, _, _⟩ := D5.out
        go_wp2_with (first
          | (go_at_call 17; go_must (refine (rall1_calls pa qa pn pcp qcp ys _ P5.out Q5.out).mono ?_; rintro e w6 ⟨rfl, hb6⟩; have B6 := Lib.hid (B5.out.trans (hb6.mono B5.out.size)); have P6 := Lib.hid (P5.out.below hb6); have C6 := Lib.hid (C5.out.below hb6); have D6 := Lib.hid (D5.out.below hb6); have R6 := Lib.hid (R5.out.below hb6); clear hb6 c0 c1 c2 c3 d0 d1 d2 d3; obtain ⟨c0, c1, c2, c3, _, _, _, _⟩ := C6.out; obtain ⟨d0, d1, d2, d3, _, _, _, _⟩ := D6.out))
          | (go_at_call 13; refine (live16_calls _).mono ?_; rintro e w8 ⟨rfl, hb8⟩))
        go_ret
        exact ⟨rfl, B6.out.trans (hb8.mono B6.out.size)⟩
      · rw [hz] at hz0
        have hz1 : FloatKind.f64.format.order y 0 = some Ordering.eq := by simpa using hz0
        obtain rfl := hGF hz
        clear h hR hge hye hD hz hGF hcol hwF hwG h7
        go_enter Tryz.func5, Tryz.ntmps5
        go_upto_region 5 with (first
          | (go_at_call 14; go_must (refine (A1.out _ (HR.out.below HB.out)).mono ?_; rintro e w2 ⟨⟨pa, pn, pcp, rfl, hp⟩, hb2⟩; dsimp only at hp; have P2 := Lib.hid hp; have B2 := Lib.hid (HB.out.trans (hb2.mono HB.out.size)); have C2 := Lib.hid (C0.out.below hb2); obtain ⟨c0, c1, c2, c3, _, _, _, _⟩ := C2.out; clear hb2 hp))
          | (go_at_call 15; go_must (refine (A2.out _ (HR.out.below B2.out)).mono ?_; rintro e w3 ⟨⟨ga, gn, gcp, he, hrow⟩, hb3⟩; dsimp only at he hrow; subst he; have hb4 := hb3.alloc hb3.size (.cells #[.int .i64 G.cols, .slice ga gn gcp, .int .i64 G.rws, .int .i64 G.trn] 28); have B4 := Lib.hid (B2.out.trans (hb4.mono B2.out.size)); have P4 := Lib.hid (P2.out.below hb4); have C4 := Lib.hid (C2.out.below hb4); have D4 := Lib.hid (Cells4.new w3 (.int .i64 G.cols) (.slice ga gn gcp) (.int .i64 G.rws) (.int .i64 G.trn) 28); have R4 := Lib.hid (hrow.alloc (.cells #[.int .i64 G.cols, .slice ga gn gcp, .int .i64 G.rws, .int .i64 G.trn] 28)); have hs4 := hb3.size; clear hrow hb3 hb4 c0 c1 c2 c3)))
        generalize w3.alloc (.cells #[.int .i64 G.cols, .slice ga gn gcp, .int .i64 G.rws, .int .i64 G.trn] 28) = W4 at *
        generalize w3.heap.size = g7 at *
        obtain ⟨c0, c1, c2, c3, _, _, _, _⟩ := C4.out
        obtain ⟨d0, d1, d2, d3, _, _, _, _⟩ := D4.out
        go_upto_region 8 with (go_at_call 16; go_must (refine (BC.out _ _ _ _ R4.out).mono ?_; rintro e w5 ⟨⟨qa, qn, qcp, rfl, hq⟩, hb5⟩; dsimp only at hq; have B5 := Lib.hid (B4.out.trans (hb5.mono B4.out.size)); have P5 := Lib.hid (P4.out.below hb5); have Q5 := Lib.hid hq; have C5 := Lib.hid (C4.out.below hb5); have D5 := Lib.hid (D4.out.below hb5); have R5 := Lib.hid (R4.out.below hb5); clear hq hb5 c0 c1 c2 c3 d0 d1 d2 d3))
        obtain rfl : pn = qn := by have h1 := P5.out.len; have h2 := Q5.out.len; omega
        obtain ⟨c0, c1, c2, c3, _, _, _, _⟩ := C5.out
        obtain ⟨d0, d1, d2, d3, _, _, _, _⟩ := D5.out
        go_wp2_with (first
          | (go_at_call 17; go_must (refine (rall1_calls pa qa pn pcp qcp ys _ P5.out Q5.out).mono ?_; rintro e w6 ⟨rfl, hb6⟩; have B6 := Lib.hid (B5.out.trans (hb6.mono B5.out.size)); have P6 := Lib.hid (P5.out.below hb6); have C6 := Lib.hid (C5.out.below hb6); have D6 := Lib.hid (D5.out.below hb6); have R6 := Lib.hid (R5.out.below hb6); clear hb6 c0 c1 c2 c3 d0 d1 d2 d3; obtain ⟨c0, c1, c2, c3, _, _, _, _⟩ := C6.out; obtain ⟨d0, d1, d2, d3, _, _, _, _⟩ := D6.out))
          | (go_at_call 18; go_must (refine (rsame7_calls G a ga n gn cap gcp _ (HR.out.below B6.out) R6.out).mono ?_; rintro e w7 ⟨rfl, hb7⟩; have B6 := Lib.hid (B6.out.trans (hb7.mono B6.out.size)); have P6 := Lib.hid (P6.out.below hb7); have C6 := Lib.hid (C6.out.below hb7); have D6 := Lib.hid (D6.out.below hb7); have R6 := Lib.hid (R6.out.below hb7); clear hb7 c0 c1 c2 c3 d0 d1 d2 d3; obtain ⟨c0, c1, c2, c3, _, _, _, _⟩ := C6.out; obtain ⟨d0, d1, d2, d3, _, _, _, _⟩ := D6.out))
          | (go_at_call 13; refine (live16_calls _).mono ?_; rintro e w8 ⟨rfl, hb8⟩))
        go_ret
        exact ⟨rfl, B6.out.trans (hb8.mono B6.out.size)⟩
    · obtain rfl : ye = 0 := by simpa using hye
      have hok := back_err' hD.symm
      obtain ⟨fc, fx, fr, ft⟩ := F
      obtain ⟨gc, gx, gr, gt⟩ := G
      dsimp only at hcol hwG hwF
      subst hcol
      obtain ⟨c, rfl⟩ := Int.eq_ofNat_of_zero_le (show 0 ≤ gc by have := ok_cols hok; dsimp only at this; omega)
      rw [Int.toNat_natCast] at hwG
      have hgl : gx.length = tsz c := (check_parts hok).2.2.1
      have hwG2 : ∀ i, Wd (gx.getD i none) := fun i => by
        by_cases hi : i < tsz c
        · exact hwG i hi
        · intro b hb
          rw [List.getD_eq_getElem?_getD, List.getElem?_eq_none (by omega)] at hb
          cases hb
      obtain ⟨hck, hT, hyl, hyn, hfit⟩ := back_fits hwG2 hD.symm
      have h1c := hT.h1
      have h6c := hT.h6
      obtain ⟨s, hs⟩ : ∃ s, tsz c = s := ⟨_, rfl⟩
      have LF := gramL_ok (c := c) (A := 420) _ hT.lines
      rw [linesD_len, hs] at LF
      have GF := Lib.hid (fun W b m d hW => gfactor_calls c 420 gr gt b m d gx W hW hck hT.lines (by omega))
      have NS := Lib.hid (fun us (hN : Norms c 848 (gramL c (linesD gx c)) us) i (hi : i < c) => solve_normal hT hyl hfit hN hi)
      have YF := Lib.hid (show ∀ x ∈ ys, Lv.Fn x from fun x hx => by
        obtain ⟨k, hk, rfl⟩ := List.mem_iff_getElem.1 hx
        have := hyn k (by omega)
        rwa [List.getD_eq_getElem?_getD, List.getElem?_eq_getElem hk] at this)
      generalize gramL c (linesD gx c) = qf at *
      have PF := Lib.hid (show ∀ j, j < s → Bd (qf.getD j 0) (p2 ((848 : Nat) : Int)) from fun j hj => bd_p2_mono (LF.2 j hj) (by omega))
      have LQ := Lib.hid LF.1
      have HS := Lib.hid hs
      have YL := Lib.hid hyl
      cases hz : zeroF mu
      · rw [hz] at hz0
        have hz1 : ¬ FloatKind.f64.format.order y 0 = some Ordering.eq := by simpa using hz0
        clear h hR hge hye hD hz hGF hwF hwG hwG2 h7 hok hck hT hyl hyn hfit LF hs hgl
        go_enter Tryz.func5, Tryz.ntmps5
        go_upto_region 5 with (first
          | (go_at_call 14; go_must (refine (A1.out _ (HR.out.below HB.out)).mono ?_; rintro e w2 ⟨⟨pa, pn, pcp, rfl, hp⟩, hb2⟩; dsimp only at hp; have P2 := Lib.hid hp; have B2 := Lib.hid (HB.out.trans (hb2.mono HB.out.size)); have C2 := Lib.hid (C0.out.below hb2); obtain ⟨c0, c1, c2, c3, _, _, _, _⟩ := C2.out; clear hb2 hp))
          | (go_at_call 15; go_must (refine (A2.out _ (HR.out.below B2.out)).mono ?_; rintro e w3 ⟨⟨ga, gn, gcp, he, hrow⟩, hb3⟩; dsimp only at he hrow; subst he; have hb4 := hb3.alloc hb3.size (.cells #[.int .i64 (c : Int), .slice ga gn gcp, .int .i64 gr, .int .i64 gt] 28); have B4 := Lib.hid (B2.out.trans (hb4.mono B2.out.size)); have P4 := Lib.hid (P2.out.below hb4); have C4 := Lib.hid (C2.out.below hb4); have D4 := Lib.hid (Cells4.new w3 (.int .i64 (c : Int)) (.slice ga gn gcp) (.int .i64 gr) (.int .i64 gt) 28); have R4 := Lib.hid (hrow.alloc (.cells #[.int .i64 (c : Int), .slice ga gn gcp, .int .i64 gr, .int .i64 gt] 28)); have hs4 := hb3.size; clear hrow hb3 hb4 c0 c1 c2 c3)))
        generalize w3.alloc (.cells #[.int .i64 (c : Int), .slice ga gn gcp, .int .i64 gr, .int .i64 gt] 28) = W4 at *
        generalize w3.heap.size = g7 at *
        obtain ⟨c0, c1, c2, c3, _, _, _, _⟩ := C4.out
        obtain ⟨d0, d1, d2, d3, _, _, _, _⟩ := D4.out
        go_upto_region 8 with (go_at_call 16; go_must (refine (BC.out _ _ _ _ R4.out).mono ?_; rintro e w5 ⟨⟨qa, qn, qcp, rfl, hq⟩, hb5⟩; dsimp only at hq; have B5 := Lib.hid (B4.out.trans (hb5.mono B4.out.size)); have P5 := Lib.hid (P4.out.below hb5); have Q5 := Lib.hid hq; have C5 := Lib.hid (C4.out.below hb5); have D5 := Lib.hid (D4.out.below hb5); have R5 := Lib.hid (R4.out.below hb5); clear hq hb5 c0 c1 c2 c3 d0 d1 d2 d3))
        obtain rfl : pn = qn := by have h1 := P5.out.len; have h2 := Q5.out.len; omega
        obtain ⟨c0, c1, c2, c3, _, _, _, _⟩ := C5.out
        obtain ⟨d0, d1, d2, d3, _, _, _, _⟩ := D5.out
        obtain rfl : pn = c := by have := P5.out.len; rw [YL.out] at this; exact this.symm
        go_wp2_with (first
          | (go_at_call 17; go_must (refine (rall1_calls pa qa pn pcp qcp ys _ P5.out Q5.out).mono ?_; rintro e w6 ⟨rfl, hb6⟩; have B6 := Lib.hid (B5.out.trans (hb6.mono B5.out.size)); have P6 := Lib.hid (P5.out.below hb6); have C6 := Lib.hid (C5.out.below hb6); have D6 := Lib.hid (D5.out.below hb6); have R6 := Lib.hid (R5.out.below hb6); clear hb6 c0 c1 c2 c3 d0 d1 d2 d3; obtain ⟨c0, c1, c2, c3, _, _, _, _⟩ := C6.out; obtain ⟨d0, d1, d2, d3, _, _, _, _⟩ := D6.out))
          | (go_at_call 11; go_must (refine (GF.out _ _ _ _ R6.out).mono ?_; rintro e w9 ⟨⟨v, rfl, hv⟩, hb9⟩; obtain ⟨la, lc, hpv, _, _⟩ := hv.form; rw [LQ.out] at hpv; subst hpv; have Q9 := Lib.hid hv.dql; have B9 := Lib.hid (B6.out.trans (hb9.mono B6.out.size)); have P9 := Lib.hid (P6.out.below hb9); have C9 := Lib.hid (C6.out.below hb9); clear c0 c1 c2 c3 d0 d1 d2 d3 hb9 hv; obtain ⟨c0, c1, c2, c3, _, _, _, _⟩ := C9.out))
          | (go_at_call 19; go_must (refine (enormal_calls pn 0 s 848 la la pa lc lc pcp qf qf ys w9 Q9.out Q9.out P9.out h1c h6c HS.out.symm PF.out PF.out (by omega) (by omega) YF.out (fun us hN i hi => NS.out us hN i hi)).mono ?_; rintro e w10 ⟨rfl, hb10⟩; have B10 := Lib.hid (B9.out.trans (hb10.mono B9.out.size)); clear c0 c1 c2 c3 hb10))
          | (go_at_call 13; refine (live16_calls _).mono ?_; rintro e w8 ⟨rfl, hb8⟩))
        go_ret
        exact ⟨rfl, B10.out.trans (hb8.mono B10.out.size)⟩
      · rw [hz] at hz0
        have hz1 : FloatKind.f64.format.order y 0 = some Ordering.eq := by simpa using hz0
        obtain ⟨_, rfl, rfl, rfl⟩ := FacD.mk.inj (hGF hz)
        clear h hR hge hye hD hz hGF hwF hwG hwG2 h7 hok hck hT hyl hyn hfit LF hs hgl
        go_enter Tryz.func5, Tryz.ntmps5
        go_upto_region 5 with (first
          | (go_at_call 14; go_must (refine (A1.out _ (HR.out.below HB.out)).mono ?_; rintro e w2 ⟨⟨pa, pn, pcp, rfl, hp⟩, hb2⟩; dsimp only at hp; have P2 := Lib.hid hp; have B2 := Lib.hid (HB.out.trans (hb2.mono HB.out.size)); have C2 := Lib.hid (C0.out.below hb2); obtain ⟨c0, c1, c2, c3, _, _, _, _⟩ := C2.out; clear hb2 hp))
          | (go_at_call 15; go_must (refine (A2.out _ (HR.out.below B2.out)).mono ?_; rintro e w3 ⟨⟨ga, gn, gcp, he, hrow⟩, hb3⟩; dsimp only at he hrow; subst he; have hb4 := hb3.alloc hb3.size (.cells #[.int .i64 (c : Int), .slice ga gn gcp, .int .i64 gr, .int .i64 gt] 28); have B4 := Lib.hid (B2.out.trans (hb4.mono B2.out.size)); have P4 := Lib.hid (P2.out.below hb4); have C4 := Lib.hid (C2.out.below hb4); have D4 := Lib.hid (Cells4.new w3 (.int .i64 (c : Int)) (.slice ga gn gcp) (.int .i64 gr) (.int .i64 gt) 28); have R4 := Lib.hid (hrow.alloc (.cells #[.int .i64 (c : Int), .slice ga gn gcp, .int .i64 gr, .int .i64 gt] 28)); have hs4 := hb3.size; clear hrow hb3 hb4 c0 c1 c2 c3)))
        generalize w3.alloc (.cells #[.int .i64 (c : Int), .slice ga gn gcp, .int .i64 gr, .int .i64 gt] 28) = W4 at *
        generalize w3.heap.size = g7 at *
        obtain ⟨c0, c1, c2, c3, _, _, _, _⟩ := C4.out
        obtain ⟨d0, d1, d2, d3, _, _, _, _⟩ := D4.out
        go_upto_region 8 with (go_at_call 16; go_must (refine (BC.out _ _ _ _ R4.out).mono ?_; rintro e w5 ⟨⟨qa, qn, qcp, rfl, hq⟩, hb5⟩; dsimp only at hq; have B5 := Lib.hid (B4.out.trans (hb5.mono B4.out.size)); have P5 := Lib.hid (P4.out.below hb5); have Q5 := Lib.hid hq; have C5 := Lib.hid (C4.out.below hb5); have D5 := Lib.hid (D4.out.below hb5); have R5 := Lib.hid (R4.out.below hb5); clear hq hb5 c0 c1 c2 c3 d0 d1 d2 d3))
        obtain rfl : pn = qn := by have h1 := P5.out.len; have h2 := Q5.out.len; omega
        obtain ⟨c0, c1, c2, c3, _, _, _, _⟩ := C5.out
        obtain ⟨d0, d1, d2, d3, _, _, _, _⟩ := D5.out
        obtain rfl : pn = c := by have := P5.out.len; rw [YL.out] at this; exact this.symm
        go_wp2_with (first
          | (go_at_call 17; go_must (refine (rall1_calls pa qa pn pcp qcp ys _ P5.out Q5.out).mono ?_; rintro e w6 ⟨rfl, hb6⟩; have B6 := Lib.hid (B5.out.trans (hb6.mono B5.out.size)); have P6 := Lib.hid (P5.out.below hb6); have C6 := Lib.hid (C5.out.below hb6); have D6 := Lib.hid (D5.out.below hb6); have R6 := Lib.hid (R5.out.below hb6); clear hb6 c0 c1 c2 c3 d0 d1 d2 d3; obtain ⟨c0, c1, c2, c3, _, _, _, _⟩ := C6.out; obtain ⟨d0, d1, d2, d3, _, _, _, _⟩ := D6.out))
          | (go_at_call 18; go_must (refine (rsame7_calls ⟨(pn : Int), gx, gr, gt⟩ a ga n gn cap gcp _ (HR.out.below B6.out) R6.out).mono ?_; rintro e w7 ⟨rfl, hb7⟩; have B6 := Lib.hid (B6.out.trans (hb7.mono B6.out.size)); have P6 := Lib.hid (P6.out.below hb7); have C6 := Lib.hid (C6.out.below hb7); have D6 := Lib.hid (D6.out.below hb7); have R6 := Lib.hid (R6.out.below hb7); clear hb7 c0 c1 c2 c3 d0 d1 d2 d3; obtain ⟨c0, c1, c2, c3, _, _, _, _⟩ := C6.out; obtain ⟨d0, d1, d2, d3, _, _, _, _⟩ := D6.out))
          | (go_at_call 11; go_must (refine (GF.out _ _ _ _ R6.out).mono ?_; rintro e w9 ⟨⟨v, rfl, hv⟩, hb9⟩; obtain ⟨la, lc, hpv, _, _⟩ := hv.form; rw [LQ.out] at hpv; subst hpv; have Q9 := Lib.hid hv.dql; have B9 := Lib.hid (B6.out.trans (hb9.mono B6.out.size)); have P9 := Lib.hid (P6.out.below hb9); have C9 := Lib.hid (C6.out.below hb9); clear c0 c1 c2 c3 d0 d1 d2 d3 hb9 hv; obtain ⟨c0, c1, c2, c3, _, _, _, _⟩ := C9.out))
          | (go_at_call 19; go_must (refine (enormal_calls pn 0 s 848 la la pa lc lc pcp qf qf ys w9 Q9.out Q9.out P9.out h1c h6c HS.out.symm PF.out PF.out (by omega) (by omega) YF.out (fun us hN i hi => NS.out us hN i hi)).mono ?_; rintro e w10 ⟨rfl, hb10⟩; have B10 := Lib.hid (B9.out.trans (hb10.mono B9.out.size)); clear c0 c1 c2 c3 hb10))
          | (go_at_call 13; refine (live16_calls _).mono ?_; rintro e w8 ⟨rfl, hb8⟩))
        go_ret
        exact ⟨rfl, B10.out.trans (hb8.mono B10.out.size)⟩
end Go.Proofs.YtnboegeljaplbaaGreat
