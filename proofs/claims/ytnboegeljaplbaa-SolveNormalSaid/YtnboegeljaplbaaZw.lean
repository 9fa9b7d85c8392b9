/- Solving: the answers against the factor's Gram list, by the rows' sum. SolveNormal, walked. -/
import Derived.Test.YtnboegeljaplbaaZq
import Derived.Test.YtnboegeljaplbaaVl
import Derived.Test.YtnboegeljaplbaaZv
namespace Go.Proofs.Ytnboegeljaplbaa
open Lv
open Ieee

theorem sumQ_add {f g : Nat → Rat} : ∀ n, sumQ (fun k => f k + g k) n = sumQ f n + sumQ g n
  | 0 => by show (0 : Rat) = 0 + 0; grind
  | n + 1 => by
    show sumQ (fun k => f k + g k) n + (f n + g n) = sumQ f n + f n + (sumQ g n + g n)
    rw [sumQ_add n]; grind
theorem sumQ_mul {f : Nat → Rat} (c : Rat) : ∀ n, sumQ (fun k => c * f k) n = c * sumQ f n
  | 0 => by show (0 : Rat) = c * 0; grind
  | n + 1 => by
    show sumQ (fun k => c * f k) n + c * f n = c * (sumQ f n + f n)
    rw [sumQ_mul c n]; grind
theorem sumQ_le {f g : Nat → Rat} : ∀ n, (∀ k, k < n → f k ≤ g k) → sumQ f n ≤ sumQ g n
  | 0, _ => Rat.le_refl
  | n + 1, h => by
    have h1 := sumQ_le n (fun k hk => h k (by omega))
    have h2 := h n (by omega)
    show sumQ f n + f n ≤ sumQ g n + g n
    grind
/-- sums one way and the other -/
theorem sumQ_swap {f : Nat → Nat → Rat} (m : Nat) : ∀ n, sumQ (fun a => sumQ (fun j => f a j) m) n = sumQ (fun j => sumQ (fun a => f a j) n) m
  | 0 => by
    show (0 : Rat) = _
    rw [sumQ_zero (f := fun j => sumQ (fun a => f a j) 0) m (fun k _ => rfl)]
  | n + 1 => by
    show sumQ (fun a => sumQ (fun j => f a j) m) n + sumQ (fun j => f n j) m = sumQ (fun j => sumQ (fun a => f a j) n + f n j) m
    rw [sumQ_swap m n, sumQ_add]
theorem sumQ_bd {f g : Nat → Rat} : ∀ n, (∀ k, k < n → Bd (f k) (g k)) → Bd (sumQ f n) (sumQ g n)
  | 0, _ => bd_zero Rat.le_refl
  | n + 1, h => (sumQ_bd n (fun k hk => h k (by omega))).add (h n (by omega))
/-- Cauchy, for lists -/
theorem cauchyN {p q : Nat → Rat} : ∀ n, sumQ (fun a => p a * q a) n * sumQ (fun a => p a * q a) n ≤ sumQ (fun a => p a * p a) n * sumQ (fun a => q a * q a) n
  | 0 => by show (0 : Rat) * 0 ≤ 0 * 0; grind
  | n + 1 => by
    have ih := cauchyN (p := p) (q := q) n
    have hA := sumQ_nn (f := fun a => p a * p a) n (fun a _ => rsq_nn _)
    have hB := sumQ_nn (f := fun a => q a * q a) n (fun a _ => rsq_nn _)
    show (sumQ (fun a => p a * q a) n + p n * q n) * (sumQ (fun a => p a * q a) n + p n * q n) ≤ (sumQ (fun a => p a * p a) n + p n * p n) * (sumQ (fun a => q a * q a) n + q n * q n)
    generalize sumQ (fun a => p a * q a) n = S at *
    generalize sumQ (fun a => p a * p a) n = A at *
    generalize sumQ (fun a => q a * q a) n = B at *
    generalize p n = x at *
    generalize q n = y at *
    have hx := rsq_nn x
    have hy := rsq_nn y
    have n1 := rmul_nn hA hy
    have n2 := rmul_nn hB hx
    have h1 : Bd (2 * (S * (x * y))) (A * (y * y) + B * (x * x)) := by
      refine bd_of_sq (by grind) ?_
      have e1 : 2 * (S * (x * y)) * (2 * (S * (x * y))) = 4 * ((S * S) * ((x * x) * (y * y))) := by grind
      have e2 := Rat.mul_le_mul_of_nonneg_right ih (rmul_nn hx hy)
      have e3 := rsq_nn (A * (y * y) - B * (x * x))
      rw [e1]
      grind
    unfold Bd at h1
    grind
theorem cauchyB {p q : Nat → Rat} {U V : Rat} {n : Nat} (hU : 0 ≤ U) (hV : 0 ≤ V) (h1 : sumQ (fun a => p a * p a) n ≤ U * U) (h2 : sumQ (fun a => q a * q a) n ≤ V * V) : sumQ (fun a => p a * q a) n ≤ U * V := by
  refine (bd_of_sq (rmul_nn hU hV) (Rat.le_trans (cauchyN n) ?_)).2
  have h3 := rmul_le (sumQ_nn (f := fun a => p a * p a) n (fun a _ => rsq_nn _)) (sumQ_nn (f := fun a => q a * q a) n (fun a _ => rsq_nn _)) h1 h2
  rw [show U * V * (U * V) = U * U * (V * V) by grind]
  exact h3
theorem absR_sq (q : Rat) : absR q * absR q = q * q := absQ_sq q
theorem absR_mul (a b : Rat) : absR (a * b) = absR a * absR b := by
  have h1 := absR_nn (a * b)
  have h2 := rmul_nn (absR_nn a) (absR_nn b)
  have e : absR (a * b) * absR (a * b) = (absR a * absR b) * (absR a * absR b) := by
    rw [absR_sq, show absR a * absR b * (absR a * absR b) = (absR a * absR a) * (absR b * absR b) by grind, absR_sq, absR_sq]; grind
  have a1 := (bd_of_sq h2 (show absR (a * b) * absR (a * b) ≤ _ by rw [e]; exact Rat.le_refl)).2
  have a2 := (bd_of_sq h1 (show (absR a * absR b) * (absR a * absR b) ≤ _ by rw [e]; exact Rat.le_refl)).2
  grind
theorem absR_bd (q : Rat) : Bd q (absR q) := absQ_bd q
/-- the rows' residuals, summed: rows L a, answers x, norms U -/
theorem normal_sum {c i : Nat} {L : Nat → Nat → Rat} {x U : Nat → Rat} (h1 : 1 ≤ c) (h6 : c ≤ 6) (hi : i < c) (hU : ∀ l, l ≤ c → 0 ≤ U l) (hsq : ∀ l, l ≤ c → sumQ (fun a => L a l * L a l) (c + 1) ≤ U l * U l) (hlast : ∀ l, l < c → L c l = 0)
    (hres : ∀ a, a < c → absR (L a c - sumQ (fun j => L a j * x j) c) ≤ sumQ (fun j => absR (L a j * x j)) c * ((c + 2 : Nat) : Rat) * p2 (-53) + ((c : Rat) + absR (L a a)) * p2 (-1070)) :
    Bd (sumQ (fun a => L a i * L a c) (c + 1) - sumQ (fun j => sumQ (fun a => L a i * L a j) (c + 1) * x j) c)
      (bndQ (U i) (U c) 1 + sumQ (fun j => bndQ (U i) (U j) 1 * absR (x j)) c + (U i + p2 (-1060)) * (1 + sumQ (fun l => U l) (c + 1)) * p2 (-1060)) := by
  have hUi := hU i (by omega)
  -- the entries are no greater than the norms
  have hent : ∀ a l, a ≤ c → l ≤ c → absR (L a l) ≤ U l := by
    intro a l ha hl
    refine (bd_of_sq (hU l hl) ?_).2
    rw [absR_sq]
    exact Rat.le_trans (sumQ_ge (f := fun a => L a l * L a l) (j := a) (c + 1) (by omega) (fun _ _ => rsq_nn _)) (hsq l hl)
  -- the sum by rows
  have e1 : sumQ (fun a => L a i * L a c) (c + 1) - sumQ (fun j => sumQ (fun a => L a i * L a j) (c + 1) * x j) c = sumQ (fun a => L a i * (L a c - sumQ (fun j => L a j * x j) c)) c := by
    have s1 : ∀ l, sumQ (fun a => L a i * L a l) (c + 1) = sumQ (fun a => L a i * L a l) c := by
      intro l
      show sumQ (fun a => L a i * L a l) c + L c i * L c l = _
      rw [hlast i hi]; grind
    rw [s1 c, sumQ_same (f := fun j => sumQ (fun a => L a i * L a j) (c + 1) * x j) (g := fun j => sumQ (fun a => L a i * (L a j * x j)) c) c (fun j _ => by
      rw [s1 j, Rat.mul_comm, ← sumQ_mul]
      exact sumQ_same c (fun a _ => by grind))]
    rw [← sumQ_swap c c (f := fun a j => L a i * (L a j * x j))]
    have s2 : sumQ (fun a => sumQ (fun j => L a i * (L a j * x j)) c) c = sumQ (fun a => L a i * sumQ (fun j => L a j * x j) c) c := sumQ_same c (fun a _ => sumQ_mul _ c)
    rw [s2]
    have s3 := sumQ_add (f := fun a => L a i * (L a c - sumQ (fun j => L a j * x j) c)) (g := fun a => L a i * sumQ (fun j => L a j * x j) c) c
    rw [sumQ_same (g := fun a => L a i * L a c) c (fun a _ => by grind)] at s3
    rw [s3]; grind
  rw [e1]
  obtain ⟨N, hN⟩ : ∃ N : Rat, ((c + 2 : Nat) : Rat) = N := ⟨_, rfl⟩
  rw [hN] at hres
  have hN8 : N ≤ 8 := by rw [← hN]; exact_mod_cast (show c + 2 ≤ 8 by omega)
  have hN0 : 0 ≤ N := by rw [← hN]; exact ratn_nn _
  have hc6 : (c : Rat) ≤ 6 := by exact_mod_cast h6
  have hc0 := ratn_nn c
  have hu0 := Rat.le_of_lt uu_pos
  have he0 := Rat.le_of_lt ee_pos
  -- each row's part
  have hrow : ∀ a, a < c → Bd (L a i * (L a c - sumQ (fun j => L a j * x j) c)) (sumQ (fun j => N * uu * (absR (L a i) * absR (L a j) * absR (x j))) c + (6 * U i + U i * U a) * (32 * ee)) := by
    intro a ha
    have b1 := (absR_bd (L a i)).mul ((bd_absR.2 (hres a ha)))
    refine b1.mono ?_
    have s1 : sumQ (fun j => N * uu * (absR (L a i) * absR (L a j) * absR (x j))) c = absR (L a i) * (sumQ (fun j => absR (L a j * x j)) c * N * p2 (-53)) := by
      rw [show p2 (-53) = uu from rfl, show absR (L a i) * (sumQ (fun j => absR (L a j * x j)) c * N * uu) = (N * uu * absR (L a i)) * sumQ (fun j => absR (L a j * x j)) c by grind, ← sumQ_mul]
      exact sumQ_same c (fun j _ => by rw [absR_mul]; grind)
    rw [s1, p1070]
    have t1 := hent a i (by omega) (by omega)
    have t2 := hent a a (by omega) (by omega)
    have t3 := rmul_le (absR_nn (L a i)) (show 0 ≤ (c : Rat) + absR (L a a) by have := absR_nn (L a a); grind) t1 (show (c : Rat) + absR (L a a) ≤ 6 + U a by grind)
    have t4 := Rat.mul_le_mul_of_nonneg_right t3 (show 0 ≤ 32 * ee by grind)
    grind
  have hsum := sumQ_bd c hrow
  refine hsum.mono ?_
  clear hsum hrow e1 hres
  rw [sumQ_add, sumQ_swap]
  -- the first part: column by column
  have f1 : ∀ j, j < c → sumQ (fun a => N * uu * (absR (L a i) * absR (L a j) * absR (x j))) c ≤ bndQ (U i) (U j) 1 * absR (x j) := by
    intro j hj
    have s1 : sumQ (fun a => N * uu * (absR (L a i) * absR (L a j) * absR (x j))) c = N * uu * absR (x j) * sumQ (fun a => absR (L a i) * absR (L a j)) c := by
      rw [← sumQ_mul]
      exact sumQ_same c (fun a _ => by grind)
    have hUj := hU j (by omega)
    have cb : sumQ (fun a => absR (L a i) * absR (L a j)) c ≤ U i * U j := by
      refine cauchyB hUi hUj ?_ ?_
      · rw [sumQ_same (g := fun a => L a i * L a i) c (fun a _ => absR_sq _)]
        exact Rat.le_trans (sumQ_mono (c + 1) (by omega) (fun a _ => rsq_nn _)) (hsq i (by omega))
      · rw [sumQ_same (g := fun a => L a j * L a j) c (fun a _ => absR_sq _)]
        exact Rat.le_trans (sumQ_mono (c + 1) (by omega) (fun a _ => rsq_nn _)) (hsq j (by omega))
    rw [s1]
    have xn := absR_nn (x j)
    have ux := rmul_nn hu0 xn
    have Nux := rmul_nn hN0 ux
    have t1 := rmul_mono (show 0 ≤ N * uu * absR (x j) by grind) cb
    have UU := rmul_nn hUi hUj
    have t2 : N * (uu * absR (x j) * (U i * U j)) ≤ 8 * (uu * absR (x j) * (U i * U j)) := Rat.mul_le_mul_of_nonneg_right hN8 (rmul_nn ux UU)
    have t3 : 64 * uu * (U i * U j) ≤ bndQ (U i) (U j) 1 := by
      unfold bndQ
      rw [show p2 (-53) = uu from rfl, show ((64 * 1 : Nat) : Rat) = 64 by norm_cast, show ((1 : Nat) : Rat) = 1 from rfl]
      have q1 := rmul_nn (show 0 ≤ U i + U j by grind) (Rat.le_of_lt (p2_pos (-1060)))
      have q2 := Rat.le_of_lt (p2_pos (-2140))
      grind
    have t4 := Rat.mul_le_mul_of_nonneg_right t3 xn
    have t5 := rmul_nn ux UU
    grind
  have f2 := sumQ_le c f1
  have bn : 0 ≤ bndQ (U i) (U c) 1 := by
    unfold bndQ
    have hUc := hU c (Nat.le_refl c)
    have q1 := rmul_nn (rmul_nn (rmul_nn hUi hUc) (ratn_nn (64 * 1))) (Rat.le_of_lt (p2_pos (-53)))
    have q2 := rmul_nn (rmul_nn (show 0 ≤ U i + U c by grind) (ratn_nn 1)) (Rat.le_of_lt (p2_pos (-1060)))
    have q3 := rmul_nn (rmul_nn (Rat.le_of_lt (p2_pos (-2140))) (ratn_nn 1)) (ratn_nn 1)
    grind
  -- the second part
  have f3 : sumQ (fun a => (6 * U i + U i * U a) * (32 * ee)) c ≤ (U i + p2 (-1060)) * (1 + sumQ (fun l => U l) (c + 1)) * p2 (-1060) := by
    have p1060 : p2 (-1060) = 32768 * ee := by
      have e1 := p2_nat 15
      rw [show ((15 : Nat) : Int) = 15 from rfl] at e1
      have e3 : ((2 ^ 15 : Nat) : Rat) = 32768 := by norm_cast
      rw [e3] at e1
      unfold ee
      rw [← e1, ← p2_add]; rfl
    have s1 : sumQ (fun a => (6 * U i + U i * U a) * (32 * ee)) c = sumQ (fun _ => 6 * U i * (32 * ee)) c + (U i * (32 * ee)) * sumQ (fun a => U a) c := by
      rw [← sumQ_mul, ← sumQ_add]
      exact sumQ_same c (fun a _ => by grind)
    have s2 : ∀ n : Nat, sumQ (fun _ => 6 * U i * (32 * ee)) n = (n : Rat) * (6 * U i * (32 * ee)) := by
      intro n
      induction n with
      | zero => show (0 : Rat) = _; rw [show ((0 : Nat) : Rat) = 0 from rfl]; grind
      | succ n ih => show sumQ (fun _ => 6 * U i * (32 * ee)) n + _ = _; rw [ih, natr_succ]; grind
    have hS := sumQ_nn (f := fun l => U l) c (fun l hl => hU l (by omega))
    have hUc := hU c (Nat.le_refl c)
    have s3 : sumQ (fun l => U l) (c + 1) = sumQ (fun l => U l) c + U c := rfl
    rw [s1, s2, s3, p1060]
    generalize sumQ (fun a => U a) c = T at *
    have q0 := rmul_nn hUi he0
    have q1 : (c : Rat) * (U i * ee) ≤ 6 * (U i * ee) := Rat.mul_le_mul_of_nonneg_right hc6 q0
    have q2 := rmul_nn q0 hS
    have q3 := rmul_nn q0 hUc
    have q4 := rmul_nn (rmul_nn he0 he0) (show 0 ≤ 1 + (T + U c) by grind)
    rw [show (U i + 32768 * ee) * (1 + (T + U c)) * (32768 * ee) = 32768 * (U i * ee) + 32768 * (U i * ee * T) + 32768 * (U i * ee * U c) + 1073741824 * (ee * ee * (1 + (T + U c))) by grind]
    rw [show (c : Rat) * (6 * U i * (32 * ee)) + U i * (32 * ee) * T = 192 * ((c : Rat) * (U i * ee)) + 32 * (U i * ee * T) by grind]
    generalize U i * ee = z1 at *
    generalize z1 * T = z2 at *
    generalize z1 * U c = z3 at *
    generalize ee * ee * (1 + (T + U c)) = z4 at *
    grind
  grind
end Go.Proofs.Ytnboegeljaplbaa
namespace Go.Proofs.Ytnboegeljaplbaa
open Go.RowKit Lv Go.Shelf
open Ieee (double Format Datum Toward)
attribute [local go_sem] Oper.semAt_some run_store_float drewN_alloc drewN_setCell

theorem back_err' {F : FacD} {ys : List (Option Nat)} (h : backD F = (ys, 0)) : F.ok = true := by
  unfold backD at h
  by_cases h1 : F.ok = false
  · rw [if_pos h1] at h; cases (Prod.mk.inj h).2
  · simpa using h1
theorem gx_symm {xs : List (Option Nat)} {c i j : Nat} : Gx xs c i j = Gx xs c j i := by
  unfold Gx
  exact sumQ_same _ (fun a _ => Rat.mul_comm _ _)
/-- the answers against the factor's Gram list -/
theorem solve_normal {c A : Nat} {xs ys : List (Option Nat)} (hT : TriOk c xs) (hyl : ys.length = c)
    (hfit : ∀ i, i < c → absR (fv (ent xs c i c) - sumQ (fun k => fv (ent xs c i k) * fv (ys.getD k none)) c) ≤ sumQ (fun k => absR (fv (ent xs c i k) * fv (ys.getD k none))) c * ((c + 2 : Nat) : Rat) * p2 (-53) + ((c : Rat) + absR (fv (ent xs c i i))) * p2 (-1070))
    {us : List Rat} (hN : Norms c A (gramL c (linesD xs c)) us) {i : Nat} (hi : i < c) :
    absR ((gramL c (linesD xs c)).getD (gix c i c) 0 - sumQ (fun j => (gramL c (linesD xs c)).getD (gix c (min i j) (max i j)) 0 * (ys.map fv).getD j 0) c) ≤ mostN us (ys.map fv) c i 0 := by
  have h1 := hT.h1
  have h6 := hT.h6
  have eL : ∀ a l, a ≤ c → l ≤ c → fv (ent xs c a l) = Lx xs c a l := fun a l ha hl => lx_line ha hl
  have eX : ∀ j, j < c → (ys.map fv).getD j 0 = fv (ys.getD j none) := fun j hj => getD_fv (by omega)
  have hres : ∀ a, a < c → absR (Lx xs c a c - sumQ (fun j => Lx xs c a j * fv (ys.getD j none)) c) ≤ sumQ (fun j => absR (Lx xs c a j * fv (ys.getD j none))) c * ((c + 2 : Nat) : Rat) * p2 (-53) + ((c : Rat) + absR (Lx xs c a a)) * p2 (-1070) := by
    intro a ha
    have := hfit a ha
    rw [eL a c (by omega) (by omega), eL a a (by omega) (by omega), sumQ_same (f := fun k => fv (ent xs c a k) * fv (ys.getD k none)) (g := fun j => Lx xs c a j * fv (ys.getD j none)) c (fun k hk => by rw [eL a k (by omega) (by omega)]), sumQ_same (f := fun k => absR (fv (ent xs c a k) * fv (ys.getD k none))) (g := fun j => absR (Lx xs c a j * fv (ys.getD j none))) c (fun k hk => by rw [eL a k (by omega) (by omega)])] at this
    exact this
  have key := normal_sum (L := fun a l => Lx xs c a l) (x := fun j => fv (ys.getD j none)) (U := fun l => us.getD l 0) h1 h6 hi hN.nn (fun l hl => by
    have := hN.sq l hl
    rw [gram_get h1 h6 hT.len (Nat.le_refl l) hl] at this
    exact this) (fun l hl => by unfold Lx; rw [if_pos hl]) hres
  rw [bd_absR] at key
  have e0 : ∀ j, j ≤ c → (gramL c (linesD xs c)).getD (gix c (min i j) (max i j)) 0 = sumQ (fun a => Lx xs c a i * Lx xs c a j) (c + 1) := by
    intro j hj
    rw [gram_get h1 h6 hT.len (by omega) (by omega)]
    by_cases h : i ≤ j
    · rw [Nat.min_eq_left h, Nat.max_eq_right h]; rfl
    · rw [Nat.min_eq_right (by omega), Nat.max_eq_left (by omega), gx_symm]; rfl
  have ec := e0 c (Nat.le_refl c)
  rw [Nat.min_eq_left (by omega), Nat.max_eq_right (by omega)] at ec
  rw [ec, sumQ_same (g := fun j => sumQ (fun a => Lx xs c a i * Lx xs c a j) (c + 1) * fv (ys.getD j none)) c (fun j hj => by rw [e0 j (by omega), eX j hj])]
  unfold mostN
  rw [sumQ_same (f := fun j => bndQ (us.getD i 0) (us.getD j 0) (0 + 1) * absR ((ys.map fv).getD j 0)) (g := fun j => bndQ (us.getD i 0) (us.getD j 0) 1 * absR (fv (ys.getD j none))) c (fun j hj => by rw [eX j hj])]
  exact key

set_option maxRecDepth 100000 in
set_option maxHeartbeats 4000000 in
theorem solveNormal_walk (w : World) (F : FacD) (a : Option Addr) (n cap : Nat) (h : Row w (.slice a n cap) F.xs) :
    Calls Try.prog 9 #[.agg #[.int .i64 F.cols, .slice a n cap, .int .i64 F.rws, .int .i64 F.trn]] w fun e w' => e = .returned (.bool true) ∧ Below w.heap.size w w' := by
  have HB := Lib.hid ((Below.refl w.heap.size w).alloc (Nat.le_refl _) (.cells #[.int .i64 F.cols, .slice a n cap, .int .i64 F.rws, .int .i64 F.trn] 24))
  have C0 := Lib.hid (Cells4.new w (.int .i64 F.cols) (.slice a n cap) (.int .i64 F.rws) (.int .i64 F.trn) 24)
  have HR := Lib.hid h
  by_cases h1 : 60 < n
  · have h1i : (60 : Int) < (n : Int) := by omega
    clear h
    go_enter Try.func9, Try.ntmps9
    go_wp2_with (go_at_call 23; refine (live16_calls _).mono ?_; rintro e w6 ⟨rfl, hb6⟩)
    go_ret
    exact ⟨rfl, HB.out.trans (hb6.mono (by simp))⟩
  have h1i : ¬ (60 : Int) < (n : Int) := by omega
  have BC := Lib.hid (fun W hW => back_calls F a n cap W hW)
  have HW := Lib.hid (row_wd h)
  obtain ⟨R, hR⟩ : ∃ R, R = backD F := ⟨_, rfl⟩
  rw [← hR] at BC
  obtain ⟨ys, ye⟩ := R
  by_cases hge : ye ≠ 0
  · have hne : (ye != 0) = true := by simpa using hge
    clear h hR hge
    go_enter Try.func9, Try.ntmps9
    go_wp2_with (first
      | (go_at_call 24; go_must (refine (BC.out _ (HR.out.below HB.out)).mono ?_; rintro e w2 ⟨⟨pa, pn, pcp, rfl, hp⟩, hb2⟩; dsimp only at hp; have B2 := Lib.hid (HB.out.trans (hb2.mono HB.out.size)); clear hp hb2))
      | (go_at_call 23; refine (live16_calls _).mono ?_; rintro e w8 ⟨rfl, hb8⟩))
    go_ret
    exact ⟨rfl, B2.out.trans (hb8.mono B2.out.size)⟩
  · obtain rfl : ye = 0 := by simpa using hge
    have hok := back_err' hR.symm
    obtain ⟨fc, fx, fr, ft⟩ := F
    obtain ⟨c, rfl⟩ := Int.eq_ofNat_of_zero_le (show 0 ≤ fc by have := ok_cols hok; dsimp only at this; omega)
    obtain ⟨hck, hT, hyl, hyn, hfit⟩ := back_fits HW.out hR.symm
    have h1c := hT.h1
    have h6c := hT.h6
    obtain ⟨s, hs⟩ : ∃ s, tsz c = s := ⟨_, rfl⟩
    have LF := gramL_ok (c := c) (A := 420) _ hT.lines
    rw [linesD_len, hs] at LF
    have GF := Lib.hid (fun W hW => gfactor_calls c 420 fr ft a n cap fx W hW hck hT.lines (by omega))
    have NS := Lib.hid (fun us (hN : Norms c 848 (gramL c (linesD fx c)) us) i (hi : i < c) => solve_normal hT hyl hfit hN hi)
    have YF := Lib.hid (show ∀ x ∈ ys, Lv.Fn x from fun x hx => by
      obtain ⟨k, hk, rfl⟩ := List.mem_iff_getElem.1 hx
      have := hyn k (by omega)
      rwa [List.getD_eq_getElem?_getD, List.getElem?_eq_getElem hk] at this)
    generalize gramL c (linesD fx c) = qf at *
    have PF := Lib.hid (show ∀ j, j < s → Bd (qf.getD j 0) (p2 ((848 : Nat) : Int)) from fun j hj => bd_p2_mono (LF.2 j hj) (by omega))
    have LQ := Lib.hid LF.1
    have HS := Lib.hid hs
    have YL := Lib.hid hyl
    clear h hR hge hok hck hT hyl hyn hfit HW LF hs
    go_enter Try.func9, Try.ntmps9
    go_upto_region 4 with (go_at_call 24; go_must (refine (BC.out _ (HR.out.below HB.out)).mono ?_; rintro e w2 ⟨⟨pa, pn, pcp, rfl, hp⟩, hb2⟩; dsimp only at hp; have B2 := Lib.hid (HB.out.trans (hb2.mono HB.out.size)); have C2 := Lib.hid (C0.out.below hb2); have P2 := Lib.hid hp; clear hb2 hp))
    obtain rfl : pn = c := by have := P2.out.len; rw [YL.out] at this; exact this.symm
    obtain ⟨c0, c1, c2, c3, _, _, _, _⟩ := C2.out
    go_wp2_with (first
      | (go_at_call 12; go_must (refine (GF.out _ (HR.out.below B2.out)).mono ?_; rintro e w6 ⟨⟨v, rfl, hv⟩, hb6⟩; obtain ⟨qa, qc, hpv, _, _⟩ := hv.form; rw [LQ.out] at hpv; subst hpv; have Q6 := Lib.hid hv.dql; have B6 := Lib.hid (B2.out.trans (hb6.mono B2.out.size)); have P6 := Lib.hid (P2.out.below hb6); have C6 := Lib.hid (C2.out.below hb6); clear c0 c1 c2 c3 hb6 hv; obtain ⟨c0, c1, c2, c3, _, _, _, _⟩ := C6.out))
      | (go_at_call 29; go_must (refine (enormal_calls pn 0 s 848 qa qa pa qc qc pcp qf qf ys w6 Q6.out Q6.out P6.out h1c h6c HS.out.symm PF.out PF.out (by omega) (by omega) YF.out (fun us hN i hi => NS.out us hN i hi)).mono ?_; rintro e w10 ⟨rfl, hb10⟩; have B10 := Lib.hid (B6.out.trans (hb10.mono B6.out.size)); clear c0 c1 c2 c3 hb10))
      | (go_at_call 23; refine (live16_calls _).mono ?_; rintro e w8 ⟨rfl, hb8⟩))
    go_ret
    exact ⟨rfl, B10.out.trans (hb8.mono B10.out.size)⟩
end Go.Proofs.Ytnboegeljaplbaa
