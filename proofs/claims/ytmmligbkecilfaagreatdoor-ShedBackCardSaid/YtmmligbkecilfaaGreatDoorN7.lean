/- Dyads as rationals, plainly. Dyads in memory; the reference's Check and May of layer 3. The reference's Norm of layer 3. The reference's From, Neg, Abs of layer 3, Pow of layer 4. -/
import Derived.Test.YtmmligbkecilfaaGreatDoorNz
import Derived.Test.YtmmligbkecilfaaGreatDoorZd
import Derived.Test.YtmmligbkecilfaaGreatDoorN4
import Derived.Test.YtmmligbkecilfaaGreatDoorS
namespace Go.Proofs.YtmmligbkecilfaaGreatDoor.Lv
/-- what sign, digits and exponent stand for -/
def dqv (s : Bool) (m : Nat) (e : Int) : Rat := if s then -((m : Rat) * p2 e) else (m : Rat) * p2 e
theorem dqv_zero (s : Bool) (e : Int) : dqv s 0 e = 0 := by unfold dqv; cases s <;> simp
theorem ratn_nn (m : Nat) : (0 : Rat) ≤ (m : Rat) := by exact_mod_cast Nat.zero_le m
theorem dm_nn (m : Nat) (e : Int) : 0 ≤ (m : Rat) * p2 e := rmul_nn (ratn_nn m) (Rat.le_of_lt (p2_pos e))
theorem dqv_bd {s : Bool} {m : Nat} {e : Int} {M : Rat} : Bd (dqv s m e) M ↔ (m : Rat) * p2 e ≤ M := by
  have h := dm_nn m e
  unfold dqv Bd
  cases s
  · simp only [Bool.false_eq_true, if_false]; constructor
    · exact fun h => h.2
    · exact fun h' => ⟨by grind, h'⟩
  · simp only [if_true]; constructor
    · intro h; grind
    · intro h'; constructor <;> grind
theorem rat_pow (k : Nat) : ((2 ^ k : Nat) : Rat) = p2 (k : Int) := (p2_nat k).symm
/-- digits shifted, the exponent lowered -/
theorem sh_val (m k : Nat) (e : Int) : ((m * 2 ^ k : Nat) : Rat) * p2 e = (m : Rat) * p2 (e + (k : Int)) := by
  rw [Rat.natCast_mul, rat_pow, p2_add]; grind
theorem sz_of_bd {m : Nat} {e A : Int} {n : Nat} (h : (m : Rat) * p2 e ≤ p2 A) (hn : A - e ≤ (n : Int)) : sz m ≤ n + 1 := by
  apply sz_le
  have h1 : (m : Rat) ≤ p2 (A - e) := by
    have h2 := Rat.mul_le_mul_of_nonneg_right h (Rat.le_of_lt (p2_pos (-e)))
    rw [Rat.mul_assoc, ← p2_add, ← p2_add, show e + -e = 0 by omega, p2_zero, Rat.mul_one] at h2
    exact h2
  have h3 : (m : Rat) ≤ ((2 ^ n : Nat) : Rat) := by rw [rat_pow]; exact Rat.le_trans h1 (p2_le hn)
  have h4 : m ≤ 2 ^ n := by exact_mod_cast h3
  exact Nat.lt_of_le_of_lt h4 (Nat.pow_lt_pow_right (by decide) (by omega))
theorem exp_le {m : Nat} {e A : Int} (hm : m ≠ 0) (h : (m : Rat) * p2 e ≤ p2 A) : e ≤ A := by
  by_cases c : e ≤ A
  · exact c
  · have h1 : (1 : Rat) ≤ (m : Rat) := by exact_mod_cast Nat.pos_of_ne_zero hm
    have h2 := Rat.mul_le_mul_of_nonneg_right h1 (Rat.le_of_lt (p2_pos e))
    have h3 := p2_lt (show A < e by omega)
    grind
theorem norm_step {m k : Nat} {e : Int} (h : m / 2 ^ k * 2 ^ k = m) : ((m / 2 ^ k : Nat) : Rat) * p2 (e + (k : Int)) = (m : Rat) * p2 e := by
  rw [← sh_val, h]
theorem dqv_same {s : Bool} {m m' : Nat} {e e' : Int} (h : (m : Rat) * p2 e = (m' : Rat) * p2 e') : dqv s m e = dqv s m' e' := by unfold dqv; rw [h]
theorem dqv_not (s : Bool) (m : Nat) (e : Int) : dqv (!s) m e = - dqv s m e := by unfold dqv; cases s <;> simp
theorem dqv_shl (s : Bool) (m k : Nat) (e : Int) : dqv s (m * 2 ^ k) e = dqv s m (e + (k : Int)) := dqv_same (sh_val m k e)
theorem dqv_mul (s t : Bool) (m n : Nat) (e f : Int) : dqv (s != t) (m * n) (e + f) = dqv s m e * dqv t n f := by
  unfold dqv
  rw [Rat.natCast_mul, p2_add]
  cases s <;> cases t <;> simp <;> grind
theorem dqv_add (s : Bool) (x y : Nat) (e : Int) : dqv s (x + y) e = dqv s x e + dqv s y e := by
  unfold dqv
  rw [Rat.natCast_add]
  cases s <;> simp <;> grind
theorem dqv_sub (s : Bool) {x y : Nat} (e : Int) (h : y ≤ x) : dqv s (x - y) e = dqv s x e + dqv (!s) y e := by
  have h1 : ((x - y : Nat) : Rat) = (x : Rat) - (y : Rat) := by
    have : x = (x - y) + y := by omega
    have h2 : (x : Rat) = ((x - y : Nat) : Rat) + (y : Rat) := by rw [← Rat.natCast_add, ← this]
    grind
  unfold dqv
  rw [h1]
  cases s <;> simp <;> grind
def absR (q : Rat) : Rat := if q < 0 then -q else q
theorem absR_nn (q : Rat) : 0 ≤ absR q := by unfold absR; split <;> grind
theorem bd_absR {q M : Rat} : Bd q M ↔ absR q ≤ M := by unfold Bd absR; split <;> grind
theorem bd_absR' {q M : Rat} : Bd (absR q) M ↔ Bd q M := by unfold Bd absR; split <;> grind
theorem dqv_abs (s : Bool) (m : Nat) (e : Int) : dqv false m e = absR (dqv s m e) := by
  have h := dm_nn m e
  unfold dqv absR
  cases s
  · simp only [Bool.false_eq_true, if_false]; rw [if_neg (by grind)]
  · simp only [if_true, Bool.false_eq_true, if_false]
    split <;> grind
/-- which of two is greater -/
def cmpQ (a b : Rat) : Int := if a < b then -1 else if a = b then 0 else 1
theorem cmpQ_le {a b : Rat} : decide (cmpQ a b ≤ 0) = decide (a ≤ b) := by
  unfold cmpQ
  by_cases h : a < b
  · rw [if_pos h, decide_eq_true (show a ≤ b by grind)]; rfl
  · rw [if_neg h]
    by_cases h2 : a = b
    · rw [if_pos h2, decide_eq_true (show a ≤ b by grind)]; rfl
    · rw [if_neg h2, decide_eq_false (show ¬ a ≤ b by grind)]; rfl
theorem cmp_shl {x y : Nat} {e : Int} : cmpI x y = cmpQ ((x : Rat) * p2 e) ((y : Rat) * p2 e) := by
  have hp := p2_pos e
  rcases Nat.lt_trichotomy x y with h | h | h
  · rw [cmpI_lt h]
    have h1 : (x : Rat) < (y : Rat) := by exact_mod_cast h
    unfold cmpQ
    rw [if_pos (Rat.mul_lt_mul_of_pos_right h1 hp)]
  · subst h
    rw [cmpI_eq rfl]
    unfold cmpQ
    rw [if_neg (by grind), if_pos rfl]
  · rw [cmpI_gt h]
    have h1 : (y : Rat) < (x : Rat) := by exact_mod_cast h
    have h2 := Rat.mul_lt_mul_of_pos_right h1 hp
    unfold cmpQ
    rw [if_neg (by grind), if_neg (by grind)]
end Go.Proofs.YtmmligbkecilfaaGreatDoor.Lv
namespace Go.Proofs.YtmmligbkecilfaaGreatDoor
open Go.RowKit Lv Go.Shelf
attribute [local go_sem] Oper.semAt_some drewN_alloc drewN_setCell

/-- three cells -/
structure Cells3 (W : World) (b : Nat) (u0 u1 u2 : Value) : Prop where
  c0 : W.cell? ⟨b, 0, none⟩ = some u0
  c1 : W.cell? ⟨b, 1, none⟩ = some u1
  c2 : W.cell? ⟨b, 2, none⟩ = some u2
  f0 : W.frozen? ⟨b, 0, none⟩ = false
  f1 : W.frozen? ⟨b, 1, none⟩ = false
  f2 : W.frozen? ⟨b, 2, none⟩ = false
theorem Cells3.lt {W : World} {b : Nat} {u0 u1 u2 : Value} (h : Cells3 W b u0 u1 u2) : b < W.heap.size := cell_lt h.c0
theorem Cells3.below {W W' : World} {b : Nat} {u0 u1 u2 : Value} (h : Cells3 W b u0 u1 u2) (hb : Below W.heap.size W W') : Cells3 W' b u0 u1 u2 :=
  ⟨(hb.cell (p := ⟨b, 0, none⟩) h.lt).trans h.c0, (hb.cell (p := ⟨b, 1, none⟩) h.lt).trans h.c1, (hb.cell (p := ⟨b, 2, none⟩) h.lt).trans h.c2, (hb.frozen (p := ⟨b, 0, none⟩) h.lt).trans h.f0, (hb.frozen (p := ⟨b, 1, none⟩) h.lt).trans h.f1, (hb.frozen (p := ⟨b, 2, none⟩) h.lt).trans h.f2⟩
theorem Cells3.new (w : World) (u0 u1 u2 : Value) (t : TypeId) : Cells3 (w.alloc (.cells #[u0, u1, u2] t)) w.heap.size u0 u1 u2 := ⟨by simp [go_sem], by simp [go_sem], by simp [go_sem], by simp [go_sem], by simp [go_sem], by simp [go_sem]⟩
theorem Cells3.new2 (w : World) (o : Obj) (u0 u1 u2 : Value) (t : TypeId) : Cells3 ((w.alloc o).alloc (.cells #[u0, u1, u2] t)) (w.heap.size + 1) u0 u1 u2 := by
  have := Cells3.new (w.alloc o) u0 u1 u2 t
  rwa [World.size_alloc] at this
theorem Cells3.alloc {W : World} {b : Nat} {u0 u1 u2 : Value} (h : Cells3 W b u0 u1 u2) (o : Obj) : Cells3 (W.alloc o) b u0 u1 u2 := h.below ((Below.refl _ _).alloc (Nat.le_refl _) _)
theorem Cells3.put {W : World} {b : Nat} {u0 u1 u2 : Value} (h : Cells3 W b u0 u1 u2) (v0 v1 v2 : Value) : Cells3 (((W.setCell ⟨b, 0, none⟩ v0).setCell ⟨b, 1, none⟩ v1).setCell ⟨b, 2, none⟩ v2) b v0 v1 v2 :=
  ⟨cell_set_off (cell_set_off (cell_set_eq h.c0) (by decide)) (by decide), cell_set_off (cell_set_eq (cell_set_off h.c1 (by decide))) (by decide), cell_set_eq (cell_set_off (cell_set_off h.c2 (by decide)) (by decide)), frozen_set (frozen_set (frozen_set h.f0)), frozen_set (frozen_set (frozen_set h.f1)), frozen_set (frozen_set (frozen_set h.f2))⟩
theorem Cells3.put_other {W : World} {b b' : Nat} {u0 u1 u2 : Value} (h : Cells3 W b u0 u1 u2) (hne : b' ≠ b) (v0 v1 v2 : Value) : Cells3 (((W.setCell ⟨b', 0, none⟩ v0).setCell ⟨b', 1, none⟩ v1).setCell ⟨b', 2, none⟩ v2) b u0 u1 u2 :=
  ⟨cell_set_ne (cell_set_ne (cell_set_ne h.c0 hne) hne) hne, cell_set_ne (cell_set_ne (cell_set_ne h.c1 hne) hne) hne, cell_set_ne (cell_set_ne (cell_set_ne h.c2 hne) hne) hne, frozen_set (frozen_set (frozen_set h.f0)), frozen_set (frozen_set (frozen_set h.f1)), frozen_set (frozen_set (frozen_set h.f2))⟩
theorem below_put3 {w W : World} {b : Nat} (h : Below w.heap.size w W) (hb : w.heap.size ≤ b) (u0 u1 u2 : Value) : Below w.heap.size w (((W.setCell ⟨b, 0, none⟩ u0).setCell ⟨b, 1, none⟩ u1).setCell ⟨b, 2, none⟩ u2) :=
  ((h.setCell (p := ⟨b, 0, none⟩) hb _).setCell (p := ⟨b, 1, none⟩) hb _).setCell (p := ⟨b, 2, none⟩) hb _

/-- a dyad in memory: sign, digits, exponent -/
def Dy (w : World) (v : Value) (s : Bool) (m : Nat) (e : Int) : Prop :=
  ∃ a n cap, v = .agg #[.bool s, .slice a n cap, .int .i64 e] ∧ Nt w (.slice a n cap) m ∧ (m = 0 → s = false ∧ e = 0) ∧ (m ≠ 0 → m % 2 = 1) ∧ -20000 ≤ e ∧ e ≤ 20000
theorem Dy.below {w w' : World} {v : Value} {s : Bool} {m : Nat} {e : Int} (h : Dy w v s m e) (hb : Below w.heap.size w w') : Dy w' v s m e := by
  obtain ⟨a, n, cap, h1, h2, h3⟩ := h
  exact ⟨a, n, cap, h1, h2.below hb, h3⟩
/-- a dyad in memory: the rational; 2 to the power of -B divides it -/
def Dq (w : World) (v : Value) (q : Rat) (B : Nat) : Prop := ∃ s m e, Dy w v s m e ∧ q = dqv s m e ∧ (m ≠ 0 → -(B : Int) ≤ e)
theorem Dq.below {w w' : World} {v : Value} {q : Rat} {B : Nat} (h : Dq w v q B) (hb : Below w.heap.size w w') : Dq w' v q B := by
  obtain ⟨s, m, e, h1, h2⟩ := h
  exact ⟨s, m, e, h1.below hb, h2⟩
theorem Dq.mono {w : World} {v : Value} {q : Rat} {B B' : Nat} (h : Dq w v q B) (hB : B ≤ B') : Dq w v q B' := by
  obtain ⟨s, m, e, h1, h2, h3⟩ := h
  exact ⟨s, m, e, h1, h2, fun hm => by have := h3 hm; omega⟩
theorem dy_zero (w : World) : Dy w (.agg #[.bool false, .slice none 0 0, .int .i64 0]) false 0 0 := ⟨none, 0, 0, rfl, nt_zero w, fun _ => ⟨rfl, rfl⟩, fun h => absurd rfl h, by omega, by omega⟩
theorem dq_zero (w : World) (B : Nat) : Dq w (.agg #[.bool false, .slice none 0 0, .int .i64 0]) 0 B := ⟨false, 0, 0, dy_zero w, (dqv_zero _ _).symm, fun h => absurd rfl h⟩

theorem wval_odd {L : List Nat} : wval L % 2 = L.getD 0 0 % 2 := by
  cases L with
  | nil => rfl
  | cons d t => show (d + 4294967296 * wval t) % 2 = d % 2; omega
set_option maxRecDepth 100000 in
theorem ncheck0_calls (a : Option Addr) (n cap : Nat) (x : Nat) (w : World) (h : Nt w (.slice a n cap) x) : Calls Tryz.prog 90 #[.slice a n cap] w fun e w' => e = .returned (.bool true) ∧ w = w' := by
  obtain ⟨L, h1, h2, h3⟩ := h
  obtain ⟨l1, l2, l3⟩ := h1.len
  by_cases hn : n = 0
  · subst hn
    clear h1 h2 h3
    go_enter Tryz.func90, Tryz.ntmps90
    go_wp2
    go_ret
    exact ⟨rfl, rfl⟩
  · obtain ⟨k, rfl⟩ : ∃ k, n = k + 1 := ⟨n - 1, by omega⟩
    obtain ⟨blk, off, rfl, hc⟩ := h1.at (by omega)
    have hk := hc k (by omega)
    have hd : L.getD k 0 ≠ 0 := fun h0 => h2 (by rw [List.getLast?_eq_getElem?, l1, Nat.add_sub_cancel, List.getElem?_eq_getElem (by omega)]; rw [List.getD_eq_getElem?_getD, List.getElem?_eq_getElem (by omega)] at h0; exact congrArg some h0)
    generalize L.getD k 0 = d at *
    have hz : (((k + 1 : Nat) : Int) == 0) = false := by simp; omega
    have hs : ((k + 1 : Nat) : Int) - 1 = (k : Int) := by omega
    have hw : IntKind.i64.wrap (k : Int) = (k : Int) := IntWalk.i64_in _ (by omega)
    have hdz : ((d : Int) != 0) = true := by simp; omega
    have hk0 : (0 : Int) ≤ (k : Int) := by omega
    have hk1 : (k : Int) < ((k + 1 : Nat) : Int) := by omega
    have hk2 : k < k + 1 := by omega
    clear h1 h2 h3 l1 l2 hc hd
    generalize ((k + 1 : Nat) : Int) = z at *
    go_enter Tryz.func90, Tryz.ntmps90
    go_wp2
    go_ret
    exact ⟨rfl, rfl⟩
set_option maxRecDepth 100000 in
theorem dcheck_calls (v : Value) (s : Bool) (m : Nat) (e : Int) (w : World) (h : Dy w v s m e) : Calls Tryz.prog 74 #[v] w fun e w' => e = .returned (.bool true) ∧ Below w.heap.size w w' := by
  obtain ⟨a, n, cap, rfl, h1, h2, h3, h4, h5⟩ := h
  have HB := (Below.refl w.heap.size w).alloc (Nat.le_refl _) (.cells #[.bool s, .slice a n cap, .int .i64 e] 53)
  have HB0 := Lib.hid HB
  have hN := Lib.hid (h1.below HB)
  obtain ⟨L, g1, g2, g3⟩ := h1.below HB
  obtain ⟨l1, l2, l3⟩ := g1.len
  by_cases hn : n = 0
  · obtain rfl : m = 0 := by rw [← g3, List.eq_nil_of_length_eq_zero (l1.trans hn)]; rfl
    obtain ⟨rfl, rfl⟩ := h2 rfl
    subst hn
    clear h1 h2 h3 hN g1 g2 g3 l1 l2
    go_enter Tryz.func74, Tryz.ntmps74
    go_wp2
    go_ret
    exact ⟨rfl, HB0.out⟩
  · have hm : m ≠ 0 := fun h0 => by
      have := trm_zero g2 (g3.trans h0)
      rw [this] at l1
      exact hn l1.symm
    have ho := h3 hm
    rw [← g3, wval_odd] at ho
    obtain ⟨blk, off, rfl, hc⟩ := g1.at (by omega)
    have hd := hc 0 (by omega)
    rw [Nat.add_zero] at hd
    have CK := Lib.hid (ncheck0_calls (some ⟨blk, off, none⟩) n cap m _ hN.out)
    have hdl := g1.1.at 0
    generalize L.getD 0 0 = d at *
    have hd2 : (d : Int) % 2 = 1 := by omega
    have hz : ((n : Int) == 0) = false := by simp; omega
    have hz2 : 0 < n := by omega
    have e1 : (-20000 : Int) ≤ e := h4
    have e2 : e ≤ 20000 := h5
    clear h1 h2 h3 hN g1 g2 g3 l1 l2 hc hm ho hdl HB h4 h5 hn
    go_enter Tryz.func74, Tryz.ntmps74
    go_wp2_with (go_at_call 90; go_must (refine CK.out.mono ?_; rintro e w1 ⟨rfl, rfl⟩))
    go_ret
    exact ⟨rfl, HB0.out⟩
set_option maxRecDepth 100000 in
theorem dmay_calls (v : Value) (s : Bool) (m : Nat) (e : Int) (w : World) (h : Dy w v s m e) : Calls Tryz.prog 44 #[v] w fun e w' => e = .returned v ∧ Below w.heap.size w w' := by
  obtain ⟨a, n, cap, rfl, h1, h2, h3, h4, h5⟩ := h
  have hD : Dy w (.agg #[.bool s, .slice a n cap, .int .i64 e]) s m e := ⟨a, n, cap, rfl, h1, h2, h3, h4, h5⟩
  have HB := (((Below.refl w.heap.size w).alloc (Nat.le_refl _) (.cells #[.bool s, .slice a n cap, .int .i64 e] 53)).alloc (by simp) (.cells #[.bool false, .slice none 0 0, .int .i64 0] 53))
  have HB0 := Lib.hid HB
  have CK := Lib.hid (dcheck_calls _ s m e _ (hD.below HB))
  have E1 := Lib.hid ((Cells3.new w (.bool s) (.slice a n cap) (.int .i64 e) 53).alloc (.cells #[.bool false, .slice none 0 0, .int .i64 0] 53))
  have E2 := Lib.hid (Cells3.new2 w (.cells #[.bool s, .slice a n cap, .int .i64 e] 53) (.bool false) (.slice none 0 0) (.int .i64 0) 53)
  clear h1 h2 h3 h4 h5 hD HB
  go_enter Tryz.func44, Tryz.ntmps44
  go_wp2_with (go_at_call 74; go_must (refine CK.out.mono ?_; rintro e' w1 ⟨rfl, hb⟩; have B1 := Lib.hid (HB0.out.trans (hb.mono HB0.out.size)); have F1 := E1.out.below hb; have F2 := Lib.hid (E2.out.below hb); obtain ⟨c0, c1, c2, _, _, _⟩ := F1; obtain ⟨d0, d1, d2, x0, x1, x2⟩ := F2.out; clear hb))
  have P := F2.out.put (.bool s) (.slice a n cap) (.int .i64 e)
  exact bodyPost_ret (v := .agg #[.bool s, .slice a n cap, .int .i64 e]) (by simp [results, Tryz.results44, go_sem, P.c0, P.c1, P.c2]) rfl ⟨rfl, below_put3 B1.out (by omega) _ _ _⟩
end Go.Proofs.YtmmligbkecilfaaGreatDoor
namespace Go.Proofs.YtmmligbkecilfaaGreatDoor
open Go.RowKit Lv Go.Shelf
attribute [local go_sem] Oper.semAt_some drewN_alloc drewN_setCell

/-- a store into a cell that holds no digit leaves what reads as a number -/
theorem Nt.setAt {W : World} {v : Value} {n : Nat} (h : Nt W v n) {b o : Nat} {u : Value} (hc : W.cell? ⟨b, o, none⟩ = some u) (hu : ∀ x, u ≠ .int .u32 x) (v' : Value) : Nt (W.setCell ⟨b, o, none⟩ v') v n := by
  obtain ⟨L, ⟨hd, a, cap, hv, h1, h2, h3⟩, h4⟩ := h
  refine ⟨L, ⟨hd, a, cap, hv, h1, h2, ?_⟩, h4⟩
  rcases h3 with h3 | ⟨blk, off, ha, hcl⟩
  · exact .inl h3
  · refine .inr ⟨blk, off, ha, fun i hi => ?_⟩
    have hx1 := hcl i hi
    rw [List.length_map] at hi
    rw [List.getElem?_map, List.getElem?_eq_getElem hi] at hx1 ⊢
    by_cases e : b = blk ∧ o = off + i
    · obtain ⟨rfl, rfl⟩ := e
      rw [hx1] at hc
      exact absurd (Option.some.inj hc).symm (hu _)
    · by_cases e1 : b = blk
      · subst e1
        exact cell_set_off hx1 (fun e2 => e ⟨rfl, e2⟩)
      · exact cell_set_ne hx1 e1
theorem Nt.put3 {W : World} {v : Value} {n : Nat} (h : Nt W v n) {b : Nat} {s : Bool} {a : Option Addr} {k c : Nat} {e : Int} (hc : Cells3 W b (.bool s) (.slice a k c) (.int .i64 e)) (u0 u1 u2 : Value) :
    Nt (((W.setCell ⟨b, 0, none⟩ u0).setCell ⟨b, 1, none⟩ u1).setCell ⟨b, 2, none⟩ u2) v n :=
  ((h.setAt hc.c0 (fun _ e => by cases e) u0).setAt (cell_set_off hc.c1 (by decide)) (fun _ e => by cases e) u1).setAt (cell_set_off (cell_set_off hc.c2 (by decide)) (by decide)) (fun _ e => by cases e) u2
theorem Dy.put3 {W : World} {v : Value} {s' : Bool} {m : Nat} {e' : Int} (h : Dy W v s' m e') {b : Nat} {s : Bool} {a : Option Addr} {k c : Nat} {e : Int} (hc : Cells3 W b (.bool s) (.slice a k c) (.int .i64 e)) (u0 u1 u2 : Value) :
    Dy (((W.setCell ⟨b, 0, none⟩ u0).setCell ⟨b, 1, none⟩ u1).setCell ⟨b, 2, none⟩ u2) v s' m e' := by
  obtain ⟨a', n', cap', h1, h2, h3⟩ := h
  exact ⟨a', n', cap', h1, h2.put3 hc _ _ _, h3⟩
theorem Dq.put3 {W : World} {v : Value} {q : Rat} {B : Nat} (h : Dq W v q B) {b : Nat} {s : Bool} {a : Option Addr} {k c : Nat} {e : Int} (hc : Cells3 W b (.bool s) (.slice a k c) (.int .i64 e)) (u0 u1 u2 : Value) :
    Dq (((W.setCell ⟨b, 0, none⟩ u0).setCell ⟨b, 1, none⟩ u1).setCell ⟨b, 2, none⟩ u2) v q B := by
  obtain ⟨s', m, e', h1, h2⟩ := h
  exact ⟨s', m, e', h1.put3 hc _ _ _, h2⟩
/-- what stands at the loop's head -/
structure NormInv (w : World) (m : Nat) (e : Int) (B A : Nat) (W : World) (v : Value) (m' : Nat) (e' : Int) : Prop where
  nt : Nt W v m'
  nz : m' ≠ 0
  eq : (m' : Rat) * p2 e' = (m : Rat) * p2 e
  lo : -(B : Int) ≤ e'
  hi : e' ≤ (A : Int)
  le : m' ≤ m
  below : Below w.heap.size w W
  c : Cells3 W w.heap.size (.bool false) (.slice none 0 0) (.int .i64 0)
theorem wval_low {L : List Nat} : wval L % 4294967296 = L.getD 0 0 % 4294967296 := by
  cases L with
  | nil => rfl
  | cons d t => show (d + 4294967296 * wval t) % 4294967296 = d % 4294967296; omega
set_option maxRecDepth 100000 in
set_option maxHeartbeats 1000000 in
theorem dnorm_calls (s : Bool) (v : Value) (m : Nat) (e : Int) (w : World) (B A : Nat) (h : Nt w v m) (hm : sz m ≤ 9600) (hB : m ≠ 0 → -(B : Int) ≤ e) (hB2 : B ≤ 20000) (hA : (m : Rat) * p2 e ≤ p2 A) (hA2 : A ≤ 20000) :
    Calls Tryz.prog 42 #[.bool s, v, .int .i64 e] w fun e' w' => (∃ z, e' = .returned z ∧ Dq w' z (dqv s m e) B) ∧ Below w.heap.size w w' := by
  have TC := Lib.hid (ntrim_calls v m _ (h.below ((Below.refl w.heap.size w).alloc (Nat.le_refl _) (.cells #[.bool false, .slice none 0 0, .int .i64 0] 53))) hm)
  have HB0 := Lib.hid ((Below.refl w.heap.size w).alloc (Nat.le_refl _) (.cells #[.bool false, .slice none 0 0, .int .i64 0] 53))
  have E0 := Lib.hid (Cells3.new w (.bool false) (.slice none 0 0) (.int .i64 0) 53)
  have HA := Lib.hid hA
  clear hA h
  by_cases hz : m = 0
  · subst hz
    clear hB
    have G := Lib.hid (show ∀ W z, Nt W z 0 → ∃ a cap, z = .slice a 0 cap from fun W z hz => by
      obtain ⟨L, a, cap, rfl, h1, h2, h3⟩ := hz.ws
      rw [trm_zero h2 h3]
      exact ⟨a, cap, rfl⟩)
    go_enter Tryz.func42, Tryz.ntmps42
    go_wp2_with (go_at_call 72; go_must (refine TC.out.mono ?_; rintro e' w1 ⟨⟨z, rfl, hz⟩, hb⟩; obtain ⟨a, cap, rfl⟩ := G.out _ _ hz; have B1 := Lib.hid (HB0.out.trans (hb.mono HB0.out.size)); have F := Lib.hid (E0.out.below hb); obtain ⟨d0, d1, d2, x0, x1, x2⟩ := F.out; clear hb hz))
    have P := F.out.put (.bool false) (.slice none 0 0) (.int .i64 0)
    exact bodyPost_ret (v := .agg #[.bool false, .slice none 0 0, .int .i64 0]) (by simp [results, Tryz.results42, go_sem, P.c0, P.c1, P.c2]) rfl ⟨⟨_, rfl, by rw [dqv_zero]; exact dq_zero _ _⟩, below_put3 B1.out (Nat.le_refl _) _ _ _⟩
  · have hB' := hB hz
    have he := exp_le hz HA.out
    have HZ := Lib.hid hz
    have HM := Lib.hid hm
    have b1 : (-1000000 : Int) ≤ e := by omega
    have b2 : e ≤ 1000000 := by omega
    have HL := Lib.hid (And.intro hB' he)
    have G := Lib.hid (show ∀ W z x, x ≠ 0 → Nt W z x → ∃ L a n cap, z = .slice a (n + 1) cap ∧ Ws W z L ∧ wval L = x from fun W z x h0 hz => by
      obtain ⟨L, a, cap, rfl, h1, h2, h3⟩ := hz.ws
      obtain ⟨n, hn⟩ : ∃ n, L.length = n + 1 := ⟨L.length - 1, by
        have : L.length ≠ 0 := fun h => h0 (by rw [← h3, List.eq_nil_of_length_eq_zero h]; rfl)
        omega⟩
      rw [hn] at h1 ⊢
      exact ⟨L, a, n, cap, rfl, h1, h3⟩)
    clear hB hz hm hB' he
    go_enter Tryz.func42, Tryz.ntmps42
    go_wp2_with (go_at_call 72; go_must (refine TC.out.mono ?_; rintro e' w1 ⟨⟨z, rfl, hz⟩, hb⟩; obtain ⟨L0, a0, n0, cap0, rfl, _⟩ := G.out _ _ _ HZ.out hz; have hz0 : ((n0 : Int) + 1 == 0) = false := (by simp; omega); have NI := Lib.hid (show NormInv w m e B A w1 (.slice a0 (n0 + 1) cap0) m e from ⟨hz, HZ.out, rfl, HL.out.1, HL.out.2, Nat.le_refl _, HB0.out.trans (hb.mono HB0.out.size), E0.out.below hb⟩); clear hb hz))
    go_loopw [2, 7] (fun s2 s7 wr => ∃ (m' : Nat) (e' : Int), s2 = .int .i64 e' ∧ Hid (NormInv w m e B A wr s7 m' e')) (fun s2 _ _ => ((A : Int) - intOf s2).toNat)
    case atStart => exact ⟨m, e, rfl, NI.out⟩
    case round =>
      obtain ⟨m', e', rfl, HI⟩ := hrel
      obtain ⟨L, a, n, cap, rfl, hw, hv⟩ := G.out _ _ _ HI.out.nz HI.out.nt
      obtain ⟨blk, off, rfl, hc⟩ := hw.at (by omega)
      have hd := hc 0 (by omega)
      rw [Nat.add_zero] at hd
      have hdl := hw.1.at 0
      have hlow := wval_low (L := L)
      rw [hv, Nat.mod_eq_of_lt hdl] at hlow
      have hn1 : (0 : Int) < ((n + 1 : Nat) : Int) := by omega
      have hn2 : 0 < n + 1 := by omega
      have hlo := HI.out.lo
      have hhi := HI.out.hi
      have HMS := Lib.hid (Nat.le_trans (sz_mono HI.out.le) HM.out)
      clear hc hw hv
      generalize L.getD 0 0 = d at *
      by_cases hodd : d % 2 = 1
      · have hd2 : (d : Int) % 2 = 1 := by omega
        have i1 : (-20000 : Int) ≤ e' := by omega
        have i2 : e' ≤ 20000 := by omega
        have HO := Lib.hid (show m' % 2 = 1 by omega)
        obtain ⟨d0, d1, d2, x0, x1, x2⟩ := HI.out.c
        clear hodd hlow
        have HDQ := Lib.hid (show Dq _ (.agg #[.bool s, .slice (some ⟨blk, off, none⟩) (n + 1) cap, .int .i64 e']) (dqv s m e) B from ⟨s, m', e', ⟨_, _, _, rfl, HI.out.nt.put3 HI.out.c (.bool s) (.slice (some ⟨blk, off, none⟩) (n + 1) cap) (.int .i64 e'), fun h0 => absurd h0 HI.out.nz, fun _ => HO.out, i1, i2⟩, dqv_same HI.out.eq.symm, fun _ => HI.out.lo⟩)
        have P := HI.out.c.put (.bool s) (.slice (some ⟨blk, off, none⟩) (n + 1) cap) (.int .i64 e')
        have HP := Lib.hid P
        clear P
        go_wp2
        have P := HP.out
        exact bodyPost_ret (v := .agg #[.bool s, .slice (some ⟨blk, off, none⟩) (n + 1) cap, .int .i64 e']) (by simp [results, Tryz.results42, go_sem, P.c0, P.c1, P.c2]) rfl ⟨⟨_, rfl, HDQ.out⟩, below_put3 HI.out.below (Nat.le_refl _) _ _ _⟩
      · have hd2 : (d : Int) % 2 = 0 := by omega
        by_cases h0 : d = 0
        · subst h0
          have HD := Lib.hid (show m' / 2 ^ 32 * 2 ^ 32 = m' by omega)
          have SH := Lib.hid (nshr_calls _ m' 32 wr HI.out.nt HMS.out (by decide))
          have HE := Lib.hid (norm_step (e := e') HD.out)
          have HNZ := Lib.hid (show m' / 2 ^ 32 ≠ 0 from fun h0 => HI.out.nz (by rw [← HD.out, h0, Nat.zero_mul]))
          have hup := exp_le HNZ.out (by rw [HE.out, HI.out.eq]; exact HA.out)
          have hwe : IntKind.i64.wrap (e' + 32) = e' + 32 := IntWalk.i64_in _ (by omega)
          clear hlow hodd
          go_wp2_with (go_at_call 73; go_must (refine SH.out.mono ?_; rintro e2 w2 ⟨⟨z, rfl, hz⟩, hb⟩))
          go_roundw
          case rel => exact ⟨m' / 2 ^ 32, e' + 32, rfl, ⟨hz, HNZ.out, HE.out.trans HI.out.eq, by omega, hup, Nat.le_trans (Nat.div_le_self _ _) HI.out.le, HI.out.below.trans (hb.mono HI.out.below.size), HI.out.c.below hb⟩⟩
          case measure => simp [intOf]; omega
        · have h1 : ((d : Int) == 0) = false := by simp; omega
          have HD := Lib.hid (show m' / 2 ^ 1 * 2 ^ 1 = m' by omega)
          have SH := Lib.hid (nshr_calls _ m' 1 wr HI.out.nt HMS.out (by decide))
          have HE := Lib.hid (norm_step (e := e') HD.out)
          have HNZ := Lib.hid (show m' / 2 ^ 1 ≠ 0 from fun h0 => HI.out.nz (by rw [← HD.out, h0, Nat.zero_mul]))
          have hup := exp_le HNZ.out (by rw [HE.out, HI.out.eq]; exact HA.out)
          have hwe : IntKind.i64.wrap (e' + 1) = e' + 1 := IntWalk.i64_in _ (by omega)
          clear hlow hodd
          go_wp2_with (go_at_call 73; go_must (refine SH.out.mono ?_; rintro e2 w2 ⟨⟨z, rfl, hz⟩, hb⟩))
          go_roundw
          case rel => exact ⟨m' / 2 ^ 1, e' + 1, rfl, ⟨hz, HNZ.out, HE.out.trans HI.out.eq, by omega, hup, Nat.le_trans (Nat.div_le_self _ _) HI.out.le, HI.out.below.trans (hb.mono HI.out.below.size), HI.out.c.below hb⟩⟩
          case measure => simp [intOf]; omega
end Go.Proofs.YtmmligbkecilfaaGreatDoor
namespace Go.Proofs.YtmmligbkecilfaaGreatDoor
open Go.RowKit Lv Go.Shelf
attribute [local go_sem] Oper.semAt_some drewN_alloc drewN_setCell

theorem Dq.open {w : World} {v : Value} {q : Rat} {A B : Nat} (h : Dq w v q B) (hq : Bd q (p2 A)) :
    ∃ s m e, Dy w v s m e ∧ q = dqv s m e ∧ -(B : Int) ≤ e ∧ e ≤ (A : Int) ∧ (m : Rat) * p2 e ≤ p2 A ∧ sz m ≤ A + B + 1 := by
  obtain ⟨s, m, e, h1, rfl, h3⟩ := h
  have hb := dqv_bd.1 hq
  refine ⟨s, m, e, h1, rfl, ?_⟩
  by_cases hm : m = 0
  · obtain ⟨_, _, _, _, _, h4, _⟩ := h1
    obtain ⟨_, rfl⟩ := h4 hm
    subst hm
    exact ⟨by omega, by omega, hb, by rw [sz_zero]; omega⟩
  · have h4 := h3 hm
    have h5 := exp_le hm hb
    exact ⟨h4, h5, hb, sz_of_bd (n := A + B) hb (by omega)⟩
set_option maxRecDepth 100000 in
set_option maxHeartbeats 1000000 in
theorem dneg_calls (v : Value) (q : Rat) (A B : Nat) (w : World) (h : Dq w v q B) (hq : Bd q (p2 A)) (hAB : A + B ≤ 9500) :
    Calls Tryz.prog 46 #[v] w fun e' w' => (∃ z, e' = .returned z ∧ Dq w' z (-q) B) ∧ Below w.heap.size w w' := by
  obtain ⟨s, m, e, hD, rfl, h1, h2, h3, h4⟩ := h.open hq
  obtain ⟨a, n, cap, rfl, hN, hz⟩ := id hD
  have HB := (((Below.refl w.heap.size w).alloc (Nat.le_refl _) (.cells #[.bool s, .slice a n cap, .int .i64 e] 53)).alloc (by simp) (.cells #[.bool false, .slice none 0 0, .int .i64 0] 53))
  have MY := Lib.hid (fun W hb => dmay_calls _ s m e W (hD.below (w' := W) hb))
  have NM := Lib.hid (fun W hb => dnorm_calls (!s) (.slice a n cap) m e W B A (hN.below (w' := W) hb) (by omega) (fun _ => h1) (by omega) h3 (by omega))
  have E1 := Lib.hid ((Cells3.new w (.bool s) (.slice a n cap) (.int .i64 e) 53).alloc (.cells #[.bool false, .slice none 0 0, .int .i64 0] 53))
  have E2 := Lib.hid (Cells3.new2 w (.cells #[.bool s, .slice a n cap, .int .i64 e] 53) (.bool false) (.slice none 0 0) (.int .i64 0) 53)
  have HB0 := Lib.hid HB
  rw [← dqv_not]
  clear h hD hN hz HB h1 h2 h3 h4 hq
  go_enter Tryz.func46, Tryz.ntmps46
  go_wp2_with (first
    | (go_at_call 44; go_must (refine (MY.out _ HB0.out).mono ?_; rintro e' w1 ⟨rfl, hb⟩; have B1 := Lib.hid (below_put3 (HB0.out.trans (hb.mono HB0.out.size)) (Nat.le_refl _) (.bool s) (.slice a n cap) (.int .i64 e)); have F1 := E1.out.below hb; have F2 := E2.out.below hb; have G1 := F1.put (.bool s) (.slice a n cap) (.int .i64 e); have G2 := Lib.hid (F2.put_other (b' := w.heap.size) (by omega) (.bool s) (.slice a n cap) (.int .i64 e)); obtain ⟨_, _, _, x0, x1, x2⟩ := F1; obtain ⟨d0, d1, d2, _, _, _⟩ := G1; clear hb))
    | (go_at_call 42; go_must (refine (NM.out _ B1.out).mono ?_; rintro e' w2 ⟨⟨z, rfl, hz⟩, hb⟩; have B2 := Lib.hid (B1.out.trans (hb.mono B1.out.size)); have F3 := Lib.hid (G2.out.below hb); have HZ := Lib.hid hz; obtain ⟨zs, zm, ze, ⟨za, zn, zc, rfl, _⟩, _⟩ := hz; obtain ⟨_, _, _, x3, x4, x5⟩ := F3.out; clear hb)))
  have P := F3.out.put (.bool zs) (.slice za zn zc) (.int .i64 ze)
  exact bodyPost_ret (v := .agg #[.bool zs, .slice za zn zc, .int .i64 ze]) (by simp [results, Tryz.results46, go_sem, P.c0, P.c1, P.c2]) rfl ⟨⟨_, rfl, HZ.out.put3 F3.out _ _ _⟩, below_put3 B2.out (by omega) _ _ _⟩
set_option maxRecDepth 100000 in
set_option maxHeartbeats 1000000 in
theorem dabs_calls (v : Value) (q : Rat) (A B : Nat) (w : World) (h : Dq w v q B) (hq : Bd q (p2 A)) (hAB : A + B ≤ 9500) :
    Calls Tryz.prog 26 #[v] w fun e' w' => (∃ z, e' = .returned z ∧ Dq w' z (absR q) B) ∧ Below w.heap.size w w' := by
  obtain ⟨s, m, e, hD, rfl, h1, h2, h3, h4⟩ := h.open hq
  obtain ⟨a, n, cap, rfl, hN, hz⟩ := id hD
  have HB := (((Below.refl w.heap.size w).alloc (Nat.le_refl _) (.cells #[.bool s, .slice a n cap, .int .i64 e] 53)).alloc (by simp) (.cells #[.bool false, .slice none 0 0, .int .i64 0] 53))
  have MY := Lib.hid (fun W hb => dmay_calls _ s m e W (hD.below (w' := W) hb))
  have NM := Lib.hid (fun W hb => dnorm_calls false (.slice a n cap) m e W B A (hN.below (w' := W) hb) (by omega) (fun _ => h1) (by omega) h3 (by omega))
  have E1 := Lib.hid ((Cells3.new w (.bool s) (.slice a n cap) (.int .i64 e) 53).alloc (.cells #[.bool false, .slice none 0 0, .int .i64 0] 53))
  have E2 := Lib.hid (Cells3.new2 w (.cells #[.bool s, .slice a n cap, .int .i64 e] 53) (.bool false) (.slice none 0 0) (.int .i64 0) 53)
  have HB0 := Lib.hid HB
  rw [← dqv_abs]
  clear h hD hN hz HB h1 h2 h3 h4 hq
  go_enter Tryz.func26, Tryz.ntmps26
  go_wp2_with (first
    | (go_at_call 44; go_must (refine (MY.out _ HB0.out).mono ?_; rintro e' w1 ⟨rfl, hb⟩; have B1 := Lib.hid (below_put3 (HB0.out.trans (hb.mono HB0.out.size)) (Nat.le_refl _) (.bool s) (.slice a n cap) (.int .i64 e)); have F1 := E1.out.below hb; have F2 := E2.out.below hb; have G1 := F1.put (.bool s) (.slice a n cap) (.int .i64 e); have G2 := Lib.hid (F2.put_other (b' := w.heap.size) (by omega) (.bool s) (.slice a n cap) (.int .i64 e)); obtain ⟨_, _, _, x0, x1, x2⟩ := F1; obtain ⟨d0, d1, d2, _, _, _⟩ := G1; clear hb))
    | (go_at_call 42; go_must (refine (NM.out _ B1.out).mono ?_; rintro e' w2 ⟨⟨z, rfl, hz⟩, hb⟩; have B2 := Lib.hid (B1.out.trans (hb.mono B1.out.size)); have F3 := Lib.hid (G2.out.below hb); have HZ := Lib.hid hz; obtain ⟨zs, zm, ze, ⟨za, zn, zc, rfl, _⟩, _⟩ := hz; obtain ⟨_, _, _, x3, x4, x5⟩ := F3.out; clear hb)))
  have P := F3.out.put (.bool zs) (.slice za zn zc) (.int .i64 ze)
  exact bodyPost_ret (v := .agg #[.bool zs, .slice za zn zc, .int .i64 ze]) (by simp [results, Tryz.results26, go_sem, P.c0, P.c1, P.c2]) rfl ⟨⟨_, rfl, HZ.out.put3 F3.out _ _ _⟩, below_put3 B2.out (by omega) _ _ _⟩
set_option maxRecDepth 100000 in
set_option maxHeartbeats 1000000 in
theorem dpow_calls (k : Int) (A B : Nat) (w : World) (h1 : -(B : Int) ≤ k) (h2 : k ≤ (A : Int)) (hB : B ≤ 20000) (hA : A ≤ 20000) :
    Calls Tryz.prog 52 #[.int .i64 k] w fun e' w' => (∃ z, e' = .returned z ∧ Dq w' z (p2 k) B) ∧ Below w.heap.size w w' := by
  have HB0 := Lib.hid ((Below.refl w.heap.size w).alloc (Nat.le_refl _) (.cells #[.bool false, .slice none 0 0, .int .i64 0] 53))
  have E0 := Lib.hid (Cells3.new w (.bool false) (.slice none 0 0) (.int .i64 0) 53)
  have FR := Lib.hid (fun W => nfrom_calls 1 W (by decide))
  have hq : dqv false 1 k = p2 k := by unfold dqv; simp
  have NM := Lib.hid (fun v W h => dnorm_calls false v 1 k W B A h (by decide) (fun _ => h1) hB (by have := p2_le h2; simpa using this) hA)
  rw [hq] at NM
  clear h1 h2 hB hA hq
  go_enter Tryz.func52, Tryz.ntmps52
  go_wp2_with (first
    | (go_at_call 43; go_must (refine (FR.out _).mono ?_; rintro e' w1 ⟨⟨v1, rfl, hv⟩, hb⟩; have V1 := Lib.hid hv; have B1 := Lib.hid (HB0.out.trans (hb.mono HB0.out.size)); have F1 := Lib.hid (E0.out.below hb); clear hv hb))
    | (go_at_call 42; go_must (refine (NM.out _ _ V1.out).mono ?_; rintro e' w2 ⟨⟨z, rfl, hz⟩, hb⟩; have B2 := Lib.hid (B1.out.trans (hb.mono B1.out.size)); have F3 := Lib.hid (F1.out.below hb); have HZ := Lib.hid hz; obtain ⟨zs, zm, ze, ⟨za, zn, zc, rfl, _⟩, _⟩ := hz; obtain ⟨_, _, _, x3, x4, x5⟩ := F3.out; clear hb)))
  have P := F3.out.put (.bool zs) (.slice za zn zc) (.int .i64 ze)
  exact bodyPost_ret (v := .agg #[.bool zs, .slice za zn zc, .int .i64 ze]) (by simp [results, Tryz.results52, go_sem, P.c0, P.c1, P.c2]) rfl ⟨⟨_, rfl, HZ.out.put3 F3.out _ _ _⟩, below_put3 B2.out (Nat.le_refl _) _ _ _⟩
theorem fn_split {b : Nat} {x : Option Nat} (h : FW b x) (hx : Lv.Fn x) :
    ∃ s m e k, splV b = .tuple #[.bool s, .int .u64 (m : Nat), .int .i64 e, .int .i64 k] ∧ (k = 0 ∨ k = 1) ∧ m < 9007199254740992 ∧ fv x = dqv s m e ∧ (m ≠ 0 → -1074 ≤ e) ∧ (m : Rat) * p2 e ≤ p2 1024 := by
  obtain ⟨s, r, rfl, hr⟩ := hx
  obtain ⟨rfl, hn⟩ := ab_some h.2
  have hmod : wd s r % 9223372036854775808 = r := by unfold wd; cases s <;> simp <;> omega
  rw [fv_wd s hr]
  have hneg : negW (wd s r) = s := by unfold negW wd; cases s <;> simp <;> omega
  by_cases h0 : r = 0
  · refine ⟨s, 0, 0, 0, ?_, .inl rfl, by decide, ?_, fun h => absurd rfl h, by have := p2_pos 1024; simp; grind⟩
    · unfold splV kindW
      rw [hn, hmod, hneg, h0]
      simp
    · rw [h0, dqv_zero]; unfold vz; rw [rv_zero]; cases s <;> simp
  · have hk : kindW (wd s r) = 1 := by unfold kindW; rw [hn, hmod]; simp [h0]; omega
    have hm : mantW r < 9007199254740992 := by unfold mantW; split <;> omega
    have hm2 : rv r = (mantW r : Rat) * p2 (expW r) := by
      unfold rv mantW expW
      by_cases c : r < 4503599627370496
      · rw [if_pos c, if_pos c, if_pos c]
      · rw [if_neg c, if_neg c, if_neg c, Nat.add_comm]
        congr 2
        omega
    have he : expW r ≤ 971 := by unfold expW; split <;> omega
    have he2 : -1074 ≤ expW r := by unfold expW; split <;> omega
    refine ⟨s, mantW r, expW r, 1, ?_, .inr rfl, hm, ?_, fun _ => he2, ?_⟩
    · unfold splV; rw [if_pos hk, hmod, hneg]
    · unfold vz dqv; rw [hm2]
    · have h1 : (mantW r : Rat) ≤ p2 53 := by
        have := p2_nat 53
        rw [show ((53 : Nat) : Int) = 53 from rfl] at this
        rw [this]
        have h2 : mantW r ≤ 2 ^ 53 := by omega
        exact_mod_cast h2
      have h3 := rmul_le (ratn_nn _) (Rat.le_of_lt (p2_pos (expW r))) h1 (p2_le he)
      rw [← p2_add] at h3
      exact h3
set_option maxRecDepth 100000 in
set_option maxHeartbeats 1000000 in
theorem dfrom_calls (b : Nat) (x : Option Nat) (w : World) (h : FW b x) (hx : Lv.Fn x) :
    Calls Tryz.prog 21 #[.float .f64 b] w fun e' w' => (∃ z, e' = .returned (.tuple #[z, .bool true]) ∧ Dq w' z (fv x) 1074) ∧ Below w.heap.size w w' := by
  obtain ⟨s, m, e, k, hs, hk, hm, hv, he, hb⟩ := fn_split h hx
  have HB0 := Lib.hid ((Below.refl w.heap.size w).alloc (Nat.le_refl _) (.cells #[.bool false, .slice none 0 0, .int .i64 0] 53))
  have E0 := Lib.hid (Cells3.new w (.bool false) (.slice none 0 0) (.int .i64 0) 53)
  have SP := Lib.hid (fun W => rSplit_calls b h.1 W)
  rw [hs] at SP
  have FR := Lib.hid (fun W => nfrom_calls m W (by omega))
  have hsm : sz m ≤ 53 := sz_le (by omega)
  have NM := Lib.hid (fun v W hW => dnorm_calls s v m e W 1074 1024 hW (by omega) he (by omega) hb (by omega))
  rw [← hv] at NM
  have hk1 : ¬ 1 < k := by omega
  clear h hx hs hk hm hv he hb hsm
  go_enter Tryz.func21, Tryz.ntmps21
  go_wp2_with (first
    | (go_at_call 37; go_must (refine (SP.out _).mono ?_; rintro e' w1 ⟨rfl, rfl⟩))
    | (go_at_call 43; go_must (refine (FR.out _).mono ?_; rintro e' w1 ⟨⟨v1, rfl, hv⟩, hb⟩; have V1 := Lib.hid hv; have B1 := Lib.hid (HB0.out.trans (hb.mono HB0.out.size)); have F1 := Lib.hid (E0.out.below hb); clear hv hb))
    | (go_at_call 42; go_must (refine (NM.out _ _ V1.out).mono ?_; rintro e' w2 ⟨⟨z, rfl, hz⟩, hb⟩; have B2 := Lib.hid (B1.out.trans (hb.mono B1.out.size)); have F3 := Lib.hid (F1.out.below hb); have HZ := Lib.hid hz; obtain ⟨zs, zm, ze, ⟨za, zn, zc, rfl, _⟩, _⟩ := hz; obtain ⟨_, _, _, x3, x4, x5⟩ := F3.out; clear hb)))
  have P := F3.out.put (.bool zs) (.slice za zn zc) (.int .i64 ze)
  exact bodyPost_ret (v := .tuple #[.agg #[.bool zs, .slice za zn zc, .int .i64 ze], .bool true]) (by simp [results, Tryz.results21, go_sem, P.c0, P.c1, P.c2]) rfl ⟨⟨_, rfl, HZ.out.put3 F3.out _ _ _⟩, below_put3 B2.out (Nat.le_refl _) _ _ _⟩
end Go.Proofs.YtmmligbkecilfaaGreatDoor
