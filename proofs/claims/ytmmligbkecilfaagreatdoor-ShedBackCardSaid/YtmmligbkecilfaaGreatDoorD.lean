/- What a float is made of: the program's Frexp, Split, Top and In. Slices of floats in memory; what the library's ContainsFunc tells of one. -/
import Derived.Test.YtmmligbkecilfaaGreatDoorB
namespace Go.Proofs.YtmmligbkecilfaaGreatDoor
open Go.RowKit Lv
open Ieee (double Format Datum)
attribute [local go_sem] run_bits run_frombits

/-- a number above 0 that is not normal -/
structure Sub (c : Nat) : Prop where
  lo : 0 < c
  hi : c < 4503599627370496

/-- a normal word of the same number, 2 to 52 times as great -/
def nw (c : Nat) : Nat := if c < 4503599627370496 then c.log2 * 4503599627370496 + c * 2 ^ (52 - c.log2) else c
def nx (c : Nat) : Int := if c < 4503599627370496 then -52 else 0

theorem log_sub {c : Nat} (h : Sub c) : c.log2 < 52 ∧ 4503599627370496 ≤ c * 2 ^ (52 - c.log2) ∧ c * 2 ^ (52 - c.log2) < 9007199254740992 := by
  have h0 := h.lo
  have h1 := h.hi
  have h2 : c.log2 < 52 := (Nat.log2_lt (by omega)).2 h1
  have l1 : 2 ^ c.log2 ≤ c := Nat.log2_self_le (by omega)
  have l2 : c < 2 ^ (c.log2 + 1) := Nat.lt_log2_self
  have p : 0 < 2 ^ (52 - c.log2) := Nat.two_pow_pos _
  have e1 : 2 ^ c.log2 * 2 ^ (52 - c.log2) = 4503599627370496 := by rw [← Nat.pow_add, show c.log2 + (52 - c.log2) = 52 from by omega]
  have e2 : 2 ^ (c.log2 + 1) * 2 ^ (52 - c.log2) = 9007199254740992 := by rw [← Nat.pow_add, show c.log2 + 1 + (52 - c.log2) = 53 from by omega]
  refine ⟨h2, ?_, ?_⟩
  · rw [← e1]; exact Nat.mul_le_mul_right _ l1
  · rw [← e2]; exact Nat.mul_lt_mul_of_pos_right l2 p

theorem nw_norm {c : Nat} (h0 : 0 < c) (h1 : c < 9218868437227405312) : Norm (nw c) := by
  unfold nw
  split
  · obtain ⟨a, b, d⟩ := log_sub ⟨h0, by assumption⟩
    exact ⟨by omega, by omega⟩
  · exact ⟨by omega, h1⟩

/-- a number that is not normal, made so -/
theorem mul_up {c : Nat} (h : Sub c) : double.mul c 4841369599423283200 = some (nw c) := by
  obtain ⟨m, e, h1, h2⟩ := read_fin c (by have := h.hi; omega) (by have := h.hi; omega)
  have r1 : double.read 4841369599423283200 = .number false 4503599627370496 0 := by decide +kernel
  have hs : decide (9223372036854775808 ≤ c) = false := by have := h.hi; simp; omega
  have hc := h.hi
  have h0 := h.lo
  rw [Nat.mod_eq_of_lt (by omega)] at h2
  have hm : m ≠ 0 := by
    intro z
    subst z
    have : rv 0 < rv c := rv_lt (by omega)
    rw [rv_zero, ← h2] at this
    have z : ((0 : Nat) : Rat) * p2 e = 0 := by rw [show ((0 : Nat) : Rat) = 0 from rfl, Rat.zero_mul]
    rw [z] at this
    exact absurd this Rat.lt_irrefl
  unfold Format.mul
  rw [r1, h1, hs]
  simp only [Datum.product, Option.map_some, Format.write, bne_self_eq_false]
  rw [nearest_rho _ _ _ (Nat.mul_ne_zero hm (by decide))]
  obtain ⟨l1, l2, l3⟩ := log_sub h
  have : rho (m * 4503599627370496) (e + 0) = nw c := by
    apply rho_exact (Nat.mul_ne_zero hm (by decide))
    unfold nw
    rw [if_pos hc, rv_mk _ _ (by omega) (.inr l2), Int.add_zero, Rat.natCast_mul, Rat.natCast_mul]
    have hc2 : rv c = (c : Rat) * p2 (-1074) := by unfold rv; rw [if_pos hc]
    rw [hc2] at h2
    have e1 : ((2 ^ (52 - c.log2) : Nat) : Rat) * p2 (-1074 + (c.log2 : Int)) = p2 (-1022) := by
      rw [← p2_nat, ← p2_add]; congr 1; omega
    have e2 : p2 (-1074) * ((4503599627370496 : Nat) : Rat) = p2 (-1022) := by
      rw [show (4503599627370496 : Nat) = 2 ^ 52 from by decide, ← p2_nat, ← p2_add]; rfl
    have a1 : (m : Rat) * ((4503599627370496 : Nat) : Rat) * p2 e = (c : Rat) * (p2 (-1074) * ((4503599627370496 : Nat) : Rat)) := by
      rw [Rat.mul_assoc, Rat.mul_comm _ (p2 e), ← Rat.mul_assoc, h2, Rat.mul_assoc]
    rw [a1, e2, Rat.mul_assoc, e1]
  rw [this, word_false]
  have := (nw_norm (c := c) (by omega) (by omega)).hi
  congr 1
  omega

theorem small_sub {c : Nat} (h : Sub c) : (FloatKind.f64.format.order c 4503599627370496 == some Ordering.lt) = true := by
  have := h.hi; have := h.lo
  refine (order_lt (x := c) (y := 4503599627370496) (by unfold Lv.nan; simp; omega) (by decide) (by omega) (by decide)).trans ?_
  rw [key_pos (by omega), key_pos (by decide)]
  simp; omega

/-- a number above 0 -/
structure Pos (c : Nat) : Prop where
  lo : 0 < c
  hi : c < 9218868437227405312
theorem Pos.w64 {c : Nat} (h : Pos c) : W64 c := by have := h.hi; unfold W64; omega
theorem Pos.abs {c : Nat} (h : Pos c) : c % 9223372036854775808 = c := by have := h.hi; omega
theorem Pos.nan {c : Nat} (h : Pos c) : nan c = false := by have := h.hi; unfold Lv.nan; simp; omega
theorem Pos.isInf {c : Nat} (h : Pos c) : decide (c % 9223372036854775808 = 9218868437227405312) = false := by have := h.hi; simp; omega
theorem Pos.nzero {c : Nat} (h : Pos c) : (FloatKind.f64.format.order c 0 == some Ordering.eq) = false := by
  refine (is_zero c h.w64).trans ?_
  have := h.lo; have := h.hi; simp; omega

theorem normalize_any (c : Nat) (h : Pos c) (w : World) :
    Calls Tryz.prog 104 #[.float .f64 c] w fun e w' => e = .returned (.tuple #[.float .f64 (nw c), .int .i64 (nx c)]) ∧ w = w' := by
  by_cases hc : c < 4503599627370496
  · have hs : Sub c := ⟨h.lo, hc⟩
    have h1 := small_sub hs
    have h2 := h.abs
    have hmul : ∀ w : World, (binOp BinOp.mul 25 (.float .f64 c) (.float .f64 4841369599423283200)).run Tryz.prog w = .ok (.float .f64 (nw c)) w := fun w =>
      run_float_arith w .mul _ .f64 _ _ _ (mul_up hs)
    have hx : nx c = -52 := by unfold nx; rw [if_pos hc]
    rw [hx]
    clear hx hc
    go_enter Tryz.func104, Tryz.ntmps104
    go_wp2_with (go_at_call 38; refine (abs_calls _ h.w64 _).mono ?_; rintro e w' ⟨rfl, rfl⟩)
    go_ret2
    exact ⟨rfl, rfl⟩
  · have e1 : nw c = c := by unfold nw; rw [if_neg hc]
    have e2 : nx c = 0 := by unfold nx; rw [if_neg hc]
    rw [e1, e2]
    exact normalize_calls c ⟨by omega, h.hi⟩ w

/-- the power of two at a number's head -/
def topP (c : Nat) : Int := nx c + (nw c : Int) / 4503599627370496 - 1023
/-- a float that is a number, not 0, with its sign -/
structure Fin (x : Nat) : Prop where
  lo : 0 < x % 9223372036854775808
  hi : x % 9223372036854775808 < 9218868437227405312
  w : x < 18446744073709551616
/-- its sign -/
def sg (x : Nat) : Nat := x / 9223372036854775808 * 9223372036854775808
theorem sg_cases {x : Nat} (h : x < 18446744073709551616) : sg x = 0 ∨ sg x = 9223372036854775808 := by unfold sg; omega
theorem sg_add (x : Nat) : x = sg x + x % 9223372036854775808 := by unfold sg; omega
theorem Fin.w64 {x : Nat} (h : Fin x) : W64 x := h.w
theorem Fin.pos {x : Nat} (h : Fin x) : Pos (x % 9223372036854775808) := ⟨h.lo, h.hi⟩
theorem Fin.nan {x : Nat} (h : Fin x) : nan x = false := by have := h.hi; unfold Lv.nan; simp; omega
theorem Fin.isInf {x : Nat} (h : Fin x) : decide (x % 9223372036854775808 = 9218868437227405312) = false := by have := h.hi; simp; omega
theorem Fin.nzero {x : Nat} (h : Fin x) : (FloatKind.f64.format.order x 0 == some Ordering.eq) = false := by
  refine (is_zero x h.w64).trans ?_
  have := h.lo; simp; omega

/-- its normal word, with its sign -/
def nws (x : Nat) : Nat := sg x + nw (x % 9223372036854775808)

theorem mul_up_s {x : Nat} (hx : x < 18446744073709551616) (h : Sub (x % 9223372036854775808)) : double.mul x 4841369599423283200 = some (nws x) := by
  have hh := mul_up h
  have hc := h.hi
  have h0 := h.lo
  obtain ⟨m, e, h1, h2⟩ := read_fin x (by omega) hx
  obtain ⟨m', e', h1', h2'⟩ := read_fin (x % 9223372036854775808) (by omega) (by omega)
  have r1 : double.read 4841369599423283200 = .number false 4503599627370496 0 := by decide +kernel
  have hs : decide (9223372036854775808 ≤ x % 9223372036854775808) = false := by simp; omega
  rw [Nat.mod_mod] at h2'
  unfold Format.mul at hh ⊢
  rw [r1, h1', hs] at hh
  rw [r1, h1]
  simp only [Datum.product, Option.map_some, Format.write, bne_self_eq_false, Option.some.injEq] at hh ⊢
  have hm : ∀ (m : Nat) (e : Int), (m : Rat) * p2 e = rv (x % 9223372036854775808) → m ≠ 0 := by
    intro m e h2 z
    subst z
    have : rv 0 < rv (x % 9223372036854775808) := rv_lt h0
    rw [rv_zero, ← h2] at this
    have z : ((0 : Nat) : Rat) * p2 e = 0 := by rw [show ((0 : Nat) : Rat) = 0 from rfl, Rat.zero_mul]
    rw [z] at this
    exact absurd this Rat.lt_irrefl
  have hm1 := hm m e h2
  have hm2 := hm m' e' h2'
  rw [nearest_rho _ _ _ (Nat.mul_ne_zero hm1 (by decide))]
  rw [nearest_rho _ _ _ (Nat.mul_ne_zero hm2 (by decide)), word_false] at hh
  have : rho (m * 4503599627370496) (e + 0) = rho (m' * 4503599627370496) (e' + 0) := by
    apply rho_congr (Nat.mul_ne_zero hm1 (by decide)) (Nat.mul_ne_zero hm2 (by decide))
    rw [Int.add_zero, Int.add_zero, Rat.natCast_mul, Rat.natCast_mul, Rat.mul_assoc, Rat.mul_comm _ (p2 e), ← Rat.mul_assoc, h2, Rat.mul_assoc, Rat.mul_comm _ (p2 e'), ← Rat.mul_assoc, h2']
  rw [this, hh]
  unfold nws sg
  rcases (show x / 9223372036854775808 = 0 ∨ x / 9223372036854775808 = 1 by omega) with h | h
  · have : decide (9223372036854775808 ≤ x) = false := by simp; omega
    rw [h, this]
    show double.word false _ = _
    rw [word_false]; omega
  · have : decide (9223372036854775808 ≤ x) = true := by simp; omega
    rw [h, this]
    show double.word true _ = _
    rw [word_true]

theorem normalize_s (x : Nat) (h : Fin x) (w : World) :
    Calls Tryz.prog 104 #[.float .f64 x] w fun e w' => e = .returned (.tuple #[.float .f64 (nws x), .int .i64 (nx (x % 9223372036854775808))]) ∧ w = w' := by
  by_cases hc : x % 9223372036854775808 < 4503599627370496
  · have hs : Sub (x % 9223372036854775808) := ⟨h.lo, hc⟩
    have h1 := small_sub hs
    have hmul : ∀ w : World, (binOp BinOp.mul 25 (.float .f64 x) (.float .f64 4841369599423283200)).run Tryz.prog w = .ok (.float .f64 (nws x)) w := fun w =>
      run_float_arith w .mul _ .f64 _ _ _ (mul_up_s h.w hs)
    have hx : nx (x % 9223372036854775808) = -52 := by unfold nx; rw [if_pos hc]
    rw [hx]
    clear hx hc
    go_enter Tryz.func104, Tryz.ntmps104
    go_wp2_with (go_at_call 38; refine (abs_calls _ h.w64 _).mono ?_; rintro e w' ⟨rfl, rfl⟩)
    go_ret2
    exact ⟨rfl, rfl⟩
  · have e1 : nws x = x := by unfold nws nw; rw [if_neg hc]; exact (sg_add x).symm
    have e2 : nx (x % 9223372036854775808) = 0 := by unfold nx; rw [if_neg hc]
    have hn : Norm (x % 9223372036854775808) := ⟨by omega, h.hi⟩
    have h1 := hn.nsmall
    rw [e1, e2]
    clear e1 e2 hc
    go_enter Tryz.func104, Tryz.ntmps104
    go_wp2_with (go_at_call 38; refine (abs_calls _ h.w64 _).mono ?_; rintro e w' ⟨rfl, rfl⟩)
    go_ret2
    exact ⟨rfl, rfl⟩

/-- a number's digits between a half and one -/
def frac (c : Nat) : Nat := 4602678819172646912 + nw c % 4503599627370496
def fracs (x : Nat) : Nat := sg x + frac (x % 9223372036854775808)

theorem mant_s (s c : Nat) (hs : s = 0 ∨ s = 9223372036854775808) (h : Norm c) : bits .andNot .u64 ((s + c : Nat) : Int) 9218868437227405312 = ((s + c % 4503599627370496 : Nat) : Int) := by
  rcases hs with rfl | rfl
  · rw [Nat.zero_add, Nat.zero_add]; exact mant_of c h
  · have hi := h.hi
    have hlo := h.lo
    have h1 := u64_andNot_nat (9223372036854775808 + c) 9218868437227405312 (by omega) (by decide)
    have h0 := u64_andNot_nat c 9218868437227405312 h.w64 (by decide)
    have hm := mant_of c h
    have hm' : bits .andNot .u64 (c : Int) ((9218868437227405312 : Nat) : Int) = ((c % 4503599627370496 : Nat) : Int) := hm
    have e0 : c &&& (18446744073709551615 - 9218868437227405312) = c % 4503599627370496 := by
      have := h0.symm.trans hm'
      exact Int.ofNat.inj this
    have e1 : 9223372036854775808 + c = 9223372036854775808 ||| c := (nat_join 63 _ _ (by decide) (by omega)).symm
    have e2 : (9223372036854775808 ||| c) &&& (18446744073709551615 - 9218868437227405312) = 9223372036854775808 + c % 4503599627370496 := by
      rw [Nat.and_or_distrib_right, e0, show (9223372036854775808 &&& (18446744073709551615 - 9218868437227405312) : Nat) = 9223372036854775808 from by decide]
      exact nat_join 63 _ _ (by decide) (by omega)
    rw [← e1] at e2
    rw [e2] at h1
    exact h1

theorem frac_or_s (s c : Nat) (hs : s = 0 ∨ s = 9223372036854775808) : bits .or .u64 ((s + c % 4503599627370496 : Nat) : Int) 4602678819172646912 = ((s + (4602678819172646912 + c % 4503599627370496) : Nat) : Int) := by
  have := u64_or_nat (s + c % 4503599627370496) 4602678819172646912 (by omega) (by decide)
  have e : s + c % 4503599627370496 ||| 4602678819172646912 = s + (4602678819172646912 + c % 4503599627370496) := by
    have h1 : s + c % 4503599627370496 = s ||| c % 4503599627370496 := (nat_join 63 _ _ (by rcases hs with rfl | rfl <;> decide) (by omega)).symm
    have h2 : c % 4503599627370496 ||| 4602678819172646912 = 4602678819172646912 + c % 4503599627370496 := by rw [Nat.or_comm]; exact nat_join 52 _ _ (by decide) (by omega)
    rw [h1, Nat.or_assoc, h2]
    exact nat_join 63 _ _ (by rcases hs with rfl | rfl <;> decide) (by omega)
  rw [e] at this
  exact this

theorem exp_s (s c : Nat) (hs : s = 0 ∨ s = 9223372036854775808) (h : Norm c) : bits .and .u64 (((s + c : Nat) : Int) / 4503599627370496) 2047 = ((c / 4503599627370496 : Nat) : Int) := by
  have hhi := h.hi
  have e1 : ((s + c : Nat) : Int) / 4503599627370496 = (((s + c) / 4503599627370496 : Nat) : Int) := by omega
  rw [e1]
  have := u64_and_nat ((s + c) / 4503599627370496) 2047 (by omega) (by decide)
  rw [show (2047 : Nat) = 2 ^ 11 - 1 from by decide, Nat.and_two_pow_sub_one_eq_mod] at this
  have e2 : (s + c) / 4503599627370496 % 2 ^ 11 = c / 4503599627370496 := by omega
  rw [e2] at this
  exact this

/-- the program's frexp, of any number but 0 -/
theorem frexp_calls (x : Nat) (h : Fin x) (w : World) :
    Calls Tryz.prog 100 #[.float .f64 x] w fun e w' => e = .returned (.tuple #[.float .f64 (fracs x), .int .i64 (topP (x % 9223372036854775808) + 1)]) ∧ w = w' := by
  have z := h.nzero
  have i := h.isInf
  have n := h.nan
  have N := Lib.hid (normalize_s x h)
  unfold nws at N
  have hsg := sg_cases h.w
  have hn := nw_norm h.lo h.hi
  have hm := mant_s (sg x) _ hsg hn
  have ho := frac_or_s (sg x) (nw (x % 9223372036854775808)) hsg
  have he := exp_s (sg x) _ hsg hn
  have hf : sg x + (4602678819172646912 + nw (x % 9223372036854775808) % 4503599627370496) = fracs x := rfl
  rw [hf] at ho
  have hx : nx (x % 9223372036854775808) = -52 ∨ nx (x % 9223372036854775808) = 0 := by unfold nx; split <;> simp
  have ht : nx (x % 9223372036854775808) + (((nw (x % 9223372036854775808) / 4503599627370496 : Nat) : Int) - 1023 + 1) = topP (x % 9223372036854775808) + 1 := by unfold topP; omega
  have hb : nw (x % 9223372036854775808) / 4503599627370496 < 2048 := by have := hn.hi; omega
  have hw := h.w64
  have hxb1 : -52 ≤ nx (x % 9223372036854775808) := by omega
  have hxb2 : nx (x % 9223372036854775808) ≤ 0 := by omega
  clear hx hf hsg hn h
  generalize nw (x % 9223372036854775808) / 4503599627370496 = q at *
  generalize sg x + nw (x % 9223372036854775808) % 4503599627370496 = f at *
  generalize sg x + nw (x % 9223372036854775808) = y at *
  generalize nx (x % 9223372036854775808) = d at *
  generalize topP (x % 9223372036854775808) = t at *
  generalize fracs x = r at *
  have HT := Lib.hid ht
  clear ht
  go_enter Tryz.func100, Tryz.ntmps100
  go_wp2_with (first | (go_at_call 84; refine (isInf_calls _ hw _).mono ?_; rintro e w' ⟨rfl, rfl⟩) | (go_at_call 103; refine (isNaN_calls _ hw _).mono ?_; rintro e w' ⟨rfl, rfl⟩) | (go_at_call 104; refine (N.out _).mono ?_; rintro e w' ⟨rfl, rfl⟩))
  go_ret2
  exact ⟨congrArg (fun x => Ending.returned (.tuple #[.float .f64 r, .int .i64 x])) HT.out, rfl⟩

theorem Frexp_calls (x : Nat) (h : Fin x) (w : World) :
    Calls Tryz.prog 94 #[.float .f64 x] w fun e w' => e = .returned (.tuple #[.float .f64 (fracs x), .int .i64 (topP (x % 9223372036854775808) + 1)]) ∧ w = w' := by
  go_enter Tryz.func94, Tryz.ntmps94
  go_wp2_with (go_at_call 100; refine (frexp_calls x h _).mono ?_; rintro e w' ⟨rfl, rfl⟩)
  go_ret2
  exact ⟨rfl, rfl⟩

theorem topP_bounds {c : Nat} (h : Pos c) : -1074 ≤ topP c ∧ topP c ≤ 1023 := by
  have hn := nw_norm h.lo h.hi
  have := hn.lo; have := hn.hi
  unfold topP nx
  split
  · refine ⟨?_, by omega⟩
    omega
  · omega

/-- a float's Top -/
def topW (b : Nat) : Int := if kindW b = 1 then topP (b % 9223372036854775808) else -2000

theorem kindW_fin {b : Nat} (hb : W64 b) (h : kindW b = 1) : Fin b := by
  unfold kindW at h
  split at h
  · omega
  · rename_i hn
    have := nan_le (x := b) (by simpa using hn)
    split at h
    · omega
    · split at h
      · omega
      · exact ⟨by omega, by omega, hb⟩

theorem top_calls (b : Nat) (hb : W64 b) (w : World) :
    Calls Tryz.prog 81 #[.float .f64 b] w fun e w' => e = .returned (.int .i64 (topW b)) ∧ w = w' := by
  by_cases hk : kindW b = 1
  · have hf := kindW_fin hb hk
    have ht := topP_bounds hf.pos
    have h1 : (kindW b != 1) = false := by simp [hk]
    have e : topW b = topP (b % 9223372036854775808) := by unfold topW; rw [if_pos hk]
    rw [e]
    clear e hk
    obtain ⟨ht1, ht2⟩ := ht
    have F := Lib.hid (Frexp_calls b hf)
    generalize topP (b % 9223372036854775808) = t at *
    go_enter Tryz.func81, Tryz.ntmps81
    go_wp2_with (first | (go_at_call 93; refine (kind_calls _ hb _).mono ?_; rintro e w' ⟨rfl, rfl⟩) | (go_at_call 94; refine (F.out _).mono ?_; rintro e w' ⟨rfl, rfl⟩))
    go_ret
    exact ⟨ret_int (by omega), rfl⟩
  · have h1 : (kindW b != 1) = true := by simp [hk]
    have e : topW b = -2000 := by unfold topW; rw [if_neg hk]
    rw [e]
    clear e hk
    go_enter Tryz.func81, Tryz.ntmps81
    go_wp2_with (go_at_call 93; refine (kind_calls _ hb _).mono ?_; rintro e w' ⟨rfl, rfl⟩)
    go_ret
    exact ⟨rfl, rfl⟩

/-- is a float In? -/
def inW (b : Nat) : Bool := decide (b % 9223372036854775808 = 0) || (decide (pw (-400) ≤ b % 9223372036854775808) && decide (b % 9223372036854775808 ≤ pw 400))

theorem in_calls (b : Nat) (hb : W64 b) (w : World) :
    Calls Tryz.prog 58 #[.float .f64 b] w fun e w' => e = .returned (.bool (inW b)) ∧ w = w' := by
  have hz : (FloatKind.f64.format.order b 0 == some Ordering.eq) = decide (b % 9223372036854775808 = 0) := is_zero b hb
  have h1 := abs_ge b (pw (-400)) (by decide)
  have h2 := abs_le b (pw 400) (by decide)
  have e1 : inW b = (decide (b % 9223372036854775808 = 0) || (!nan b && decide (pw (-400) ≤ b % 9223372036854775808)) && (!nan b && decide (b % 9223372036854775808 ≤ pw 400))) := by
    unfold inW
    cases h : nan b with
    | false => simp
    | true => have := nan_lt h; have : ¬ b % 9223372036854775808 ≤ pw 400 := by (have : pw 400 ≤ 9218868437227405312 := by decide); omega
              simp [this]
  have E := Lib.hid e1
  clear e1
  go_enter Tryz.func58, Tryz.ntmps58
  go_wp2_with (first | (go_at_call 38; refine (abs_calls _ hb _).mono ?_; rintro e w' ⟨rfl, rfl⟩) | (go_at_call 78; refine (pow_calls _ (by decide) (by decide) _).mono ?_; rintro e w' ⟨rfl, rfl⟩))
  all_goals
    go_ret
    refine ⟨ret_bool ?_, rfl⟩
    rw [E.out]
  · simp [*]
  · have z : decide (b % 9223372036854775808 = 0) = false := by simp [*]
    rw [z, Bool.false_or, ← h1, ← h2]
    rfl
  · have z : decide (b % 9223372036854775808 = 0) = false := by simp [*]
    have h3 : ¬ (FloatKind.f64.format.order (b % 9223372036854775808) (pw (-400)) = some Ordering.gt ∨ FloatKind.f64.format.order (b % 9223372036854775808) (pw (-400)) = some Ordering.eq) := by assumption
    have h4 : (double.order (b % 9223372036854775808) (pw (-400)) == some .gt || double.order (b % 9223372036854775808) (pw (-400)) == some .eq) = false := by
      have : FloatKind.f64.format = double := rfl
      rw [this] at h3
      simpa using h3
    rw [z, Bool.false_or, ← h1, h4]
    rfl
end Go.Proofs.YtmmligbkecilfaaGreatDoor
namespace Go.Proofs.YtmmligbkecilfaaGreatDoor
open Go.RowKit Lv
open Ieee (double Format Datum)

/-- a word that stands for a float -/
def FW (b : Nat) (x : Option Nat) : Prop := W64 b ∧ ab b = x

/-- a slice value that reads as floats -/
def Row (w : World) (v : Value) (xs : List (Option Nat)) : Prop :=
  ∃ (a : Option Addr) (cap : Nat), v = .slice a xs.length cap ∧ xs.length ≤ cap ∧ cap ≤ maxLen ∧
    ((xs.length = 0 ∧ (a.isNone = true → cap = 0)) ∨ ∃ blk off, a = some ⟨blk, off, none⟩ ∧ ∀ i, i < xs.length → ∃ b, w.cell? ⟨blk, off + i, none⟩ = some (.float .f64 b) ∧ FW b (xs.getD i none))

theorem cell_lt {w : World} {a : Addr} {v : Value} (h : w.cell? a = some v) : a.block < w.heap.size := by
  by_cases hc : a.block < w.heap.size
  · exact hc
  · exfalso
    unfold World.cell? at h
    rw [Array.getElem?_eq_none (by omega)] at h
    simp at h

theorem Row.below {w w' : World} {v : Value} {xs : List (Option Nat)} (h : Row w v xs) (hb : Below w.heap.size w w') : Row w' v xs := by
  obtain ⟨a, cap, rfl, h1, h2, h3⟩ := h
  refine ⟨a, cap, rfl, h1, h2, ?_⟩
  rcases h3 with h3 | ⟨blk, off, rfl, hc⟩
  · exact .inl h3
  · refine .inr ⟨blk, off, rfl, fun i hi => ?_⟩
    obtain ⟨b, hb1, hb2⟩ := hc i hi
    exact ⟨b, (hb.cell (p := ⟨blk, off + i, none⟩) (cell_lt hb1)).trans hb1, hb2⟩

/-- is a float too large, or no number? -/
def largeW (b : Nat) : Bool := nan b || decide (pw 420 < b % 9223372036854775808)
def largeF (x : Option Nat) : Bool := match x with | none => true | some b => decide (pw 420 < b % 9223372036854775808)
theorem largeW_F {b : Nat} {x : Option Nat} (h : FW b x) : largeW b = largeF x := by
  obtain ⟨_, h⟩ := h
  unfold largeW
  cases x with
  | none => rw [ab_none h]; rfl
  | some c => obtain ⟨rfl, h2⟩ := ab_some h; rw [h2]; rfl

theorem large_calls (b : Nat) (hb : W64 b) (w : World) :
    Calls Tryz.prog 56 #[.float .f64 b] w fun e w' => e = .returned (.bool (largeW b)) ∧ w = w' := by
  have h2 := abs_le b (pw 420) (by decide)
  have E : Hid (largeW b = !(!nan b && decide (b % 9223372036854775808 ≤ pw 420))) := by
    unfold largeW Hid
    cases nan b
    · simp only [Bool.false_or, Bool.not_false, Bool.true_and, ← decide_not]
      congr 1
      apply propext
      omega
    · rfl
  go_enter Tryz.func56, Tryz.ntmps56
  go_wp2_with (first | (go_at_call 38; refine (abs_calls _ hb _).mono ?_; rintro e w' ⟨rfl, rfl⟩) | (go_at_call 78; refine (pow_calls _ (by decide) (by decide) _).mono ?_; rintro e w' ⟨rfl, rfl⟩))
  go_ret
  exact ⟨ret_bool (by rw [E.out, ← h2, Bool.not_or]; rfl), rfl⟩

theorem any_step {p : Option Nat → Bool} {xs : List (Option Nat)} {k : Nat} (hk : k < xs.length) (h : (xs.take k).any p = false) :
    (xs.take (k + 1)).any p = p (xs.getD k none) := by
  rw [List.take_succ_eq_append_getElem hk, List.any_append, h, Bool.false_or]
  simp [List.getD_eq_getElem?_getD, hk]
theorem any_of_take {p : Option Nat → Bool} {xs : List (Option Nat)} {k : Nat} (h : (xs.take k).any p = true) : xs.any p = true := by
  rw [List.any_eq_true] at h ⊢
  obtain ⟨x, hx, hp⟩ := h
  exact ⟨x, List.mem_of_mem_take hx, hp⟩

theorem indexlarge_calls (a : Option Addr) (n cap : Nat) (xs : List (Option Nat)) (w : World) (h : Row w (.slice a n cap) xs) :
    Calls Tryz.prog 57 #[.slice a n cap, .func (.func 56) #[] #[]] w fun e w' => (∃ n : Int, e = .returned (.int .i64 n) ∧ (decide (0 ≤ n) = xs.any largeF)) ∧ w = w' := by
  obtain ⟨a', cap', hv, h1, h2, h3⟩ := h
  simp only [Value.slice.injEq] at hv
  obtain ⟨rfl, hn, rfl⟩ := hv
  rw [← hn] at h1 h3
  have HN := Lib.hid hn.symm
  clear hn
  unfold maxLen at h2
  go_enter Tryz.func57, Tryz.ntmps57
  go_wp2
  go_loop [8] (fun i => ∃ k : Nat, k ≤ n ∧ i = .int .i64 (k : Int) ∧ Hid ((xs.take k).any largeF = false)) (fun i => n - (intOf i).toNat)
  case atStart => exact ⟨0, Nat.zero_le _, rfl, rfl⟩
  case round =>
    obtain ⟨k, hk, rfl, hrel⟩ := hrel
    by_cases hlt : k < n
    · rcases h3 with ⟨h0, _⟩ | ⟨blk, off, rfl, hc⟩
      · omega
      · obtain ⟨b, hb, hfw⟩ := hc k hlt
        have hst := Lib.hid (any_step (p := largeF) (by rw [HN.out]; exact hlt) hrel.out)
        have hlf := Lib.hid (largeW_F hfw)
        clear hc
        go_wp2_with (go_at_call 56; refine (large_calls b hfw.1 _).mono ?_; rintro e w' ⟨rfl, rfl⟩)
        · go_ret
          have hb1 : largeW b = true := by assumption
          exact ⟨⟨k, rfl, by rw [any_of_take (k := k + 1) (by rw [hst.out, ← hlf.out, hb1])]; simp⟩, rfl⟩
        · have hb1 : largeW b = false := by assumption
          go_round
          case rel => exact ⟨k + 1, by omega, by go_num, by show _ = false; rw [hst.out, ← hlf.out, hb1]⟩
          case measure => simp [intOf]; omega
    · obtain rfl : k = n := by omega
      go_wp2
      go_ret
      exact ⟨⟨-1, rfl, by have := hrel.out; rw [List.take_of_length_le (by rw [HN.out]; exact Nat.le_refl _)] at this; rw [this]; rfl⟩, rfl⟩

theorem containslarge_calls (a : Option Addr) (n cap : Nat) (xs : List (Option Nat)) (w : World) (h : Row w (.slice a n cap) xs) :
    Calls Tryz.prog 30 #[.slice a n cap, .func (.func 56) #[] #[]] w fun e w' => e = .returned (.bool (xs.any largeF)) ∧ w = w' := by
  have L := Lib.hid (indexlarge_calls a n cap xs w h)
  clear h
  go_enter Tryz.func30, Tryz.ntmps30
  go_wp2_with (go_at_call 57; refine L.out.mono ?_; rintro e w' ⟨⟨n, rfl, hn⟩, rfl⟩)
  go_ret
  exact ⟨rfl, rfl⟩
end Go.Proofs.YtmmligbkecilfaaGreatDoor
