/- The leaves: what a float's bits tell. Powers of two: the program's Ldexp, Make and Pow. -/
import Derived.Test.YtmmligbkecilfaaGreatDoorProg
import Derived.Test.YtmmligbkecilfaaGreatDoorFloat
import Derived.WalkKit
import Derived.WalkLawsBesides
import Derived.WalkSpells
import Derived.Outline
import Derived.Laws.BitsAllLaws
import Derived.Lib.Hide
import Derived.Test.YtmmligbkecilfaaGreatDoorRound
namespace Go.Proofs.YtmmligbkecilfaaGreatDoor
open Go.RowKit Lv

/-- a word of 64 bits -/
def W64 (b : Nat) : Prop := b < 18446744073709551616

theorem run_bits (x : Nat) (w : World) : (callFunc 68 #[.float .f64 x]).run Tryz.prog w = .ok (.value (.int .u64 x)) w := by kernel_rfl
theorem run_frombits (x : Int) (w : World) : (callFunc 69 #[.int .u64 x]).run Tryz.prog w = .ok (.value (.float .f64 x.toNat)) w := by kernel_rfl
attribute [local go_sem] run_bits run_frombits

theorem ret_float {a b : Nat} (h : a = b) : Ending.returned (.float .f64 a) = .returned (.float .f64 b) := by rw [h]
theorem ret_bool {a b : Bool} (h : a = b) : Ending.returned (.bool a) = .returned (.bool b) := by rw [h]
theorem ret_int {k : IntKind} {a b : Int} (h : a = b) : Ending.returned (.int k a) = .returned (.int k b) := by rw [h]

theorem andNot_sign (b : Nat) (hb : W64 b) : bits .andNot .u64 (b : Int) 9223372036854775808 = ((b % 9223372036854775808 : Nat) : Int) := by
  have h := u64_andNot_nat b 9223372036854775808 hb (by decide)
  have e : (18446744073709551615 - 9223372036854775808 : Nat) = 2 ^ 63 - 1 := by decide
  rw [e, Nat.and_two_pow_sub_one_eq_mod] at h
  exact h

theorem abs_calls (b : Nat) (hb : W64 b) (w : World) :
    Calls Tryz.prog 38 #[.float .f64 b] w fun e w' => e = .returned (.float .f64 (b % 9223372036854775808)) ∧ w = w' := by
  have H := andNot_sign b hb
  go_enter Tryz.func38, Tryz.ntmps38
  go_wp2
  go_ret
  exact ⟨rfl, rfl⟩

theorem signbit_calls (b : Nat) (hb : W64 b) (w : World) :
    Calls Tryz.prog 55 #[.float .f64 b] w fun e w' => e = .returned (.bool (decide (9223372036854775808 ≤ b))) ∧ w = w' := by
  go_enter Tryz.func55, Tryz.ntmps55
  go_wp2
  go_ret
  refine ⟨ret_bool ?_, rfl⟩
  unfold W64 at hb
  congr 1
  apply propext
  unfold wrap64
  omega

theorem isInf_calls (b : Nat) (hb : W64 b) (w : World) :
    Calls Tryz.prog 84 #[.float .f64 b, .int .i64 0] w fun e w' => e = .returned (.bool (decide (b % 9223372036854775808 = 9218868437227405312))) ∧ w = w' := by
  go_enter Tryz.func84, Tryz.ntmps84
  go_wp2_with (go_at_call 38; refine (abs_calls _ hb _).mono ?_; rintro e w' ⟨rfl, rfl⟩)
  go_ret
  refine ⟨ret_bool ?_, rfl⟩
  refine (abs_gt b 9218868437227405311 (by decide)).trans ?_
  cases h : nan b with
  | true => have := nan_lt h; simp; omega
  | false => have := nan_le h; simp; omega

theorem isNaN_calls (b : Nat) (hb : W64 b) (w : World) :
    Calls Tryz.prog 103 #[.float .f64 b] w fun e w' => e = .returned (.bool (nan b)) ∧ w = w' := by
  go_enter Tryz.func103, Tryz.ntmps103
  go_wp2
  go_ret
  exact ⟨ret_bool (self_neq b hb), rfl⟩

/-- what kind of float a word is -/
def kindW (b : Nat) : Int := if nan b then 3 else if b % 9223372036854775808 = 9218868437227405312 then 2 else if b % 9223372036854775808 = 0 then 0 else 1

theorem kind_calls (b : Nat) (hb : W64 b) (w : World) :
    Calls Tryz.prog 93 #[.float .f64 b] w fun e w' => e = .returned (.int .i64 (kindW b)) ∧ w = w' := by
  have H1 : (FloatKind.f64.format.order b b != some Ordering.eq) = nan b := self_neq b hb
  have H2 : (FloatKind.f64.format.order b 0 == some Ordering.eq) = decide (b % 9223372036854775808 = 0) := is_zero b hb
  go_enter Tryz.func93, Tryz.ntmps93
  go_wp2_with (go_at_call 84; refine (isInf_calls _ hb _).mono ?_; rintro e w' ⟨rfl, rfl⟩)
  all_goals
    go_ret
    exact ⟨ret_int (by simp [kindW, *]), rfl⟩
end Go.Proofs.YtmmligbkecilfaaGreatDoor
namespace Go.Proofs.YtmmligbkecilfaaGreatDoor
open Go.RowKit Lv
attribute [local go_sem] run_bits run_frombits

/-- the word of two to a power -/
def pw (k : Int) : Nat := ((k + 1023) * 4503599627370496).toNat

/-- a number that is above 0 and normal -/
structure Norm (c : Nat) : Prop where
  lo : 4503599627370496 ≤ c
  hi : c < 9218868437227405312

theorem Norm.w64 {c : Nat} (h : Norm c) : W64 c := by have := h.hi; unfold W64; omega
theorem Norm.nan {c : Nat} (h : Norm c) : nan c = false := by have := h.hi; unfold Lv.nan; simp; omega
theorem Norm.isInf {c : Nat} (h : Norm c) : decide (c % 9223372036854775808 = 9218868437227405312) = false := by have := h.hi; simp; omega
theorem Norm.nzero {c : Nat} (h : Norm c) : (FloatKind.f64.format.order c 0 == some Ordering.eq) = false := by
  refine (is_zero c h.w64).trans ?_
  have := h.lo; have := h.hi; simp; omega
theorem Norm.abs {c : Nat} (h : Norm c) : c % 9223372036854775808 = c := by have := h.hi; omega
theorem Norm.nsmall {c : Nat} (h : Norm c) : (FloatKind.f64.format.order c 4503599627370496 == some Ordering.lt) = false := by
  refine (order_lt h.nan (by decide) h.w64 (by decide)).trans ?_
  have := h.lo; have := h.hi
  rw [key_pos (by omega), key_pos (by decide)]
  simp; omega

theorem normalize_calls (c : Nat) (h : Norm c) (w : World) :
    Calls Tryz.prog 104 #[.float .f64 c] w fun e w' => e = .returned (.tuple #[.float .f64 c, .int .i64 0]) ∧ w = w' := by
  have h1 := h.nsmall
  have h2 := h.abs
  go_enter Tryz.func104, Tryz.ntmps104
  go_wp2_with (go_at_call 38; refine (abs_calls _ h.w64 _).mono ?_; rintro e w' ⟨rfl, rfl⟩)
  go_ret2
  exact ⟨rfl, rfl⟩

theorem exp_of (c : Nat) (h : Norm c) (a : Int) (ha : a = (c : Int) / 4503599627370496 - 1023) : bits .and .i64 (wrap64 ((c : Int) / 4503599627370496)) 2047 = a + 1023 := by
  have hlo := h.lo
  have hhi := h.hi
  have e1 : wrap64 ((c : Int) / 4503599627370496) = ((c / 4503599627370496 : Nat) : Int) := by unfold wrap64; omega
  rw [e1]
  have h3 : c / 4503599627370496 < 2047 := by omega
  subst ha
  have : (c : Int) / 4503599627370496 - 1023 + 1023 = ((c / 4503599627370496 : Nat) : Int) := by omega
  rw [this]
  generalize c / 4503599627370496 = n at *
  change IntKind.i64.wrap ((BitVec.ofInt 64 (n : Int) &&& BitVec.ofInt 64 2047).toNat : Int) = (n : Int)
  have a1 : BitVec.ofInt 64 (n : Int) = BitVec.ofNat 64 n := by simp [BitVec.ofInt_natCast]
  have a2 : BitVec.ofInt 64 2047 = BitVec.ofNat 64 2047 := by decide
  rw [a1, a2, BitVec.toNat_and, BitVec.toNat_ofNat, BitVec.toNat_ofNat, Nat.mod_eq_of_lt (by omega), Nat.mod_eq_of_lt (by decide), show (2047 : Nat) = 2 ^ 11 - 1 from by decide, Nat.and_two_pow_sub_one_eq_mod, Nat.mod_eq_of_lt (by omega)]
  rw [IntKind.wrap_i64]; omega

theorem mant_of (c : Nat) (h : Norm c) : bits .andNot .u64 (c : Int) 9218868437227405312 = ((c % 4503599627370496 : Nat) : Int) := by
  have h1 := u64_andNot_nat c 9218868437227405312 h.w64 (by decide)
  have hhi := h.hi
  have hlo := h.lo
  have e : (c &&& (18446744073709551615 - 9218868437227405312) : Nat) = c % 4503599627370496 := by
    rw [show (4503599627370496 : Nat) = 2 ^ 52 from by decide]
    apply Nat.eq_of_testBit_eq
    intro i
    rw [Nat.testBit_and, Nat.testBit_mod_two_pow]
    by_cases hi : i < 52
    · have : (18446744073709551615 - 9218868437227405312).testBit i = true := by
        have : (18446744073709551615 - 9218868437227405312 : Nat) = 2 ^ 63 * 1 + (2 ^ 52 - 1) := by decide
        rw [this, Nat.testBit_two_pow_mul_add _ (by decide), if_pos (by omega), Nat.testBit_two_pow_sub_one]
        simp [hi]
      rw [this]; simp [hi]
    · by_cases h63 : i < 63
      · have h2 : i = 52 ∨ i = 53 ∨ i = 54 ∨ i = 55 ∨ i = 56 ∨ i = 57 ∨ i = 58 ∨ i = 59 ∨ i = 60 ∨ i = 61 ∨ i = 62 := by omega
        have : (18446744073709551615 - 9218868437227405312).testBit i = false := by
          rcases h2 with h | h | h | h | h | h | h | h | h | h | h <;> subst h <;> decide
        rw [this]; simp [hi]
      · have : c.testBit i = false := Nat.testBit_lt_two_pow (Nat.lt_of_lt_of_le (show c < 2 ^ 63 by omega) (Nat.pow_le_pow_right (by decide) (by omega)))
        rw [this]; simp
  rw [e] at h1
  exact h1

/-- a word's digits at another power of two -/
def lw (c : Nat) (k : Int) : Nat := c % 4503599627370496 + ((k + 1023) * 4503599627370496).toNat
theorem lw_pw (c : Nat) (k : Int) (h : c % 4503599627370496 = 0) : lw c k = pw k := by unfold lw pw; omega

theorem ldexp_calls (c : Nat) (e : Int) (h : Norm c) (a : Int) (ha : a = (c : Int) / 4503599627370496 - 1023) (h1 : -1022 ≤ e + a) (h2 : e + a ≤ 1023) (h3 : -5000 ≤ e) (h4 : e ≤ 5000) (w : World) :
    Calls Tryz.prog 102 #[.float .f64 c, .int .i64 e] w fun e' w' => e' = .returned (.float .f64 (lw c (e + a))) ∧ w = w' := by
  have z := h.nzero
  have i := h.isInf
  have n := h.nan
  have hx : wrap64 (e + wrap64 (bits BinOp.and IntKind.i64 (wrap64 (↑c / 4503599627370496)) 2047 - 1023)) = e + a := by
    rw [exp_of c h a ha]; have := h.lo; have := h.hi; unfold wrap64; omega
  have hm := mant_of c h
  have hml : c % 4503599627370496 < 4503599627370496 := by omega
  have hlw : lw c (e + a) = c % 4503599627370496 + ((e + a + 1023) * 4503599627370496).toNat := rfl
  generalize c % 4503599627370496 = f at hm hml hlw
  generalize lw c (e + a) = l at *
  have hor : bits BinOp.or IntKind.u64 (f : Int) ((e + a + 1023) * 4503599627370496) = (l : Int) := by
    have := u64_or_nat f ((e + a + 1023) * 4503599627370496).toNat (by omega) (by omega)
    rw [Nat.or_comm, nat_join 52 _ _ (by omega) (by omega)] at this
    have e2 : ((((e + a + 1023) * 4503599627370496).toNat : Nat) : Int) = (e + a + 1023) * 4503599627370496 := by omega
    rw [e2] at this
    rw [this, hlw]; omega
  have hmul : ∀ w : World, (binOp BinOp.mul 25 (.float .f64 4607182418800017408) (.float .f64 l)).run Tryz.prog w = .ok (.float .f64 l) w := fun w =>
    run_float_arith w .mul _ .f64 _ _ _ (mul_one (y := l) (by omega) (by omega))
  clear ha hml hlw
  go_enter Tryz.func102, Tryz.ntmps102
  go_wp2_with (first | (go_at_call 84; refine (isInf_calls _ h.w64 _).mono ?_; rintro e w' ⟨rfl, rfl⟩) | (go_at_call 103; refine (isNaN_calls _ h.w64 _).mono ?_; rintro e w' ⟨rfl, rfl⟩) | (go_at_call 104; refine (normalize_calls _ h _).mono ?_; rintro e w' ⟨rfl, rfl⟩))
  go_ret
  exact ⟨rfl, rfl⟩

theorem Ldexp_calls (c : Nat) (e : Int) (h : Norm c) (a : Int) (ha : a = (c : Int) / 4503599627370496 - 1023) (h1 : -1022 ≤ e + a) (h2 : e + a ≤ 1023) (h3 : -5000 ≤ e) (h4 : e ≤ 5000) (w : World) :
    Calls Tryz.prog 97 #[.float .f64 c, .int .i64 e] w fun e' w' => e' = .returned (.float .f64 (lw c (e + a))) ∧ w = w' := by
  have L := Lib.hid (ldexp_calls c e h a ha h1 h2 h3 h4)
  clear ha
  go_enter Tryz.func97, Tryz.ntmps97
  go_wp2_with (go_at_call 102; refine (L.out _).mono ?_; rintro e w' ⟨rfl, rfl⟩)
  go_ret
  exact ⟨rfl, rfl⟩

/-- how often 1 is doubled -/
def up (k : Int) : Nat := (k - 971).toNat
theorem pow_small (j : Nat) (h : j ≤ 29) : (1 : Int) ≤ ((2 ^ j : Nat) : Int) ∧ ((2 ^ j : Nat) : Int) ≤ 536870912 := by
  have h1 : 1 ≤ 2 ^ j := Nat.one_le_two_pow
  have h2 : 2 ^ j ≤ 2 ^ 29 := Nat.pow_le_pow_right (by decide) h
  have h3 : (2 : Nat) ^ 29 = 536870912 := by decide
  omega

set_option maxHeartbeats 400000 in
set_option maxRecDepth 100000 in
theorem fit_calls (k : Int) (h1 : -1000 ≤ k) (h2 : k ≤ 1000) (w : World) :
    Calls Tryz.prog 96 #[.int .u64 1, .int .i64 k] w fun e w' => e = .returned (.tuple #[.int .u64 ((2 ^ up k : Nat) : Int), .int .i64 (k - up k), .bool true]) ∧ w = w' := by
  have hup : (up k : Int) ≤ 29 ∧ k - up k ≤ 971 ∧ (0 < up k → 971 ≤ k - up k) := by unfold up; omega
  obtain ⟨hu1, hu2, hu3⟩ := hup
  have hb : (bits BinOp.and IntKind.u64 1 1 == 0) = false := by decide
  go_enter Tryz.func96, Tryz.ntmps96
  go_wp2
  refine wp_loop_rounds 1 ?_
  rw [rounds_succ]
  go_wp2
  go_loop [0, 1] (fun m e => ∃ (j : Nat) (n : Int), j ≤ up k ∧ n = ((2 ^ j : Nat) : Int) ∧ m = .int .u64 n ∧ e = .int .i64 (k - (j : Int))) (fun _ e => (intOf e - 971).toNat)
  case atStart => exact ⟨0, 1, Nat.zero_le _, rfl, rfl, by simp⟩
  case round =>
    obtain ⟨j, n, hj, hn, rfl, rfl⟩ := hrel
    have p := pow_small j (by omega)
    rw [← hn] at p
    obtain ⟨p1, p2⟩ := p
    have HN := Lib.hid hn
    clear hn
    by_cases c : j < up k
    · have c1 : (971 : Int) < k - j := by omega
      have c2 : n < 4503599627370496 := by omega
      have c3 : n * 2 < 18446744073709551616 := by omega
      clear p2
      go_wp2
      go_round
      case rel => exact ⟨j + 1, 2 * n, by omega, by rw [HN.out, Nat.pow_succ]; omega, by go_num, by go_num⟩
      case measure => simp [intOf]; omega
    · obtain rfl : j = up k := by omega
      have c1 : ¬ (971 : Int) < k - up k := by omega
      go_wp2
      go_ret3
      exact ⟨congrArg (fun x => Ending.returned (.tuple #[.int .u64 x, .int .i64 (k - up k), .bool true])) HN.out, rfl⟩

theorem nearest_two (j : Nat) (h : j ≤ 29) : floatOfInt .f64 ((2 ^ j : Nat) : Int) = pw j := by
  have : ∀ j : Nat, j < 30 → floatOfInt .f64 ((2 ^ j : Nat) : Int) = pw (j : Int) := by decide +kernel
  exact this j (by omega)

theorem pw_norm (k : Int) (h1 : -1022 ≤ k) (h2 : k ≤ 1023) : Norm (pw k) := ⟨by unfold pw; omega, by unfold pw; omega⟩

set_option maxHeartbeats 400000 in
theorem make_calls (k : Int) (h1 : -1000 ≤ k) (h2 : k ≤ 1000) (w : World) :
    Calls Tryz.prog 91 #[.bool false, .int .u64 1, .int .i64 k] w fun e w' => e = .returned (.tuple #[.float .f64 (pw k), .bool true]) ∧ w = w' := by
  have hu : (up k : Int) ≤ 29 ∧ k - up k ≤ 971 ∧ -1000 ≤ k - up k := by unfold up; omega
  obtain ⟨hu1, hu2, hu3⟩ := hu
  have hn := nearest_two (up k) (by omega)
  have L := Lib.hid (Ldexp_calls (pw (up k)) (k - up k) (pw_norm _ (by omega) (by omega)) (up k) (by unfold pw; omega) (by omega) (by omega) (by omega) (by omega))
  have e1 : k - (up k : Int) + (up k : Int) = k := by omega
  rw [e1, lw_pw _ _ (by unfold pw; omega)] at L
  clear e1
  generalize hm : ((2 ^ up k : Nat) : Int) = m at hn
  have F := Lib.hid (fit_calls k h1 h2)
  rw [hm] at F
  clear hm
  go_enter Tryz.func91, Tryz.ntmps91
  go_wp2_with (first | (go_at_call 96; refine (F.out _).mono ?_; rintro e w' ⟨rfl, rfl⟩) | (go_at_call 97; refine (L.out _).mono ?_; rintro e w' ⟨rfl, rfl⟩))
  go_ret2
  exact ⟨rfl, rfl⟩

theorem pow_calls (k : Int) (h1 : -1000 ≤ k) (h2 : k ≤ 1000) (w : World) :
    Calls Tryz.prog 78 #[.int .i64 k] w fun e w' => e = .returned (.float .f64 (pw k)) ∧ w = w' := by
  go_enter Tryz.func78, Tryz.ntmps78
  go_wp2_with (go_at_call 91; refine (make_calls k h1 h2 _).mono ?_; rintro e w' ⟨rfl, rfl⟩)
  go_ret
  exact ⟨rfl, rfl⟩
end Go.Proofs.YtmmligbkecilfaaGreatDoor
