/- The leaves: what a float's bits tell. -/
import Derived.Test.YtaabfjfaljhjmaaProg
import Derived.Test.YtaabfjfaljhjmaaFloat
import Derived.WalkKit
import Derived.WalkLawsBesides
import Derived.WalkSpells
import Derived.Outline
import Derived.Laws.BitsAllLaws
import Derived.Lib.Hide
namespace Go.Proofs.Ytaabfjfaljhjmaa
open Go.RowKit Lv

/-- a word of 64 bits -/
def W64 (b : Nat) : Prop := b < 18446744073709551616

theorem run_bits (x : Nat) (w : World) : (callFunc 63 #[.float .f64 x]).run Try.prog w = .ok (.value (.int .u64 x)) w := by kernel_rfl
theorem run_frombits (x : Int) (w : World) : (callFunc 72 #[.int .u64 x]).run Try.prog w = .ok (.value (.float .f64 x.toNat)) w := by kernel_rfl
attribute [local go_sem] run_bits run_frombits

theorem ret_float {a b : Nat} (h : a = b) : Ending.returned (.float .f64 a) = .returned (.float .f64 b) := by rw [h]
theorem ret_bool {a b : Bool} (h : a = b) : Ending.returned (.bool a) = .returned (.bool b) := by rw [h]
theorem ret_int {k : IntKind} {a b : Int} (h : a = b) : Ending.returned (.int k a) = .returned (.int k b) := by rw [h]

theorem andNot_sign (b : Nat) (hb : W64 b) : bits .andNot .u64 (b : Int) 9223372036854775808 = ((b % 9223372036854775808 : Nat) : Int) := by
  have h := u64_andNot_nat b 9223372036854775808 hb (by decide)
  have e : (18446744073709551615 - 9223372036854775808 : Nat) = 2 ^ 63 - 1 := by decide
  rw [e, Nat.and_two_pow_sub_one_eq_mod] at h
  exact h

theorem abs_calls (b : Nat) (hb : W64 b) (w : World) :
    Calls Try.prog 65 #[.float .f64 b] w fun e w' => e = .returned (.float .f64 (b % 9223372036854775808)) ∧ w = w' := by
  have H := andNot_sign b hb
  go_enter Try.func65, Try.ntmps65
  go_wp2
  go_ret
  exact ⟨rfl, rfl⟩

theorem signbit_calls (b : Nat) (hb : W64 b) (w : World) :
    Calls Try.prog 48 #[.float .f64 b] w fun e w' => e = .returned (.bool (decide (9223372036854775808 ≤ b))) ∧ w = w' := by
  go_enter Try.func48, Try.ntmps48
  go_wp2
  go_ret
  refine ⟨ret_bool ?_, rfl⟩
  unfold W64 at hb
  congr 1
  apply propext
  unfold wrap64
  omega

theorem isInf_calls (b : Nat) (hb : W64 b) (w : World) :
    Calls Try.prog 77 #[.float .f64 b, .int .i64 0] w fun e w' => e = .returned (.bool (decide (b % 9223372036854775808 = 9218868437227405312))) ∧ w = w' := by
  go_enter Try.func77, Try.ntmps77
  go_wp2_with (go_at_call 65; refine (abs_calls _ hb _).mono ?_; rintro e w' ⟨rfl, rfl⟩)
  go_ret
  refine ⟨ret_bool ?_, rfl⟩
  refine (abs_gt b 9218868437227405311 (by decide)).trans ?_
  cases h : nan b with
  | true => have := nan_lt h; simp; omega
  | false => have := nan_le h; simp; omega

theorem isNaN_calls (b : Nat) (hb : W64 b) (w : World) :
    Calls Try.prog 95 #[.float .f64 b] w fun e w' => e = .returned (.bool (nan b)) ∧ w = w' := by
  go_enter Try.func95, Try.ntmps95
  go_wp2
  go_ret
  exact ⟨ret_bool (self_neq b hb), rfl⟩

/-- what kind of float a word is -/
def kindW (b : Nat) : Int := if nan b then 3 else if b % 9223372036854775808 = 9218868437227405312 then 2 else if b % 9223372036854775808 = 0 then 0 else 1

theorem kind_calls (b : Nat) (hb : W64 b) (w : World) :
    Calls Try.prog 85 #[.float .f64 b] w fun e w' => e = .returned (.int .i64 (kindW b)) ∧ w = w' := by
  have H1 : (FloatKind.f64.format.order b b != some Ordering.eq) = nan b := self_neq b hb
  have H2 : (FloatKind.f64.format.order b 0 == some Ordering.eq) = decide (b % 9223372036854775808 = 0) := is_zero b hb
  go_enter Try.func85, Try.ntmps85
  go_wp2_with (go_at_call 77; refine (isInf_calls _ hb _).mono ?_; rintro e w' ⟨rfl, rfl⟩)
  all_goals
    go_ret
    exact ⟨ret_int (by simp [kindW, *]), rfl⟩
end Go.Proofs.Ytaabfjfaljhjmaa
