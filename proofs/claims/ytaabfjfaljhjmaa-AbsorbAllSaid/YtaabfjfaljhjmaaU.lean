/- The reference's triangles: Size, At, Check. -/
import Derived.Test.YtaabfjfaljhjmaaT
import Derived.Test.YtaabfjfaljhjmaaJ
namespace Go.Proofs.Ytaabfjfaljhjmaa
open Go.RowKit Lv Go.Shelf
open Ieee (double Format Datum Toward)
attribute [local go_sem] Oper.semAt_some

theorem rsize_out (c : Int) (w : World) (h : ¬ (1 ≤ c ∧ c ≤ 6)) :
    Calls Try.prog 45 #[.int .i64 c] w fun e w' => e = .returned (.int .i64 0) ∧ w = w' := by
  by_cases h1 : c < 1
  · clear h
    go_enter Try.func45, Try.ntmps45
    go_wp2
    go_ret
    exact ⟨rfl, rfl⟩
  · have h2 : 6 < c := by omega
    clear h
    go_enter Try.func45, Try.ntmps45
    go_wp2
    go_ret
    exact ⟨rfl, rfl⟩
theorem rsize_in (c : Nat) (w : World) (h1 : 1 ≤ c) (h6 : c ≤ 6) :
    Calls Try.prog 45 #[.int .i64 (c : Int)] w fun e w' => e = .returned (.int .i64 (tsz c : Int)) ∧ w = w' := by
  have T := Lib.hid (tsz_int h1 h6)
  have a1 : (1 : Int) ≤ (c : Int) := by omega
  have a6 : (c : Int) ≤ 6 := by omega
  clear h1 h6
  go_enter Try.func45, Try.ntmps45
  go_wp2
  go_ret
  exact ⟨ret_int T.out, rfl⟩

theorem offs_step (c r : Nat) (h6 : c ≤ 6) (hr : r ≤ c) : (offs c r : Int) + c + 1 - r = (offs c (r + 1) : Int) ∧ offs c r ≤ 28 := by
  have : ∀ c : Nat, c < 7 → ∀ r : Nat, r < 7 → r ≤ c → (offs c r : Int) + c + 1 - r = (offs c (r + 1) : Int) ∧ offs c r ≤ 28 := by decide +kernel
  exact this c (by omega) r (by omega) hr

theorem rat_in (c i j : Nat) (w : World) (h1 : 1 ≤ c) (h6 : c ≤ 6) (hij : i ≤ j) (hj : j ≤ c) :
    Calls Try.prog 57 #[.int .i64 (c : Int), .int .i64 (i : Int), .int .i64 (j : Int)] w fun e w' => e = .returned (.tuple #[.int .i64 ((offs c i + (j - i) : Nat) : Int), .bool true]) ∧ w = w' := by
  have S := Lib.hid (fun w => rsize_in c w h1 h6)
  have hb := tsz_bounds h1 h6
  have hz : ((tsz c : Int) == 0) = false := by simp; omega
  have a1 : ¬ (j : Int) < (i : Int) := by omega
  have a2 : ¬ (c : Int) < (j : Int) := by omega
  have a6 : (c : Int) ≤ 6 := by omega
  clear hb
  go_enter Try.func57, Try.ntmps57
  go_wp2_with (go_at_call 45; refine (S.out _).mono ?_; rintro e w' ⟨rfl, rfl⟩)
  go_loop [8, 9] (fun s8 s9 => ∃ (r : Nat) (o : Int), s8 = .int .i64 o ∧ s9 = .int .i64 (r : Int) ∧ Hid (o = (offs c r : Int)) ∧ r ≤ i) (fun _ s9 => i - (intOf s9).toNat)
  case atStart => exact ⟨0, _, rfl, rfl, rfl, Nat.zero_le _⟩
  case round =>
    obtain ⟨r, o, rfl, rfl, ho, hr⟩ := hrel
    have hos := offs_step c r h6 (by omega)
    rw [← ho.out] at hos
    have ho2 : 0 ≤ o ∧ o ≤ 28 := by have := ho.out; omega
    obtain ⟨ho2, ho3⟩ := ho2
    by_cases hlt : r < i
    · have hst := Lib.hid hos.1
      clear hos
      have hrc : (r : Int) ≤ 6 := by omega
      go_wp2
      go_round
      case rel => exact ⟨r + 1, _, rfl, by go_num, hst.out, by omega⟩
      case measure => simp [intOf]; omega
    · obtain rfl : r = i := by omega
      clear hos
      have hji : (j : Int) ≤ 6 := by omega
      go_wp2
      go_ret2
      exact ⟨by
        have e : o + (j : Int) - (r : Int) = ((offs c r + (j - r) : Nat) : Int) := by have := ho.out; omega
        exact congrArg (fun z => Ending.returned (.tuple #[.int .i64 z, .bool true])) e, rfl⟩
end Go.Proofs.Ytaabfjfaljhjmaa
