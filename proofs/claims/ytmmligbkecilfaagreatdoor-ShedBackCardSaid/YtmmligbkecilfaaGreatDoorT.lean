/- The reference's Top, Pow, In, Of. -/
import Derived.Test.YtmmligbkecilfaaGreatDoorS
import Derived.Deep.RegionWith
namespace Go.Proofs.YtmmligbkecilfaaGreatDoor
open Go.RowKit Lv Go.Shelf
open Ieee (double Format Datum Toward)
attribute [local go_sem] run_bits run_frombits run_store_float drewN_alloc drewN_setCell run_addF run_subF run_mulF run_quoF

theorem top_parts {c : Nat} (h : Pos c) : expW c + ((mantW c).log2 : Int) = topP c ∧ 0 < mantW c ∧ mantW c < 9007199254740992 := by
  have h0 := h.lo
  have h1 := h.hi
  by_cases hs : c < 4503599627370496
  · obtain ⟨a, b, d⟩ := mant_sub h0 hs
    unfold mantW expW
    rw [if_pos hs, if_pos hs]
    exact ⟨by omega, h0, by omega⟩
  · have hn : nw c = c := by unfold nw; rw [if_neg hs]
    have hx : nx c = 0 := by unfold nx; rw [if_neg hs]
    unfold mantW expW topP
    rw [if_neg hs, if_neg hs, hn, hx]
    have hl : (c % 4503599627370496 + 4503599627370496).log2 = 52 := (Nat.log2_eq_iff (by omega)).2 ⟨by omega, by omega⟩
    rw [hl]
    exact ⟨by omega, by omega, by omega⟩
theorem div_log {M k : Nat} (h : 0 < M) (hk : k ≤ M.log2) : 1 ≤ M / 2 ^ k := by
  have h1 : 2 ^ M.log2 ≤ M := Nat.log2_self_le (by omega)
  have h2 : 2 ^ k ≤ 2 ^ M.log2 := Nat.pow_le_pow_right (by decide) hk
  exact (Nat.le_div_iff_mul_le (Nat.two_pow_pos k)).2 (by omega)
theorem div_log2 {M k : Nat} (h : 0 < M) (hk : k < M.log2) : 2 ≤ M / 2 ^ k := by
  have := div_log h (show k + 1 ≤ M.log2 by omega)
  rw [Nat.pow_succ, ← Nat.div_div_eq_div_mul] at this
  omega
theorem div_log1 {M : Nat} (h : 0 < M) : M / 2 ^ M.log2 = 1 := by
  have h1 := div_log h (Nat.le_refl M.log2)
  have h2 : M < 2 ^ (M.log2 + 1) := Nat.lt_log2_self
  have h3 : M / 2 ^ M.log2 < 2 := (Nat.div_lt_iff_lt_mul (Nat.two_pow_pos _)).2 (by rw [Nat.pow_succ] at h2; omega)
  omega

theorem two_lt {i : Nat} (h : i < 52) : (1 : Int) ≤ ((2 ^ i : Nat) : Int) ∧ ((2 ^ i : Nat) : Int) < 4503599627370496 := by
  have h1 : 2 ^ i < 2 ^ 52 := Nat.pow_lt_pow_right (by decide) h
  have h2 := Nat.two_pow_pos i
  have h3 : (2 : Nat) ^ 52 = 4503599627370496 := by decide
  omega
set_option maxHeartbeats 1000000 in
theorem rMake_calls (k : Int) (h1 : -1000 ≤ k) (h2 : k ≤ 1000) (w : World) :
    Calls Tryz.prog 70 #[.bool false, .int .u64 1, .int .i64 k] w fun e w' => e = .returned (.tuple #[.float .f64 (pw k), .bool true]) ∧ w = w' := by
  have hp : Hid (((k + 1023) * 4503599627370496).toNat = pw k) := rfl
  go_enter Tryz.func70, Tryz.ntmps70
  go_wp2
  go_loop [1, 2] (fun s1 s2 => s1 = .int .u64 1 ∧ s2 = .int .i64 k) (fun _ _ => 0)
  case atStart => exact ⟨rfl, rfl⟩
  case round =>
    obtain ⟨rfl, rfl⟩ := hrel
    go_wp2
    go_loop [1, 2] (fun s1 s2 => ∃ (i : Nat) (m e : Int), s1 = .int .u64 m ∧ s2 = .int .i64 e ∧ Hid (m = ((2 ^ i : Nat) : Int)) ∧ e = k - i ∧ i ≤ 52) (fun _ s2 => (intOf s2 + 5000).toNat)
    case atStart => exact ⟨0, _, _, rfl, rfl, by unfold Hid; rfl, by omega, by omega⟩
    case round =>
      obtain ⟨i, m, e, rfl, rfl, hm, he, hi⟩ := hrel
      by_cases hlt : i < 52
      · have hb := two_lt hlt
        rw [← hm.out] at hb
        obtain ⟨hb1, hb2⟩ := hb
        go_wp2
        go_round
        case rel => exact ⟨i + 1, _, _, rfl, rfl, by unfold Hid; rw [Nat.pow_succ]; have := hm.out; push_cast at this ⊢; omega, by omega, by omega⟩
        case measure => simp [intOf]; omega
      · obtain rfl : i = 52 := by omega
        have hm' : m = 4503599627370496 := by rw [hm.out]; decide
        subst hm'
        clear hm hlt hi
        go_wp2
        refine bodyPost_ret (v := .tuple #[.float .f64 ((k - 52 + 1075) * 4503599627370496).toNat, .bool true]) (by simp [results, Tryz.results70, go_sem]) rfl ⟨?_, rfl⟩
        rw [show k - 52 + 1075 = k + 1023 by omega, hp.out]

theorem rPow_calls (k : Int) (h1 : -1000 ≤ k) (h2 : k ≤ 1000) (w : World) :
    Calls Tryz.prog 39 #[.int .i64 k] w fun e w' => e = .returned (.float .f64 (pw k)) ∧ w = w' := by
  have M := Lib.hid (rMake_calls k h1 h2)
  go_enter Tryz.func39, Tryz.ntmps39
  go_wp2_with (go_at_call 70; refine (M.out _).mono ?_; rintro e w' ⟨rfl, rfl⟩)
  go_ret
  exact ⟨rfl, rfl⟩

attribute [local go_sem high] run_maxI run_minI

end Go.Proofs.YtmmligbkecilfaaGreatDoor
