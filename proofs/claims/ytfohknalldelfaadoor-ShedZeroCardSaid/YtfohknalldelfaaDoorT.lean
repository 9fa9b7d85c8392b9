/- The reference's Top, Pow, In, Of. -/
import Derived.Test.YtfohknalldelfaaDoorS
import Derived.Deep.RegionWith
namespace Go.Proofs.YtfohknalldelfaaDoor
open Go.RowKit Lv Go.Shelf
open Ieee (double Format Datum Toward)
attribute [local go_sem] run_bits run_frombits run_store_float drewN_alloc drewN_setCell run_addF run_subF run_mulF run_quoF

theorem top_parts {c : Nat} (h : Pos c) : expW c + ((mantW c).log2 : Int) = topP c ∧ 0 < mantW c ∧ mantW c < 9007199254740992 := by
  have h0 := h.lo
  have h1 := h.hi
  by_cases hs : c < 4503599627370496
  · obtain ⟨a, b, d⟩ := mant_sub h0 hs
    unfold mantW expW
    rw [if_pos hs, if_pos hs]
    exact ⟨by omega, h0, by omega⟩
  · have hn : nw c = c := by unfold nw; rw [if_neg hs]
    have hx : nx c = 0 := by unfold nx; rw [if_neg hs]
    unfold mantW expW topP
    rw [if_neg hs, if_neg hs, hn, hx]
    have hl : (c % 4503599627370496 + 4503599627370496).log2 = 52 := (Nat.log2_eq_iff (by omega)).2 ⟨by omega, by omega⟩
    rw [hl]
    exact ⟨by omega, by omega, by omega⟩
theorem div_log {M k : Nat} (h : 0 < M) (hk : k ≤ M.log2) : 1 ≤ M / 2 ^ k := by
  have h1 : 2 ^ M.log2 ≤ M := Nat.log2_self_le (by omega)
  have h2 : 2 ^ k ≤ 2 ^ M.log2 := Nat.pow_le_pow_right (by decide) hk
  exact (Nat.le_div_iff_mul_le (Nat.two_pow_pos k)).2 (by omega)
theorem div_log2 {M k : Nat} (h : 0 < M) (hk : k < M.log2) : 2 ≤ M / 2 ^ k := by
  have := div_log h (show k + 1 ≤ M.log2 by omega)
  rw [Nat.pow_succ, ← Nat.div_div_eq_div_mul] at this
  omega
theorem div_log1 {M : Nat} (h : 0 < M) : M / 2 ^ M.log2 = 1 := by
  have h1 := div_log h (Nat.le_refl M.log2)
  have h2 : M < 2 ^ (M.log2 + 1) := Nat.lt_log2_self
  have h3 : M / 2 ^ M.log2 < 2 := (Nat.div_lt_iff_lt_mul (Nat.two_pow_pos _)).2 (by rw [Nat.pow_succ] at h2; omega)
  omega

theorem two_lt {i : Nat} (h : i < 52) : (1 : Int) ≤ ((2 ^ i : Nat) : Int) ∧ ((2 ^ i : Nat) : Int) < 4503599627370496 := by
  have h1 : 2 ^ i < 2 ^ 52 := Nat.pow_lt_pow_right (by decide) h
  have h2 := Nat.two_pow_pos i
  have h3 : (2 : Nat) ^ 52 = 4503599627370496 := by decide
  omega
set_option maxHeartbeats 1000000 in
theorem rMake_calls (k : Int) (h1 : -1000 ≤ k) (h2 : k ≤ 1000) (w : World) :
    Calls Tryd.prog 70 #[.bool false, .int .u64 1, .int .i64 k] w fun e w' => e = .returned (.tuple #[.float .f64 (pw k), .bool true]) ∧ w = w' := by
  have hp : Hid (((k + 1023) * 4503599627370496).toNat = pw k) := rfl
  go_enter Tryd.func70, Tryd.ntmps70
  go_wp2
  go_loop [1, 2] (fun s1 s2 => s1 = .int .u64 1 ∧ s2 = .int .i64 k) (fun _ _ => 0)
  case atStart => exact ⟨rfl, rfl⟩
  case round =>
    obtain ⟨rfl, rfl⟩ := hrel
    go_wp2
    go_loop [1, 2] (fun s1 s2 => ∃ (i : Nat) (m e : Int), s1 = .int .u64 m ∧ s2 = .int .i64 e ∧ Hid (m = ((2 ^ i : Nat) : Int)) ∧ e = k - i ∧ i ≤ 52) (fun _ s2 => (intOf s2 + 5000).toNat)
    case atStart => exact ⟨0, _, _, rfl, rfl, by unfold Hid; rfl, by omega, by omega⟩
    case round =>
      obtain ⟨i, m, e, rfl, rfl, hm, he, hi⟩ := hrel
      by_cases hlt : i < 52
      · have hb := two_lt hlt
        rw [← hm.out] at hb
        obtain ⟨hb1, hb2⟩ := hb
        go_wp2
        go_round
        case rel => exact ⟨i + 1, _, _, rfl, rfl, by unfold Hid; rw [Nat.pow_succ]; have := hm.out; push_cast at this ⊢; omega, by omega, by omega⟩
        case measure => simp [intOf]; omega
      · obtain rfl : i = 52 := by omega
        have hm' : m = 4503599627370496 := by rw [hm.out]; decide
        subst hm'
        clear hm hlt hi
        go_wp2
        refine bodyPost_ret (v := .tuple #[.float .f64 ((k - 52 + 1075) * 4503599627370496).toNat, .bool true]) (by simp [results, Tryd.results70, go_sem]) rfl ⟨?_, rfl⟩
        rw [show k - 52 + 1075 = k + 1023 by omega, hp.out]

theorem rPow_calls (k : Int) (h1 : -1000 ≤ k) (h2 : k ≤ 1000) (w : World) :
    Calls Tryd.prog 52 #[.int .i64 k] w fun e w' => e = .returned (.float .f64 (pw k)) ∧ w = w' := by
  have M := Lib.hid (rMake_calls k h1 h2)
  go_enter Tryd.func52, Tryd.ntmps52
  go_wp2_with (go_at_call 70; refine (M.out _).mono ?_; rintro e w' ⟨rfl, rfl⟩)
  go_ret
  exact ⟨rfl, rfl⟩

theorem rIn_calls (b : Nat) (hb : W64 b) (w : World) :
    Calls Tryd.prog 41 #[.float .f64 b] w fun e w' => e = .returned (.bool (inW b)) ∧ w = w' := by
  obtain ⟨p, q, r, eS⟩ := splV_kind b
  have S := rSplit_calls b hb
  rw [eS] at S
  have S' := Lib.hid S
  have hk := kindW_range b
  have h1 := abs_ge b (pw (-400)) (by decide)
  have h2 := abs_le b (pw 400) (by decide)
  by_cases k0 : kindW b = 0
  · have e : inW b = true := by
      have : b % 9223372036854775808 = 0 := by
        unfold kindW at k0
        split at k0
        · omega
        · split at k0
          · omega
          · split at k0
            · assumption
            · omega
      unfold inW
      rw [this]; rfl
    rw [e]
    rw [k0] at S'
    clear e S eS h1 h2 hk hb
    go_enter Tryd.func41, Tryd.ntmps41
    go_wp2_with (go_at_call 50; refine (S'.out _).mono ?_; rintro e w' ⟨rfl, rfl⟩)
    go_ret
    exact ⟨rfl, rfl⟩
  · by_cases k1 : kindW b = 1
    · have hf := kindW_fin hb k1
      have hn := hf.nan
      have e : inW b = ((double.order (b % 9223372036854775808) (pw (-400)) == some .gt || double.order (b % 9223372036854775808) (pw (-400)) == some .eq) && (double.order (b % 9223372036854775808) (pw 400) == some .lt || double.order (b % 9223372036854775808) (pw 400) == some .eq)) := by
        rw [h1, h2, hn]
        have := hf.lo
        unfold inW
        rw [decide_eq_false (by omega)]
        simp
      have E := Lib.hid e
      rw [k1] at S'
      clear e S eS h1 h2 hk hn hf
      go_enter Tryd.func41, Tryd.ntmps41
      go_wp2_with (first | (go_at_call 50; refine (S'.out _).mono ?_; rintro e w' ⟨rfl, rfl⟩) | (go_at_call 51; refine (abs_calls _ hb _).mono ?_; rintro e w' ⟨rfl, rfl⟩) | (go_at_call 52; refine (rPow_calls _ (by decide) (by decide) _).mono ?_; rintro e w' ⟨rfl, rfl⟩))
      all_goals
        go_ret
        refine ⟨ret_bool ?_, rfl⟩
        rw [E.out]
      · rfl
      · have h3 : ¬ (FloatKind.f64.format.order (b % 9223372036854775808) (pw (-400)) = some Ordering.gt ∨ FloatKind.f64.format.order (b % 9223372036854775808) (pw (-400)) = some Ordering.eq) := by assumption
        have h4 : (double.order (b % 9223372036854775808) (pw (-400)) == some .gt || double.order (b % 9223372036854775808) (pw (-400)) == some .eq) = false := by
          have : FloatKind.f64.format = double := rfl
          rw [this] at h3
          simpa using h3
        rw [h4]
        rfl
    · have e : inW b = false := by
        have : 9218868437227405312 ≤ b % 9223372036854775808 := by
          unfold kindW at k0 k1
          split at k0
          · have := nan_lt (by assumption); omega
          · rename_i hh
            rw [if_neg hh] at k1
            split at k0
            · omega
            · rename_i hh2
              rw [if_neg hh2] at k1
              split at k0 <;> simp_all
        have hp : pw 400 < 9218868437227405312 := by decide
        unfold inW
        rw [decide_eq_false (by omega), Bool.false_or, decide_eq_false (p := b % 9223372036854775808 ≤ pw 400) (by omega), Bool.and_false]
      rw [e]
      have k0' : (kindW b == 0) = false := by simp [k0]
      have k1' : (kindW b == 1) = false := by simp [k1]
      clear e S eS h1 h2 hk k0 k1
      generalize kindW b = kb at *
      go_enter Tryd.func41, Tryd.ntmps41
      go_wp2_with (first | (go_at_call 50; refine (S'.out _).mono ?_; rintro e w' ⟨rfl, rfl⟩) | (go_at_call 51; refine (abs_calls _ hb _).mono ?_; rintro e w' ⟨rfl, rfl⟩) | (go_at_call 52; refine (rPow_calls _ (by decide) (by decide) _).mono ?_; rintro e w' ⟨rfl, rfl⟩))
      go_ret
      exact ⟨rfl, rfl⟩

attribute [local go_sem high] run_maxI run_minI

theorem rnum_t {b : Nat} {X : Option Nat} {t : Bool} (h : FW b X) (ht : numF X = t) (w : World) : Calls Tryd.prog 53 #[.float .f64 b] w fun e w' => e = .returned (.bool t) ∧ w = w' := by
  have := rnumber_calls b h.1 w
  rw [numW_F h, ht] at this
  exact this

end Go.Proofs.YtfohknalldelfaaDoor
