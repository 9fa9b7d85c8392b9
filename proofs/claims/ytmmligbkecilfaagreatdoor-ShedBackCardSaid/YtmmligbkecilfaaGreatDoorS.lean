/- The reference's leaves: Split, number, Turn. -/
import Derived.Test.YtmmligbkecilfaaGreatDoorO
namespace Go.Proofs.YtmmligbkecilfaaGreatDoor
open Go.RowKit Lv Go.Shelf
open Ieee (double Format Datum Toward)
attribute [local go_sem] run_bits run_frombits run_store_float drewN_alloc drewN_setCell run_addF run_subF run_mulF run_quoF

theorem exp_any (b : Nat) (hb : W64 b) : bits .and .u64 ((b : Int) / 4503599627370496) 2047 = ((b % 9223372036854775808 / 4503599627370496 : Nat) : Int) := by
  unfold W64 at hb
  have e1 : (b : Int) / 4503599627370496 = ((b / 4503599627370496 : Nat) : Int) := by omega
  rw [e1]
  have := u64_and_nat (b / 4503599627370496) 2047 (by omega) (by decide)
  rw [show (2047 : Nat) = 2 ^ 11 - 1 from by decide, Nat.and_two_pow_sub_one_eq_mod] at this
  have e2 : b / 4503599627370496 % 2 ^ 11 = b % 9223372036854775808 / 4503599627370496 := by omega
  rw [e2] at this
  exact this
theorem mant_any (b : Nat) (hb : W64 b) : bits .and .u64 (b : Int) 4503599627370495 = ((b % 9223372036854775808 % 4503599627370496 : Nat) : Int) := by
  unfold W64 at hb
  have := u64_and_nat b 4503599627370495 hb (by decide)
  rw [show (4503599627370495 : Nat) = 2 ^ 52 - 1 from by decide, Nat.and_two_pow_sub_one_eq_mod] at this
  have e2 : b % 2 ^ 52 = b % 9223372036854775808 % 4503599627370496 := by omega
  rw [e2] at this
  exact this
theorem neg_any (b : Nat) (hb : W64 b) : ((b : Int) / 9223372036854775808 == 1) = negW b := by
  unfold W64 at hb
  unfold negW
  by_cases h : 9223372036854775808 ≤ b
  · have : (b : Int) / 9223372036854775808 = 1 := by omega
    rw [this]; simp [h]
  · have : (b : Int) / 9223372036854775808 = 0 := by omega
    rw [this]; simp [h]

set_option maxRecDepth 100000 in
theorem rSplit_calls (b : Nat) (hb : W64 b) (w : World) : Calls Tryz.prog 37 #[.float .f64 b] w fun e w' => e = .returned (splV b) ∧ w = w' := by
  have hE := exp_any b hb
  have hM := mant_any b hb
  have hN := neg_any b hb
  have hlt : b % 9223372036854775808 < 9223372036854775808 := Nat.mod_lt _ (by decide)
  have hV : Hid (splV b = if kindW b = 1 then .tuple #[.bool (negW b), .int .u64 (mantW (b % 9223372036854775808) : Nat), .int .i64 (expW (b % 9223372036854775808)), .int .i64 1] else .tuple #[.bool (negW b && !nan b), .int .u64 0, .int .i64 0, .int .i64 (kindW b)]) := rfl
  have hK : Hid (kindW b = if nan b then 3 else if b % 9223372036854775808 = 9218868437227405312 then 2 else if b % 9223372036854775808 = 0 then 0 else 1) := rfl
  have hA : Hid (nan b = decide (9218868437227405312 < b % 9223372036854775808)) := rfl
  have hm : Hid (mantW (b % 9223372036854775808) = if b % 9223372036854775808 < 4503599627370496 then b % 9223372036854775808 else b % 9223372036854775808 % 4503599627370496 + 4503599627370496) := rfl
  have he : Hid (expW (b % 9223372036854775808) = if b % 9223372036854775808 < 4503599627370496 then -1074 else ((b % 9223372036854775808 : Nat) : Int) / 4503599627370496 - 1075) := rfl
  generalize b % 9223372036854775808 = c at *
  by_cases c0 : c < 4503599627370496
  · have hE0 : bits .and .u64 ((b : Int) / 4503599627370496) 2047 = 0 := by rw [hE]; omega
    have hnn : nan b = false := by rw [hA.out]; simp; omega
    by_cases c1 : c = 0
    · have hM0 : bits .and .u64 (b : Int) 4503599627370495 = 0 := by rw [hM]; omega
      have e : splV b = .tuple #[.bool (negW b), .int .u64 0, .int .i64 0, .int .i64 0] := by
        have hk : kindW b = 0 := by rw [hK.out, hnn, if_neg (by decide), if_neg (by omega), if_pos c1]
        rw [hV.out, hk, if_neg (by decide), hnn]; simp
      rw [e]
      clear hE hM hnn e c0 c1 hlt
      go_enter Tryz.func37, Tryz.ntmps37
      go_wp2
      exact bodyPost_ret (v := .tuple #[.bool (negW b), .int .u64 0, .int .i64 0, .int .i64 0]) (by simp [results, Tryz.results37, go_sem]) rfl ⟨rfl, rfl⟩
    · obtain ⟨M, hM0, hM1, hM2⟩ : ∃ M : Int, bits .and .u64 (b : Int) 4503599627370495 = M ∧ M = (c : Int) ∧ 0 < M := ⟨_, hM, by omega, by omega⟩
      have e : splV b = .tuple #[.bool (negW b), .int .u64 M, .int .i64 (-1074), .int .i64 1] := by
        have hk : kindW b = 1 := by rw [hK.out, hnn, if_neg (by decide), if_neg (by omega), if_neg c1]
        rw [hV.out, hk, if_pos rfl, hm.out, he.out, if_pos c0, if_pos c0, hM1]
      rw [e]
      have hM3 : M < 4503599627370496 := by omega
      clear hE hM hnn e c0 c1 hlt hM1
      go_enter Tryz.func37, Tryz.ntmps37
      go_wp2
      exact bodyPost_ret (v := .tuple #[.bool (negW b), .int .u64 M, .int .i64 (-1074), .int .i64 1]) (by simp [results, Tryz.results37, go_sem]) rfl ⟨rfl, rfl⟩
  · by_cases c1 : c < 9218868437227405312
    · have hnn : nan b = false := by rw [hA.out]; simp; omega
      obtain ⟨M, hM0, hM1, hM2⟩ : ∃ M : Int, bits .and .u64 (b : Int) 4503599627370495 = M ∧ M = ((c % 4503599627370496 : Nat) : Int) ∧ 0 ≤ M := ⟨_, hM, rfl, by omega⟩
      obtain ⟨E, hE0, hE1, hE2⟩ : ∃ E : Int, bits .and .u64 ((b : Int) / 4503599627370496) 2047 = E ∧ E = (c : Int) / 4503599627370496 ∧ 1 ≤ E := ⟨_, hE, by omega, by omega⟩
      have hE3 : E ≤ 2046 := by omega
      have hM3 : M < 4503599627370496 := by omega
      have e : splV b = .tuple #[.bool (negW b), .int .u64 (M + 4503599627370496), .int .i64 (E - 1075), .int .i64 1] := by
        have hk : kindW b = 1 := by rw [hK.out, hnn, if_neg (by decide), if_neg (by omega), if_neg (by omega)]
        rw [hV.out, hk, if_pos rfl, hm.out, he.out, if_neg c0, if_neg c0, hM1, hE1]
        rfl
      rw [e]
      clear hE hM hnn e c0 c1 hlt hM1 hE1
      go_enter Tryz.func37, Tryz.ntmps37
      go_wp2
      exact bodyPost_ret (v := .tuple #[.bool (negW b), .int .u64 (M + 4503599627370496), .int .i64 (E - 1075), .int .i64 1]) (by simp [results, Tryz.results37, go_sem]) rfl ⟨rfl, rfl⟩
    · have hE0 : bits .and .u64 ((b : Int) / 4503599627370496) 2047 = 2047 := by rw [hE]; omega
      by_cases c2 : c = 9218868437227405312
      · have hnn : nan b = false := by rw [hA.out]; simp; omega
        have hM0 : bits .and .u64 (b : Int) 4503599627370495 = 0 := by rw [hM]; omega
        have e : splV b = .tuple #[.bool (negW b), .int .u64 0, .int .i64 0, .int .i64 2] := by
          have hk : kindW b = 2 := by rw [hK.out, hnn, if_neg (by decide), if_pos c2]
          rw [hV.out, hk, if_neg (by decide), hnn]; simp
        rw [e]
        clear hE hM hnn e c0 c1 hlt c2
        go_enter Tryz.func37, Tryz.ntmps37
        go_wp2
        exact bodyPost_ret (v := .tuple #[.bool (negW b), .int .u64 0, .int .i64 0, .int .i64 2]) (by simp [results, Tryz.results37, go_sem]) rfl ⟨rfl, rfl⟩
      · have hnn : nan b = true := by rw [hA.out]; simp; omega
        obtain ⟨M, hM0, hM2⟩ : ∃ M : Int, bits .and .u64 (b : Int) 4503599627370495 = M ∧ 0 < M := ⟨_, hM, by omega⟩
        have e : splV b = .tuple #[.bool false, .int .u64 0, .int .i64 0, .int .i64 3] := by
          have hk : kindW b = 3 := by rw [hK.out, hnn, if_pos rfl]
          rw [hV.out, hk, if_neg (by decide), hnn]; simp
        rw [e]
        clear hE hM hnn e c0 c1 hlt c2
        go_enter Tryz.func37, Tryz.ntmps37
        go_wp2
        exact bodyPost_ret (v := .tuple #[.bool false, .int .u64 0, .int .i64 0, .int .i64 3]) (by simp [results, Tryz.results37, go_sem]) rfl ⟨rfl, rfl⟩

end Go.Proofs.YtmmligbkecilfaaGreatDoor
