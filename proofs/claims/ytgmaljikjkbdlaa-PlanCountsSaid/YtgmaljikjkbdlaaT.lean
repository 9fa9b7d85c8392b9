/- The reference's Top, Pow, In, Of. -/
import Derived.Test.YtgmaljikjkbdlaaS
import Derived.Deep.RegionWith
namespace Go.Proofs.Ytgmaljikjkbdlaa
open Go.RowKit Lv Go.Shelf
open Ieee (double Format Datum Toward)
attribute [local go_sem] run_bits run_frombits run_store_float drewN_alloc drewN_setCell run_addF run_subF run_mulF run_quoF

theorem top_parts {c : Nat} (h : Pos c) : expW c + ((mantW c).log2 : Int) = topP c ∧ 0 < mantW c ∧ mantW c < 9007199254740992 := by
  have h0 := h.lo
  have h1 := h.hi
  by_cases hs : c < 4503599627370496
  · obtain ⟨a, b, d⟩ := mant_sub h0 hs
    unfold mantW expW
    rw [if_pos hs, if_pos hs]
    exact ⟨by omega, h0, by omega⟩
  · have hn : nw c = c := by unfold nw; rw [if_neg hs]
    have hx : nx c = 0 := by unfold nx; rw [if_neg hs]
    unfold mantW expW topP
    rw [if_neg hs, if_neg hs, hn, hx]
    have hl : (c % 4503599627370496 + 4503599627370496).log2 = 52 := (Nat.log2_eq_iff (by omega)).2 ⟨by omega, by omega⟩
    rw [hl]
    exact ⟨by omega, by omega, by omega⟩
theorem div_log {M k : Nat} (h : 0 < M) (hk : k ≤ M.log2) : 1 ≤ M / 2 ^ k := by
  have h1 : 2 ^ M.log2 ≤ M := Nat.log2_self_le (by omega)
  have h2 : 2 ^ k ≤ 2 ^ M.log2 := Nat.pow_le_pow_right (by decide) hk
  exact (Nat.le_div_iff_mul_le (Nat.two_pow_pos k)).2 (by omega)
theorem div_log2 {M k : Nat} (h : 0 < M) (hk : k < M.log2) : 2 ≤ M / 2 ^ k := by
  have := div_log h (show k + 1 ≤ M.log2 by omega)
  rw [Nat.pow_succ, ← Nat.div_div_eq_div_mul] at this
  omega
theorem div_log1 {M : Nat} (h : 0 < M) : M / 2 ^ M.log2 = 1 := by
  have h1 := div_log h (Nat.le_refl M.log2)
  have h2 : M < 2 ^ (M.log2 + 1) := Nat.lt_log2_self
  have h3 : M / 2 ^ M.log2 < 2 := (Nat.div_lt_iff_lt_mul (Nat.two_pow_pos _)).2 (by rw [Nat.pow_succ] at h2; omega)
  omega

set_option maxHeartbeats 1000000 in
theorem rTop_calls (b : Nat) (hb : W64 b) (w : World) : Calls Try.prog 92 #[.float .f64 b] w fun e w' => e = .returned (.int .i64 (topW b)) ∧ w = w' := by
  have S := rSplit_calls b hb
  by_cases hk : kindW b = 1
  · have hp := (kindW_fin hb hk).pos
    obtain ⟨h1, h2, h3⟩ := top_parts hp
    have hr := topP_bounds hp
    have e : topW b = topP (b % 9223372036854775808) := by unfold topW; rw [if_pos hk]
    have eS : splV b = .tuple #[.bool (negW b), .int .u64 (mantW (b % 9223372036854775808) : Nat), .int .i64 (expW (b % 9223372036854775808)), .int .i64 1] := by unfold splV; rw [if_pos hk]
    rw [eS] at S
    rw [e]
    have hL : (mantW (b % 9223372036854775808)).log2 < 53 := (Nat.log2_lt (by omega)).2 (by omega)
    have H1 := Lib.hid h1
    clear e eS hk hp hb h1
    have S' := Lib.hid S
    clear S
    generalize topP (b % 9223372036854775808) = t at *
    generalize expW (b % 9223372036854775808) = E at *
    generalize mantW (b % 9223372036854775808) = M at *
    have hE : -1200 ≤ E ∧ E ≤ 1023 := by have := H1.out; omega
    obtain ⟨hE1, hE2⟩ := hE
    obtain ⟨hr1, hr2⟩ := hr
    go_enter Try.func92, Try.ntmps92
    go_wp2_with (go_at_call 52; refine (S'.out _).mono ?_; rintro e w' ⟨rfl, rfl⟩)
    go_loop [4, 5] (fun s4 s5 => ∃ (k : Nat) (m e : Int), s4 = .int .u64 m ∧ s5 = .int .i64 e ∧ Hid (m = ((M / 2 ^ k : Nat) : Int)) ∧ e = E + k ∧ k ≤ M.log2) (fun s4 _ => (intOf s4).toNat)
    case atStart => exact ⟨0, _, _, rfl, rfl, by unfold Hid; simp, by omega, Nat.zero_le _⟩
    case round =>
      obtain ⟨k, m, e, rfl, rfl, hm, he, hk⟩ := hrel
      by_cases hlt : k < M.log2
      · have q1 : 2 ≤ m := by rw [hm.out]; have := div_log2 h2 hlt; omega
        have q2 : m < 9007199254740992 := by rw [hm.out]; have := Nat.div_le_self M (2 ^ k); omega
        go_wp2
        go_round
        case rel => exact ⟨k + 1, _, _, rfl, rfl, by unfold Hid; rw [← half_step, ← hm.out], by omega, by omega⟩
        case measure => simp [intOf]; omega
      · have hkl : k = M.log2 := by omega
        have q1 : m = 1 := by rw [hm.out, hkl, div_log1 h2]; rfl
        subst q1
        have hee : Hid (e = t) := by unfold Hid; have := H1.out; omega
        clear he hkl hlt hk hm
        go_wp2
        go_ret
        exact ⟨ret_int hee.out, rfl⟩
  · have e : topW b = -2000 := by unfold topW; rw [if_neg hk]
    rw [e]
    obtain ⟨p, q, r, eS⟩ := splV_kind b
    rw [eS] at S
    have S' := Lib.hid S
    clear S e eS hb
    generalize kindW b = kb at *
    have hk1 : (kb != 1) = true := by simp [hk]
    go_enter Try.func92, Try.ntmps92
    go_wp2_with (go_at_call 52; refine (S'.out _).mono ?_; rintro e w' ⟨rfl, rfl⟩)
    go_ret
    exact ⟨rfl, rfl⟩

theorem two_lt {i : Nat} (h : i < 52) : (1 : Int) ≤ ((2 ^ i : Nat) : Int) ∧ ((2 ^ i : Nat) : Int) < 4503599627370496 := by
  have h1 : 2 ^ i < 2 ^ 52 := Nat.pow_lt_pow_right (by decide) h
  have h2 := Nat.two_pow_pos i
  have h3 : (2 : Nat) ^ 52 = 4503599627370496 := by decide
  omega
set_option maxHeartbeats 1000000 in
theorem rMake_calls (k : Int) (h1 : -1000 ≤ k) (h2 : k ≤ 1000) (w : World) :
    Calls Try.prog 70 #[.bool false, .int .u64 1, .int .i64 k] w fun e w' => e = .returned (.tuple #[.float .f64 (pw k), .bool true]) ∧ w = w' := by
  have hp : Hid (((k + 1023) * 4503599627370496).toNat = pw k) := rfl
  go_enter Try.func70, Try.ntmps70
  go_wp2
  go_loop [1, 2] (fun s1 s2 => s1 = .int .u64 1 ∧ s2 = .int .i64 k) (fun _ _ => 0)
  case atStart => exact ⟨rfl, rfl⟩
  case round =>
    obtain ⟨rfl, rfl⟩ := hrel
    go_wp2
    go_loop [1, 2] (fun s1 s2 => ∃ (i : Nat) (m e : Int), s1 = .int .u64 m ∧ s2 = .int .i64 e ∧ Hid (m = ((2 ^ i : Nat) : Int)) ∧ e = k - i ∧ i ≤ 52) (fun _ s2 => (intOf s2 + 5000).toNat)
    case atStart => exact ⟨0, _, _, rfl, rfl, by unfold Hid; rfl, by omega, by omega⟩
    case round =>
      obtain ⟨i, m, e, rfl, rfl, hm, he, hi⟩ := hrel
      by_cases hlt : i < 52
      · have hb := two_lt hlt
        rw [← hm.out] at hb
        obtain ⟨hb1, hb2⟩ := hb
        go_wp2
        go_round
        case rel => exact ⟨i + 1, _, _, rfl, rfl, by unfold Hid; rw [Nat.pow_succ]; have := hm.out; push_cast at this ⊢; omega, by omega, by omega⟩
        case measure => simp [intOf]; omega
      · obtain rfl : i = 52 := by omega
        have hm' : m = 4503599627370496 := by rw [hm.out]; decide
        subst hm'
        clear hm hlt hi
        go_wp2
        refine bodyPost_ret (v := .tuple #[.float .f64 ((k - 52 + 1075) * 4503599627370496).toNat, .bool true]) (by simp [results, Try.results70, go_sem]) rfl ⟨?_, rfl⟩
        rw [show k - 52 + 1075 = k + 1023 by omega, hp.out]

theorem rPow_calls (k : Int) (h1 : -1000 ≤ k) (h2 : k ≤ 1000) (w : World) :
    Calls Try.prog 54 #[.int .i64 k] w fun e w' => e = .returned (.float .f64 (pw k)) ∧ w = w' := by
  have M := Lib.hid (rMake_calls k h1 h2)
  go_enter Try.func54, Try.ntmps54
  go_wp2_with (go_at_call 70; refine (M.out _).mono ?_; rintro e w' ⟨rfl, rfl⟩)
  go_ret
  exact ⟨rfl, rfl⟩

attribute [local go_sem high] run_maxI run_minI

theorem rOf_calls_no (x y : Nat) (w : World) {F G : Option Nat} (hx : FW x F) (hy : FW y G) (h : (numF F && numF G) = false) :
    Calls Try.prog 81 #[.float .f64 x, .float .f64 y] w fun e w' => e = .returned (.tuple #[.float .f64 0, .float .f64 0, .float .f64 0, .bool false]) ∧ w = w' := by
  have N1 := rnumber_calls x hx.1
  have N2 := rnumber_calls y hy.1
  rw [numW_F hx] at N1
  rw [numW_F hy] at N2
  have M1 := Lib.hid N1
  have M2 := Lib.hid N2
  clear N1 N2 hx hy
  generalize numF F = f at *
  generalize numF G = g at *
  cases f
  · clear h
    go_enter Try.func81, Try.ntmps81
    go_wp2_with (go_at_call_of 91 (Value.float .f64 x); refine (M1.out _).mono ?_; rintro e w' ⟨rfl, rfl⟩)
    exact bodyPost_ret (v := .tuple #[.float .f64 0, .float .f64 0, .float .f64 0, .bool false]) (by simp [results, Try.results81, go_sem]) rfl ⟨rfl, rfl⟩
  · cases g
    · clear h
      go_enter Try.func81, Try.ntmps81
      go_wp2_with (first | (go_at_call_of 91 (Value.float .f64 x); refine (M1.out _).mono ?_; rintro e w' ⟨rfl, rfl⟩) | (go_at_call_of 91 (Value.float .f64 y); refine (M2.out _).mono ?_; rintro e w' ⟨rfl, rfl⟩))
      exact bodyPost_ret (v := .tuple #[.float .f64 0, .float .f64 0, .float .f64 0, .bool false]) (by simp [results, Try.results81, go_sem]) rfl ⟨rfl, rfl⟩
    · cases h

theorem rnum_t {b : Nat} {X : Option Nat} {t : Bool} (h : FW b X) (ht : numF X = t) (w : World) : Calls Try.prog 91 #[.float .f64 b] w fun e w' => e = .returned (.bool t) ∧ w = w' := by
  have := rnumber_calls b h.1 w
  rw [numW_F h, ht] at this
  exact this

theorem rOf_calls_zero (x y : Nat) (w : World) {F G : Option Nat} (hx : FW x F) (hy : FW y G) (h : (numF F && numF G) = true) (hz : (zeroF F && zeroF G) = true) :
    Calls Try.prog 81 #[.float .f64 x, .float .f64 y] w fun e w' => e = .returned (.tuple #[.float .f64 4607182418800017408, .float .f64 0, .float .f64 0, .bool true]) ∧ w = w' := by
  rw [Bool.and_eq_true] at h hz
  have M1 := Lib.hid (rnum_t hx h.1)
  have M2 := Lib.hid (rnum_t hy h.2)
  have e1 : (FloatKind.f64.format.order x 0 == some Ordering.eq) = decide (x % 9223372036854775808 = 0) := is_zero x hx.1
  have e2 : (FloatKind.f64.format.order y 0 == some Ordering.eq) = decide (y % 9223372036854775808 = 0) := is_zero y hy.1
  rw [zeroW_F hx, hz.1] at e1
  rw [zeroW_F hy, hz.2] at e2
  clear hx hy h hz
  go_enter Try.func81, Try.ntmps81
  go_wp2_with (first | (go_at_call_of 91 (Value.float .f64 x); refine (M1.out _).mono ?_; rintro e w' ⟨rfl, rfl⟩) | (go_at_call_of 91 (Value.float .f64 y); refine (M2.out _).mono ?_; rintro e w' ⟨rfl, rfl⟩))
  exact bodyPost_ret (v := .tuple #[.float .f64 4607182418800017408, .float .f64 0, .float .f64 0, .bool true]) (by simp [results, Try.results81, go_sem]) rfl ⟨rfl, rfl⟩

set_option maxRecDepth 100000 in
set_option maxHeartbeats 1000000 in
theorem rOf_calls_some (x y : Nat) (w : World) {F G : Option Nat} (hx : FW x F) (hy : FW y G) (h : (numF F && numF G) = true) (hz : (zeroF F && zeroF G) = false) :
    Calls Try.prog 81 #[.float .f64 x, .float .f64 y] w fun e w' => OfPost (ofF F G) e ∧ Below w.heap.size w w' := by
  have hb := (Bool.and_eq_true _ _).mp h
  have M1 := Lib.hid (rnum_t hx hb.1)
  have M2 := Lib.hid (rnum_t hy hb.2)
  have e1 : (FloatKind.f64.format.order x 0 == some Ordering.eq) = decide (x % 9223372036854775808 = 0) := is_zero x hx.1
  have e2 : (FloatKind.f64.format.order y 0 == some Ordering.eq) = decide (y % 9223372036854775808 = 0) := is_zero y hy.1
  rw [zeroW_F hx] at e1
  rw [zeroW_F hy] at e2
  obtain ⟨k1, k2⟩ := ofK_range F G
  have hx64 := hx.1
  have hy64 := hy.1
  have hO : OofR (ofF F G) (ofR F G) (ofH F G) (fmul F (some (pw (-ofK F G)))) (fmul G (some (pw (-ofK F G)))) := by
    unfold OofR ofF
    rw [if_neg (by rw [h]; decide), if_neg (by rw [hz]; decide)]
  have hK : Hid (min (max (topW x) (max (topW y) (-1000))) 1000 = ofK F G) := by unfold Hid ofK; rw [topW_F hx, topW_F hy]; omega
  have hR : Hid (ofR F G = fmul (ofH F G) (some (pw (ofK F G)))) := rfl
  have hH : Hid (ofH F G = fsqrt (fadd (fmul (fmul F (some (pw (-ofK F G)))) (fmul F (some (pw (-ofK F G))))) (fmul (fmul G (some (pw (-ofK F G)))) (fmul G (some (pw (-ofK F G))))))) := rfl
  have hfw := Lib.hid (And.intro hx hy)
  clear hx hy h hb
  generalize ofF F G = O at *
  generalize ofR F G = R at *
  generalize ofH F G = H at *
  generalize ofK F G = k at *
  generalize zeroF F = zf at *
  generalize zeroF G = zg at *
  have FK := Lib.hid (fw_pw k (by omega) (by omega))
  have FM := Lib.hid (fw_pw (-k) (by omega) (by omega))
  have P1 := Lib.hid (rPow_calls k (by omega) (by omega))
  have P2 := Lib.hid (rPow_calls (-k) (by omega) (by omega))
  have hN : ∃ t, numF R = t := ⟨_, rfl⟩
  obtain ⟨t, hN⟩ := hN
  have HN := Lib.hid hN
  clear hN
  cases zf
  · cases t
    · go_enter Try.func81, Try.ntmps81
      go_wp2_with (first | (go_at_call_of 91 (Value.float .f64 x); refine (M1.out _).mono ?_; rintro e w' ⟨rfl, rfl⟩) | (go_at_call_of 91 (Value.float .f64 y); refine (M2.out _).mono ?_; rintro e w' ⟨rfl, rfl⟩) | (go_at_call 92; refine (rTop_calls _ (by assumption) _).mono ?_; rintro e w' ⟨rfl, rfl⟩) | ((try rw [hK.out]); go_at_call_of 54 (Value.int .i64 k); refine (P1.out _).mono ?_; rintro e w' ⟨rfl, rfl⟩) | ((try rw [hK.out]); go_at_call_of 54 (Value.int .i64 (-k)); refine (P2.out _).mono ?_; rintro e w' ⟨rfl, rfl⟩) | (go_at_call 93; refine (sqrt_calls _ _ (opw_add _ (opw_mul _ (opw_mul _ hfw.out.1 FM.out) (opw_mul _ hfw.out.1 FM.out)) (opw_mul _ (opw_mul _ hfw.out.2 FM.out) (opw_mul _ hfw.out.2 FM.out)))).mono ?_; rintro e w3 ⟨z, rfl, hz', hb3⟩) | (go_at_call 91; refine (rnum_t (hR.out ▸ opw_mul _ (hH.out ▸ hz') FK.out) HN.out _).mono ?_; rintro e w' ⟨rfl, rfl⟩))
      refine bodyPost_ret (v := .tuple #[.float .f64 0, .float .f64 0, .float .f64 0, .bool false]) (by simp [results, Try.results81, go_sem]) rfl ⟨by rw [show O = none by unfold OofR at hO; rw [hO, if_pos HN.out]]; rfl, ?_⟩
      exact below_drewN ((below_drewN (Below.refl _ _) _).trans (hb3.mono (by simp))) _
    · go_enter Try.func81, Try.ntmps81
      go_wp2_with (first | (go_at_call_of 91 (Value.float .f64 x); refine (M1.out _).mono ?_; rintro e w' ⟨rfl, rfl⟩) | (go_at_call_of 91 (Value.float .f64 y); refine (M2.out _).mono ?_; rintro e w' ⟨rfl, rfl⟩) | (go_at_call 92; refine (rTop_calls _ (by assumption) _).mono ?_; rintro e w' ⟨rfl, rfl⟩) | ((try rw [hK.out]); go_at_call_of 54 (Value.int .i64 k); refine (P1.out _).mono ?_; rintro e w' ⟨rfl, rfl⟩) | ((try rw [hK.out]); go_at_call_of 54 (Value.int .i64 (-k)); refine (P2.out _).mono ?_; rintro e w' ⟨rfl, rfl⟩) | (go_at_call 93; refine (sqrt_calls _ _ (opw_add _ (opw_mul _ (opw_mul _ hfw.out.1 FM.out) (opw_mul _ hfw.out.1 FM.out)) (opw_mul _ (opw_mul _ hfw.out.2 FM.out) (opw_mul _ hfw.out.2 FM.out)))).mono ?_; rintro e w3 ⟨z, rfl, hz', hb3⟩) | (go_at_call 91; refine (rnum_t (hR.out ▸ opw_mul _ (hH.out ▸ hz') FK.out) HN.out _).mono ?_; rintro e w' ⟨rfl, rfl⟩))
      refine bodyPost_ret (results_tmp4 rfl _ _ _) rfl ⟨?_, ?_⟩
      · rw [show O = _ by unfold OofR at hO; rw [hO, if_neg (by rw [HN.out]; decide)]]
        exact ⟨_, _, _, rfl, opw_div _ (opw_mul _ hfw.out.1 FM.out) (hH.out ▸ hz'), opw_div _ (opw_mul _ hfw.out.2 FM.out) (hH.out ▸ hz'), hR.out ▸ opw_mul _ (hH.out ▸ hz') FK.out⟩
      · exact below_drewN ((below_drewN (Below.refl _ _) _).trans (hb3.mono (by simp))) _
  · cases zg
    · cases t
      · go_enter Try.func81, Try.ntmps81
        go_wp2_with (first | (go_at_call_of 91 (Value.float .f64 x); refine (M1.out _).mono ?_; rintro e w' ⟨rfl, rfl⟩) | (go_at_call_of 91 (Value.float .f64 y); refine (M2.out _).mono ?_; rintro e w' ⟨rfl, rfl⟩) | (go_at_call 92; refine (rTop_calls _ (by assumption) _).mono ?_; rintro e w' ⟨rfl, rfl⟩) | ((try rw [hK.out]); go_at_call_of 54 (Value.int .i64 k); refine (P1.out _).mono ?_; rintro e w' ⟨rfl, rfl⟩) | ((try rw [hK.out]); go_at_call_of 54 (Value.int .i64 (-k)); refine (P2.out _).mono ?_; rintro e w' ⟨rfl, rfl⟩) | (go_at_call 93; refine (sqrt_calls _ _ (opw_add _ (opw_mul _ (opw_mul _ hfw.out.1 FM.out) (opw_mul _ hfw.out.1 FM.out)) (opw_mul _ (opw_mul _ hfw.out.2 FM.out) (opw_mul _ hfw.out.2 FM.out)))).mono ?_; rintro e w3 ⟨z, rfl, hz', hb3⟩) | (go_at_call 91; refine (rnum_t (hR.out ▸ opw_mul _ (hH.out ▸ hz') FK.out) HN.out _).mono ?_; rintro e w' ⟨rfl, rfl⟩))
        refine bodyPost_ret (v := .tuple #[.float .f64 0, .float .f64 0, .float .f64 0, .bool false]) (by simp [results, Try.results81, go_sem]) rfl ⟨by rw [show O = none by unfold OofR at hO; rw [hO, if_pos HN.out]]; rfl, ?_⟩
        exact below_drewN ((below_drewN (Below.refl _ _) _).trans (hb3.mono (by simp))) _
      · go_enter Try.func81, Try.ntmps81
        go_wp2_with (first | (go_at_call_of 91 (Value.float .f64 x); refine (M1.out _).mono ?_; rintro e w' ⟨rfl, rfl⟩) | (go_at_call_of 91 (Value.float .f64 y); refine (M2.out _).mono ?_; rintro e w' ⟨rfl, rfl⟩) | (go_at_call 92; refine (rTop_calls _ (by assumption) _).mono ?_; rintro e w' ⟨rfl, rfl⟩) | ((try rw [hK.out]); go_at_call_of 54 (Value.int .i64 k); refine (P1.out _).mono ?_; rintro e w' ⟨rfl, rfl⟩) | ((try rw [hK.out]); go_at_call_of 54 (Value.int .i64 (-k)); refine (P2.out _).mono ?_; rintro e w' ⟨rfl, rfl⟩) | (go_at_call 93; refine (sqrt_calls _ _ (opw_add _ (opw_mul _ (opw_mul _ hfw.out.1 FM.out) (opw_mul _ hfw.out.1 FM.out)) (opw_mul _ (opw_mul _ hfw.out.2 FM.out) (opw_mul _ hfw.out.2 FM.out)))).mono ?_; rintro e w3 ⟨z, rfl, hz', hb3⟩) | (go_at_call 91; refine (rnum_t (hR.out ▸ opw_mul _ (hH.out ▸ hz') FK.out) HN.out _).mono ?_; rintro e w' ⟨rfl, rfl⟩))
        refine bodyPost_ret (results_tmp4 rfl _ _ _) rfl ⟨?_, ?_⟩
        · rw [show O = _ by unfold OofR at hO; rw [hO, if_neg (by rw [HN.out]; decide)]]
          exact ⟨_, _, _, rfl, opw_div _ (opw_mul _ hfw.out.1 FM.out) (hH.out ▸ hz'), opw_div _ (opw_mul _ hfw.out.2 FM.out) (hH.out ▸ hz'), hR.out ▸ opw_mul _ (hH.out ▸ hz') FK.out⟩
        · exact below_drewN ((below_drewN (Below.refl _ _) _).trans (hb3.mono (by simp))) _
    · cases hz

theorem rOf_calls (x y : Nat) (w : World) {F G : Option Nat} (hx : FW x F) (hy : FW y G) :
    Calls Try.prog 81 #[.float .f64 x, .float .f64 y] w fun e w' => OfPost (ofF F G) e ∧ Below w.heap.size w w' := by
  cases h : (numF F && numF G)
  · refine (rOf_calls_no x y w hx hy h).mono ?_
    rintro e w' ⟨rfl, rfl⟩
    refine ⟨?_, Below.refl _ _⟩
    unfold ofF
    rw [if_pos h]
    rfl
  · cases hz : (zeroF F && zeroF G)
    · exact rOf_calls_some x y w hx hy h hz
    · refine (rOf_calls_zero x y w hx hy h hz).mono ?_
      rintro e w' ⟨rfl, rfl⟩
      refine ⟨?_, Below.refl _ _⟩
      unfold ofF
      rw [if_neg (by rw [h]; decide), if_pos hz]
      exact ⟨_, _, _, rfl, ⟨by unfold W64; decide, by decide⟩, fw_zero, fw_zero⟩
end Go.Proofs.Ytgmaljikjkbdlaa
