/- What the reference's Up tells, plainly: a number whose square is no less. Times of layer 4. The reference's Up of layer 9. -/
import Derived.Test.YtmmligbkecilfaaGreatDoorN7
import Derived.Test.YtmmligbkecilfaaGreatDoorUa
namespace Go.Proofs.YtmmligbkecilfaaGreatDoor.Lv
theorem up_math {m : Nat} {e c f : Int} {M r : Nat} (hc1 : (sz m : Int) - 128 ≤ c) (hM : (c ≤ 0 ∧ M = m * 2 ^ (-c).toNat) ∨ (0 < c ∧ M = m / 2 ^ c.toNat + 1))
    (hr1 : r * r ≤ M) (hr2 : M < (r + 1) * (r + 1)) (hf : f + f = e + c) :
    (m : Rat) * p2 e ≤ ((r + 1 : Nat) : Rat) * p2 f * (((r + 1 : Nat) : Rat) * p2 f) ∧ r + 1 ≤ 2 ^ 66 ∧ sz M ≤ 130 := by
  have hMb : M < 2 ^ 129 := by
    rcases hM with ⟨h, rfl⟩ | ⟨h, rfl⟩
    · have h1 := sz_lt m
      have h2 : m * 2 ^ (-c).toNat < 2 ^ sz m * 2 ^ (-c).toNat := Nat.mul_lt_mul_of_pos_right h1 (Nat.two_pow_pos _)
      rw [← Nat.pow_add] at h2
      exact Nat.lt_of_lt_of_le h2 (Nat.pow_le_pow_right (by decide) (by omega))
    · have h1 := sz_lt m
      have h2 : m < 2 ^ 128 * 2 ^ c.toNat := by
        rw [← Nat.pow_add]
        exact Nat.lt_of_lt_of_le h1 (Nat.pow_le_pow_right (by decide) (by omega))
      have h3 := (Nat.div_lt_iff_lt_mul (Nat.two_pow_pos c.toNat)).2 h2
      have h4 : (2 : Nat) ^ 129 = 2 ^ 128 + 2 ^ 128 := by decide
      omega
  refine ⟨?_, ?_, Nat.le_trans (sz_le hMb) (by decide)⟩
  · have h1 : (m : Rat) * p2 e ≤ (M : Rat) * p2 (e + c) := by
      rcases hM with ⟨h, rfl⟩ | ⟨h, rfl⟩
      · rw [sh_val, show e + c + (((-c).toNat : Nat) : Int) = e by omega]
        exact Rat.le_refl
      · have h2 : m ≤ (m / 2 ^ c.toNat + 1) * 2 ^ c.toNat := by
          have h3 := Nat.div_add_mod m (2 ^ c.toNat)
          have h4 := Nat.mod_lt m (Nat.two_pow_pos c.toNat)
          rw [Nat.mul_comm] at h3
          rw [Nat.add_mul, Nat.one_mul]
          omega
        have h5 : (m : Rat) ≤ (((m / 2 ^ c.toNat + 1) * 2 ^ c.toNat : Nat) : Rat) := by exact_mod_cast h2
        have h6 := Rat.mul_le_mul_of_nonneg_right h5 (Rat.le_of_lt (p2_pos e))
        rw [sh_val, show e + ((c.toNat : Nat) : Int) = e + c by omega] at h6
        exact h6
    have h7 : (M : Rat) ≤ ((r + 1 : Nat) : Rat) * ((r + 1 : Nat) : Rat) := by
      rw [← Rat.natCast_mul]
      exact_mod_cast Nat.le_of_lt hr2
    have h8 := Rat.mul_le_mul_of_nonneg_right h7 (Rat.le_of_lt (p2_pos (e + c)))
    have h9 : p2 (e + c) = p2 f * p2 f := by rw [← hf, p2_add]
    rw [h9] at h1 h8
    have h10 : ((r + 1 : Nat) : Rat) * p2 f * (((r + 1 : Nat) : Rat) * p2 f) = ((r + 1 : Nat) : Rat) * ((r + 1 : Nat) : Rat) * (p2 f * p2 f) := by grind
    rw [h10]
    exact Rat.le_trans h1 h8
  · by_cases h : r + 1 ≤ 2 ^ 66
    · exact h
    · have h1 : 2 ^ 66 ≤ r := by omega
      have h2 := Nat.mul_le_mul h1 h1
      have h3 : (2 : Nat) ^ 66 * 2 ^ 66 = 2 ^ 132 := by decide
      have h4 : (2 : Nat) ^ 129 < 2 ^ 132 := by decide
      omega
end Go.Proofs.YtmmligbkecilfaaGreatDoor.Lv
namespace Go.Proofs.YtmmligbkecilfaaGreatDoor
open Go.RowKit Lv Go.Shelf
attribute [local go_sem high] run_maxI run_minI

attribute [local go_sem] Oper.semAt_some drewN_alloc drewN_setCell

theorem three_keep {W : World} {g : Nat} {u0 u1 u2 : Value} (h : Cells3 W g u0 u1 u2) :
    W.cell? ⟨g, 0, none⟩ = some u0 ∧ W.cell? ⟨g, 1, none⟩ = some u1 ∧ W.cell? ⟨g, 2, none⟩ = some u2 := ⟨h.c0, h.c1, h.c2⟩
set_option maxRecDepth 100000 in
set_option maxHeartbeats 2000000 in
theorem dtimes_calls (v : Value) (q : Rat) (k A B : Nat) (w : World) (h : Dq w v q B) (hq : Bd q (p2 A)) (hk : k < 2 ^ 40) (hAB : A + B ≤ 9400) :
    Calls Tryz.prog 51 #[v, .int .i64 (k : Int)] w fun e' w' => (∃ z, e' = .returned z ∧ Dq w' z (q * (k : Rat)) B) ∧ Below w.heap.size w w' := by
  obtain ⟨s, m, e, ⟨a, n, cap, rfl, hN⟩, hv⟩ := id h
  have hk2 : k < 1099511627776 := hk
  have FR := Lib.hid (fun W => nfrom_calls k W (by omega))
  have hkq : dqv false k 0 = (k : Rat) := by unfold dqv; simp [p2_zero]
  have hkb : (k : Rat) * p2 0 ≤ p2 ((40 : Nat) : Int) := by
    rw [p2_zero, Rat.mul_one, p2_nat]
    have : k ≤ 2 ^ 40 := Nat.le_of_lt hk
    exact_mod_cast this
  have NM := Lib.hid (fun v W hv => dnorm_calls false v k 0 W 0 40 hv (Nat.le_trans (sz_le hk) (by omega)) (fun _ => by omega) (by omega) hkb (by omega))
  rw [hkq] at NM
  have hkB : Bd (k : Rat) (p2 ((40 : Nat) : Int)) := by
    have := (dqv_bd (s := false)).2 hkb
    rw [hkq] at this
    exact this
  have MU := Lib.hid (fun u W (hb : Below w.heap.size w W) hu => dmul_calls _ u q k A B 40 0 W (h.below hb) hq hu hkB (by omega))
  have E1 := Lib.hid ((Cells3.new w (.bool s) (.slice a n cap) (.int .i64 e) 53).alloc (.cells #[.bool false, .slice none 0 0, .int .i64 0] 53))
  have E3 := Lib.hid (Cells3.new2 w (.cells #[.bool s, .slice a n cap, .int .i64 e] 53) (.bool false) (.slice none 0 0) (.int .i64 0) 53)
  have HB0 := Lib.hid (((Below.refl w.heap.size w).alloc (Nat.le_refl _) (.cells #[.bool s, .slice a n cap, .int .i64 e] 53)).alloc (by simp) (.cells #[.bool false, .slice none 0 0, .int .i64 0] 53))
  have hmx : max 0 (k : Int) = (k : Int) := by omega
  have hkw : IntKind.u64.wrap (k : Int) = (k : Int) := IntWalk.u64_in _ (by omega)
  clear h hN hv hq hkq hkb hkB hk
  go_enter Tryz.func51, Tryz.ntmps51
  go_wp2
  generalize ((w.alloc (.cells #[.bool s, .slice a n cap, .int .i64 e] 53)).alloc (.cells #[.bool false, .slice none 0 0, .int .i64 0] 53)) = W at *
  have BD := Lib.hid (HB0.out.trans ((Below.refl W.heap.size W).drew.mono HB0.out.size))
  have I1 := Lib.hid (E1.out.below (Below.refl _ _).drew)
  have I3 := Lib.hid (E3.out.below (Below.refl _ _).drew)
  have K0 := Lib.hid (three_keep I1.out)
  go_region_held3 (fun w' => w'.cell? ⟨w.heap.size, 0, none⟩ = some (.bool s) ∧ w'.cell? ⟨w.heap.size, 1, none⟩ = some (.slice a n cap) ∧ w'.cell? ⟨w.heap.size, 2, none⟩ = some (.int .i64 e))
    (first
      | with_reducible exact K0.out
      | with_reducible exact K1.out
      | with_reducible exact K2.out
      | with_reducible exact K3.out
      | with_reducible exact K4.out)
    (first
      | (go_at_call 43; go_must (refine (FR.out _).mono ?_; rintro e' w2 ⟨⟨v2, rfl, hz⟩, hb⟩; have Z2 := Lib.hid hz; have B2 := Lib.hid (BD.out.trans (hb.mono BD.out.size)); have H1 := Lib.hid (I1.out.below hb); have H3 := Lib.hid (I3.out.below hb); have K1 := Lib.hid (three_keep H1.out); clear hz hb))
      | (go_at_call 42; go_must (refine (NM.out _ _ Z2.out).mono ?_; rintro e' w3 ⟨⟨v3, rfl, hz⟩, hb⟩; have Z3 := Lib.hid hz; have B3 := Lib.hid (B2.out.trans (hb.mono B2.out.size)); have J1 := Lib.hid (H1.out.below hb); have J3 := Lib.hid (H3.out.below hb); have K2 := Lib.hid (three_keep J1.out); clear hz hb))
      | (go_at_call 22; go_must (refine (MU.out _ _ B3.out Z3.out).mono ?_; rintro e' w4 ⟨⟨z, rfl, hz⟩, hb⟩; have B4 := Lib.hid (B3.out.trans (hb.mono B3.out.size)); have L1 := Lib.hid (J1.out.below hb); have L3 := Lib.hid (J3.out.below hb); have K3 := Lib.hid (three_keep L1.out); have HZ := Lib.hid hz; obtain ⟨zs, zm, ze, ⟨za, zn, zc, rfl, _⟩, _⟩ := hz; have K4 := Lib.hid (three_keep (L1.out.put_other (b' := w.heap.size + 1) (by omega) (.bool zs) (.slice za zn zc) (.int .i64 ze))); obtain ⟨z0, z1, z2, x3, x4, x5⟩ := L3.out; clear hb)))
  have P := L3.out.put (.bool zs) (.slice za zn zc) (.int .i64 ze)
  have HP := Lib.hid P
  clear P K0 K1 K2 K3 K4 z0 z1 z2 x3 x4 x5
  go_wp2
  have P := HP.out
  exact bodyPost_ret (v := .agg #[.bool zs, .slice za zn zc, .int .i64 ze]) (by simp [results, Tryz.results51, go_sem, P.c0, P.c1, P.c2]) rfl ⟨⟨_, rfl, HZ.out.put3 L3.out _ _ _⟩, below_put3 B4.out (by omega) _ _ _⟩
end Go.Proofs.YtmmligbkecilfaaGreatDoor
namespace Go.Proofs.YtmmligbkecilfaaGreatDoor
open Go.RowKit Lv Go.Shelf
attribute [local go_sem high] run_maxI run_minI

attribute [local go_sem] Oper.semAt_some drewN_alloc drewN_setCell

theorem up_norm {r N : Nat} {f : Int} (h : r + 1 ≤ 2 ^ 66) (hf : 66 + f ≤ (N : Int)) : ((r + 1 : Nat) : Rat) * p2 f ≤ p2 (N : Int) ∧ sz (r + 1) ≤ 9600 ∧ sz r ≤ 9600 := by
  have h1 : sz (r + 1) ≤ 67 := sz_le (Nat.lt_of_le_of_lt h (by decide))
  have h2 := sz_mono (Nat.le_add_right r 1)
  refine ⟨?_, by omega, by omega⟩
  have h3 : ((r + 1 : Nat) : Rat) ≤ p2 ((66 : Nat) : Int) := by rw [p2_nat]; exact_mod_cast h
  have h4 := Rat.mul_le_mul_of_nonneg_right h3 (Rat.le_of_lt (p2_pos f))
  rw [← p2_add] at h4
  exact Rat.le_trans h4 (p2_le hf)
set_option maxRecDepth 100000 in
set_option maxHeartbeats 2000000 in
theorem eup_calls (v : Value) (q : Rat) (A B : Nat) (w : World) (h : Dq w v q B) (hq : Bd q (p2 A)) (hAB : A + B ≤ 3800) :
    Calls Tryz.prog 47 #[v] w fun e' w' => (∃ z U, e' = .returned z ∧ Dq w' z U (B / 2 + 65) ∧ 0 ≤ U ∧ U ≤ p2 ((A / 2 + 3 : Nat) : Int) ∧ q ≤ U * U) ∧ Below w.heap.size w w' := by
  obtain ⟨s, m, e, hD, rfl, h1, h2, h3, h4⟩ := h.open hq
  obtain ⟨a, n, cap, rfl, hN, hz⟩ := id hD
  have HB := (((Below.refl w.heap.size w).alloc (Nat.le_refl _) (.cells #[.bool s, .slice a n cap, .int .i64 e] 53)).alloc (by simp) (.cells #[.bool false, .slice none 0 0, .int .i64 0] 53))
  have MY := Lib.hid (fun W hb => dmay_calls _ s m e W (hD.below (w' := W) hb))
  have E1 := Lib.hid ((Cells3.new w (.bool s) (.slice a n cap) (.int .i64 e) 53).alloc (.cells #[.bool false, .slice none 0 0, .int .i64 0] 53))
  have E2 := Lib.hid (Cells3.new2 w (.cells #[.bool s, .slice a n cap, .int .i64 e] 53) (.bool false) (.slice none 0 0) (.int .i64 0) 53)
  have HB0 := Lib.hid HB
  have hnm : n = 0 → m = 0 := fun h0 => by
    obtain ⟨L, g1, g2, g3⟩ := hN
    rw [← g3, List.eq_nil_of_length_eq_zero (g1.len.1.trans h0)]; rfl
  have hmn : m = 0 → n = 0 := fun h0 => by
    obtain ⟨L, g1, g2, g3⟩ := hN
    rw [← g1.len.1, trm_zero g2 (g3.trans h0)]; rfl
  by_cases hneg : s = true ∨ m = 0
  · have hq0 : dqv s m e ≤ 0 := by
      have := dm_nn m e
      rcases hneg with rfl | rfl
      · unfold dqv; simp only [if_true]; grind
      · rw [dqv_zero]; exact Rat.le_refl
    have HQ := Lib.hid (show (0 : Rat) ≤ 0 ∧ (0 : Rat) ≤ p2 ((A / 2 + 3 : Nat) : Int) ∧ dqv s m e ≤ 0 * 0 from ⟨Rat.le_refl, Rat.le_of_lt (p2_pos _), by rw [Rat.mul_zero]; exact hq0⟩)
    have hneg2 : s = true ∨ (s = false ∧ n = 0) := by
      rcases hneg with h | h
      · exact .inl h
      · exact .inr ⟨(hz.1 h).1, hmn h⟩
    clear h hD hN hz HB h1 h2 h3 h4 hq hnm hmn hneg hq0
    rcases hneg2 with rfl | ⟨rfl, rfl⟩
    · go_enter Tryz.func47, Tryz.ntmps47
      go_wp2_with (go_at_call 44; go_must (refine (MY.out _ HB0.out).mono ?_; rintro e' w1 ⟨rfl, hb⟩; have B1 := Lib.hid (below_put3 (HB0.out.trans (hb.mono HB0.out.size)) (Nat.le_refl _) (.bool true) (.slice a n cap) (.int .i64 e)); have F1 := E1.out.below hb; have F2 := E2.out.below hb; have G1 := Lib.hid (F1.put (.bool true) (.slice a n cap) (.int .i64 e)); have G2 := Lib.hid (F2.put_other (b' := w.heap.size) (by omega) (.bool true) (.slice a n cap) (.int .i64 e)); obtain ⟨_, _, _, x0, x1, x2⟩ := F1; obtain ⟨c0, c1, c2, _, _, _⟩ := G1.out; obtain ⟨d0, d1, d2, y0, y1, y2⟩ := G2.out; clear hb F2))
      have P := G2.out.put (.bool false) (.slice none 0 0) (.int .i64 0)
      exact bodyPost_ret (v := .agg #[.bool false, .slice none 0 0, .int .i64 0]) (by simp [results, Tryz.results47, go_sem, P.c0, P.c1, P.c2]) rfl ⟨⟨_, 0, rfl, dq_zero _ _, HQ.out.1, HQ.out.2.1, HQ.out.2.2⟩, below_put3 B1.out (by omega) _ _ _⟩
    · go_enter Tryz.func47, Tryz.ntmps47
      go_wp2_with (go_at_call 44; go_must (refine (MY.out _ HB0.out).mono ?_; rintro e' w1 ⟨rfl, hb⟩; have B1 := Lib.hid (below_put3 (HB0.out.trans (hb.mono HB0.out.size)) (Nat.le_refl _) (.bool false) (.slice a 0 cap) (.int .i64 e)); have F1 := E1.out.below hb; have F2 := E2.out.below hb; have G1 := Lib.hid (F1.put (.bool false) (.slice a 0 cap) (.int .i64 e)); have G2 := Lib.hid (F2.put_other (b' := w.heap.size) (by omega) (.bool false) (.slice a 0 cap) (.int .i64 e)); obtain ⟨_, _, _, x0, x1, x2⟩ := F1; obtain ⟨c0, c1, c2, _, _, _⟩ := G1.out; obtain ⟨d0, d1, d2, y0, y1, y2⟩ := G2.out; clear hb F2))
      have P := G2.out.put (.bool false) (.slice none 0 0) (.int .i64 0)
      exact bodyPost_ret (v := .agg #[.bool false, .slice none 0 0, .int .i64 0]) (by simp [results, Tryz.results47, go_sem, P.c0, P.c1, P.c2]) rfl ⟨⟨_, 0, rfl, dq_zero _ _, HQ.out.1, HQ.out.2.1, HQ.out.2.2⟩, below_put3 B1.out (by omega) _ _ _⟩
  · have hs : s = false := by cases s <;> simp_all
    subst hs
    have hm : m ≠ 0 := fun h => hneg (.inr h)
    have hn : n ≠ 0 := fun h => hm (hnm h)
    have hn0 : ((n : Int) == 0) = false := by simp; omega
    obtain ⟨l, hl⟩ : ∃ l, sz m = l := ⟨_, rfl⟩
    have LN := Lib.hid (fun W (hb : Below w.heap.size w W) => nlen_calls _ m W (hN.below hb) (by omega))
    rw [hl] at LN
    obtain ⟨c, hc⟩ : ∃ c : Int, (l : Int) - 128 = c := ⟨_, rfl⟩
    have hcw : IntKind.i64.wrap c = c := IntWalk.i64_in _ (by omega)
    obtain ⟨g, hg⟩ : ∃ g : Int, e + c = g := ⟨_, rfl⟩
    have hgw : IntKind.i64.wrap g = g := IntWalk.i64_in _ (by omega)
    have hsz : l ≤ A + B + 1 := by omega
    have hle : 1 ≤ l := by rw [← hl]; exact sz_pos hm
    have hel : e + (l : Int) ≤ A + 1 := by
      have h5 := exp_le (m := 1) (e := e + ((l : Int) - 1)) (A := A) (by decide) (by
        have h6 := sz_ge hm
        rw [hl] at h6
        have h7 : ((2 ^ (l - 1) : Nat) : Rat) ≤ (m : Rat) := by exact_mod_cast h6
        have h8 := Rat.mul_le_mul_of_nonneg_right h7 (Rat.le_of_lt (p2_pos e))
        have h9 := sh_val 1 (l - 1) e
        rw [Nat.one_mul, show e + ((l - 1 : Nat) : Int) = e + ((l : Int) - 1) by omega] at h9
        rw [h9] at h8
        exact Rat.le_trans h8 h3)
      omega
    have FR := Lib.hid (fun W => nfrom_calls 1 W (by decide))
    have HN := Lib.hid hN
    by_cases hp : g.tmod 2 = 0
    · have hpar : (g.tmod 2 != 0) = false := by simpa using hp
      have hp2 : g % 2 = 0 := Int.emod_eq_zero_of_dvd (Int.dvd_of_tmod_eq_zero hp)
      obtain ⟨f, hf⟩ : ∃ f : Int, f + f = g := ⟨g / 2, by omega⟩
      have hq : Int.tdiv g 2 = f := by rw [← hf, ← Int.two_mul]; exact Int.mul_tdiv_cancel_left f (by decide)
      have hfw : IntKind.i64.wrap f = f := IntWalk.i64_in _ (by omega)
      have hnw : IntKind.i64.wrap (-c) = -c := IntWalk.i64_in _ (by omega)
      by_cases hcs : c ≤ 0
      · obtain ⟨k, hk⟩ : ∃ k : Nat, -c = (k : Int) := ⟨(-c).toNat, by omega⟩
        have hmx : max 0 (k : Int) = (k : Int) := by omega
        have hkw : IntKind.i64.wrap (k : Int) = (k : Int) := IntWalk.i64_in _ (by omega)
        obtain ⟨M, hM⟩ : ∃ M, m * 2 ^ k = M := ⟨_, rfl⟩
        have UM := Lib.hid (fun r (r1 : r * r ≤ M) (r2 : M < (r + 1) * (r + 1)) => up_math (m := m) (e := e) (c := c) (f := f) (by rw [hl]; omega) (.inl ⟨by omega, by rw [← hM, show (-c).toNat = k by omega]⟩) r1 r2 (by omega))
        have SH := Lib.hid (fun W (hb : Below w.heap.size w W) => nshl_calls _ m k W (HN.out.below hb) (by omega) (by omega))
        rw [hM] at SH
        have HSM : sz M ≤ 4000 := by rw [← hM]; exact Nat.le_trans (sz_shl m k) (by omega)
        have RT := Lib.hid (fun v W h => nroot_calls v M W h HSM)
        have HF := Lib.hid (show -((B / 2 + 65 : Nat) : Int) ≤ f ∧ 66 + f ≤ ((A / 2 + 3 : Nat) : Int) by constructor <;> omega)
        clear h hD hN hz HB h1 h2 h3 h4 hnm hmn hneg hp hp2 hel hsz hle
        go_enter Tryz.func47, Tryz.ntmps47
        go_upto_region 11 with (first
          | (go_at_call 44; go_must (refine (MY.out _ HB0.out).mono ?_; rintro e' w1 ⟨rfl, hb⟩; have B1 := Lib.hid (below_put3 (HB0.out.trans (hb.mono HB0.out.size)) (Nat.le_refl _) (.bool false) (.slice a n cap) (.int .i64 e)); have F1 := E1.out.below hb; have F2 := E2.out.below hb; have P1 := Lib.hid (F1.put (.bool false) (.slice a n cap) (.int .i64 e)); have Q1 := Lib.hid (F2.put_other (b' := w.heap.size) (by omega) (.bool false) (.slice a n cap) (.int .i64 e)); obtain ⟨_, _, _, x0, x1, x2⟩ := F1; obtain ⟨c0, c1, c2, _, _, _⟩ := P1.out; clear hb F2))
          | (go_at_call 75; go_must (refine (LN.out _ B1.out).mono ?_; rintro e' w2 ⟨rfl, hb⟩; have B2 := Lib.hid (B1.out.trans (hb.mono B1.out.size)); have P2 := Lib.hid (P1.out.below hb); have Q2 := Lib.hid (Q1.out.below hb); obtain ⟨c0, c1, c2, _, _, _⟩ := P2.out; clear hb))
          | (go_at_call 50; go_must (refine (SH.out _ B2.out).mono ?_; rintro e' w3 ⟨⟨v3, rfl, hv⟩, hb⟩; have B3 := Lib.hid (B2.out.trans (hb.mono B2.out.size)); have P3 := Lib.hid (P2.out.below hb); have Q3 := Lib.hid (Q2.out.below hb); have Z3 := Lib.hid hv; clear hv; obtain ⟨c0, c1, c2, _, _, _⟩ := P3.out; clear hb)))
        have hk2 := hk
        have B10 := Lib.hid (B3.out.trans ((Below.refl w3.heap.size w3).drew.mono B3.out.size))
        have P10 := Lib.hid (P3.out.below (Below.refl _ _).drew)
        have Q10 := Lib.hid (Q3.out.below (Below.refl _ _).drew)
        have Z10 := Lib.hid (Z3.out.below (Below.refl _ _).drew)
        have K10 := Lib.hid P10.out.c2
        clear c0 c1 c2
        go_region_held3 (fun w' => w'.cell? ⟨w.heap.size, 2, none⟩ = some (.int .i64 e))
          (first
            | with_reducible exact K10.out
            | with_reducible exact K11.out
            | with_reducible exact K12.out
            | with_reducible exact K13.out
            | with_reducible exact K14.out
            | with_reducible exact K15.out)
          (first
            | (go_at_call 76; go_must (refine (RT.out _ _ Z10.out).mono ?_; rintro e' w11 ⟨⟨z, r, rfl, hz, r1, r2⟩, hb⟩; have U := Lib.hid (UM.out r r1 r2); have Z11 := Lib.hid hz; have B11 := Lib.hid (B10.out.trans (hb.mono B10.out.size)); have P11 := Lib.hid (P10.out.below hb); have Q11 := Lib.hid (Q10.out.below hb); have K11 := Lib.hid P11.out.c2; clear hz r1 r2 hb))
            | (go_at_call 43; go_must (refine (FR.out _).mono ?_; rintro e' w12 ⟨⟨v12, rfl, hz⟩, hb⟩; have Z12 := Lib.hid (And.intro (Z11.out.below hb) hz); have B12 := Lib.hid (B11.out.trans (hb.mono B11.out.size)); have P12 := Lib.hid (P11.out.below hb); have Q12 := Lib.hid (Q11.out.below hb); have K12 := Lib.hid P12.out.c2; clear hz hb))
            | (go_at_call 63; go_must (refine (nadd_calls _ _ r 1 _ Z12.out.1 Z12.out.2 (up_norm U.out.2.1 HF.out.2).2.2 (by decide)).mono ?_; rintro e' w13 ⟨⟨v13, rfl, hz⟩, hb⟩; have Z13 := Lib.hid hz; have B13 := Lib.hid (B12.out.trans (hb.mono B12.out.size)); have P13 := Lib.hid (P12.out.below hb); have Q13 := Lib.hid (Q12.out.below hb); have K13 := Lib.hid P13.out.c2; clear hz hb))
            | (go_at_call 42; go_must (refine (dnorm_calls false _ (r + 1) f _ (B / 2 + 65) (A / 2 + 3) Z13.out (up_norm U.out.2.1 HF.out.2).2.1 (fun _ => HF.out.1) (by omega) (up_norm U.out.2.1 HF.out.2).1 (by omega)).mono ?_; rintro e' w14 ⟨⟨z, rfl, hz⟩, hb⟩; have B14 := Lib.hid (B13.out.trans (hb.mono B13.out.size)); have P14 := Lib.hid (P13.out.below hb); have Q14 := Lib.hid (Q13.out.below hb); have K14 := Lib.hid P14.out.c2; have HZ := Lib.hid hz; obtain ⟨zs, zm, ze, ⟨za, zn, zc, rfl, _⟩, _⟩ := hz; have K15 := Lib.hid (P14.out.put_other (b' := w.heap.size + 1) (by omega) (.bool zs) (.slice za zn zc) (.int .i64 ze)).c2; obtain ⟨z0, z1, z2, x3, x4, x5⟩ := Q14.out; clear hb)))
        have P := Q14.out.put (.bool zs) (.slice za zn zc) (.int .i64 ze)
        have HP := Lib.hid P
        clear P K10 K11 K12 K13 K14 K15 z0 z1 z2 x3 x4 x5
        go_wp2
        have P := HP.out
        exact bodyPost_ret (v := .agg #[.bool zs, .slice za zn zc, .int .i64 ze]) (by simp [results, Tryz.results47, go_sem, P.c0, P.c1, P.c2]) rfl ⟨⟨_, _, rfl, HZ.out.put3 Q14.out _ _ _, dm_nn _ _, (up_norm U.out.2.1 HF.out.2).1, U.out.1⟩, below_put3 B14.out (by omega) _ _ _⟩
      · obtain ⟨k, rfl⟩ : ∃ k : Nat, c = (k : Int) := ⟨(c).toNat, by omega⟩
        have hmx : max 0 (-(k : Int)) = 0 := by omega
        have hk0 : 0 < k := by omega
        have hk1 : (0 : Int) < (k : Int) := by omega
        obtain ⟨M, hM⟩ : ∃ M, m / 2 ^ k + 1 = M := ⟨_, rfl⟩
        have UM := Lib.hid (fun r (r1 : r * r ≤ M) (r2 : M < (r + 1) * (r + 1)) => up_math (m := m) (e := e) (c := (k : Int)) (f := f) (by rw [hl]; omega) (.inr ⟨by omega, by rw [← hM, Int.toNat_natCast]⟩) r1 r2 (by omega))
        have SH := Lib.hid (fun W (hb : Below w.heap.size w W) => show Calls Tryz.prog 50 #[.slice a n cap, .int .i64 0] W _ from nshl_calls _ m 0 W (HN.out.below hb) (by omega) (by omega))
        have HSM : sz M ≤ 4000 := by
          rw [← hM]
          have h5 := sz_mono (Nat.div_le_self m (2 ^ k))
          have h6 : sz 1 ≤ 1 := by decide
          exact Nat.le_trans (sz_add _ _) (by omega)
        have RT := Lib.hid (fun v W h => nroot_calls v M W h HSM)
        have SR := Lib.hid (fun W (hb : Below w.heap.size w W) => nshr_calls _ m k W (HN.out.below hb) (by omega) (by omega))
        have hsq : sz (m / 2 ^ k) ≤ 9600 := Nat.le_trans (sz_mono (Nat.div_le_self _ _)) (by omega)
        have AD := Lib.hid (fun u v W hu hv => nadd_calls u v (m / 2 ^ k) 1 W hu hv hsq (by decide))
        rw [hM] at AD
        have HF := Lib.hid (show -((B / 2 + 65 : Nat) : Int) ≤ f ∧ 66 + f ≤ ((A / 2 + 3 : Nat) : Int) by constructor <;> omega)
        clear h hD hN hz HB h1 h2 h3 h4 hnm hmn hneg hp hp2 hel hsz hle
        go_enter Tryz.func47, Tryz.ntmps47
        go_upto_region 11 with (first
          | (go_at_call 44; go_must (refine (MY.out _ HB0.out).mono ?_; rintro e' w1 ⟨rfl, hb⟩; have B1 := Lib.hid (below_put3 (HB0.out.trans (hb.mono HB0.out.size)) (Nat.le_refl _) (.bool false) (.slice a n cap) (.int .i64 e)); have F1 := E1.out.below hb; have F2 := E2.out.below hb; have P1 := Lib.hid (F1.put (.bool false) (.slice a n cap) (.int .i64 e)); have Q1 := Lib.hid (F2.put_other (b' := w.heap.size) (by omega) (.bool false) (.slice a n cap) (.int .i64 e)); obtain ⟨_, _, _, x0, x1, x2⟩ := F1; obtain ⟨c0, c1, c2, _, _, _⟩ := P1.out; clear hb F2))
          | (go_at_call 75; go_must (refine (LN.out _ B1.out).mono ?_; rintro e' w2 ⟨rfl, hb⟩; have B2 := Lib.hid (B1.out.trans (hb.mono B1.out.size)); have P2 := Lib.hid (P1.out.below hb); have Q2 := Lib.hid (Q1.out.below hb); obtain ⟨c0, c1, c2, _, _, _⟩ := P2.out; clear hb))
          | (go_at_call 50; go_must (refine (SH.out _ B2.out).mono ?_; rintro e' w3 ⟨⟨v3, rfl, hv⟩, hb⟩; have B3 := Lib.hid (B2.out.trans (hb.mono B2.out.size)); have P3 := Lib.hid (P2.out.below hb); have Q3 := Lib.hid (Q2.out.below hb); have Z3 := Lib.hid hv; clear hv; obtain ⟨c0, c1, c2, _, _, _⟩ := P3.out; clear hb))
          | (go_at_call 73; go_must (refine (SR.out _ B3.out).mono ?_; rintro e' w4 ⟨⟨v4, rfl, hv⟩, hb⟩; have B4 := Lib.hid (B3.out.trans (hb.mono B3.out.size)); have P4 := Lib.hid (P3.out.below hb); have Q4 := Lib.hid (Q3.out.below hb); have Z4 := Lib.hid hv; clear hv; obtain ⟨c0, c1, c2, _, _, _⟩ := P4.out; clear hb))
          | (go_at_call 43; go_must (refine (FR.out _).mono ?_; rintro e' w5 ⟨⟨v5, rfl, hv⟩, hb⟩; have B5 := Lib.hid (B4.out.trans (hb.mono B4.out.size)); have P5 := Lib.hid (P4.out.below hb); have Q5 := Lib.hid (Q4.out.below hb); have Z5 := Lib.hid (And.intro (Z4.out.below hb) hv); clear hv; obtain ⟨c0, c1, c2, _, _, _⟩ := P5.out; clear hb))
          | (go_at_call 63; go_must (refine (AD.out _ _ _ Z5.out.1 Z5.out.2).mono ?_; rintro e' w6 ⟨⟨v6, rfl, hv⟩, hb⟩; have B6 := Lib.hid (B5.out.trans (hb.mono B5.out.size)); have P6 := Lib.hid (P5.out.below hb); have Q6 := Lib.hid (Q5.out.below hb); have Z6 := Lib.hid hv; clear hv; obtain ⟨c0, c1, c2, _, _, _⟩ := P6.out; clear hb)))
        have B10 := Lib.hid (B6.out.trans ((Below.refl w6.heap.size w6).drew.mono B6.out.size))
        have P10 := Lib.hid (P6.out.below (Below.refl _ _).drew)
        have Q10 := Lib.hid (Q6.out.below (Below.refl _ _).drew)
        have Z10 := Lib.hid (Z6.out.below (Below.refl _ _).drew)
        have K10 := Lib.hid P10.out.c2
        clear c0 c1 c2
        go_region_held3 (fun w' => w'.cell? ⟨w.heap.size, 2, none⟩ = some (.int .i64 e))
          (first
            | with_reducible exact K10.out
            | with_reducible exact K11.out
            | with_reducible exact K12.out
            | with_reducible exact K13.out
            | with_reducible exact K14.out
            | with_reducible exact K15.out)
          (first
            | (go_at_call 76; go_must (refine (RT.out _ _ Z10.out).mono ?_; rintro e' w11 ⟨⟨z, r, rfl, hz, r1, r2⟩, hb⟩; have U := Lib.hid (UM.out r r1 r2); have Z11 := Lib.hid hz; have B11 := Lib.hid (B10.out.trans (hb.mono B10.out.size)); have P11 := Lib.hid (P10.out.below hb); have Q11 := Lib.hid (Q10.out.below hb); have K11 := Lib.hid P11.out.c2; clear hz r1 r2 hb))
            | (go_at_call 43; go_must (refine (FR.out _).mono ?_; rintro e' w12 ⟨⟨v12, rfl, hz⟩, hb⟩; have Z12 := Lib.hid (And.intro (Z11.out.below hb) hz); have B12 := Lib.hid (B11.out.trans (hb.mono B11.out.size)); have P12 := Lib.hid (P11.out.below hb); have Q12 := Lib.hid (Q11.out.below hb); have K12 := Lib.hid P12.out.c2; clear hz hb))
            | (go_at_call 63; go_must (refine (nadd_calls _ _ r 1 _ Z12.out.1 Z12.out.2 (up_norm U.out.2.1 HF.out.2).2.2 (by decide)).mono ?_; rintro e' w13 ⟨⟨v13, rfl, hz⟩, hb⟩; have Z13 := Lib.hid hz; have B13 := Lib.hid (B12.out.trans (hb.mono B12.out.size)); have P13 := Lib.hid (P12.out.below hb); have Q13 := Lib.hid (Q12.out.below hb); have K13 := Lib.hid P13.out.c2; clear hz hb))
            | (go_at_call 42; go_must (refine (dnorm_calls false _ (r + 1) f _ (B / 2 + 65) (A / 2 + 3) Z13.out (up_norm U.out.2.1 HF.out.2).2.1 (fun _ => HF.out.1) (by omega) (up_norm U.out.2.1 HF.out.2).1 (by omega)).mono ?_; rintro e' w14 ⟨⟨z, rfl, hz⟩, hb⟩; have B14 := Lib.hid (B13.out.trans (hb.mono B13.out.size)); have P14 := Lib.hid (P13.out.below hb); have Q14 := Lib.hid (Q13.out.below hb); have K14 := Lib.hid P14.out.c2; have HZ := Lib.hid hz; obtain ⟨zs, zm, ze, ⟨za, zn, zc, rfl, _⟩, _⟩ := hz; have K15 := Lib.hid (P14.out.put_other (b' := w.heap.size + 1) (by omega) (.bool zs) (.slice za zn zc) (.int .i64 ze)).c2; obtain ⟨z0, z1, z2, x3, x4, x5⟩ := Q14.out; clear hb)))
        have P := Q14.out.put (.bool zs) (.slice za zn zc) (.int .i64 ze)
        have HP := Lib.hid P
        clear P K10 K11 K12 K13 K14 K15 z0 z1 z2 x3 x4 x5
        go_wp2
        have P := HP.out
        exact bodyPost_ret (v := .agg #[.bool zs, .slice za zn zc, .int .i64 ze]) (by simp [results, Tryz.results47, go_sem, P.c0, P.c1, P.c2]) rfl ⟨⟨_, _, rfl, HZ.out.put3 Q14.out _ _ _, dm_nn _ _, (up_norm U.out.2.1 HF.out.2).1, U.out.1⟩, below_put3 B14.out (by omega) _ _ _⟩
    · have hpar : (g.tmod 2 != 0) = true := by simpa using hp
      obtain ⟨d, hd⟩ : ∃ d : Int, c + 1 = d := ⟨_, rfl⟩
      have hdw : IntKind.i64.wrap d = d := IntWalk.i64_in _ (by omega)
      obtain ⟨g2, hg2⟩ : ∃ g : Int, e + d = g := ⟨_, rfl⟩
      have hg2w : IntKind.i64.wrap g2 = g2 := IntWalk.i64_in _ (by omega)
      have hp2 : g % 2 ≠ 0 := fun h => hp (Int.tmod_eq_zero_of_dvd (Int.dvd_of_emod_eq_zero h))
      obtain ⟨f, hf⟩ : ∃ f : Int, f + f = g2 := ⟨g2 / 2, by omega⟩
      have hq : Int.tdiv g2 2 = f := by rw [← hf, ← Int.two_mul]; exact Int.mul_tdiv_cancel_left f (by decide)
      have hfw : IntKind.i64.wrap f = f := IntWalk.i64_in _ (by omega)
      have hnw : IntKind.i64.wrap (-d) = -d := IntWalk.i64_in _ (by omega)
      by_cases hcs : d ≤ 0
      · obtain ⟨k, hk⟩ : ∃ k : Nat, -d = (k : Int) := ⟨(-d).toNat, by omega⟩
        have hmx : max 0 (k : Int) = (k : Int) := by omega
        have hkw : IntKind.i64.wrap (k : Int) = (k : Int) := IntWalk.i64_in _ (by omega)
        obtain ⟨M, hM⟩ : ∃ M, m * 2 ^ k = M := ⟨_, rfl⟩
        have UM := Lib.hid (fun r (r1 : r * r ≤ M) (r2 : M < (r + 1) * (r + 1)) => up_math (m := m) (e := e) (c := d) (f := f) (by rw [hl]; omega) (.inl ⟨by omega, by rw [← hM, show (-d).toNat = k by omega]⟩) r1 r2 (by omega))
        have SH := Lib.hid (fun W (hb : Below w.heap.size w W) => nshl_calls _ m k W (HN.out.below hb) (by omega) (by omega))
        rw [hM] at SH
        have HSM : sz M ≤ 4000 := by rw [← hM]; exact Nat.le_trans (sz_shl m k) (by omega)
        have RT := Lib.hid (fun v W h => nroot_calls v M W h HSM)
        have HF := Lib.hid (show -((B / 2 + 65 : Nat) : Int) ≤ f ∧ 66 + f ≤ ((A / 2 + 3 : Nat) : Int) by constructor <;> omega)
        clear h hD hN hz HB h1 h2 h3 h4 hnm hmn hneg hp hp2 hel hsz hle
        go_enter Tryz.func47, Tryz.ntmps47
        go_upto_region 11 with (first
          | (go_at_call 44; go_must (refine (MY.out _ HB0.out).mono ?_; rintro e' w1 ⟨rfl, hb⟩; have B1 := Lib.hid (below_put3 (HB0.out.trans (hb.mono HB0.out.size)) (Nat.le_refl _) (.bool false) (.slice a n cap) (.int .i64 e)); have F1 := E1.out.below hb; have F2 := E2.out.below hb; have P1 := Lib.hid (F1.put (.bool false) (.slice a n cap) (.int .i64 e)); have Q1 := Lib.hid (F2.put_other (b' := w.heap.size) (by omega) (.bool false) (.slice a n cap) (.int .i64 e)); obtain ⟨_, _, _, x0, x1, x2⟩ := F1; obtain ⟨c0, c1, c2, _, _, _⟩ := P1.out; clear hb F2))
          | (go_at_call 75; go_must (refine (LN.out _ B1.out).mono ?_; rintro e' w2 ⟨rfl, hb⟩; have B2 := Lib.hid (B1.out.trans (hb.mono B1.out.size)); have P2 := Lib.hid (P1.out.below hb); have Q2 := Lib.hid (Q1.out.below hb); obtain ⟨c0, c1, c2, _, _, _⟩ := P2.out; clear hb))
          | (go_at_call 50; go_must (refine (SH.out _ B2.out).mono ?_; rintro e' w3 ⟨⟨v3, rfl, hv⟩, hb⟩; have B3 := Lib.hid (B2.out.trans (hb.mono B2.out.size)); have P3 := Lib.hid (P2.out.below hb); have Q3 := Lib.hid (Q2.out.below hb); have Z3 := Lib.hid hv; clear hv; obtain ⟨c0, c1, c2, _, _, _⟩ := P3.out; clear hb)))
        have hk2 := hk
        have B10 := Lib.hid (B3.out.trans ((Below.refl w3.heap.size w3).drew.mono B3.out.size))
        have P10 := Lib.hid (P3.out.below (Below.refl _ _).drew)
        have Q10 := Lib.hid (Q3.out.below (Below.refl _ _).drew)
        have Z10 := Lib.hid (Z3.out.below (Below.refl _ _).drew)
        have K10 := Lib.hid P10.out.c2
        clear c0 c1 c2
        go_region_held3 (fun w' => w'.cell? ⟨w.heap.size, 2, none⟩ = some (.int .i64 e))
          (first
            | with_reducible exact K10.out
            | with_reducible exact K11.out
            | with_reducible exact K12.out
            | with_reducible exact K13.out
            | with_reducible exact K14.out
            | with_reducible exact K15.out)
          (first
            | (go_at_call 76; go_must (refine (RT.out _ _ Z10.out).mono ?_; rintro e' w11 ⟨⟨z, r, rfl, hz, r1, r2⟩, hb⟩; have U := Lib.hid (UM.out r r1 r2); have Z11 := Lib.hid hz; have B11 := Lib.hid (B10.out.trans (hb.mono B10.out.size)); have P11 := Lib.hid (P10.out.below hb); have Q11 := Lib.hid (Q10.out.below hb); have K11 := Lib.hid P11.out.c2; clear hz r1 r2 hb))
            | (go_at_call 43; go_must (refine (FR.out _).mono ?_; rintro e' w12 ⟨⟨v12, rfl, hz⟩, hb⟩; have Z12 := Lib.hid (And.intro (Z11.out.below hb) hz); have B12 := Lib.hid (B11.out.trans (hb.mono B11.out.size)); have P12 := Lib.hid (P11.out.below hb); have Q12 := Lib.hid (Q11.out.below hb); have K12 := Lib.hid P12.out.c2; clear hz hb))
            | (go_at_call 63; go_must (refine (nadd_calls _ _ r 1 _ Z12.out.1 Z12.out.2 (up_norm U.out.2.1 HF.out.2).2.2 (by decide)).mono ?_; rintro e' w13 ⟨⟨v13, rfl, hz⟩, hb⟩; have Z13 := Lib.hid hz; have B13 := Lib.hid (B12.out.trans (hb.mono B12.out.size)); have P13 := Lib.hid (P12.out.below hb); have Q13 := Lib.hid (Q12.out.below hb); have K13 := Lib.hid P13.out.c2; clear hz hb))
            | (go_at_call 42; go_must (refine (dnorm_calls false _ (r + 1) f _ (B / 2 + 65) (A / 2 + 3) Z13.out (up_norm U.out.2.1 HF.out.2).2.1 (fun _ => HF.out.1) (by omega) (up_norm U.out.2.1 HF.out.2).1 (by omega)).mono ?_; rintro e' w14 ⟨⟨z, rfl, hz⟩, hb⟩; have B14 := Lib.hid (B13.out.trans (hb.mono B13.out.size)); have P14 := Lib.hid (P13.out.below hb); have Q14 := Lib.hid (Q13.out.below hb); have K14 := Lib.hid P14.out.c2; have HZ := Lib.hid hz; obtain ⟨zs, zm, ze, ⟨za, zn, zc, rfl, _⟩, _⟩ := hz; have K15 := Lib.hid (P14.out.put_other (b' := w.heap.size + 1) (by omega) (.bool zs) (.slice za zn zc) (.int .i64 ze)).c2; obtain ⟨z0, z1, z2, x3, x4, x5⟩ := Q14.out; clear hb)))
        have P := Q14.out.put (.bool zs) (.slice za zn zc) (.int .i64 ze)
        have HP := Lib.hid P
        clear P K10 K11 K12 K13 K14 K15 z0 z1 z2 x3 x4 x5
        go_wp2
        have P := HP.out
        exact bodyPost_ret (v := .agg #[.bool zs, .slice za zn zc, .int .i64 ze]) (by simp [results, Tryz.results47, go_sem, P.c0, P.c1, P.c2]) rfl ⟨⟨_, _, rfl, HZ.out.put3 Q14.out _ _ _, dm_nn _ _, (up_norm U.out.2.1 HF.out.2).1, U.out.1⟩, below_put3 B14.out (by omega) _ _ _⟩
      · obtain ⟨k, rfl⟩ : ∃ k : Nat, d = (k : Int) := ⟨(d).toNat, by omega⟩
        have hmx : max 0 (-(k : Int)) = 0 := by omega
        have hk0 : 0 < k := by omega
        have hk1 : (0 : Int) < (k : Int) := by omega
        obtain ⟨M, hM⟩ : ∃ M, m / 2 ^ k + 1 = M := ⟨_, rfl⟩
        have UM := Lib.hid (fun r (r1 : r * r ≤ M) (r2 : M < (r + 1) * (r + 1)) => up_math (m := m) (e := e) (c := (k : Int)) (f := f) (by rw [hl]; omega) (.inr ⟨by omega, by rw [← hM, Int.toNat_natCast]⟩) r1 r2 (by omega))
        have SH := Lib.hid (fun W (hb : Below w.heap.size w W) => show Calls Tryz.prog 50 #[.slice a n cap, .int .i64 0] W _ from nshl_calls _ m 0 W (HN.out.below hb) (by omega) (by omega))
        have HSM : sz M ≤ 4000 := by
          rw [← hM]
          have h5 := sz_mono (Nat.div_le_self m (2 ^ k))
          have h6 : sz 1 ≤ 1 := by decide
          exact Nat.le_trans (sz_add _ _) (by omega)
        have RT := Lib.hid (fun v W h => nroot_calls v M W h HSM)
        have SR := Lib.hid (fun W (hb : Below w.heap.size w W) => nshr_calls _ m k W (HN.out.below hb) (by omega) (by omega))
        have hsq : sz (m / 2 ^ k) ≤ 9600 := Nat.le_trans (sz_mono (Nat.div_le_self _ _)) (by omega)
        have AD := Lib.hid (fun u v W hu hv => nadd_calls u v (m / 2 ^ k) 1 W hu hv hsq (by decide))
        rw [hM] at AD
        have HF := Lib.hid (show -((B / 2 + 65 : Nat) : Int) ≤ f ∧ 66 + f ≤ ((A / 2 + 3 : Nat) : Int) by constructor <;> omega)
        clear h hD hN hz HB h1 h2 h3 h4 hnm hmn hneg hp hp2 hel hsz hle
        go_enter Tryz.func47, Tryz.ntmps47
        go_upto_region 11 with (first
          | (go_at_call 44; go_must (refine (MY.out _ HB0.out).mono ?_; rintro e' w1 ⟨rfl, hb⟩; have B1 := Lib.hid (below_put3 (HB0.out.trans (hb.mono HB0.out.size)) (Nat.le_refl _) (.bool false) (.slice a n cap) (.int .i64 e)); have F1 := E1.out.below hb; have F2 := E2.out.below hb; have P1 := Lib.hid (F1.put (.bool false) (.slice a n cap) (.int .i64 e)); have Q1 := Lib.hid (F2.put_other (b' := w.heap.size) (by omega) (.bool false) (.slice a n cap) (.int .i64 e)); obtain ⟨_, _, _, x0, x1, x2⟩ := F1; obtain ⟨c0, c1, c2, _, _, _⟩ := P1.out; clear hb F2))
          | (go_at_call 75; go_must (refine (LN.out _ B1.out).mono ?_; rintro e' w2 ⟨rfl, hb⟩; have B2 := Lib.hid (B1.out.trans (hb.mono B1.out.size)); have P2 := Lib.hid (P1.out.below hb); have Q2 := Lib.hid (Q1.out.below hb); obtain ⟨c0, c1, c2, _, _, _⟩ := P2.out; clear hb))
          | (go_at_call 50; go_must (refine (SH.out _ B2.out).mono ?_; rintro e' w3 ⟨⟨v3, rfl, hv⟩, hb⟩; have B3 := Lib.hid (B2.out.trans (hb.mono B2.out.size)); have P3 := Lib.hid (P2.out.below hb); have Q3 := Lib.hid (Q2.out.below hb); have Z3 := Lib.hid hv; clear hv; obtain ⟨c0, c1, c2, _, _, _⟩ := P3.out; clear hb))
          | (go_at_call 73; go_must (refine (SR.out _ B3.out).mono ?_; rintro e' w4 ⟨⟨v4, rfl, hv⟩, hb⟩; have B4 := Lib.hid (B3.out.trans (hb.mono B3.out.size)); have P4 := Lib.hid (P3.out.below hb); have Q4 := Lib.hid (Q3.out.below hb); have Z4 := Lib.hid hv; clear hv; obtain ⟨c0, c1, c2, _, _, _⟩ := P4.out; clear hb))
          | (go_at_call 43; go_must (refine (FR.out _).mono ?_; rintro e' w5 ⟨⟨v5, rfl, hv⟩, hb⟩; have B5 := Lib.hid (B4.out.trans (hb.mono B4.out.size)); have P5 := Lib.hid (P4.out.below hb); have Q5 := Lib.hid (Q4.out.below hb); have Z5 := Lib.hid (And.intro (Z4.out.below hb) hv); clear hv; obtain ⟨c0, c1, c2, _, _, _⟩ := P5.out; clear hb))
          | (go_at_call 63; go_must (refine (AD.out _ _ _ Z5.out.1 Z5.out.2).mono ?_; rintro e' w6 ⟨⟨v6, rfl, hv⟩, hb⟩; have B6 := Lib.hid (B5.out.trans (hb.mono B5.out.size)); have P6 := Lib.hid (P5.out.below hb); have Q6 := Lib.hid (Q5.out.below hb); have Z6 := Lib.hid hv; clear hv; obtain ⟨c0, c1, c2, _, _, _⟩ := P6.out; clear hb)))
        have B10 := Lib.hid (B6.out.trans ((Below.refl w6.heap.size w6).drew.mono B6.out.size))
        have P10 := Lib.hid (P6.out.below (Below.refl _ _).drew)
        have Q10 := Lib.hid (Q6.out.below (Below.refl _ _).drew)
        have Z10 := Lib.hid (Z6.out.below (Below.refl _ _).drew)
        have K10 := Lib.hid P10.out.c2
        clear c0 c1 c2
        go_region_held3 (fun w' => w'.cell? ⟨w.heap.size, 2, none⟩ = some (.int .i64 e))
          (first
            | with_reducible exact K10.out
            | with_reducible exact K11.out
            | with_reducible exact K12.out
            | with_reducible exact K13.out
            | with_reducible exact K14.out
            | with_reducible exact K15.out)
          (first
            | (go_at_call 76; go_must (refine (RT.out _ _ Z10.out).mono ?_; rintro e' w11 ⟨⟨z, r, rfl, hz, r1, r2⟩, hb⟩; have U := Lib.hid (UM.out r r1 r2); have Z11 := Lib.hid hz; have B11 := Lib.hid (B10.out.trans (hb.mono B10.out.size)); have P11 := Lib.hid (P10.out.below hb); have Q11 := Lib.hid (Q10.out.below hb); have K11 := Lib.hid P11.out.c2; clear hz r1 r2 hb))
            | (go_at_call 43; go_must (refine (FR.out _).mono ?_; rintro e' w12 ⟨⟨v12, rfl, hz⟩, hb⟩; have Z12 := Lib.hid (And.intro (Z11.out.below hb) hz); have B12 := Lib.hid (B11.out.trans (hb.mono B11.out.size)); have P12 := Lib.hid (P11.out.below hb); have Q12 := Lib.hid (Q11.out.below hb); have K12 := Lib.hid P12.out.c2; clear hz hb))
            | (go_at_call 63; go_must (refine (nadd_calls _ _ r 1 _ Z12.out.1 Z12.out.2 (up_norm U.out.2.1 HF.out.2).2.2 (by decide)).mono ?_; rintro e' w13 ⟨⟨v13, rfl, hz⟩, hb⟩; have Z13 := Lib.hid hz; have B13 := Lib.hid (B12.out.trans (hb.mono B12.out.size)); have P13 := Lib.hid (P12.out.below hb); have Q13 := Lib.hid (Q12.out.below hb); have K13 := Lib.hid P13.out.c2; clear hz hb))
            | (go_at_call 42; go_must (refine (dnorm_calls false _ (r + 1) f _ (B / 2 + 65) (A / 2 + 3) Z13.out (up_norm U.out.2.1 HF.out.2).2.1 (fun _ => HF.out.1) (by omega) (up_norm U.out.2.1 HF.out.2).1 (by omega)).mono ?_; rintro e' w14 ⟨⟨z, rfl, hz⟩, hb⟩; have B14 := Lib.hid (B13.out.trans (hb.mono B13.out.size)); have P14 := Lib.hid (P13.out.below hb); have Q14 := Lib.hid (Q13.out.below hb); have K14 := Lib.hid P14.out.c2; have HZ := Lib.hid hz; obtain ⟨zs, zm, ze, ⟨za, zn, zc, rfl, _⟩, _⟩ := hz; have K15 := Lib.hid (P14.out.put_other (b' := w.heap.size + 1) (by omega) (.bool zs) (.slice za zn zc) (.int .i64 ze)).c2; obtain ⟨z0, z1, z2, x3, x4, x5⟩ := Q14.out; clear hb)))
        have P := Q14.out.put (.bool zs) (.slice za zn zc) (.int .i64 ze)
        have HP := Lib.hid P
        clear P K10 K11 K12 K13 K14 K15 z0 z1 z2 x3 x4 x5
        go_wp2
        have P := HP.out
        exact bodyPost_ret (v := .agg #[.bool zs, .slice za zn zc, .int .i64 ze]) (by simp [results, Tryz.results47, go_sem, P.c0, P.c1, P.c2]) rfl ⟨⟨_, _, rfl, HZ.out.put3 Q14.out _ _ _, dm_nn _ _, (up_norm U.out.2.1 HF.out.2).1, U.out.1⟩, below_put3 B14.out (by omega) _ _ _⟩
end Go.Proofs.YtmmligbkecilfaaGreatDoor
