/- The reference's Sub and Cmp of layer 3, Times of layer 4. -/
import Derived.Test.YtmmligbkecilfaaGreatDoorN9
namespace Go.Proofs.YtmmligbkecilfaaGreatDoor
open Go.RowKit Lv Go.Shelf
attribute [local go_sem high] run_maxI run_minI

attribute [local go_sem] Oper.semAt_some drewN_alloc drewN_setCell

set_option maxRecDepth 100000 in
set_option maxHeartbeats 2000000 in
theorem dsub_calls (v u : Value) (q t : Rat) (A B : Nat) (w : World) (h : Dq w v q B) (hq : Bd q (p2 A)) (h' : Dq w u t B) (ht : Bd t (p2 A)) (hAB : A + B ≤ 9400) :
    Calls Tryz.prog 23 #[v, u] w fun e' w' => (∃ z, e' = .returned z ∧ Dq w' z (q - t) B) ∧ Below w.heap.size w w' := by
  rw [Rat.sub_eq_add_neg]
  obtain ⟨s, m, e, ⟨a, n, cap, rfl, hN⟩, hv⟩ := id h
  obtain ⟨s', m', e2, ⟨a', n', cap', rfl, hN'⟩, hv'⟩ := id h'
  have H0 := Lib.hid h
  have NG := Lib.hid (fun W (hb : Below w.heap.size w W) => dneg_calls _ t A B W (h'.below hb) ht (by omega))
  have AD := Lib.hid (fun u W (hb : Below w.heap.size w W) hu => dadd_calls _ u q (-t) A B W (h.below hb) hq hu ht.neg hAB)
  have HB := ((((Below.refl w.heap.size w).alloc (Nat.le_refl _) (.cells #[.bool s, .slice a n cap, .int .i64 e] 53)).alloc (by simp) (.cells #[.bool s', .slice a' n' cap', .int .i64 e2] 53)).alloc (by simp; omega) (.cells #[.bool false, .slice none 0 0, .int .i64 0] 53))
  have E1 := Lib.hid (((Cells3.new w (.bool s) (.slice a n cap) (.int .i64 e) 53).alloc (.cells #[.bool s', .slice a' n' cap', .int .i64 e2] 53)).alloc (.cells #[.bool false, .slice none 0 0, .int .i64 0] 53))
  have E2 := Lib.hid ((Cells3.new2 w (.cells #[.bool s, .slice a n cap, .int .i64 e] 53) (.bool s') (.slice a' n' cap') (.int .i64 e2) 53).alloc (.cells #[.bool false, .slice none 0 0, .int .i64 0] 53))
  have E3 := Lib.hid (Cells3.new3 w (.cells #[.bool s, .slice a n cap, .int .i64 e] 53) (.cells #[.bool s', .slice a' n' cap', .int .i64 e2] 53) (.bool false) (.slice none 0 0) (.int .i64 0) 53)
  have HB0 := Lib.hid HB
  clear h h' hN hN' hv hv' hq ht HB
  go_enter Tryz.func23, Tryz.ntmps23
  go_wp2
  generalize (((w.alloc (.cells #[.bool s, .slice a n cap, .int .i64 e] 53)).alloc (.cells #[.bool s', .slice a' n' cap', .int .i64 e2] 53)).alloc (.cells #[.bool false, .slice none 0 0, .int .i64 0] 53)) = W at *
  have BD := Lib.hid (HB0.out.trans ((Below.refl W.heap.size W).drew.mono HB0.out.size))
  have I1 := Lib.hid (E1.out.below (Below.refl _ _).drew)
  have I2 := Lib.hid (E2.out.below (Below.refl _ _).drew)
  have I3 := Lib.hid (E3.out.below (Below.refl _ _).drew)
  have K0 := Lib.hid (six_keep I1.out I2.out)
  go_region_held3 (fun w' => w'.cell? ⟨w.heap.size, 0, none⟩ = some (.bool s) ∧ w'.cell? ⟨w.heap.size, 1, none⟩ = some (.slice a n cap) ∧ w'.cell? ⟨w.heap.size, 2, none⟩ = some (.int .i64 e) ∧ w'.cell? ⟨w.heap.size + 1, 0, none⟩ = some (.bool s') ∧ w'.cell? ⟨w.heap.size + 1, 1, none⟩ = some (.slice a' n' cap') ∧ w'.cell? ⟨w.heap.size + 1, 2, none⟩ = some (.int .i64 e2))
    (first
      | with_reducible exact K0.out
      | with_reducible exact K1.out
      | with_reducible exact K2.out
      | with_reducible exact K3.out)
    (first
      | (go_at_call 46; go_must (refine (NG.out _ BD.out).mono ?_; rintro e' w3 ⟨⟨z, rfl, hz⟩, hb⟩; have Z1 := Lib.hid hz; have B3 := Lib.hid (BD.out.trans (hb.mono BD.out.size)); have J1 := Lib.hid (I1.out.below hb); have J2 := Lib.hid (I2.out.below hb); have J3 := Lib.hid (I3.out.below hb); have K1 := Lib.hid (six_keep J1.out J2.out); clear hz hb))
      | (go_at_call 33; go_must (refine (AD.out _ _ B3.out Z1.out).mono ?_; rintro e' w4 ⟨⟨z, rfl, hz⟩, hb⟩; have B4 := Lib.hid (B3.out.trans (hb.mono B3.out.size)); have L1 := Lib.hid (J1.out.below hb); have L2 := Lib.hid (J2.out.below hb); have L3 := Lib.hid (J3.out.below hb); have K2 := Lib.hid (six_keep L1.out L2.out); have HZ := Lib.hid hz; obtain ⟨zs, zm, ze, ⟨za, zn, zc, rfl, _⟩, _⟩ := hz; have K3 := Lib.hid (six_keep (L1.out.put_other (b' := w.heap.size + 1 + 1) (by omega) (.bool zs) (.slice za zn zc) (.int .i64 ze)) (L2.out.put_other (b' := w.heap.size + 1 + 1) (by omega) (.bool zs) (.slice za zn zc) (.int .i64 ze))); obtain ⟨z0, z1, z2, x3, x4, x5⟩ := L3.out; clear hb)))
  have P := L3.out.put (.bool zs) (.slice za zn zc) (.int .i64 ze)
  have HP := Lib.hid P
  clear P K0 K1 K2 K3 z0 z1 z2 x3 x4 x5
  go_wp2
  have P := HP.out
  exact bodyPost_ret (v := .agg #[.bool zs, .slice za zn zc, .int .i64 ze]) (by simp [results, Tryz.results23, go_sem, P.c0, P.c1, P.c2]) rfl ⟨⟨_, rfl, HZ.out.put3 L3.out _ _ _⟩, below_put3 B4.out (by omega) _ _ _⟩
theorem cmpQ_neg (a b : Rat) : cmpQ (-a) (-b) = - cmpQ a b := by
  unfold cmpQ
  by_cases h : a < b
  · rw [if_pos h, if_neg (by grind), if_neg (by grind)]; rfl
  · rw [if_neg h]
    by_cases h2 : a = b
    · rw [if_pos h2, if_neg (by grind), if_pos (by grind)]; rfl
    · rw [if_neg h2, if_pos (by grind)]
set_option maxRecDepth 100000 in
set_option maxHeartbeats 2000000 in
theorem dcmp_calls (v u : Value) (q t : Rat) (A B : Nat) (w : World) (h : Dq w v q B) (hq : Bd q (p2 A)) (h' : Dq w u t B) (ht : Bd t (p2 A)) (hAB : A + B ≤ 9400) :
    Calls Tryz.prog 27 #[v, u] w fun e' w' => e' = .returned (.int .i64 (cmpQ q t)) ∧ Below w.heap.size w w' := by
  obtain ⟨s, m, e, hD, rfl, h1, h2, h3, h4⟩ := h.open hq
  obtain ⟨s', m', e2, hD', rfl, g1, g2, g3, g4⟩ := h'.open ht
  obtain ⟨E, hE⟩ : ∃ E, min e e2 = E := ⟨_, rfl⟩
  obtain ⟨k, hk⟩ : ∃ k : Nat, e - E = (k : Int) := ⟨(e - E).toNat, by omega⟩
  obtain ⟨k', hk'⟩ : ∃ k : Nat, e2 - E = (k : Int) := ⟨(e2 - E).toNat, by omega⟩
  have hkw : IntKind.i64.wrap (k : Int) = (k : Int) := IntWalk.i64_in _ (by omega)
  have hkw' : IntKind.i64.wrap (k' : Int) = (k' : Int) := IntWalk.i64_in _ (by omega)
  obtain ⟨x, hx⟩ : ∃ x, m * 2 ^ k = x := ⟨_, rfl⟩
  obtain ⟨y, hy⟩ : ∃ y, m' * 2 ^ k' = y := ⟨_, rfl⟩
  have x1 : (x : Rat) * p2 E ≤ p2 A := by rw [← hx, sh_val, show E + (k : Int) = e by omega]; exact h3
  have y1 : (y : Rat) * p2 E ≤ p2 A := by rw [← hy, sh_val, show E + (k' : Int) = e2 by omega]; exact g3
  have x2 : dqv s m e = dqv s x E := by rw [← hx, dqv_shl, show E + (k : Int) = e by omega]
  have y2 : dqv s' m' e2 = dqv s' y E := by rw [← hy, dqv_shl, show E + (k' : Int) = e2 by omega]
  have x3 := sz_of_bd (n := A + B) x1 (by omega)
  have y3 := sz_of_bd (n := A + B) y1 (by omega)
  rw [x2, y2]
  obtain ⟨a, n, cap, rfl, hN, hz⟩ := id hD
  obtain ⟨a', n', cap', rfl, hN', hz'⟩ := id hD'
  have SH1 := Lib.hid (fun W (hb : Below w.heap.size w W) => nshl_calls _ m k W (hN.below hb) (by omega) (by omega))
  have SH2 := Lib.hid (fun W (hb : Below w.heap.size w W) => nshl_calls _ m' k' W (hN'.below hb) (by omega) (by omega))
  rw [hx] at SH1
  rw [hy] at SH2
  have HB := (((Below.refl w.heap.size w).alloc (Nat.le_refl _) (.cells #[.bool s, .slice a n cap, .int .i64 e] 53)).alloc (by simp) (.cells #[.bool s', .slice a' n' cap', .int .i64 e2] 53))
  have MY1 := Lib.hid (fun W hb => dmay_calls _ s m e W (hD.below (w' := W) hb))
  have MY2 := Lib.hid (fun W hb => dmay_calls _ s' m' e2 W (hD'.below (w' := W) hb))
  have E1 := Lib.hid ((Cells3.new w (.bool s) (.slice a n cap) (.int .i64 e) 53).alloc (.cells #[.bool s', .slice a' n' cap', .int .i64 e2] 53))
  have E2 := Lib.hid (Cells3.new2 w (.cells #[.bool s, .slice a n cap, .int .i64 e] 53) (.bool s') (.slice a' n' cap') (.int .i64 e2) 53)
  have HB0 := Lib.hid HB
  have HX := Lib.hid (And.intro x1 (And.intro y1 (And.intro x3 y3)))
  have HE := Lib.hid (show -(B : Int) ≤ E by omega)
  have HM := Lib.hid (And.intro (show s = true → m ≠ 0 from fun h1 h0 => by have := (hz.1 h0).1; rw [this] at h1; cases h1) (show s' = true → m' ≠ 0 from fun h1 h0 => by have := (hz'.1 h0).1; rw [this] at h1; cases h1))
  clear h hD hN hz HB h1 h2 h3 h4 hq h' hD' hN' hz' g1 g2 g3 g4 ht x1 y1 x2 y2 x3 y3
  by_cases hss : s = s'
  · subst hss
    have hbe : (s != s) = false := by simp
    have NC := Lib.hid (fun u v W hu hv => ncmp_calls u v x y W hu hv (by have h1 := HX.out.2.2.1; omega) (by have h2 := HX.out.2.2.2; omega))
    have hcv := cmp_shl (x := x) (y := y) (e := E)
    have hv : cmpQ (dqv s x E) (dqv s y E) = if s then - cmpI x y else cmpI x y := by
      rw [hcv]
      unfold dqv
      cases s
      · rfl
      · simp only [if_true]; exact cmpQ_neg _ _
    have hci : cmpI x y = -1 ∨ cmpI x y = 0 ∨ cmpI x y = 1 := by unfold cmpI; split <;> (try split) <;> simp
    rw [hv]
    clear hv hx hy hcv
    generalize cmpI x y = c at *
    have hcw : IntKind.i64.wrap (-c) = -c := IntWalk.i64_in _ (by omega)
    go_enter Tryz.func27, Tryz.ntmps27
    go_wp2_with (first
      | (go_at_call_of 44 (Value.agg #[.bool s, .slice a n cap, .int .i64 e]); go_must (refine (MY1.out _ HB0.out).mono ?_; rintro e' w1 ⟨rfl, hb⟩; have B1 := Lib.hid (below_put3 (HB0.out.trans (hb.mono HB0.out.size)) (Nat.le_refl _) (.bool s) (.slice a n cap) (.int .i64 e)); have F1 := E1.out.below hb; have F2 := E2.out.below hb; have G1 := Lib.hid (F1.put (.bool s) (.slice a n cap) (.int .i64 e)); have G2 := Lib.hid (F2.put_other (b' := w.heap.size) (by omega) (.bool s) (.slice a n cap) (.int .i64 e)); obtain ⟨_, _, _, x0, x1, x2⟩ := F1; obtain ⟨d0, d1, d2, _, _, _⟩ := G2.out; clear hb F2))
      | (go_at_call 44; go_must (refine (MY2.out _ B1.out).mono ?_; rintro e' w2 ⟨rfl, hb⟩; have B2 := Lib.hid (below_put3 (B1.out.trans (hb.mono B1.out.size)) (Nat.le_succ _) (.bool s) (.slice a' n' cap') (.int .i64 e2)); have F1 := G1.out.below hb; have F2 := G2.out.below hb; have H1 := Lib.hid (F1.put_other (b' := w.heap.size + 1) (by omega) (.bool s) (.slice a' n' cap') (.int .i64 e2)); have H2 := Lib.hid (F2.put (.bool s) (.slice a' n' cap') (.int .i64 e2)); obtain ⟨_, _, _, y0, y1, y2⟩ := F2; clear hb F1; obtain ⟨c0, c1, c2, _, _, _⟩ := H1.out; obtain ⟨d0, d1, d2, _, _, _⟩ := H2.out)))
    generalize (((w2.setCell ⟨w.heap.size + 1, 0, none⟩ (.bool s)).setCell ⟨w.heap.size + 1, 1, none⟩ (.slice a' n' cap')).setCell ⟨w.heap.size + 1, 2, none⟩ (.int .i64 e2)) = W at *
    have BD := Lib.hid (B2.out.trans ((Below.refl W.heap.size W).drew.mono B2.out.size))
    have I1 := Lib.hid (H1.out.below (Below.refl _ _).drew)
    have I2 := Lib.hid (H2.out.below (Below.refl _ _).drew)
    have K0 := Lib.hid (six_keep I1.out I2.out)
    clear c0 c1 c2 d0 d1 d2
    go_region_held3 (fun w' => w'.cell? ⟨w.heap.size, 0, none⟩ = some (.bool s) ∧ w'.cell? ⟨w.heap.size, 1, none⟩ = some (.slice a n cap) ∧ w'.cell? ⟨w.heap.size, 2, none⟩ = some (.int .i64 e) ∧ w'.cell? ⟨w.heap.size + 1, 0, none⟩ = some (.bool s) ∧ w'.cell? ⟨w.heap.size + 1, 1, none⟩ = some (.slice a' n' cap') ∧ w'.cell? ⟨w.heap.size + 1, 2, none⟩ = some (.int .i64 e2))
      (first
        | with_reducible exact K0.out
        | with_reducible exact KA.out
        | with_reducible exact KB.out
        | with_reducible exact KC.out)
      (first
        | (go_at_call_of 50 (Value.slice a n cap); go_must (refine (SH1.out _ BD.out).mono ?_; rintro e' w3 ⟨⟨z, rfl, hz⟩, hb⟩; have Z1 := Lib.hid hz; have B3 := Lib.hid (BD.out.trans (hb.mono BD.out.size)); have J1 := Lib.hid (I1.out.below hb); have J2 := Lib.hid (I2.out.below hb); have KA := Lib.hid (six_keep J1.out J2.out); clear hz hb))
        | (go_at_call_of 50 (Value.slice a' n' cap'); go_must (refine (SH2.out _ B3.out).mono ?_; rintro e' w4 ⟨⟨z', rfl, hz⟩, hb⟩; have Z2 := Lib.hid (And.intro (Z1.out.below hb) hz); have B4 := Lib.hid (B3.out.trans (hb.mono B3.out.size)); have L1 := Lib.hid (J1.out.below hb); have L2 := Lib.hid (J2.out.below hb); have KB := Lib.hid (six_keep L1.out L2.out); clear hz hb))
        | (go_at_call 49; go_must (refine (NC.out _ _ _ Z2.out.1 Z2.out.2).mono ?_; rintro e' w5 ⟨rfl, hb⟩; have B5 := Lib.hid (B4.out.trans (hb.mono B4.out.size)); have M1 := Lib.hid (L1.out.below hb); have M2 := Lib.hid (L2.out.below hb); have KC := Lib.hid (six_keep M1.out M2.out); clear hb)))
    have c0 := M1.out.c0
    clear K0 KA KB KC
    go_wp2
    all_goals first
      | (rename_i hs1 hs2; exact absurd (hs1.symm.trans hs2) (by decide))
      | (rename_i hs1 hs2; exact absurd (hs2.symm.trans hs1) (by decide))
      | (go_ret; exact ⟨rfl, B5.out⟩)
  · obtain rfl : s' = !s := by cases s <;> cases s' <;> simp_all
    have hbe : (s != !s) = true := by cases s <;> rfl
    have hv : cmpQ (dqv s x E) (dqv (!s) y E) = if s then -1 else 1 := by
      have hx0 := dm_nn x E
      have hy0 := dm_nn y E
      have hp := p2_pos E
      unfold cmpQ dqv
      cases s
      · have h1 : y ≠ 0 := fun h0 => HM.out.2 rfl (by rw [← hy] at h0; exact (Nat.mul_eq_zero.1 h0).resolve_right (Nat.ne_of_gt (Nat.two_pow_pos _)))
        have h2 : (0 : Rat) < (y : Rat) := by exact_mod_cast Nat.pos_of_ne_zero h1
        have h3 := Rat.mul_pos h2 hp
        simp only [Bool.not_false, if_true, Bool.false_eq_true, if_false]
        rw [if_neg (by grind), if_neg (by grind)]
      · have h1 : x ≠ 0 := fun h0 => HM.out.1 rfl (by rw [← hx] at h0; exact (Nat.mul_eq_zero.1 h0).resolve_right (Nat.ne_of_gt (Nat.two_pow_pos _)))
        have h2 : (0 : Rat) < (x : Rat) := by exact_mod_cast Nat.pos_of_ne_zero h1
        have h3 := Rat.mul_pos h2 hp
        simp only [Bool.not_true, if_true, Bool.false_eq_true, if_false]
        rw [if_pos (by grind)]
    rw [hv]
    clear hv hx hy
    go_enter Tryz.func27, Tryz.ntmps27
    go_wp2_with (first
      | (go_at_call_of 44 (Value.agg #[.bool s, .slice a n cap, .int .i64 e]); go_must (refine (MY1.out _ HB0.out).mono ?_; rintro e' w1 ⟨rfl, hb⟩; have B1 := Lib.hid (below_put3 (HB0.out.trans (hb.mono HB0.out.size)) (Nat.le_refl _) (.bool s) (.slice a n cap) (.int .i64 e)); have F1 := E1.out.below hb; have F2 := E2.out.below hb; have G1 := Lib.hid (F1.put (.bool s) (.slice a n cap) (.int .i64 e)); have G2 := Lib.hid (F2.put_other (b' := w.heap.size) (by omega) (.bool s) (.slice a n cap) (.int .i64 e)); obtain ⟨_, _, _, x0, x1, x2⟩ := F1; obtain ⟨d0, d1, d2, _, _, _⟩ := G2.out; clear hb F2))
      | (go_at_call 44; go_must (refine (MY2.out _ B1.out).mono ?_; rintro e' w2 ⟨rfl, hb⟩; have B2 := Lib.hid (below_put3 (B1.out.trans (hb.mono B1.out.size)) (Nat.le_succ _) (.bool (!s)) (.slice a' n' cap') (.int .i64 e2)); have F1 := G1.out.below hb; have F2 := G2.out.below hb; have H1 := Lib.hid (F1.put_other (b' := w.heap.size + 1) (by omega) (.bool (!s)) (.slice a' n' cap') (.int .i64 e2)); have H2 := Lib.hid (F2.put (.bool (!s)) (.slice a' n' cap') (.int .i64 e2)); obtain ⟨_, _, _, y0, y1, y2⟩ := F2; clear hb F1; obtain ⟨c0, c1, c2, _, _, _⟩ := H1.out; obtain ⟨d0, d1, d2, _, _, _⟩ := H2.out)))
    all_goals
      go_ret
      exact ⟨rfl, by have hB := B2.out; revert hB; simp [*]⟩
end Go.Proofs.YtmmligbkecilfaaGreatDoor
