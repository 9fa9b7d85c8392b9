/- The reference's Mul of layer 3, Times of layer 4. The reference's Add, Sub and Cmp of layer 3. -/
import Derived.Test.YtmmligbkecilfaaGreatDoorN7
import Derived.Test.YtmmligbkecilfaaGreatDoorO
namespace Go.Proofs.YtmmligbkecilfaaGreatDoor
open Go.RowKit Lv Go.Shelf
attribute [local go_sem] Oper.semAt_some drewN_alloc drewN_setCell

theorem Cells3.new3 (w : World) (o o' : Obj) (u0 u1 u2 : Value) (t : TypeId) : Cells3 (((w.alloc o).alloc o').alloc (.cells #[u0, u1, u2] t)) (w.heap.size + 1 + 1) u0 u1 u2 := by
  have := Cells3.new ((w.alloc o).alloc o') u0 u1 u2 t
  rwa [World.size_alloc, World.size_alloc] at this
theorem six_keep {W : World} {g g' : Nat} {u0 u1 u2 v0 v1 v2 : Value} (h : Cells3 W g u0 u1 u2) (h' : Cells3 W g' v0 v1 v2) :
    W.cell? ⟨g, 0, none⟩ = some u0 ∧ W.cell? ⟨g, 1, none⟩ = some u1 ∧ W.cell? ⟨g, 2, none⟩ = some u2 ∧ W.cell? ⟨g', 0, none⟩ = some v0 ∧ W.cell? ⟨g', 1, none⟩ = some v1 ∧ W.cell? ⟨g', 2, none⟩ = some v2 :=
  ⟨h.c0, h.c1, h.c2, h'.c0, h'.c1, h'.c2⟩
theorem bd_mul_p2 {q t : Rat} {A A' : Nat} (h : Bd q (p2 A)) (h' : Bd t (p2 A')) : Bd (q * t) (p2 ((A + A' : Nat) : Int)) := by
  have := h.mul h'
  rw [← p2_add] at this
  exact this
set_option maxRecDepth 100000 in
set_option maxHeartbeats 2000000 in
theorem dmul_calls (v u : Value) (q t : Rat) (A B A' B' : Nat) (w : World) (h : Dq w v q B) (hq : Bd q (p2 A)) (h' : Dq w u t B') (ht : Bd t (p2 A')) (hAB : A + B + A' + B' ≤ 9500) :
    Calls Tryz.prog 22 #[v, u] w fun e' w' => (∃ z, e' = .returned z ∧ Dq w' z (q * t) (B + B')) ∧ Below w.heap.size w w' := by
  have hb := bd_mul_p2 hq ht
  obtain ⟨s, m, e, hD, rfl, h1, h2, h3, h4⟩ := h.open hq
  obtain ⟨s', m', e2, hD', rfl, g1, g2, g3, g4⟩ := h'.open ht
  rw [← dqv_mul] at hb ⊢
  have hb := dqv_bd.1 hb
  obtain ⟨a, n, cap, rfl, hN, hz⟩ := id hD
  obtain ⟨a', n', cap', rfl, hN', hz'⟩ := id hD'
  have hs1 : sz (m * m') ≤ 9600 := Nat.le_trans (sz_mul _ _) (by omega)
  have HB := ((((Below.refl w.heap.size w).alloc (Nat.le_refl _) (.cells #[.bool s, .slice a n cap, .int .i64 e] 53)).alloc (by simp) (.cells #[.bool s', .slice a' n' cap', .int .i64 e2] 53)).alloc (by simp; omega) (.cells #[.bool false, .slice none 0 0, .int .i64 0] 53))
  have MY1 := Lib.hid (fun W hb => dmay_calls _ s m e W (hD.below (w' := W) hb))
  have MY2 := Lib.hid (fun W hb => dmay_calls _ s' m' e2 W (hD'.below (w' := W) hb))
  have NX := Lib.hid (fun W (hb : Below w.heap.size w W) => nmul_calls _ _ m m' W (hN.below hb) (hN'.below hb) (by omega) (by omega))
  have NM := Lib.hid (fun v W hv => dnorm_calls (s != s') v (m * m') (e + e2) W (B + B') (A + A') hv hs1 (fun _ => by omega) (by omega) hb (by omega))
  have E1 := Lib.hid (((Cells3.new w (.bool s) (.slice a n cap) (.int .i64 e) 53).alloc (.cells #[.bool s', .slice a' n' cap', .int .i64 e2] 53)).alloc (.cells #[.bool false, .slice none 0 0, .int .i64 0] 53))
  have E2 := Lib.hid ((Cells3.new2 w (.cells #[.bool s, .slice a n cap, .int .i64 e] 53) (.bool s') (.slice a' n' cap') (.int .i64 e2) 53).alloc (.cells #[.bool false, .slice none 0 0, .int .i64 0] 53))
  have E3 := Lib.hid (Cells3.new3 w (.cells #[.bool s, .slice a n cap, .int .i64 e] 53) (.cells #[.bool s', .slice a' n' cap', .int .i64 e2] 53) (.bool false) (.slice none 0 0) (.int .i64 0) 53)
  have HB0 := Lib.hid HB
  have hwe : IntKind.i64.wrap (e + e2) = e + e2 := IntWalk.i64_in _ (by omega)
  clear h hD hN hz HB h1 h2 h3 h4 hq h' hD' hN' hz' g1 g2 g3 g4 ht hb hs1
  go_enter Tryz.func22, Tryz.ntmps22
  go_wp2_with (first
    | (go_at_call_of 44 (Value.agg #[.bool s, .slice a n cap, .int .i64 e]); go_must (refine (MY1.out _ HB0.out).mono ?_; rintro e' w1 ⟨rfl, hb⟩; have B1 := Lib.hid (below_put3 (HB0.out.trans (hb.mono HB0.out.size)) (Nat.le_refl _) (.bool s) (.slice a n cap) (.int .i64 e)); have F1 := E1.out.below hb; have F2 := E2.out.below hb; have F3 := E3.out.below hb; have G1 := Lib.hid (F1.put (.bool s) (.slice a n cap) (.int .i64 e)); have G2 := Lib.hid (F2.put_other (b' := w.heap.size) (by omega) (.bool s) (.slice a n cap) (.int .i64 e)); have G3 := Lib.hid (F3.put_other (b' := w.heap.size) (by omega) (.bool s) (.slice a n cap) (.int .i64 e)); obtain ⟨_, _, _, x0, x1, x2⟩ := F1; obtain ⟨d0, d1, d2, _, _, _⟩ := G2.out; clear hb F2 F3))
    | (go_at_call 44; go_must (refine (MY2.out _ B1.out).mono ?_; rintro e' w2 ⟨rfl, hb⟩; have B2 := Lib.hid (below_put3 (B1.out.trans (hb.mono B1.out.size)) (Nat.le_succ _) (.bool s') (.slice a' n' cap') (.int .i64 e2)); have F1 := G1.out.below hb; have F2 := G2.out.below hb; have F3 := G3.out.below hb; have H1 := Lib.hid (F1.put_other (b' := w.heap.size + 1) (by omega) (.bool s') (.slice a' n' cap') (.int .i64 e2)); have H2 := Lib.hid (F2.put (.bool s') (.slice a' n' cap') (.int .i64 e2)); have H3 := Lib.hid (F3.put_other (b' := w.heap.size + 1) (by omega) (.bool s') (.slice a' n' cap') (.int .i64 e2)); obtain ⟨_, _, _, y0, y1, y2⟩ := F2; clear hb F1 F3)))
  generalize (((w2.setCell ⟨w.heap.size + 1, 0, none⟩ (.bool s')).setCell ⟨w.heap.size + 1, 1, none⟩ (.slice a' n' cap')).setCell ⟨w.heap.size + 1, 2, none⟩ (.int .i64 e2)) = W at *
  have B0 := Lib.hid ((Below.refl W.heap.size W).drew)
  have BD := Lib.hid (B2.out.trans (B0.out.mono B2.out.size))
  have I1 := Lib.hid (H1.out.below B0.out)
  have I2 := Lib.hid (H2.out.below B0.out)
  have I3 := Lib.hid (H3.out.below B0.out)
  have K0 := Lib.hid (six_keep I1.out I2.out)
  clear G1 G2 G3
  go_region_held3 (fun w' => w'.cell? ⟨w.heap.size, 0, none⟩ = some (.bool s) ∧ w'.cell? ⟨w.heap.size, 1, none⟩ = some (.slice a n cap) ∧ w'.cell? ⟨w.heap.size, 2, none⟩ = some (.int .i64 e) ∧ w'.cell? ⟨w.heap.size + 1, 0, none⟩ = some (.bool s') ∧ w'.cell? ⟨w.heap.size + 1, 1, none⟩ = some (.slice a' n' cap') ∧ w'.cell? ⟨w.heap.size + 1, 2, none⟩ = some (.int .i64 e2))
    (first
      | with_reducible exact K0.out
      | with_reducible exact K1.out
      | with_reducible exact K2.out
      | with_reducible exact K3.out)
    (first
      | (go_at_call 45; go_must (refine (NX.out _ BD.out).mono ?_; rintro e' w3 ⟨⟨z, rfl, hz⟩, hb⟩; have Z1 := Lib.hid hz; have B3 := Lib.hid (BD.out.trans (hb.mono BD.out.size)); have J1 := Lib.hid (I1.out.below hb); have J2 := Lib.hid (I2.out.below hb); have J3 := Lib.hid (I3.out.below hb); have K1 := Lib.hid (six_keep J1.out J2.out); clear hz hb))
      | (go_at_call 42; go_must (refine (NM.out _ _ Z1.out).mono ?_; rintro e' w4 ⟨⟨z, rfl, hz⟩, hb⟩; have B4 := Lib.hid (B3.out.trans (hb.mono B3.out.size)); have L1 := Lib.hid (J1.out.below hb); have L2 := Lib.hid (J2.out.below hb); have L3 := Lib.hid (J3.out.below hb); have K2 := Lib.hid (six_keep L1.out L2.out); have HZ := Lib.hid hz; obtain ⟨zs, zm, ze, ⟨za, zn, zc, rfl, _⟩, _⟩ := hz; have K3 := Lib.hid (six_keep (L1.out.put_other (b' := w.heap.size + 1 + 1) (by omega) (.bool zs) (.slice za zn zc) (.int .i64 ze)) (L2.out.put_other (b' := w.heap.size + 1 + 1) (by omega) (.bool zs) (.slice za zn zc) (.int .i64 ze))); obtain ⟨z0, z1, z2, x3, x4, x5⟩ := L3.out; clear hb)))
  have P := L3.out.put (.bool zs) (.slice za zn zc) (.int .i64 ze)
  have HP := Lib.hid P
  clear P K0 K1 K2 K3 z0 z1 z2 x3 x4 x5
  go_wp2
  have P := HP.out
  exact bodyPost_ret (v := .agg #[.bool zs, .slice za zn zc, .int .i64 ze]) (by simp [results, Tryz.results22, go_sem, P.c0, P.c1, P.c2]) rfl ⟨⟨_, rfl, HZ.out.put3 L3.out _ _ _⟩, below_put3 B4.out (by omega) _ _ _⟩
end Go.Proofs.YtmmligbkecilfaaGreatDoor
namespace Go.Proofs.YtmmligbkecilfaaGreatDoor
open Go.RowKit Lv Go.Shelf
attribute [local go_sem high] run_maxI run_minI

attribute [local go_sem] Oper.semAt_some drewN_alloc drewN_setCell

set_option maxRecDepth 100000 in
set_option maxHeartbeats 2000000 in
theorem dadd_calls (v u : Value) (q t : Rat) (A B : Nat) (w : World) (h : Dq w v q B) (hq : Bd q (p2 A)) (h' : Dq w u t B) (ht : Bd t (p2 A)) (hAB : A + B ≤ 9400) :
    Calls Tryz.prog 33 #[v, u] w fun e' w' => (∃ z, e' = .returned z ∧ Dq w' z (q + t) B) ∧ Below w.heap.size w w' := by
  obtain ⟨s, m, e, hD, rfl, h1, h2, h3, h4⟩ := h.open hq
  obtain ⟨s', m', e2, hD', rfl, g1, g2, g3, g4⟩ := h'.open ht
  obtain ⟨E, hE⟩ : ∃ E, min e e2 = E := ⟨_, rfl⟩
  obtain ⟨k, hk⟩ : ∃ k : Nat, e - E = (k : Int) := ⟨(e - E).toNat, by omega⟩
  obtain ⟨k', hk'⟩ : ∃ k : Nat, e2 - E = (k : Int) := ⟨(e2 - E).toNat, by omega⟩
  have hkw : IntKind.i64.wrap (k : Int) = (k : Int) := IntWalk.i64_in _ (by omega)
  have hkw' : IntKind.i64.wrap (k' : Int) = (k' : Int) := IntWalk.i64_in _ (by omega)
  obtain ⟨x, hx⟩ : ∃ x, m * 2 ^ k = x := ⟨_, rfl⟩
  obtain ⟨y, hy⟩ : ∃ y, m' * 2 ^ k' = y := ⟨_, rfl⟩
  have x1 : (x : Rat) * p2 E ≤ p2 A := by rw [← hx, sh_val, show E + (k : Int) = e by omega]; exact h3
  have y1 : (y : Rat) * p2 E ≤ p2 A := by rw [← hy, sh_val, show E + (k' : Int) = e2 by omega]; exact g3
  have x2 : dqv s m e = dqv s x E := by rw [← hx, dqv_shl, show E + (k : Int) = e by omega]
  have y2 : dqv s' m' e2 = dqv s' y E := by rw [← hy, dqv_shl, show E + (k' : Int) = e2 by omega]
  have x3 := sz_of_bd (n := A + B) x1 (by omega)
  have y3 := sz_of_bd (n := A + B) y1 (by omega)
  rw [x2, y2]
  obtain ⟨a, n, cap, rfl, hN, hz⟩ := id hD
  obtain ⟨a', n', cap', rfl, hN', hz'⟩ := id hD'
  have SH1 := Lib.hid (fun W (hb : Below w.heap.size w W) => nshl_calls _ m k W (hN.below hb) (by omega) (by omega))
  have SH2 := Lib.hid (fun W (hb : Below w.heap.size w W) => nshl_calls _ m' k' W (hN'.below hb) (by omega) (by omega))
  rw [hx] at SH1
  rw [hy] at SH2
  have HB := ((((Below.refl w.heap.size w).alloc (Nat.le_refl _) (.cells #[.bool s, .slice a n cap, .int .i64 e] 53)).alloc (by simp) (.cells #[.bool s', .slice a' n' cap', .int .i64 e2] 53)).alloc (by simp; omega) (.cells #[.bool false, .slice none 0 0, .int .i64 0] 53))
  have MY1 := Lib.hid (fun W hb => dmay_calls _ s m e W (hD.below (w' := W) hb))
  have MY2 := Lib.hid (fun W hb => dmay_calls _ s' m' e2 W (hD'.below (w' := W) hb))
  have E1 := Lib.hid (((Cells3.new w (.bool s) (.slice a n cap) (.int .i64 e) 53).alloc (.cells #[.bool s', .slice a' n' cap', .int .i64 e2] 53)).alloc (.cells #[.bool false, .slice none 0 0, .int .i64 0] 53))
  have E2 := Lib.hid ((Cells3.new2 w (.cells #[.bool s, .slice a n cap, .int .i64 e] 53) (.bool s') (.slice a' n' cap') (.int .i64 e2) 53).alloc (.cells #[.bool false, .slice none 0 0, .int .i64 0] 53))
  have E3 := Lib.hid (Cells3.new3 w (.cells #[.bool s, .slice a n cap, .int .i64 e] 53) (.cells #[.bool s', .slice a' n' cap', .int .i64 e2] 53) (.bool false) (.slice none 0 0) (.int .i64 0) 53)
  have HB0 := Lib.hid HB
  have HX := Lib.hid (And.intro x1 (And.intro y1 (And.intro x3 y3)))
  have HE := Lib.hid (show -(B : Int) ≤ E by omega)
  clear h hD hN hz HB h1 h2 h3 h4 hq h' hD' hN' hz' g1 g2 g3 g4 ht hx hy x1 y1 x2 y2 x3 y3
  by_cases hss : s = s'
  · subst hss
    have hbe : (s == s) = true := by simp
    have hsum : dqv s x E + dqv s y E = dqv s (x + y) E := (dqv_add s x y E).symm
    have hb : ((x + y : Nat) : Rat) * p2 E ≤ p2 ((A + 1 : Nat) : Int) := by
      rw [show ((A + 1 : Nat) : Int) = (A : Int) + 1 by omega, p2_succ, Rat.natCast_add]
      have h1 := HX.out.1
      have h2 := HX.out.2.1
      grind
    have hsz : sz (x + y) ≤ 9600 := Nat.le_trans (sz_add _ _) (by have h1 := HX.out.2.2.1; have h2 := HX.out.2.2.2; omega)
    have NA := Lib.hid (fun u v W hu hv => nadd_calls u v x y W hu hv (by have h1 := HX.out.2.2.1; omega) (by have h2 := HX.out.2.2.2; omega))
    have NM := Lib.hid (fun v W hv => dnorm_calls s v (x + y) E W B (A + 1) hv hsz (fun _ => HE.out) (by omega) hb (by omega))
    rw [hsum]
    clear hsum hb hsz
    go_enter Tryz.func33, Tryz.ntmps33
    go_wp2_with (first
      | (go_at_call_of 44 (Value.agg #[.bool s, .slice a n cap, .int .i64 e]); go_must (refine (MY1.out _ HB0.out).mono ?_; rintro e' w1 ⟨rfl, hb⟩; have B1 := Lib.hid (below_put3 (HB0.out.trans (hb.mono HB0.out.size)) (Nat.le_refl _) (.bool s) (.slice a n cap) (.int .i64 e)); have F1 := E1.out.below hb; have F2 := E2.out.below hb; have F3 := E3.out.below hb; have G1 := Lib.hid (F1.put (.bool s) (.slice a n cap) (.int .i64 e)); have G2 := Lib.hid (F2.put_other (b' := w.heap.size) (by omega) (.bool s) (.slice a n cap) (.int .i64 e)); have G3 := Lib.hid (F3.put_other (b' := w.heap.size) (by omega) (.bool s) (.slice a n cap) (.int .i64 e)); obtain ⟨_, _, _, x0, x1, x2⟩ := F1; obtain ⟨d0, d1, d2, _, _, _⟩ := G2.out; clear hb F2 F3))
      | (go_at_call 44; go_must (refine (MY2.out _ B1.out).mono ?_; rintro e' w2 ⟨rfl, hb⟩; have B2 := Lib.hid (below_put3 (B1.out.trans (hb.mono B1.out.size)) (Nat.le_succ _) (.bool s) (.slice a' n' cap') (.int .i64 e2)); have F1 := G1.out.below hb; have F2 := G2.out.below hb; have F3 := G3.out.below hb; have H1 := Lib.hid (F1.put_other (b' := w.heap.size + 1) (by omega) (.bool s) (.slice a' n' cap') (.int .i64 e2)); have H2 := Lib.hid (F2.put (.bool s) (.slice a' n' cap') (.int .i64 e2)); have H3 := Lib.hid (F3.put_other (b' := w.heap.size + 1) (by omega) (.bool s) (.slice a' n' cap') (.int .i64 e2)); obtain ⟨_, _, _, y0, y1, y2⟩ := F2; clear hb F1 F3; obtain ⟨c0, c1, c2, _, _, _⟩ := H1.out; obtain ⟨d0, d1, d2, _, _, _⟩ := H2.out))
      | (go_at_call_of 50 (Value.slice a n cap); go_must (refine (SH1.out _ B2.out).mono ?_; rintro e' w3 ⟨⟨z, rfl, hz⟩, hb⟩; have Z1 := Lib.hid hz; have B3 := Lib.hid (B2.out.trans (hb.mono B2.out.size)); have J1 := Lib.hid (H1.out.below hb); have J2 := Lib.hid (H2.out.below hb); have J3 := Lib.hid (H3.out.below hb); obtain ⟨c0, c1, c2, _, _, _⟩ := J1.out; obtain ⟨d0, d1, d2, _, _, _⟩ := J2.out; clear hz hb))
      | (go_at_call 50; go_must (refine (SH2.out _ B3.out).mono ?_; rintro e' w4 ⟨⟨z', rfl, hz⟩, hb⟩; have Z2 := Lib.hid hz; have Z3 := Lib.hid (Z1.out.below hb); have B4 := Lib.hid (B3.out.trans (hb.mono B3.out.size)); have L1 := Lib.hid (J1.out.below hb); have L2 := Lib.hid (J2.out.below hb); have L3 := Lib.hid (J3.out.below hb); obtain ⟨c0, c1, c2, _, _, _⟩ := L1.out; obtain ⟨d0, d1, d2, _, _, _⟩ := L2.out; have I1 := Lib.hid (And.intro Z3.out Z2.out); clear hz hb)))
    have BD := Lib.hid (B4.out.trans ((Below.refl w4.heap.size w4).drew.mono B4.out.size))
    have O1 := Lib.hid (And.intro (Z3.out.below (Below.refl _ _).drew) (Z2.out.below (Below.refl _ _).drew))
    have M1 := Lib.hid (L1.out.below (Below.refl _ _).drew)
    have M3 := Lib.hid (L3.out.below (Below.refl _ _).drew)
    have K0 := Lib.hid M1.out.c0
    clear c0 c1 c2 d0 d1 d2
    go_region_held3 (fun w' => w'.cell? ⟨w.heap.size, 0, none⟩ = some (.bool s))
      (first
        | with_reducible exact K0.out
        | with_reducible exact K1.out
        | with_reducible exact K2.out
        | with_reducible exact K3.out)
      (first
        | (go_at_call 63; go_must (refine (NA.out _ _ _ O1.out.1 O1.out.2).mono ?_; rintro e' w5 ⟨⟨v5, rfl, hz⟩, hb⟩; have Z5 := Lib.hid hz; have B5 := Lib.hid (BD.out.trans (hb.mono BD.out.size)); have N1 := Lib.hid (M1.out.below hb); have N3 := Lib.hid (M3.out.below hb); have K1 := Lib.hid N1.out.c0; clear hz hb))
        | (go_at_call 42; go_must (refine (NM.out _ _ Z5.out).mono ?_; rintro e' w6 ⟨⟨v6, rfl, hz⟩, hb⟩; have BL := Lib.hid (B5.out.trans (hb.mono B5.out.size)); have P1 := Lib.hid (N1.out.below hb); have P3 := Lib.hid (N3.out.below hb); have FC := P3.out; have K2 := Lib.hid P1.out.c0; have HZ := Lib.hid hz; obtain ⟨zs, zm, ze, ⟨za, zn, zc, rfl, _⟩, _⟩ := hz; have K3 := Lib.hid (P1.out.put_other (b' := w.heap.size + 1 + 1) (by omega) (.bool zs) (.slice za zn zc) (.int .i64 ze)).c0; obtain ⟨q0, q1, q2, x3, x4, x5⟩ := P3.out; clear hb)))
    have P := FC.put (.bool zs) (.slice za zn zc) (.int .i64 ze)
    have HP := Lib.hid P
    clear P K0 K1 K2 K3 q0 q1 q2 x3 x4 x5
    go_wp2
    have P := HP.out
    exact bodyPost_ret (v := .agg #[.bool zs, .slice za zn zc, .int .i64 ze]) (by simp [results, Tryz.results33, go_sem, P.c0, P.c1, P.c2]) rfl ⟨⟨_, rfl, HZ.out.put3 FC _ _ _⟩, below_put3 BL.out (by omega) _ _ _⟩
  · obtain rfl : s' = !s := by cases s <;> cases s' <;> simp_all
    have hbe : (s == !s) = false := by cases s <;> rfl
    by_cases hle : y ≤ x
    · have NS := Lib.hid (fun u v W hu hv => nsub_calls u v x y W hu hv (by have h1 := HX.out.2.2.1; omega) (by have h2 := HX.out.2.2.2; omega))
      rw [decide_eq_true hle] at NS
      have hsum : dqv s x E + dqv (!s) y E = dqv s (x - y) E := (dqv_sub s E hle).symm
      have hb : ((x - y : Nat) : Rat) * p2 E ≤ p2 A := Rat.le_trans (Rat.mul_le_mul_of_nonneg_right (by exact_mod_cast Nat.sub_le x y) (Rat.le_of_lt (p2_pos E))) HX.out.1
      have hsz : sz (x - y) ≤ 9600 := Nat.le_trans (sz_mono (Nat.sub_le _ _)) (by have h1 := HX.out.2.2.1; omega)
      have NM := Lib.hid (fun v W hv => dnorm_calls s v (x - y) E W B A hv hsz (fun _ => HE.out) (by omega) hb (by omega))
      rw [hsum]
      clear hsum hb hsz
      go_enter Tryz.func33, Tryz.ntmps33
      go_wp2_with (first
        | (go_at_call_of 44 (Value.agg #[.bool s, .slice a n cap, .int .i64 e]); go_must (refine (MY1.out _ HB0.out).mono ?_; rintro e' w1 ⟨rfl, hb⟩; have B1 := Lib.hid (below_put3 (HB0.out.trans (hb.mono HB0.out.size)) (Nat.le_refl _) (.bool s) (.slice a n cap) (.int .i64 e)); have F1 := E1.out.below hb; have F2 := E2.out.below hb; have F3 := E3.out.below hb; have G1 := Lib.hid (F1.put (.bool s) (.slice a n cap) (.int .i64 e)); have G2 := Lib.hid (F2.put_other (b' := w.heap.size) (by omega) (.bool s) (.slice a n cap) (.int .i64 e)); have G3 := Lib.hid (F3.put_other (b' := w.heap.size) (by omega) (.bool s) (.slice a n cap) (.int .i64 e)); obtain ⟨_, _, _, x0, x1, x2⟩ := F1; obtain ⟨d0, d1, d2, _, _, _⟩ := G2.out; clear hb F2 F3))
        | (go_at_call 44; go_must (refine (MY2.out _ B1.out).mono ?_; rintro e' w2 ⟨rfl, hb⟩; have B2 := Lib.hid (below_put3 (B1.out.trans (hb.mono B1.out.size)) (Nat.le_succ _) (.bool (!s)) (.slice a' n' cap') (.int .i64 e2)); have F1 := G1.out.below hb; have F2 := G2.out.below hb; have F3 := G3.out.below hb; have H1 := Lib.hid (F1.put_other (b' := w.heap.size + 1) (by omega) (.bool (!s)) (.slice a' n' cap') (.int .i64 e2)); have H2 := Lib.hid (F2.put (.bool (!s)) (.slice a' n' cap') (.int .i64 e2)); have H3 := Lib.hid (F3.put_other (b' := w.heap.size + 1) (by omega) (.bool (!s)) (.slice a' n' cap') (.int .i64 e2)); obtain ⟨_, _, _, y0, y1, y2⟩ := F2; clear hb F1 F3; obtain ⟨c0, c1, c2, _, _, _⟩ := H1.out; obtain ⟨d0, d1, d2, _, _, _⟩ := H2.out))
        | (go_at_call_of 50 (Value.slice a n cap); go_must (refine (SH1.out _ B2.out).mono ?_; rintro e' w3 ⟨⟨z, rfl, hz⟩, hb⟩; have Z1 := Lib.hid hz; have B3 := Lib.hid (B2.out.trans (hb.mono B2.out.size)); have J1 := Lib.hid (H1.out.below hb); have J2 := Lib.hid (H2.out.below hb); have J3 := Lib.hid (H3.out.below hb); obtain ⟨c0, c1, c2, _, _, _⟩ := J1.out; obtain ⟨d0, d1, d2, _, _, _⟩ := J2.out; clear hz hb))
        | (go_at_call 50; go_must (refine (SH2.out _ B3.out).mono ?_; rintro e' w4 ⟨⟨z', rfl, hz⟩, hb⟩; have Z2 := Lib.hid hz; have Z3 := Lib.hid (Z1.out.below hb); have B4 := Lib.hid (B3.out.trans (hb.mono B3.out.size)); have L1 := Lib.hid (J1.out.below hb); have L2 := Lib.hid (J2.out.below hb); have L3 := Lib.hid (J3.out.below hb); obtain ⟨c0, c1, c2, _, _, _⟩ := L1.out; obtain ⟨d0, d1, d2, _, _, _⟩ := L2.out; have I1 := Lib.hid (And.intro Z3.out Z2.out); clear hz hb))
        | (go_at_call 64; go_must (refine (NS.out _ _ _ I1.out.1 I1.out.2).mono ?_; rintro e' w5 ⟨⟨v5, rfl, hz⟩, hb⟩; have Z5 := Lib.hid hz; have B5 := Lib.hid (B4.out.trans (hb.mono B4.out.size)); have N1 := Lib.hid (L1.out.below hb); have N2 := Lib.hid (L2.out.below hb); have N3 := Lib.hid (L3.out.below hb); obtain ⟨c0, c1, c2, _, _, _⟩ := N1.out; obtain ⟨d0, d1, d2, _, _, _⟩ := N2.out; clear hz hb))
        | (go_at_call 42; go_must (refine (NM.out _ _ Z5.out).mono ?_; rintro e' w6 ⟨⟨v6, rfl, hz⟩, hb⟩; have BL := Lib.hid (B5.out.trans (hb.mono B5.out.size)); have P3 := Lib.hid (N3.out.below hb); have FC := P3.out; have HZ := Lib.hid hz; obtain ⟨zs, zm, ze, ⟨za, zn, zc, rfl, _⟩, _⟩ := hz; obtain ⟨q0, q1, q2, x3, x4, x5⟩ := P3.out; clear hb)))
      have P := FC.put (.bool zs) (.slice za zn zc) (.int .i64 ze)
      exact bodyPost_ret (v := .agg #[.bool zs, .slice za zn zc, .int .i64 ze]) (by simp [results, Tryz.results33, go_sem, P.c0, P.c1, P.c2]) rfl ⟨⟨_, rfl, HZ.out.put3 FC _ _ _⟩, below_put3 BL.out (by omega) _ _ _⟩
    · have hle' : x ≤ y := by omega
      have NS := Lib.hid (fun u v W hu hv => nsub_calls u v x y W hu hv (by have h1 := HX.out.2.2.1; omega) (by have h2 := HX.out.2.2.2; omega))
      have NT := Lib.hid (fun u v W hu hv => nsub_calls u v y x W hu hv (by have h2 := HX.out.2.2.2; omega) (by have h1 := HX.out.2.2.1; omega))
      rw [decide_eq_false hle] at NS
      have hsum : dqv s x E + dqv (!s) y E = dqv (!s) (y - x) E := by rw [dqv_sub (!s) E hle', Bool.not_not, Rat.add_comm]
      have hb : ((y - x : Nat) : Rat) * p2 E ≤ p2 A := Rat.le_trans (Rat.mul_le_mul_of_nonneg_right (by exact_mod_cast Nat.sub_le y x) (Rat.le_of_lt (p2_pos E))) HX.out.2.1
      have hsz : sz (y - x) ≤ 9600 := Nat.le_trans (sz_mono (Nat.sub_le _ _)) (by have h1 := HX.out.2.2.2; omega)
      have NM := Lib.hid (fun v W hv => dnorm_calls (!s) v (y - x) E W B A hv hsz (fun _ => HE.out) (by omega) hb (by omega))
      rw [hsum]
      clear hsum hb hsz hle'
      go_enter Tryz.func33, Tryz.ntmps33
      go_upto_region 11 with (first
        | (go_at_call_of 44 (Value.agg #[.bool s, .slice a n cap, .int .i64 e]); go_must (refine (MY1.out _ HB0.out).mono ?_; rintro e' w1 ⟨rfl, hb⟩; have B1 := Lib.hid (below_put3 (HB0.out.trans (hb.mono HB0.out.size)) (Nat.le_refl _) (.bool s) (.slice a n cap) (.int .i64 e)); have F1 := E1.out.below hb; have F2 := E2.out.below hb; have F3 := E3.out.below hb; have G1 := Lib.hid (F1.put (.bool s) (.slice a n cap) (.int .i64 e)); have G2 := Lib.hid (F2.put_other (b' := w.heap.size) (by omega) (.bool s) (.slice a n cap) (.int .i64 e)); have G3 := Lib.hid (F3.put_other (b' := w.heap.size) (by omega) (.bool s) (.slice a n cap) (.int .i64 e)); obtain ⟨_, _, _, x0, x1, x2⟩ := F1; obtain ⟨d0, d1, d2, _, _, _⟩ := G2.out; clear hb F2 F3))
        | (go_at_call 44; go_must (refine (MY2.out _ B1.out).mono ?_; rintro e' w2 ⟨rfl, hb⟩; have B2 := Lib.hid (below_put3 (B1.out.trans (hb.mono B1.out.size)) (Nat.le_succ _) (.bool (!s)) (.slice a' n' cap') (.int .i64 e2)); have F1 := G1.out.below hb; have F2 := G2.out.below hb; have F3 := G3.out.below hb; have H1 := Lib.hid (F1.put_other (b' := w.heap.size + 1) (by omega) (.bool (!s)) (.slice a' n' cap') (.int .i64 e2)); have H2 := Lib.hid (F2.put (.bool (!s)) (.slice a' n' cap') (.int .i64 e2)); have H3 := Lib.hid (F3.put_other (b' := w.heap.size + 1) (by omega) (.bool (!s)) (.slice a' n' cap') (.int .i64 e2)); obtain ⟨_, _, _, y0, y1, y2⟩ := F2; clear hb F1 F3; obtain ⟨c0, c1, c2, _, _, _⟩ := H1.out; obtain ⟨d0, d1, d2, _, _, _⟩ := H2.out))
        | (go_at_call_of 50 (Value.slice a n cap); go_must (refine (SH1.out _ B2.out).mono ?_; rintro e' w3 ⟨⟨z, rfl, hz⟩, hb⟩; have Z1 := Lib.hid hz; have B3 := Lib.hid (B2.out.trans (hb.mono B2.out.size)); have J1 := Lib.hid (H1.out.below hb); have J2 := Lib.hid (H2.out.below hb); have J3 := Lib.hid (H3.out.below hb); obtain ⟨c0, c1, c2, _, _, _⟩ := J1.out; obtain ⟨d0, d1, d2, _, _, _⟩ := J2.out; clear hz hb))
        | (go_at_call 50; go_must (refine (SH2.out _ B3.out).mono ?_; rintro e' w4 ⟨⟨z', rfl, hz⟩, hb⟩; have Z2 := Lib.hid hz; have Z3 := Lib.hid (Z1.out.below hb); have B4 := Lib.hid (B3.out.trans (hb.mono B3.out.size)); have L1 := Lib.hid (J1.out.below hb); have L2 := Lib.hid (J2.out.below hb); have L3 := Lib.hid (J3.out.below hb); obtain ⟨c0, c1, c2, _, _, _⟩ := L1.out; obtain ⟨d0, d1, d2, _, _, _⟩ := L2.out; have I1 := Lib.hid (And.intro Z3.out Z2.out); clear hz hb))
        | (go_at_call 64; go_must (refine (NS.out _ _ _ I1.out.1 I1.out.2).mono ?_; rintro e' w5 ⟨⟨v5, rfl, hz⟩, hb⟩; have I2 := Lib.hid (And.intro (I1.out.2.below hb) (I1.out.1.below hb)); have B5 := Lib.hid (B4.out.trans (hb.mono B4.out.size)); have N1 := Lib.hid (L1.out.below hb); have N2 := Lib.hid (L2.out.below hb); have N3 := Lib.hid (L3.out.below hb); obtain ⟨c0, c1, c2, _, _, _⟩ := N1.out; obtain ⟨d0, d1, d2, _, _, _⟩ := N2.out; clear hz hb)))
      clear NS I1
      go_wp2_with (first
        | (go_at_call 64; go_must (refine (NT.out _ _ _ I2.out.1 I2.out.2).mono ?_; rintro e' w7 ⟨⟨v7, rfl, hz⟩, hb⟩; have Z7 := Lib.hid hz; have B7 := Lib.hid (B5.out.trans (hb.mono B5.out.size)); have R1 := Lib.hid (N1.out.below hb); have R2 := Lib.hid (N2.out.below hb); have R3 := Lib.hid (N3.out.below hb); obtain ⟨c0, c1, c2, _, _, _⟩ := R1.out; obtain ⟨d0, d1, d2, _, _, _⟩ := R2.out; clear hz hb))
        | (go_at_call 42; go_must (refine (NM.out _ _ Z7.out).mono ?_; rintro e' w6 ⟨⟨v6, rfl, hz⟩, hb⟩; have BL := Lib.hid (B7.out.trans (hb.mono B7.out.size)); have P3 := Lib.hid (R3.out.below hb); have FC := P3.out; have HZ := Lib.hid hz; obtain ⟨zs, zm, ze, ⟨za, zn, zc, rfl, _⟩, _⟩ := hz; obtain ⟨q0, q1, q2, x3, x4, x5⟩ := P3.out; clear hb)))
      have P := FC.put (.bool zs) (.slice za zn zc) (.int .i64 ze)
      exact bodyPost_ret (v := .agg #[.bool zs, .slice za zn zc, .int .i64 ze]) (by simp [results, Tryz.results33, go_sem, P.c0, P.c1, P.c2]) rfl ⟨⟨_, rfl, HZ.out.put3 FC _ _ _⟩, below_put3 BL.out (by omega) _ _ _⟩
end Go.Proofs.YtmmligbkecilfaaGreatDoor
