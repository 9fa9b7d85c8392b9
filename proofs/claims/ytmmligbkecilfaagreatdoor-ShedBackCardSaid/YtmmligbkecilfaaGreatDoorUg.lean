/- The reference's bound of layer 9. Lists of dyads in memory. A list of dyads of one's own: what is appended to it. -/
import Derived.Test.YtmmligbkecilfaaGreatDoorUd
namespace Go.Proofs.YtmmligbkecilfaaGreatDoor
open Go.RowKit Lv Go.Shelf
attribute [local go_sem high] run_maxI run_minI

attribute [local go_sem] Oper.semAt_some drewN_alloc drewN_setCell

theorem p2_bd {k : Int} {A : Nat} (h : k ≤ (A : Int)) : Bd (p2 k) (p2 (A : Int)) := by
  have h1 := p2_pos k
  have h2 := p2_le h
  unfold Bd
  constructor <;> grind
theorem nat_bd {k n : Nat} (h : k < 2 ^ n) : Bd (k : Rat) (p2 (n : Int)) := by
  have h1 : (k : Rat) ≤ p2 (n : Int) := by rw [p2_nat]; exact_mod_cast Nat.le_of_lt h
  have h2 := ratn_nn k
  unfold Bd
  constructor <;> grind
theorem bd_p2_mono {q : Rat} {A A' : Nat} (h : Bd q (p2 A)) (hA : A ≤ A') : Bd q (p2 A') := h.mono (p2_le (by omega))
theorem bd_add_p2 {q t : Rat} {A : Nat} (h : Bd q (p2 A)) (h' : Bd t (p2 A)) : Bd (q + t) (p2 ((A + 1 : Nat) : Int)) := by
  rw [show ((A + 1 : Nat) : Int) = (A : Int) + 1 by omega, p2_succ]
  exact (h.add h').mono (by grind)
/-- what the reference's bound is worth -/
def bndQ (U V : Rat) (k : Nat) : Rat := U * V * ((64 * k : Nat) : Rat) * p2 (-53) + (U + V) * (k : Rat) * p2 (-1060) + p2 (-2140) * (k : Rat) * (k : Rat)
theorem bndQ_bd {U V : Rat} {k A : Nat} (hU : Bd U (p2 A)) (hV : Bd V (p2 A)) (hk : k < 2 ^ 17) : Bd (bndQ U V k) (p2 ((2 * A + 36 : Nat) : Int)) := by
  have h1 := bd_mul_p2 (bd_mul_p2 hU hV) (nat_bd (k := 64 * k) (n := 23) (by omega))
  have h2 := bd_mul_p2 h1 (p2_bd (k := -53) (A := 0) (by omega))
  have h3 := bd_mul_p2 (bd_add_p2 hU hV) (nat_bd hk)
  have h4 := bd_mul_p2 h3 (p2_bd (k := -1060) (A := 0) (by omega))
  have h5 := bd_mul_p2 (bd_mul_p2 (p2_bd (k := -2140) (A := 0) (by omega)) (nat_bd hk)) (nat_bd hk)
  have h6 := bd_add_p2 (bd_p2_mono h2 (A' := 2 * A + 34) (by omega)) (bd_p2_mono h4 (A' := 2 * A + 34) (by omega))
  have h7 := bd_add_p2 h6 (bd_p2_mono h5 (A' := 2 * A + 34 + 1) (by omega))
  exact h7
theorem nine_keep {W : World} {g g' g'' : Nat} {u0 u1 u2 v0 v1 v2 x0 x1 x2 : Value} (h : Cells3 W g u0 u1 u2) (h' : Cells3 W g' v0 v1 v2) (h'' : Cells3 W g'' x0 x1 x2) :
    W.cell? ⟨g, 0, none⟩ = some u0 ∧ W.cell? ⟨g, 1, none⟩ = some u1 ∧ W.cell? ⟨g, 2, none⟩ = some u2 ∧ W.cell? ⟨g', 0, none⟩ = some v0 ∧ W.cell? ⟨g', 1, none⟩ = some v1 ∧ W.cell? ⟨g', 2, none⟩ = some v2 ∧ W.cell? ⟨g'', 0, none⟩ = some x0 ∧ W.cell? ⟨g'', 1, none⟩ = some x1 ∧ W.cell? ⟨g'', 2, none⟩ = some x2 :=
  ⟨h.c0, h.c1, h.c2, h'.c0, h'.c1, h'.c2, h''.c0, h''.c1, h''.c2⟩
set_option maxRecDepth 100000 in
set_option maxHeartbeats 2000000 in
theorem ebound_calls (v u : Value) (U V : Rat) (k A B : Nat) (w : World) (h : Dq w v U B) (hU : Bd U (p2 A)) (h' : Dq w u V B) (hV : Bd V (p2 A)) (hk : k < 2 ^ 17) (hA : A ≤ 1200) (hB : 1100 ≤ B) (hB2 : B ≤ 1300) :
    Calls Tryz.prog 28 #[v, u, .int .i64 (k : Int)] w fun e' w' => (∃ z, e' = .returned z ∧ Dq w' z (bndQ U V k) (2 * B + 53)) ∧ Below w.heap.size w w' := by
  obtain ⟨s, m, e, ⟨a, n, cap, rfl, hN⟩, hv⟩ := id h
  obtain ⟨s', m', e2, ⟨a', n', cap', rfl, hN'⟩, hv'⟩ := id h'
  have H0 := Lib.hid h
  have H0' := Lib.hid h'
  have b1 := bd_mul_p2 hU hV
  have b2 := bd_mul_p2 b1 (nat_bd (k := 64 * k) (n := 23) (by omega))
  have b3 := bd_add_p2 hU hV
  have b4 := bd_mul_p2 b3 (nat_bd hk)
  have b5 := p2_bd (k := -2140) (A := 0) (by omega)
  have b6 := bd_mul_p2 b5 (nat_bd hk)
  have M1 := Lib.hid (fun W hb => dmul_calls _ _ U V A B A B W (h.below (w' := W) hb) hU (h'.below hb) hV (by omega))
  have T1 := Lib.hid (fun v W hv => dtimes_calls v (U * V) (64 * k) (A + A) (B + B) W hv b1 (by omega) (by omega))
  have P1 := Lib.hid (fun W => dpow_calls (-53) 0 53 W (by omega) (by omega) (by omega) (by omega))
  have M2 := Lib.hid (fun v u W hv hu => dmul_calls v u _ _ (A + A + 23) (B + B) 0 53 W hv b2 hu (p2_bd (k := -53) (A := 0) (by omega)) (by omega))
  have A1 := Lib.hid (fun W hb => dadd_calls _ _ U V A B W (h.below (w' := W) hb) hU (h'.below hb) hV (by omega))
  have T2 := Lib.hid (fun v W hv => dtimes_calls v (U + V) k (A + 1) B W hv b3 (by omega) (by omega))
  have P2 := Lib.hid (fun W => dpow_calls (-1060) 0 1060 W (by omega) (by omega) (by omega) (by omega))
  have M3 := Lib.hid (fun v u W hv hu => dmul_calls v u _ _ (A + 1 + 17) B 0 1060 W hv b4 hu (p2_bd (k := -1060) (A := 0) (by omega)) (by omega))
  have P3 := Lib.hid (fun W => dpow_calls (-2140) 0 2140 W (by omega) (by omega) (by omega) (by omega))
  have T3 := Lib.hid (fun v W hv => dtimes_calls v _ k 0 2140 W hv b5 (by omega) (by omega))
  have T4 := Lib.hid (fun v W hv => dtimes_calls v _ k (0 + 17) 2140 W hv b6 (by omega) (by omega))
  have c1 := bd_p2_mono (bd_mul_p2 b2 (p2_bd (k := -53) (A := 0) (by omega))) (A' := 2 * A + 40) (by omega)
  have c2 := bd_p2_mono (bd_mul_p2 b4 (p2_bd (k := -1060) (A := 0) (by omega))) (A' := 2 * A + 40) (by omega)
  have c3 := bd_p2_mono (bd_mul_p2 b6 (nat_bd hk)) (A' := 2 * A + 40 + 1) (by omega)
  have A2 := Lib.hid (fun v u W hv hu => dadd_calls v u _ _ (2 * A + 40) (2 * B + 53) W (Dq.mono (B := B + B + 53) hv (by omega)) c1 (Dq.mono (B := B + 1060) hu (by omega)) c2 (by omega))
  have A3 := Lib.hid (fun v u W hv hu => dadd_calls v u _ _ (2 * A + 40 + 1) (2 * B + 53) W hv (bd_add_p2 c1 c2) (Dq.mono (B := 2140) hu (by omega)) c3 (by omega))
  have HB := ((((Below.refl w.heap.size w).alloc (Nat.le_refl _) (.cells #[.bool s, .slice a n cap, .int .i64 e] 53)).alloc (by simp) (.cells #[.bool s', .slice a' n' cap', .int .i64 e2] 53)).alloc (by simp; omega) (.cells #[.bool false, .slice none 0 0, .int .i64 0] 53))
  have E1 := Lib.hid (((Cells3.new w (.bool s) (.slice a n cap) (.int .i64 e) 53).alloc (.cells #[.bool s', .slice a' n' cap', .int .i64 e2] 53)).alloc (.cells #[.bool false, .slice none 0 0, .int .i64 0] 53))
  have E2 := Lib.hid ((Cells3.new2 w (.cells #[.bool s, .slice a n cap, .int .i64 e] 53) (.bool s') (.slice a' n' cap') (.int .i64 e2) 53).alloc (.cells #[.bool false, .slice none 0 0, .int .i64 0] 53))
  have E3 := Lib.hid (Cells3.new3 w (.cells #[.bool s, .slice a n cap, .int .i64 e] 53) (.cells #[.bool s', .slice a' n' cap', .int .i64 e2] 53) (.bool false) (.slice none 0 0) (.int .i64 0) 53)
  have HB0 := Lib.hid HB
  obtain ⟨j, hj⟩ : ∃ j, 64 * k = j := ⟨_, rfl⟩
  have hk65 : (64 : Int) * (k : Int) = (j : Int) := by omega
  have hk64 : IntKind.i64.wrap (j : Int) = (j : Int) := IntWalk.i64_in _ (by omega)
  unfold bndQ
  rw [hj] at T1 M2 A2 A3
  rw [hj]
  clear h h' hN hN' hv hv' hU hV HB hj b1 b2 b3 b4 b5 b6 c1 c2 c3
  go_enter Tryz.func28, Tryz.ntmps28
  go_upto_region 2 with (first
    | (go_at_call_of 22 (Value.agg #[.bool s, .slice a n cap, .int .i64 e]); go_must (refine (M1.out _ HB0.out).mono ?_; rintro e' w1 ⟨⟨z1, rfl, hz⟩, hb⟩; have Z1 := Lib.hid hz; have B1 := Lib.hid (HB0.out.trans (hb.mono HB0.out.size)); have F1 := Lib.hid (E1.out.below hb); have F2 := Lib.hid (E2.out.below hb); have F3 := Lib.hid (E3.out.below hb); clear hz hb))
    | (go_at_call 51; go_must (refine (T1.out _ _ Z1.out).mono ?_; rintro e' w2 ⟨⟨z2, rfl, hz⟩, hb⟩; have Z2 := Lib.hid hz; have B2 := Lib.hid (B1.out.trans (hb.mono B1.out.size)); have G1 := Lib.hid (F1.out.below hb); have G2 := Lib.hid (F2.out.below hb); have G3 := Lib.hid (F3.out.below hb); clear hz hb))
    | (go_at_call 52; go_must (refine (P1.out _).mono ?_; rintro e' w3 ⟨⟨z3, rfl, hz⟩, hb⟩; have Z3 := Lib.hid (And.intro (Z2.out.below hb) hz); have B3 := Lib.hid (B2.out.trans (hb.mono B2.out.size)); have J1 := Lib.hid (G1.out.below hb); have J2 := Lib.hid (G2.out.below hb); have J3 := Lib.hid (G3.out.below hb); clear hz hb))
    | (go_at_call 22; go_must (refine (M2.out _ _ _ Z3.out.1 Z3.out.2).mono ?_; rintro e' w4 ⟨⟨z4, rfl, hz⟩, hb⟩; have Z4 := Lib.hid hz; have B4 := Lib.hid (B3.out.trans (hb.mono B3.out.size)); have L1 := Lib.hid (J1.out.below hb); have L2 := Lib.hid (J2.out.below hb); have L3 := Lib.hid (J3.out.below hb); obtain ⟨zs, zm, ze, ⟨za, zn, zc, rfl, _⟩, _⟩ := hz; have B5 := Lib.hid (B4.out.alloc B4.out.size (.cells #[.bool zs, .slice za zn zc, .int .i64 ze] 53)); have R1 := Lib.hid (L1.out.alloc (.cells #[.bool zs, .slice za zn zc, .int .i64 ze] 53)); have R2 := Lib.hid (L2.out.alloc (.cells #[.bool zs, .slice za zn zc, .int .i64 ze] 53)); have R3 := Lib.hid (L3.out.alloc (.cells #[.bool zs, .slice za zn zc, .int .i64 ze] 53)); have R4 := Lib.hid (Cells3.new w4 (.bool zs) (.slice za zn zc) (.int .i64 ze) 53); have Z5 := Lib.hid (Z4.out.below ((Below.refl _ _).alloc (Nat.le_refl _) (.cells #[.bool zs, .slice za zn zc, .int .i64 ze] 53))); obtain ⟨c0, c1, c2, _, _, _⟩ := R1.out; obtain ⟨d0, d1, d2, _, _, _⟩ := R2.out; clear hb)))
  generalize w4.alloc (.cells #[.bool zs, .slice za zn zc, .int .i64 ze] 53) = W5 at *
  have s4 := L3.out.lt
  have R51 := R1
  have R52 := R2
  have R53 := R3
  have R54 := R4
  clear R1 R2 R3 R4 L1 L2 L3 J1 J2 J3 G1 G2 G3 F1 F2 F3 E1 E2 E3
  go_upto_region 3 with (first
    | (go_at_call 33; go_must (refine (A1.out _ B5.out).mono ?_; rintro e' w6 ⟨⟨z1, rfl, hz⟩, hb⟩; have Y6 := Lib.hid hz; have B6 := Lib.hid (B5.out.trans (hb.mono B5.out.size)); have Z6 := Lib.hid (Z5.out.below hb); have R61 := Lib.hid (R51.out.below hb); have R62 := Lib.hid (R52.out.below hb); have R63 := Lib.hid (R53.out.below hb); have R64 := Lib.hid (R54.out.below hb); clear hz hb))
    | (go_at_call 51; go_must (refine (T2.out _ _ Y6.out).mono ?_; rintro e' w7 ⟨⟨z2, rfl, hz⟩, hb⟩; have Y7 := Lib.hid hz; have B7 := Lib.hid (B6.out.trans (hb.mono B6.out.size)); have Z7 := Lib.hid (Z6.out.below hb); have R71 := Lib.hid (R61.out.below hb); have R72 := Lib.hid (R62.out.below hb); have R73 := Lib.hid (R63.out.below hb); have R74 := Lib.hid (R64.out.below hb); clear hz hb))
    | (go_at_call 52; go_must (refine (P2.out _).mono ?_; rintro e' w8 ⟨⟨z3, rfl, hz⟩, hb⟩; have Y8 := Lib.hid (And.intro (Y7.out.below hb) hz); have B8 := Lib.hid (B7.out.trans (hb.mono B7.out.size)); have Z8 := Lib.hid (Z7.out.below hb); have R81 := Lib.hid (R71.out.below hb); have R82 := Lib.hid (R72.out.below hb); have R83 := Lib.hid (R73.out.below hb); have R84 := Lib.hid (R74.out.below hb); clear hz hb))
    | (go_at_call 22; go_must (refine (M3.out _ _ _ Y8.out.1 Y8.out.2).mono ?_; rintro e' w9 ⟨⟨z4, rfl, hz⟩, hb⟩; have Y9 := Lib.hid hz; have B9 := Lib.hid (B8.out.trans (hb.mono B8.out.size)); have Z9 := Lib.hid (Z8.out.below hb); have R91 := Lib.hid (R81.out.below hb); have R92 := Lib.hid (R82.out.below hb); have R93 := Lib.hid (R83.out.below hb); have R94 := Lib.hid (R84.out.below hb); obtain ⟨ys, ym, ye, ⟨ya, yn, yc, rfl, _⟩, _⟩ := hz; have B10 := Lib.hid (B9.out.alloc B9.out.size (.cells #[.bool ys, .slice ya yn yc, .int .i64 ye] 53)); have Z10 := Lib.hid (Z9.out.below ((Below.refl _ _).alloc (Nat.le_refl _) (.cells #[.bool ys, .slice ya yn yc, .int .i64 ye] 53))); have Y10 := Lib.hid (Y9.out.below ((Below.refl _ _).alloc (Nat.le_refl _) (.cells #[.bool ys, .slice ya yn yc, .int .i64 ye] 53))); have R103 := Lib.hid (R93.out.alloc (.cells #[.bool ys, .slice ya yn yc, .int .i64 ye] 53)); have R104 := Lib.hid (R94.out.alloc (.cells #[.bool ys, .slice ya yn yc, .int .i64 ye] 53)); have R105 := Lib.hid (Cells3.new w9 (.bool ys) (.slice ya yn yc) (.int .i64 ye) 53); clear hb)))
  generalize w9.alloc (.cells #[.bool ys, .slice ya yn yc, .int .i64 ye] 53) = W10 at *
  have s9 := R93.out.lt
  clear Z5 Z6 Z7 Z8 Y6 Y7 Y8 R51 R52 R53 R54 R61 R62 R63 R64 R71 R72 R73 R74 R81 R82 R83 R84 R91 R92 R93 R94
  go_upto_region 4 with (first
    | (go_at_call 52; go_must (refine (P3.out _).mono ?_; rintro e' w11 ⟨⟨z1, rfl, hz⟩, hb⟩; have X11 := Lib.hid hz; have B11 := Lib.hid (B10.out.trans (hb.mono B10.out.size)); have Z11 := Lib.hid (Z10.out.below hb); have Y11 := Lib.hid (Y10.out.below hb); have R113 := Lib.hid (R103.out.below hb); have R114 := Lib.hid (R104.out.below hb); have R115 := Lib.hid (R105.out.below hb); clear hz hb))
    | (go_at_call_of 51 z1; go_must (refine (T3.out _ _ X11.out).mono ?_; rintro e' w12 ⟨⟨zt, rfl, hz⟩, hb⟩; have X12 := Lib.hid hz; have B12 := Lib.hid (B11.out.trans (hb.mono B11.out.size)); have Z12 := Lib.hid (Z11.out.below hb); have Y12 := Lib.hid (Y11.out.below hb); have R123 := Lib.hid (R113.out.below hb); have R124 := Lib.hid (R114.out.below hb); have R125 := Lib.hid (R115.out.below hb); clear hz hb X11))
    | (go_at_call 51; go_must (refine (T4.out _ _ X12.out).mono ?_; rintro e' w13 ⟨⟨z4, rfl, hz⟩, hb⟩; have X13 := Lib.hid hz; have B13 := Lib.hid (B12.out.trans (hb.mono B12.out.size)); have Z13 := Lib.hid (Z12.out.below hb); have Y13 := Lib.hid (Y12.out.below hb); have R133 := Lib.hid (R123.out.below hb); have R134 := Lib.hid (R124.out.below hb); have R135 := Lib.hid (R125.out.below hb); obtain ⟨xs, xm, xe, ⟨xa, xn, xc, rfl, _⟩, _⟩ := hz; have B14 := Lib.hid (B13.out.alloc B13.out.size (.cells #[.bool xs, .slice xa xn xc, .int .i64 xe] 53)); have Z14 := Lib.hid (Z13.out.below ((Below.refl _ _).alloc (Nat.le_refl _) (.cells #[.bool xs, .slice xa xn xc, .int .i64 xe] 53))); have Y14 := Lib.hid (Y13.out.below ((Below.refl _ _).alloc (Nat.le_refl _) (.cells #[.bool xs, .slice xa xn xc, .int .i64 xe] 53))); have X14 := Lib.hid (X13.out.below ((Below.refl _ _).alloc (Nat.le_refl _) (.cells #[.bool xs, .slice xa xn xc, .int .i64 xe] 53))); have s13 := R133.out.lt; have R143 := Lib.hid (R133.out.alloc (.cells #[.bool xs, .slice xa xn xc, .int .i64 xe] 53)); have R144 := Lib.hid (R134.out.alloc (.cells #[.bool xs, .slice xa xn xc, .int .i64 xe] 53)); have R145 := Lib.hid (R135.out.alloc (.cells #[.bool xs, .slice xa xn xc, .int .i64 xe] 53)); have R146 := Lib.hid (Cells3.new w13 (.bool xs) (.slice xa xn xc) (.int .i64 xe) 53); clear hb)))
  generalize w13.alloc (.cells #[.bool xs, .slice xa xn xc, .int .i64 xe] 53) = W14 at *
  have B15 := Lib.hid (B14.out.trans ((Below.refl W14.heap.size W14).drew.mono B14.out.size))
  have Z15 := Lib.hid (And.intro (Z14.out.below (Below.refl _ _).drew) (And.intro (Y14.out.below (Below.refl _ _).drew) (X14.out.below (Below.refl _ _).drew)))
  have R153 := Lib.hid (R143.out.below (Below.refl _ _).drew)
  have R154 := Lib.hid (R144.out.below (Below.refl _ _).drew)
  have R155 := Lib.hid (R145.out.below (Below.refl _ _).drew)
  have R156 := Lib.hid (R146.out.below (Below.refl _ _).drew)
  have K15 := Lib.hid (nine_keep R154.out R155.out R156.out)
  go_region_held3 (fun w' => w'.cell? ⟨w4.heap.size, 0, none⟩ = some (.bool zs) ∧ w'.cell? ⟨w4.heap.size, 1, none⟩ = some (.slice za zn zc) ∧ w'.cell? ⟨w4.heap.size, 2, none⟩ = some (.int .i64 ze) ∧ w'.cell? ⟨w9.heap.size, 0, none⟩ = some (.bool ys) ∧ w'.cell? ⟨w9.heap.size, 1, none⟩ = some (.slice ya yn yc) ∧ w'.cell? ⟨w9.heap.size, 2, none⟩ = some (.int .i64 ye) ∧ w'.cell? ⟨w13.heap.size, 0, none⟩ = some (.bool xs) ∧ w'.cell? ⟨w13.heap.size, 1, none⟩ = some (.slice xa xn xc) ∧ w'.cell? ⟨w13.heap.size, 2, none⟩ = some (.int .i64 xe))
    (first
      | with_reducible exact K15.out
      | with_reducible exact K16.out
      | with_reducible exact K17.out
      | with_reducible exact K18.out)
    (first
      | (go_at_call_of 33 (Value.agg #[.bool zs, .slice za zn zc, .int .i64 ze]); go_must (refine (A2.out _ _ _ Z15.out.1 Z15.out.2.1).mono ?_; rintro e' w16 ⟨⟨z1, rfl, hz⟩, hb⟩; have Z16 := Lib.hid (And.intro hz (Z15.out.2.2.below hb)); have B16 := Lib.hid (B15.out.trans (hb.mono B15.out.size)); have R163 := Lib.hid (R153.out.below hb); have R164 := Lib.hid (R154.out.below hb); have R165 := Lib.hid (R155.out.below hb); have R166 := Lib.hid (R156.out.below hb); have K16 := Lib.hid (nine_keep R164.out R165.out R166.out); clear hz hb))
      | (go_at_call 33; go_must (refine (A3.out _ _ _ Z16.out.1 Z16.out.2).mono ?_; rintro e' w17 ⟨⟨z2, rfl, hz⟩, hb⟩; have B17 := Lib.hid (B16.out.trans (hb.mono B16.out.size)); have R173 := Lib.hid (R163.out.below hb); have R174 := Lib.hid (R164.out.below hb); have R175 := Lib.hid (R165.out.below hb); have R176 := Lib.hid (R166.out.below hb); have K17 := Lib.hid (nine_keep R174.out R175.out R176.out); have HZ := Lib.hid hz; obtain ⟨qs, qm, qe, ⟨qa, qn, qc, rfl, _⟩, _⟩ := hz; have K18 := Lib.hid (nine_keep (R174.out.put_other (b' := w.heap.size + 1 + 1) (by omega) (.bool qs) (.slice qa qn qc) (.int .i64 qe)) (R175.out.put_other (b' := w.heap.size + 1 + 1) (by omega) (.bool qs) (.slice qa qn qc) (.int .i64 qe)) (R176.out.put_other (b' := w.heap.size + 1 + 1) (by omega) (.bool qs) (.slice qa qn qc) (.int .i64 qe))); obtain ⟨q0, q1, q2, x3, x4, x5⟩ := R173.out; clear hb)))
  have P := R173.out.put (.bool qs) (.slice qa qn qc) (.int .i64 qe)
  have HP := Lib.hid P
  clear P K15 K16 K17 K18 q0 q1 q2 x3 x4 x5
  go_wp2
  have P := HP.out
  exact bodyPost_ret (v := .agg #[.bool qs, .slice qa qn qc, .int .i64 qe]) (by simp [results, Tryz.results28, go_sem, P.c0, P.c1, P.c2]) rfl ⟨⟨_, rfl, HZ.out.put3 R173.out _ _ _⟩, below_put3 B17.out (by omega) _ _ _⟩
end Go.Proofs.YtmmligbkecilfaaGreatDoor
namespace Go.Proofs.YtmmligbkecilfaaGreatDoor
open Go.RowKit Lv Go.Shelf

/-- a list of dyads in memory: the rationals -/
def DqL (w : World) (v : Value) (qs : List Rat) (B : Nat) : Prop :=
  ∃ (a : Option Addr) (cap : Nat), v = .slice a qs.length cap ∧ qs.length ≤ cap ∧ cap ≤ maxLen ∧ (qs.length = 0 ∨ ∃ blk off, a = some ⟨blk, off, none⟩ ∧ ∀ i, i < qs.length →
    ∃ (s : Bool) (b : Option Addr) (n c : Nat) (e : Int), w.cell? ⟨blk, off + i * 3, none⟩ = some (.bool s) ∧ w.cell? ⟨blk, off + i * 3 + 1, none⟩ = some (.slice b n c) ∧ w.cell? ⟨blk, off + i * 3 + 2, none⟩ = some (.int .i64 e) ∧ Dq w (.agg #[.bool s, .slice b n c, .int .i64 e]) (qs.getD i 0) B)
theorem DqL.below {w w' : World} {v : Value} {qs : List Rat} {B : Nat} (h : DqL w v qs B) (hb : Below w.heap.size w w') : DqL w' v qs B := by
  obtain ⟨a, cap, h1, h2, h3, h4⟩ := h
  refine ⟨a, cap, h1, h2, h3, ?_⟩
  rcases h4 with h4 | ⟨blk, off, rfl, hc⟩
  · exact .inl h4
  · refine .inr ⟨blk, off, rfl, fun i hi => ?_⟩
    obtain ⟨s, b, n, c, e, k0, k1, k2, k3⟩ := hc i hi
    exact ⟨s, b, n, c, e, (hb.cell (p := ⟨blk, off + i * 3, none⟩) (cell_lt k0)).trans k0, (hb.cell (p := ⟨blk, off + i * 3 + 1, none⟩) (cell_lt k1)).trans k1, (hb.cell (p := ⟨blk, off + i * 3 + 2, none⟩) (cell_lt k2)).trans k2, k3.below hb⟩
theorem DqL.mono {w : World} {v : Value} {qs : List Rat} {B B' : Nat} (h : DqL w v qs B) (hB : B ≤ B') : DqL w v qs B' := by
  obtain ⟨a, cap, h1, h2, h3, h4⟩ := h
  refine ⟨a, cap, h1, h2, h3, ?_⟩
  rcases h4 with h4 | ⟨blk, off, rfl, hc⟩
  · exact .inl h4
  · refine .inr ⟨blk, off, rfl, fun i hi => ?_⟩
    obtain ⟨s, b, n, c, e, k0, k1, k2, k3⟩ := hc i hi
    exact ⟨s, b, n, c, e, k0, k1, k2, k3.mono hB⟩
theorem DqL.len {w : World} {a : Option Addr} {n cap : Nat} {qs : List Rat} {B : Nat} (h : DqL w (.slice a n cap) qs B) : qs.length = n ∧ n ≤ cap ∧ cap ≤ 9223372036854775807 := by
  obtain ⟨a', cap', h1, h2, h3, _⟩ := h
  simp only [Value.slice.injEq] at h1
  obtain ⟨_, rfl, rfl⟩ := h1
  exact ⟨rfl, h2, by unfold maxLen at h3; omega⟩
theorem DqL.form {w : World} {v : Value} {qs : List Rat} {B : Nat} (h : DqL w v qs B) : ∃ a cap, v = .slice a qs.length cap := by
  obtain ⟨a, cap, h1, _⟩ := h
  exact ⟨a, cap, h1⟩
theorem dqL_nil (w : World) (B : Nat) : DqL w (.slice none 0 0) [] B := ⟨none, 0, rfl, Nat.le_refl _, by unfold maxLen; omega, .inl rfl⟩
end Go.Proofs.YtmmligbkecilfaaGreatDoor
namespace Go.Proofs.YtmmligbkecilfaaGreatDoor
open Go.RowKit Lv Go.Shelf

/-- no digit stands in a slice's own block -/
def NoW (w : World) (v : Value) : Prop := ∀ g, v.ownBlock = some g → ∀ (cur : Array Value) (t : TypeId) (fr : Nat × Nat), w.heap[g]? = some (.cells cur t fr) → ∀ u ∈ cur.toList, ∀ x, u ≠ .int .u32 x
theorem noW_nil (w : World) : NoW w (.slice none 0 0) := fun _ h => nomatch h
theorem NoW.below {w w' : World} {v : Value} {C : Nat} (h : NoW w v) (hb : Below C w w') (hC : w.heap.size ≤ C) (hv : ∀ g, v.ownBlock = some g → g < w.heap.size) : NoW w' v := by
  intro g hg cur t fr hh
  have := hv g hg
  rw [hb.block g (by omega)] at hh
  exact h g hg cur t fr hh
/-- a list of floats stays where a block without digits grows -/
theorem Cel.grownW {w w' : World} {u v : Value} {L : List Nat} (h : Cel w u (L.map fun (d : Nat) => Value.int .u32 (d : Int))) (hg : w.grownBy w' v.ownBlock) (nf : NoW w v) : Cel w' u (L.map fun (d : Nat) => Value.int .u32 (d : Int)) := by
  obtain ⟨a, cap, e, h1, h2, h3⟩ := h
  refine ⟨a, cap, e, h1, h2, ?_⟩
  rcases h3 with h3 | ⟨blk, off, ea, hc⟩
  · exact .inl h3
  · refine .inr ⟨blk, off, ea, fun i hi => ?_⟩
    have hb1 := hc i hi
    rw [List.length_map] at hi
    rw [List.getElem?_map, List.getElem?_eq_getElem hi, Option.map_some] at hb1 ⊢
    have hlt := cell_lt hb1
    have hne : some blk ≠ v.ownBlock := by
      intro eo
      unfold World.cell? at hb1
      cases hh : w.heap[blk]? with
      | none => rw [hh] at hb1; cases hb1
      | some o =>
        rw [hh] at hb1
        cases o with
        | cells cur t fr =>
          have hq : cur[off + i]? = some (.int .u32 (L[i] : Int)) := hb1
          have hm : (Value.int .u32 (L[i] : Int)) ∈ cur.toList := by
            rw [← Array.getElem?_toList] at hq
            exact List.mem_of_getElem? hq
          exact nf blk eo.symm cur t fr hh _ hm _ rfl
        | _ => cases hb1
    rw [← hb1]
    exact World.cell?_of_block (w := w) (w' := w') (a := ⟨blk, off + i, none⟩) (hg.block blk hlt hne)
theorem Dq.grown {w w' : World} {u v : Value} {q : Rat} {B : Nat} (h : Dq w u q B) (hg : w.grownBy w' v.ownBlock) (nf : NoW w v) : Dq w' u q B := by
  obtain ⟨s, m, e, ⟨a, n, cap, h1, ⟨L, ⟨k1, k2⟩, k3⟩, h3⟩, h2⟩ := h
  exact ⟨s, m, e, ⟨a, n, cap, h1, ⟨L, ⟨k1, k2.grownW hg nf⟩, k3⟩, h3⟩, h2⟩
theorem mem_zeroCellsQ {z : Array Value} {n : Nat} {u : Value} (h : u ∈ (Builtin.zeroCells z n).toList) : u ∈ z.toList := by
  unfold Builtin.zeroCells at h
  rw [Array.toList_map, List.mem_map] at h
  obtain ⟨i, hi, rfl⟩ := h
  have hi2 : i < n * z.size := by simpa using hi
  have hz : 0 < z.size := by
    cases hs : z.size with
    | zero => rw [hs] at hi2; omega
    | succ k => omega
  have hlt := Nat.mod_lt i hz
  rw [getElem!_pos z (i % z.size) hlt]
  exact Array.mem_toList_iff.2 (Array.getElem_mem hlt)

/-- append to what is one's own, in a block without digits -/
theorem run_append_NW (w : World) (base : Nat) (t ty e : TypeId) (i : TypeInfo) (z : Value) (size bytes : Nat) (ht : Tryz.prog.underlying t = some (.slice e)) (hi : Tryz.prog.info? e = some i) (hz : i.zero = some z)
    (hsize : i.size = size) (hby : i.bytes = bytes) (hzs : z.cells.size = size) (hsz : 0 < size)
    (v : Value) (n : Nat) (xs : List Value) (hown : w.ownsRow base e size v n xs) (nf : NoW w v) (nz : ∀ u ∈ z.cells.toList, ∀ x, u ≠ .int .u32 x)
    (a : Addr) (m c : Nat) (news : List Value) (hl : news.length = m * size) (hnews : ∀ j u, news[j]? = some u → w.cell? (a.add j) = some u) (h1 : ∀ u ∈ news, u.oneCell' = true) (nn : ∀ u ∈ news, ∀ x, u ≠ .int .u32 x)
    (h63 : n + m ≤ 1000) (hbytes : (n + m) * bytes ≤ 140737488355328) (hbase : base ≤ w.heap.size) :
    ∃ v' w', (Builtin.append_ #[t, t] ty #[v, .slice (some a) m c]).run Tryz.prog w = .ok v' w' ∧ w'.ownsRow base e size v' (n + m) (xs ++ news) ∧ w.grownBy w' v.ownBlock ∧ NoW w' v' := by
  obtain ⟨v', w', hr, ho, hg, h4⟩ := run_append_own (P := Tryz.prog) w base t ty e i z size bytes ht hi hz hsize hby hzs hsz v n xs hown a m c news hl hnews h1 (by unfold maxLen; omega) hbytes hbase
  refine ⟨v', w', hr, ho, hg, ?_⟩
  subst hsize
  subst hby
  have hfresh : ∀ (cells : Array Value) (W : World) (k : Nat) (q q2 : Nat), (∀ u ∈ cells.toList, ∀ x, u ≠ .int .u32 x) → k = W.heap.size → NoW (W.alloc (.cells cells e)) (.slice (some ⟨k, 0, none⟩) q q2) := by
    intro cells W k q q2 hc hk g hg cur t fr hh
    subst hk
    cases hg
    rw [World.alloc_heap_new] at hh
    cases hh
    exact hc
  rcases hown.2 with ⟨rfl, rfl⟩ | ⟨g, cap, cur, rfl, hbg, hgc, hnc, hcm, hcs, htake⟩
  · have hx : xs = [] := List.eq_nil_of_length_eq_zero (by simpa using hown.1)
    by_cases hm : m = 0
    · rw [h4.2 ⟨rfl, hm⟩]
      exact noW_nil _
    · have hr2 := run_append_nil (P := Tryz.prog) w t ty e i z ht hi hz a m c news hl hnews (by omega) (by omega) (by rw [Nat.zero_add] at hbytes; omega)
      rw [hr2] at hr
      cases hr
      refine hfresh _ _ _ _ _ ?_ (by simp)
      intro u hu
      rw [Array.toList_append, List.mem_append] at hu
      rcases hu with hu | hu
      · exact nn u (by simpa using hu)
      · exact nz u (mem_zeroCellsQ hu)
  · by_cases hroom : n + m ≤ cap
    · have hfit : n * i.size + news.length ≤ cur.size := by rw [hl, hcs, ← Nat.add_mul]; exact Nat.mul_le_mul_right _ hroom
      have hr2 := run_append_room (P := Tryz.prog) w t ty e i ht hi g n cap cur hgc a m c news hl hnews h1 hroom hfit
      rw [hr2] at hr
      cases hr
      intro k hk cur2 t2 fr2 hh
      cases hk
      rw [setRow_heap w g _ _ _ _ hgc] at hh
      cases hh
      intro u hu x
      have hcur := nf g rfl cur e (0, 0) hgc
      simp only [List.mem_append] at hu
      rcases hu with (hu | hu) | hu
      · exact hcur u (List.mem_of_mem_take hu) x
      · exact nn u hu x
      · exact hcur u (List.mem_of_mem_drop hu) x
    · have holds : ∀ j u, xs[j]? = some u → w.cell? ((⟨g, 0, none⟩ : Addr).add j) = some u := hown.cells (g := g) rfl
      have hr2 := run_append_grow (P := Tryz.prog) w t ty e i z ht hi hz ⟨g, 0, none⟩ n cap xs hown.1 holds a m c news hl hnews (by omega) (by omega) (by
        have := nextslicecap_le (need := n + m) (old := cap) (by omega)
        have h2 := Nat.mul_le_mul_right i.bytes this
        have h3 : 2 * (n + m) * i.bytes = 2 * ((n + m) * i.bytes) := Nat.mul_assoc _ _ _
        omega)
      rw [hr2] at hr
      cases hr
      refine hfresh _ _ _ _ _ ?_ (by simp)
      intro u hu x
      rw [Array.toList_append, Array.toList_append, List.mem_append, List.mem_append] at hu
      rcases hu with (hu | hu) | hu
      · have hu2 : u ∈ xs := by simpa using hu
        rw [← htake] at hu2
        exact nf g rfl cur e (0, 0) hgc u (List.mem_of_mem_take hu2) x
      · exact nn u (by simpa using hu) x
      · exact nz u (mem_zeroCellsQ hu) x

/-- a list of dyads of one's own -/
def OwnQ (w : World) (B : Nat) (v : Value) (qs : List Rat) (D : Nat) : Prop :=
  ∃ cs, w.ownsRow B 53 3 v qs.length cs ∧ NoW w v ∧ ∀ i, i < qs.length → ∃ (s : Bool) (b : Option Addr) (n c : Nat) (e : Int), cs[i * 3]? = some (.bool s) ∧ cs[i * 3 + 1]? = some (.slice b n c) ∧
    cs[i * 3 + 2]? = some (.int .i64 e) ∧ Dq w (.agg #[.bool s, .slice b n c, .int .i64 e]) (qs.getD i 0) D
theorem ownQ_nil (w : World) (B D : Nat) : OwnQ w B (.slice none 0 0) [] D := ⟨[], World.ownsRow_nil _ _ _ _, noW_nil _, fun _ hi => absurd hi (Nat.not_lt_zero _)⟩
theorem q_owns_lt {w : World} {B : Nat} {e : TypeId} {sz n : Nat} {v : Value} {cs : List Value} (h : w.ownsRow B e sz v n cs) : ∀ g, v.ownBlock = some g → B ≤ g ∧ g < w.heap.size := by
  intro g hg
  rcases h.2 with ⟨rfl, _⟩ | ⟨g', cap, cur, rfl, h2, h3, _⟩
  · cases hg
  · cases hg
    exact ⟨h2, (Array.getElem?_eq_some_iff.1 h3).1⟩
theorem q_owns_below {w w' : World} {B C : Nat} {e : TypeId} {sz n : Nat} {v : Value} {cs : List Value} (h : w.ownsRow B e sz v n cs) (hb : Below C w w') (hC : w.heap.size ≤ C) : w'.ownsRow B e sz v n cs := by
  refine ⟨h.1, ?_⟩
  rcases h.2 with h0 | ⟨g, cap, cur, h1, h2, h3, h4⟩
  · exact .inl h0
  · have : g < w.heap.size := (Array.getElem?_eq_some_iff.1 h3).1
    exact .inr ⟨g, cap, cur, h1, h2, by rw [hb.block g (by omega)]; exact h3, h4⟩
theorem OwnQ.base {w : World} {B D : Nat} {v : Value} {qs : List Rat} (h : OwnQ w B v qs D) (k : Nat) (hk : v.ownBlock = some k) : B ≤ k := by
  obtain ⟨cs, h1, _⟩ := h
  exact (q_owns_lt h1 k hk).1
theorem OwnQ.below {w w' : World} {B D : Nat} {v : Value} {qs : List Rat} (h : OwnQ w B v qs D) (hb : Below w.heap.size w w') : OwnQ w' B v qs D := by
  obtain ⟨cs, h1, h2, h3⟩ := h
  refine ⟨cs, q_owns_below h1 hb (Nat.le_refl _), h2.below hb (Nat.le_refl _) (fun g hg => (q_owns_lt h1 g hg).2), fun i hi => ?_⟩
  obtain ⟨s, b, n, c, e, k1, k2, k3, k4⟩ := h3 i hi
  exact ⟨s, b, n, c, e, k1, k2, k3, k4.below hb⟩
theorem OwnQ.mono {w : World} {B D D' : Nat} {v : Value} {qs : List Rat} (h : OwnQ w B v qs D) (hD : D ≤ D') : OwnQ w B v qs D' := by
  obtain ⟨cs, h1, h2, h3⟩ := h
  refine ⟨cs, h1, h2, fun i hi => ?_⟩
  obtain ⟨s, b, n, c, e, k1, k2, k3, k4⟩ := h3 i hi
  exact ⟨s, b, n, c, e, k1, k2, k3, k4.mono hD⟩
theorem OwnQ.monoB {w : World} {B B' D : Nat} {v : Value} {qs : List Rat} (h : OwnQ w B v qs D) (hB : B' ≤ B) : OwnQ w B' v qs D := by
  obtain ⟨cs, h1, h2, h3⟩ := h
  refine ⟨cs, ⟨h1.1, ?_⟩, h2, h3⟩
  rcases h1.2 with h0 | ⟨g, cap, cur, q1, q2, q3⟩
  · exact .inl h0
  · exact .inr ⟨g, cap, cur, q1, Nat.le_trans hB q2, q3⟩
theorem OwnQ.form {w : World} {B D : Nat} {v : Value} {qs : List Rat} (h : OwnQ w B v qs D) : ∃ a cap, v = .slice a qs.length cap ∧ qs.length ≤ cap ∧ cap ≤ 9223372036854775807 := by
  obtain ⟨cs, h1, h2, h3⟩ := h
  rcases h1.2 with ⟨rfl, h0⟩ | ⟨g, cap, cur, rfl, _, _, q1, q2, _⟩
  · exact ⟨none, 0, by rw [h0], by omega, by omega⟩
  · unfold maxLen at q2
    exact ⟨_, cap, rfl, q1, by omega⟩
theorem OwnQ.dql {w : World} {B D : Nat} {v : Value} {qs : List Rat} (h : OwnQ w B v qs D) : DqL w v qs D := by
  obtain ⟨cs, h1, h2, h3⟩ := h
  rcases id h1.2 with ⟨rfl, h0⟩ | ⟨g, cap, cur, rfl, _, _, q1, q2, _⟩
  · exact ⟨none, 0, by rw [h0], by omega, by unfold maxLen; omega, .inl h0⟩
  · refine ⟨_, cap, rfl, q1, q2, .inr ⟨g, 0, rfl, fun i hi => ?_⟩⟩
    obtain ⟨s, b, n, c, e, k1, k2, k3, k4⟩ := h3 i hi
    refine ⟨s, b, n, c, e, ?_, ?_, ?_, k4⟩
    · rw [Nat.zero_add, h1.cellAt (i * 3) (by omega)]; exact k1
    · rw [Nat.zero_add, h1.cellAt (i * 3 + 1) (by omega)]; exact k2
    · rw [Nat.zero_add, h1.cellAt (i * 3 + 2) (by omega)]; exact k3
theorem DqL.at {w : World} {a : Option Addr} {n cap : Nat} {qs : List Rat} {D : Nat} (h : DqL w (.slice a n cap) qs D) (hn : 0 < n) : ∃ blk off, a = some ⟨blk, off, none⟩ ∧ ∀ i, i < n →
    ∃ (s : Bool) (b : Option Addr) (m c : Nat) (e : Int), w.cell? ⟨blk, off + i * 3, none⟩ = some (.bool s) ∧ w.cell? ⟨blk, off + i * 3 + 1, none⟩ = some (.slice b m c) ∧ w.cell? ⟨blk, off + i * 3 + 2, none⟩ = some (.int .i64 e) ∧ Dq w (.agg #[.bool s, .slice b m c, .int .i64 e]) (qs.getD i 0) D := by
  obtain ⟨a', cap', hv, h1, h2, h3⟩ := h
  simp only [Value.slice.injEq] at hv
  obtain ⟨rfl, rfl, rfl⟩ := hv
  rcases h3 with h3 | h3
  · omega
  · exact h3
theorem infoQ : (Tryz.prog.info? 53).map (fun i => (i.zero, i.size, i.bytes)) = some (some (.agg #[.bool false, .slice none 0 0, .int .i64 0]), 3, 40) := by kernel_rfl
theorem dql_cells {W : World} {ad : Addr} {m c : Nat} {qs : List Rat} {D : Nat} (h : DqL W (.slice (some ad) m c) qs D) : ∀ j, j < m * 3 → ∃ u, W.cell? (ad.add j) = some u ∧ u.oneCell' = true ∧ ∀ x, u ≠ .int .u32 x := by
  intro j hj
  obtain ⟨blk, off, e, hc⟩ := h.at (by omega)
  cases e
  obtain ⟨s, b, mm, d, e, k1, k2, k3, _⟩ := hc (j / 3) (by omega)
  have ea : (⟨blk, off, none⟩ : Addr).add j = ⟨blk, off + j, none⟩ := by unfold Addr.add; by_cases e : j = 0 <;> simp [e]
  rw [ea]
  have hr : j % 3 = 0 ∨ j % 3 = 1 ∨ j % 3 = 2 := by omega
  rcases hr with hr | hr | hr
  · rw [show off + j = off + j / 3 * 3 by omega]; exact ⟨_, k1, rfl, fun x e => by cases e⟩
  · rw [show off + j = off + j / 3 * 3 + 1 by omega]; exact ⟨_, k2, rfl, fun x e => by cases e⟩
  · rw [show off + j = off + j / 3 * 3 + 2 by omega]; exact ⟨_, k3, rfl, fun x e => by cases e⟩
theorem run_append_QQ (w : World) (ty : TypeId) (B D : Nat) (v : Value) (Fs Gs : List Rat) (hown : OwnQ w B v Fs D) (ad : Addr) (m c : Nat) (hG : DqL w (.slice (some ad) m c) Gs D)
    (b1 : Fs.length + Gs.length ≤ 1000) (b3 : B ≤ w.heap.size) :
    ∃ v' w', (Builtin.append_ #[32, 32] ty #[v, .slice (some ad) m c]).run Tryz.prog w = .ok v' w' ∧ OwnQ w' B v' (Fs ++ Gs) D ∧ w.grownBy w' v.ownBlock := by
  obtain ⟨i0, hin, hz0, hz1, hz2⟩ := info_parts infoQ
  obtain ⟨cs, h1, nf, h3⟩ := hown
  have hm := hG.len.1
  have hcl := h1.1
  have FC := dql_cells hG
  obtain ⟨news, hnews⟩ : ∃ news : List Value, news = (List.range (m * 3)).map fun j => (w.cell? (ad.add j)).getD undef := ⟨_, rfl⟩
  have hnl : news.length = m * 3 := by rw [hnews]; simp
  have hat : ∀ j, j < m * 3 → news[j]? = w.cell? (ad.add j) := by
    intro j hj
    obtain ⟨u, hu, _⟩ := FC j hj
    rw [hnews, List.getElem?_map, List.getElem?_range hj, hu]
    simp [hu]
  have hmem : ∀ u ∈ news, u.oneCell' = true ∧ ∀ x, u ≠ .int .u32 x := by
    intro u hu
    obtain ⟨j, hj, rfl⟩ := List.getElem_of_mem hu
    rw [hnl] at hj
    obtain ⟨u', hu', h5⟩ := FC j hj
    have h6 := hat j hj
    rw [List.getElem?_eq_getElem (by rw [hnl]; exact hj), hu'] at h6
    rw [Option.some.inj h6]
    exact h5
  clear hnews
  obtain ⟨v', w', hr, ho, hgr, nf'⟩ := run_append_NW w B 32 ty 53 i0 _ 3 40 Tryz.underlying32 hin hz0 hz1 hz2 rfl (by decide) v Fs.length cs h1 nf (by
    intro u hu x e
    subst e
    simp [Value.cells] at hu) ad m c news hnl (by
    intro j u hu
    have hj : j < m * 3 := by rw [← hnl]; exact (List.getElem?_eq_some_iff.1 hu).1
    rw [← hat j hj]; exact hu) (fun u hu => (hmem u hu).1) (fun u hu => (hmem u hu).2) (by omega) (by omega) b3
  have hres : OwnQ w' B v' (Fs ++ Gs) D := by
    refine ⟨cs ++ news, by rw [List.length_append, hm]; exact ho, nf', fun i hi => ?_⟩
    rw [List.length_append, hm] at hi
    by_cases hlt : i < Fs.length
    · obtain ⟨s, b, mm, d, ee, k1, k2, k3, k5⟩ := h3 i hlt
      have e : (Fs ++ Gs).getD i 0 = Fs.getD i 0 := by rw [List.getD_eq_getElem?_getD, List.getElem?_append_left hlt, List.getD_eq_getElem?_getD]
      rw [e]
      exact ⟨s, b, mm, d, ee, by rw [List.getElem?_append_left (by omega)]; exact k1, by rw [List.getElem?_append_left (by omega)]; exact k2, by rw [List.getElem?_append_left (by omega)]; exact k3, k5.grown hgr nf⟩
    · obtain ⟨q, rfl⟩ : ∃ q, i = Fs.length + q := ⟨i - Fs.length, by omega⟩
      have e : (Fs ++ Gs).getD (Fs.length + q) 0 = Gs.getD q 0 := by rw [List.getD_eq_getElem?_getD, List.getElem?_append_right (by omega), Nat.add_sub_cancel_left, List.getD_eq_getElem?_getD]
      rw [e]
      obtain ⟨blk, off, e2, hc⟩ := hG.at (by omega)
      cases e2
      obtain ⟨s, b, mm, d, ee, k1, k2, k3, k5⟩ := hc q (by omega)
      have ea : ∀ j, (⟨blk, off, none⟩ : Addr).add j = ⟨blk, off + j, none⟩ := by intro j; unfold Addr.add; by_cases e : j = 0 <;> simp [e]
      refine ⟨s, b, mm, d, ee, ?_, ?_, ?_, k5.grown hgr nf⟩
      · rw [List.getElem?_append_right (by omega), hcl, show (Fs.length + q) * 3 - Fs.length * 3 = q * 3 by omega, hat _ (by omega), ea]; exact k1
      · rw [List.getElem?_append_right (by omega), hcl, show (Fs.length + q) * 3 + 1 - Fs.length * 3 = q * 3 + 1 by omega, hat _ (by omega), ea]; exact k2
      · rw [List.getElem?_append_right (by omega), hcl, show (Fs.length + q) * 3 + 2 - Fs.length * 3 = q * 3 + 2 by omega, hat _ (by omega), ea]; exact k3
  exact ⟨v', w', hr, hres, hgr⟩
theorem wpList_append_QQ (w : World) {ops : Array Oper} {rest : List Oper} {o : Oper} {a : Act} {Q : Exit → Act → World → Prop}
    (hgd : o.guard = none) (s x : Operand) (hop : o.op = Op.call { callee := Callee.builtin Builtin.append, args := #[s, x], argTypes := #[32, 32] })
    (B D : Nat) (v : Value) (Fs Gs : List Rat) (hs : a.eval s = v) (hown : OwnQ w B v Fs D) (ad : Addr) (m c : Nat) (hx : a.eval x = .slice (some ad) m c) (hG : DqL w (.slice (some ad) m c) Gs D)
    (b1 : Fs.length + Gs.length ≤ 1000) (b3 : B ≤ w.heap.size)
    (hK : ∀ v' w', OwnQ w' B v' (Fs ++ Gs) D → w.grownBy w' v.ownBlock → wpList Tryz.prog ops Q rest (a.put o.dst v') w') :
    wpList Tryz.prog ops Q (o :: rest) a w := by
  refine wpList_plain hgd fun K hK' => ?_
  obtain ⟨v', w', hr, h2, h3⟩ := run_append_QQ w o.type B D v Fs Gs hown ad m c hG b1 b3
  unfold Oper.wp execOp
  simp only [hop, resolve, invoke, builtin, Sem.run_bind, Sem.run_pure, Result.andThen_ok, List.map_toArray, List.map_cons, List.map_nil, hs, hx, hr]
  exact hK' _ _ (hK v' w' h2 h3)
theorem step_append_QQ {w : World} {ops : Array Oper} {o : Oper} {a : Act} {K : Act → World → Prop} {Q : Exit → Act → World → Prop} {E : Prop} (hgd : o.guard = none) (s x : Operand)
    (hop : o.op = Op.call { callee := Callee.builtin Builtin.append, args := #[s, x], argTypes := #[32, 32] })
    (B D : Nat) (v : Value) (Fs Gs : List Rat) (hs : a.eval s = v) (hown : OwnQ w B v Fs D) (ad : Addr) (m c : Nat) (hx : a.eval x = .slice (some ad) m c) (hG : DqL w (.slice (some ad) m c) Gs D)
    (b1 : Fs.length + Gs.length ≤ 1000) (b3 : B ≤ w.heap.size)
    (hK : ∀ v' w', OwnQ w' B v' (Fs ++ Gs) D → w.grownBy w' v.ownBlock → K (a.put o.dst v') w') :
    if Region.wanted o (yielded ops a.tmps) = true then Oper.wp Tryz.prog o a w K Q else E := by
  have hw : Region.wanted o (yielded ops a.tmps) = true := by simp [Region.wanted, hgd]
  rw [if_pos hw]
  obtain ⟨v', w', hr, h2, h3⟩ := run_append_QQ w o.type B D v Fs Gs hown ad m c hG b1 b3
  unfold Oper.wp execOp
  simp only [hop, resolve, invoke, builtin, Sem.run_bind, Sem.run_pure, Result.andThen_ok, List.map_toArray, List.map_cons, List.map_nil, hs, hx, hr]
  exact hK v' w' h2 h3
theorem dql_new {W : World} {q : Rat} {D : Nat} {s : Bool} {b : Option Addr} {m d g : Nat} {e : Int} (h : Dq W (.agg #[.bool s, .slice b m d, .int .i64 e]) q D) (hg : g = W.heap.size) :
    DqL (W.alloc (.cells #[.bool s, .slice b m d, .int .i64 e] 53)) (.slice (some ⟨g, 0, none⟩) 1 1) [q] D := by
  subst hg
  refine ⟨_, _, rfl, Nat.le_refl _, by unfold maxLen; simp, .inr ⟨_, _, rfl, fun i hi => ?_⟩⟩
  obtain rfl : i = 0 := by simp at hi; omega
  exact ⟨s, b, m, d, e, by simp [go_sem], by simp [go_sem], by simp [go_sem], h.below ((Below.refl _ _).alloc (Nat.le_refl _) _)⟩
end Go.Proofs.YtmmligbkecilfaaGreatDoor
