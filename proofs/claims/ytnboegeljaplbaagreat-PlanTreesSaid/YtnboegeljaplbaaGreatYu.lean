/- What a plan comes to: the program's Run. Counts: two cells in memory; what may be; what a plan's counts lay and join. What a plan's counts join. A plan's play with counts. What a plan's counts come to: the program's Counts. A stack of factors laid anew: appending inside a statement that draws its order. What a plan comes to: the reference's Run. What a plan's counts come to: the reference's Counts. What a plan's counts come to: the reference's Counts, walked. Layer 14's own examples, walked. -/
import Derived.Test.YtnboegeljaplbaaGreatYk
import Derived.Test.YtnboegeljaplbaaGreatMh
import Derived.Test.YtnboegeljaplbaaGreatYh
import Derived.Test.YtnboegeljaplbaaGreatMj
import Derived.Deep.DrawnRows
namespace Go.Proofs.YtnboegeljaplbaaGreat
open Go.RowKit Lv Go.Shelf
attribute [local go_sem] Oper.semAt_some run_store_float drewN_alloc drewN_setCell

set_option maxRecDepth 100000 in
set_option maxHeartbeats 1000000 in
theorem prun_calls (l : List Int) (a : Option Addr) (n cap : Nat) (Fs : List FacD) (sa : Option Addr) (sn sc : Nat) (w : World) (h : LI w (.slice a n cap) l) (hl : l.length ≤ 100) (hs : Fcs w (.slice sa sn sc) Fs) :
    Calls Tryz.prog 8 #[.slice a n cap, .slice sa sn sc] w fun e w' => FacE (runD l Fs) e w' ∧ Below w.heap.size w w' := by
  obtain ⟨s1, s2, s3⟩ := hs.len
  subst s1
  have H := Lib.hid h
  have HL := Lib.hid hl
  have HS := Lib.hid hs
  have B1 := Lib.hid (((Below.refl w.heap.size w).alloc (Nat.le_refl _) (.cells #[.slice sa Fs.length sc] 23)).alloc (by simp) (.cells #[.int .i64 0, .slice none 0 0, .int .i64 0, .int .i64 0] 28))
  have C1 := Lib.hid (show Cells4 ((w.alloc (.cells #[.slice sa Fs.length sc] 23)).alloc (.cells #[.int .i64 0, .slice none 0 0, .int .i64 0, .int .i64 0] 28)) (w.heap.size + 1) (.int .i64 0) (.slice none 0 0) (.int .i64 0) (.int .i64 0) from by
    have := Cells4.new (w.alloc (.cells #[.slice sa Fs.length sc] 23)) (.int .i64 0) (.slice none 0 0) (.int .i64 0) (.int .i64 0) 28
    simpa using this)
  have HC := Lib.hid (pcheck_calls a n cap Fs.length l _ (H.out.below B1.out) HL.out)
  clear h hl hs
  by_cases c : pcheckD l Fs.length = 0
  · have hR : runD l Fs = playD fac0 (layF Fs) twoD l [] := by unfold runD; rw [if_neg (by simpa using c)]
    rw [hR]
    have HP := Lib.hid (fun W h hs bs hc => playF_calls l a n cap Fs sa Fs.length sc bs W h HL.out hs hc c)
    rw [c] at HC
    clear hR c
    generalize playD fac0 (layF Fs) twoD l [] = R at *
    obtain ⟨⟨gc, gx, gr, gt⟩, ge⟩ := R
    go_enter Tryz.func8, Tryz.ntmps8
    go_wp2_with (first
      | (go_at_call 21; go_must (refine HC.out.mono ?_; rintro e w1 ⟨rfl, hb1⟩; have BL := Lib.hid (B1.out.trans (hb1.mono (by simp; omega))); have E1 := Lib.hid (C1.out.below hb1); have q0 := (hb1.cell (p := ⟨w.heap.size, 0, none⟩) (by simp; omega)).trans (show _ = some (.slice sa Fs.length sc) by simp [go_sem]); have hz1 := hb1.size; simp at hz1; clear hb1))
      | (go_at_call 29; go_must (refine (HP.out _ (H.out.below BL.out) (HS.out.below BL.out) _ q0).mono ?_; rintro e w2 ⟨⟨ga, gn, gcp, rfl, hrow⟩, hb2⟩; have E2 := Lib.hid (E1.out.below hb2); obtain ⟨m0, m1, m2, m3, n0, n1, n2, n3⟩ := E2.out; have HRW := Lib.hid hrow; have BL2 := Lib.hid (BL.out.trans (hb2.mono BL.out.size)); have hz3 := E2.out.lt; clear hrow hb2)))
    have P4 := E2.out.put (.int .i64 gc) (.slice ga gn gcp) (.int .i64 gr) (.int .i64 gt)
    exact bodyPost_ret (v := .tuple #[.agg #[.int .i64 gc, .slice ga gn gcp, .int .i64 gr, .int .i64 gt], .int .i64 ge]) (by simp [results, Tryz.results8, go_sem, P4.c0, P4.c1, P4.c2, P4.c3]) rfl ⟨⟨ga, gn, gcp, rfl, HRW.out.put4 E2.out slice_ne _ _ _ _⟩, below_put4 BL2.out (Nat.le_succ _) _ _ _ _⟩
  · have hR : runD l Fs = (fac0, 10) := by unfold runD; rw [if_pos (by simpa using c)]
    rw [hR]
    have hc10 : pcheckD l Fs.length = 10 := by
      unfold pcheckD at c ⊢
      split <;> simp_all
    rw [hc10] at HC
    clear hR c hc10
    go_enter Tryz.func8, Tryz.ntmps8
    go_wp2_with (go_at_call 21; go_must (refine HC.out.mono ?_; rintro e w1 ⟨rfl, hb1⟩; have BL := Lib.hid (B1.out.trans (hb1.mono (by simp; omega))); have E1 := Lib.hid (C1.out.below hb1); obtain ⟨m0, m1, m2, m3, n0, n1, n2, n3⟩ := E1.out; have hz3 := E1.out.lt; clear hb1))
    have P4 := E1.out.put (.int .i64 0) (.slice none 0 0) (.int .i64 0) (.int .i64 0)
    exact bodyPost_ret (v := .tuple #[facZ, .int .i64 10]) (by simp [results, Tryz.results8, go_sem, facZ, P4.c0, P4.c1, P4.c2, P4.c3]) rfl ⟨facE_no _ rfl, below_put4 BL.out (Nat.le_succ _) _ _ _ _⟩
end Go.Proofs.YtnboegeljaplbaaGreat
namespace Go.Proofs.YtnboegeljaplbaaGreat
open Go.RowKit Lv Go.Shelf
attribute [local go_sem high] run_maxI

attribute [local go_sem] Oper.semAt_some drewN_alloc drewN_setCell

/-- two cells -/
structure Cells2 (W : World) (b : Nat) (u0 u1 : Value) : Prop where
  c0 : W.cell? ⟨b, 0, none⟩ = some u0
  c1 : W.cell? ⟨b, 1, none⟩ = some u1
  f0 : W.frozen? ⟨b, 0, none⟩ = false
  f1 : W.frozen? ⟨b, 1, none⟩ = false
theorem Cells2.lt {W : World} {b : Nat} {u0 u1 : Value} (h : Cells2 W b u0 u1) : b < W.heap.size := cell_lt h.c0
theorem Cells2.below {W W' : World} {b : Nat} {u0 u1 : Value} (h : Cells2 W b u0 u1) (hb : Below W.heap.size W W') : Cells2 W' b u0 u1 :=
  ⟨(hb.cell (p := ⟨b, 0, none⟩) h.lt).trans h.c0, (hb.cell (p := ⟨b, 1, none⟩) h.lt).trans h.c1, (hb.frozen (p := ⟨b, 0, none⟩) h.lt).trans h.f0, (hb.frozen (p := ⟨b, 1, none⟩) h.lt).trans h.f1⟩
theorem Cells2.new (w : World) (u0 u1 : Value) (t : TypeId) : Cells2 (w.alloc (.cells #[u0, u1] t)) w.heap.size u0 u1 := ⟨by simp [go_sem], by simp [go_sem], by simp [go_sem], by simp [go_sem]⟩
theorem Cells2.alloc {W : World} {b : Nat} {u0 u1 : Value} (h : Cells2 W b u0 u1) (o : Obj) : Cells2 (W.alloc o) b u0 u1 := h.below ((Below.refl _ _).alloc (Nat.le_refl _) _)
theorem Cells2.grown {W W' : World} {b : Nat} {u0 u1 : Value} {row : Option Nat} (h : Cells2 W b u0 u1) (hg : W.grownBy W' row) (hne : some b ≠ row) : Cells2 W' b u0 u1 := by
  have hb := hg.block b h.lt hne
  exact ⟨(World.cell?_of_block (w := W) (a := ⟨b, 0, none⟩) hb).trans h.c0, (World.cell?_of_block (w := W) (a := ⟨b, 1, none⟩) hb).trans h.c1, (World.frozen?_of_block (w := W) (a := ⟨b, 0, none⟩) hb).trans h.f0, (World.frozen?_of_block (w := W) (a := ⟨b, 1, none⟩) hb).trans h.f1⟩
theorem Cells2.put {W : World} {b : Nat} {u0 u1 : Value} (h : Cells2 W b u0 u1) (v0 v1 : Value) : Cells2 ((W.setCell ⟨b, 0, none⟩ v0).setCell ⟨b, 1, none⟩ v1) b v0 v1 :=
  ⟨cell_set_off (cell_set_eq h.c0) (by decide), cell_set_eq (cell_set_off h.c1 (by decide)), frozen_set (frozen_set h.f0), frozen_set (frozen_set h.f1)⟩
theorem Cells2.put_other {W : World} {b b' : Nat} {u0 u1 : Value} (h : Cells2 W b u0 u1) (hne : b' ≠ b) (v0 v1 : Value) : Cells2 ((W.setCell ⟨b', 0, none⟩ v0).setCell ⟨b', 1, none⟩ v1) b u0 u1 :=
  ⟨cell_set_ne (cell_set_ne h.c0 hne) hne, cell_set_ne (cell_set_ne h.c1 hne) hne, frozen_set (frozen_set h.f0), frozen_set (frozen_set h.f1)⟩
theorem below_put2 {w W : World} {b : Nat} (h : Below w.heap.size w W) (hb : w.heap.size ≤ b) (u0 u1 : Value) : Below w.heap.size w ((W.setCell ⟨b, 0, none⟩ u0).setCell ⟨b, 1, none⟩ u1) :=
  (h.setCell (p := ⟨b, 0, none⟩) hb _).setCell (p := ⟨b, 1, none⟩) hb _

theorem pcmay_calls (r t : Int) (w : World) : Calls Tryz.prog 59 #[.agg #[.int .i64 r, .int .i64 t]] w fun e w' => e = .returned (.bool (cntOk (r, t))) ∧ Below w.heap.size w w' := by
  have HB := (Below.refl w.heap.size w).alloc (Nat.le_refl _) (.cells #[.int .i64 r, .int .i64 t] 102)
  by_cases c1 : 0 ≤ r
  · by_cases c2 : r ≤ 200
    · by_cases c3 : 0 ≤ t
      · by_cases c4 : t ≤ 4096
        · have e : cntOk (r, t) = true := by unfold cntOk; simp; omega
          rw [e]
          go_enter Tryz.func59, Tryz.ntmps59
          go_wp2
          go_ret
          exact ⟨rfl, HB⟩
        · have e : cntOk (r, t) = false := by unfold cntOk; simp; omega
          rw [e]
          go_enter Tryz.func59, Tryz.ntmps59
          go_wp2
          go_ret
          exact ⟨rfl, HB⟩
      · have e : cntOk (r, t) = false := by unfold cntOk; simp; omega
        rw [e]
        go_enter Tryz.func59, Tryz.ntmps59
        go_wp2
        go_ret
        exact ⟨rfl, HB⟩
    · have e : cntOk (r, t) = false := by unfold cntOk; simp; omega
      rw [e]
      go_enter Tryz.func59, Tryz.ntmps59
      go_wp2
      go_ret
      exact ⟨rfl, HB⟩
  · have e : cntOk (r, t) = false := by unfold cntOk; simp; omega
    rw [e]
    go_enter Tryz.func59, Tryz.ntmps59
    go_wp2
    go_ret
    exact ⟨rfl, HB⟩

set_option maxRecDepth 100000 in
set_option maxHeartbeats 1000000 in
theorem pcounts1_calls (i : Nat) (rs ts : List Int) (ra ta : Option Addr) (rn rc tn tc b1 b2 : Nat) (w : World) (hr : LI w (.slice ra rn rc) rs) (ht : LI w (.slice ta tn tc) ts) (h1 : w.cell? ⟨b1, 0, none⟩ = some (.slice ra rn rc)) (h2 : w.cell? ⟨b2, 0, none⟩ = some (.slice ta tn tc)) (hi : i < rn) (hi2 : i < tn) :
    Calls Tryz.prog 60 #[.int .i64 (i : Int), .pointer (some ⟨b1, 0, none⟩), .pointer (some ⟨b2, 0, none⟩)] w fun e w' => e = .returned (.tuple #[.agg #[.int .i64 (rs.getD i 0), .int .i64 (ts.getD i 0)], .int .i64 0]) ∧ Below w.heap.size w w' := by
  obtain ⟨l1, l2, l3⟩ := hr.len
  obtain ⟨k1, k2, k3⟩ := ht.len
  obtain ⟨blk, off, rfl, hc⟩ := hr.at (by omega)
  obtain ⟨blk', off', rfl, hc'⟩ := ht.at (by omega)
  have x1 := hc i hi
  have x2 := hc' i hi2
  have hii : (i : Int) < (rn : Int) := by omega
  have hii2 : (i : Int) < (tn : Int) := by omega
  have B1 := Lib.hid ((Below.refl w.heap.size w).alloc (Nat.le_refl _) (.cells #[.int .i64 0, .int .i64 0] 102)).drew
  have C1 := Lib.hid ((Cells2.new w (.int .i64 0) (.int .i64 0) 102).below (Below.refl _ _).drew)
  have y1 := (B1.out.cell (p := ⟨blk, off + i, none⟩) (cell_lt x1)).trans x1
  have y2 := (B1.out.cell (p := ⟨blk', off' + i, none⟩) (cell_lt x2)).trans x2
  have z1 := (B1.out.cell (p := ⟨b1, 0, none⟩) (cell_lt h1)).trans h1
  have z2 := (B1.out.cell (p := ⟨b2, 0, none⟩) (cell_lt h2)).trans h2
  obtain ⟨m0, m1, n0, n1⟩ := C1.out
  have hlt := C1.out.lt
  clear hr ht h1 h2 hc hc' x1 x2 l1 k1
  generalize rs.getD i 0 = r at *
  generalize ts.getD i 0 = t at *
  go_enter Tryz.func60, Tryz.ntmps60
  go_wp2
  go_region
  all_goals
    go_wp2
    exact bodyPost_ret (v := .tuple #[.agg #[.int .i64 r, .int .i64 t], .int .i64 0]) (by simp [results, Tryz.results60, go_sem]) rfl ⟨rfl, ((Below.refl w.heap.size w).alloc (Nat.le_refl _) _).drew⟩
end Go.Proofs.YtnboegeljaplbaaGreat
namespace Go.Proofs.YtnboegeljaplbaaGreat
open Go.RowKit Lv Go.Shelf
attribute [local go_sem high] run_maxI

attribute [local go_sem] Oper.semAt_some drewN_alloc drewN_setCell

theorem five_keep {W W' : World} {a0 a1 a2 a3 a4 : Addr} {u0 u1 u2 u3 u4 : Value} (e0 : W.cell? a0 = some u0) (e1 : W.cell? a1 = some u1) (e2 : W.cell? a2 = some u2) (e3 : W.cell? a3 = some u3) (e4 : W.cell? a4 = some u4) (hb : Below W.heap.size W W') : W'.cell? a0 = some u0 ∧ W'.cell? a1 = some u1 ∧ W'.cell? a2 = some u2 ∧ W'.cell? a3 = some u3 ∧ W'.cell? a4 = some u4 :=
  ⟨(hb.cell (cell_lt e0)).trans e0, (hb.cell (cell_lt e1)).trans e1, (hb.cell (cell_lt e2)).trans e2, (hb.cell (cell_lt e3)).trans e3, (hb.cell (cell_lt e4)).trans e4⟩
set_option maxRecDepth 100000 in
set_option maxHeartbeats 2000000 in
theorem pcounts2_calls (C r t r' t' : Int) (b3 : Nat) (w : World) (h : w.cell? ⟨b3, 0, none⟩ = some (.int .i64 C)) (hr : 0 ≤ r ∧ r ≤ 200) (hr' : 0 ≤ r' ∧ r' ≤ 200) (ht : 0 ≤ t ∧ t ≤ 4096) (ht' : 0 ≤ t' ∧ t' ≤ 4096) (hC1 : 1 ≤ C) (hC6 : C ≤ 6) :
    Calls Tryz.prog 61 #[.agg #[.int .i64 r, .int .i64 t], .agg #[.int .i64 r', .int .i64 t'], .pointer (some ⟨b3, 0, none⟩)] w fun e w' => e = .returned (.tuple #[.agg #[.int .i64 (cntAdd C (r, t) (r', t')).1.1, .int .i64 (cntAdd C (r, t) (r', t')).1.2], .int .i64 (cntAdd C (r, t) (r', t')).2]) ∧ Below w.heap.size w w' := by
  have hs := sizeI_in hC1 hC6
  have CS := Lib.hid (fun w => cost_calls C w)
  obtain ⟨m, hm⟩ : ∃ m, max t t' = m := ⟨_, rfl⟩
  have hm0 : 0 ≤ m ∧ m ≤ 4096 := by omega
  have hb := cell_lt h
  have HB := Lib.hid ((((Below.refl w.heap.size w).alloc (Nat.le_refl _) (.cells #[.int .i64 r, .int .i64 t] 102)).alloc (by simp) (.cells #[.int .i64 r', .int .i64 t'] 102)).alloc (by simp; omega) (.cells #[.int .i64 0, .int .i64 0] 102))
  have y1 := (HB.out.drew.cell (p := ⟨b3, 0, none⟩) hb).trans h
  unfold cntAdd
  dsimp only
  rw [hm]
  have PM := Lib.hid (fun w => pcmay_calls (r + r') (m + sizeI C) w)
  cases hk : cntOk (r + r', m + sizeI C) with
  | true =>
    rw [hk] at PM
    rw [if_neg (by simp)]
    clear hk
    have hb' : b3 < w.heap.size := hb
    have hb1 : b3 ≠ w.heap.size := by omega
    have hb2 : b3 ≠ w.heap.size + 1 := by omega
    have hb3 : b3 ≠ w.heap.size + 1 + 1 := by omega
    have hw0 : IntKind.i64.wrap (r + r') = r + r' := IntWalk.i64_in _ (by omega)
    have hw1 : IntKind.i64.wrap (m + sizeI C) = m + sizeI C := IntWalk.i64_in _ (by omega)
    generalize sizeI C = sz at *
    have D0 := ((Cells2.new w (.int .i64 r) (.int .i64 t) 102).alloc (.cells #[.int .i64 r', .int .i64 t'] 102)).alloc (.cells #[.int .i64 0, .int .i64 0] 102)
    have D1 : Cells2 (((w.alloc (.cells #[.int .i64 r, .int .i64 t] 102)).alloc (.cells #[.int .i64 r', .int .i64 t'] 102)).alloc (.cells #[.int .i64 0, .int .i64 0] 102)) (w.heap.size + 1) (.int .i64 r') (.int .i64 t') := by
      have := (Cells2.new (w.alloc (.cells #[.int .i64 r, .int .i64 t] 102)) (.int .i64 r') (.int .i64 t') 102).alloc (.cells #[.int .i64 0, .int .i64 0] 102)
      simpa using this
    have D2 : Cells2 (((w.alloc (.cells #[.int .i64 r, .int .i64 t] 102)).alloc (.cells #[.int .i64 r', .int .i64 t'] 102)).alloc (.cells #[.int .i64 0, .int .i64 0] 102)) (w.heap.size + 1 + 1) (.int .i64 0) (.int .i64 0) := by
      have := Cells2.new ((w.alloc (.cells #[.int .i64 r, .int .i64 t] 102)).alloc (.cells #[.int .i64 r', .int .i64 t'] 102)) (.int .i64 0) (.int .i64 0) 102
      simpa using this
    go_enter Tryz.func61, Tryz.ntmps61
    go_wp2
    generalize (((w.alloc (.cells #[.int .i64 r, .int .i64 t] 102)).alloc (.cells #[.int .i64 r', .int .i64 t'] 102)).alloc (.cells #[.int .i64 0, .int .i64 0] 102)) = W0 at *
    have y0 : W0.cell? ⟨b3, 0, none⟩ = some (.int .i64 C) := (HB.out.cell (p := ⟨b3, 0, none⟩) hb).trans h
    have E0 := D0.below (Below.refl _ _).drew
    have E1 := D1.below (Below.refl _ _).drew
    have E2 := Lib.hid (D2.below (Below.refl _ _).drew)
    obtain ⟨p0, p1, _, _⟩ := E0
    obtain ⟨q0, q1, _, _⟩ := E1
    have E3 := (Cells2.new W0 (.int .i64 0) (.int .i64 0) 102).below (Below.refl _ _).drew
    obtain ⟨g0, g1, g2, g3⟩ := E3
    have gl : W0.heap.size < (W0.alloc (.cells #[.int .i64 0, .int .i64 0] 102)).drew.heap.size := by simp
    go_region_held3 (fun w' => w'.cell? ⟨w.heap.size, 0, none⟩ = some (.int .i64 r) ∧ w'.cell? ⟨w.heap.size, 1, none⟩ = some (.int .i64 t) ∧ w'.cell? ⟨w.heap.size + 1, 0, none⟩ = some (.int .i64 r') ∧ w'.cell? ⟨w.heap.size + 1, 1, none⟩ = some (.int .i64 t') ∧ w'.cell? ⟨b3, 0, none⟩ = some (.int .i64 C))
      (first | with_reducible exact five_keep D0.c0 D0.c1 D1.c0 D1.c1 y0 (((Below.refl _ _).alloc (Nat.le_refl _) _).drew) | with_reducible exact five_keep D0.c0 D0.c1 D1.c0 D1.c1 y0 ((Below.refl _ _).drew) | go_keep)
      (first | (go_at_call 62; refine (CS.out _).mono ?_; rintro e w' ⟨rfl, rfl⟩))
    all_goals
      have BA := ((Below.refl W0.heap.size W0).alloc (Nat.le_refl _) (.cells #[.int .i64 (r + r'), .int .i64 (m + sz)] 102)).drew
      have F2 := Lib.hid (D2.below BA)
      have F3 := Lib.hid ((Cells2.new W0 (.int .i64 (r + r')) (.int .i64 (m + sz)) 102).below (Below.refl _ _).drew)
      have F4 := Lib.hid (HB.out.trans (BA.mono HB.out.size))
      go_wp2_with (go_at_call 59; go_must (refine (PM.out _).mono ?_; rintro e w1 ⟨rfl, hb1⟩; have G2 := Lib.hid (F2.out.below hb1); obtain ⟨m0, m1, n0, n1⟩ := G2.out; obtain ⟨o0, o1, _, _⟩ := F3.out.below hb1; have G4 := Lib.hid (F4.out.trans (hb1.mono F4.out.size)); clear hb1))
      have P := G2.out.put (.int .i64 (r + r')) (.int .i64 (m + sz))
      exact bodyPost_ret (v := .tuple #[.agg #[.int .i64 (r + r'), .int .i64 (m + sz)], .int .i64 0]) (by simp [results, Tryz.results61, go_sem, P.c0, P.c1]) rfl ⟨rfl, below_put2 G4.out (by omega) _ _⟩
  | false =>
    rw [hk] at PM
    rw [if_pos rfl]
    clear hk
    have hb' : b3 < w.heap.size := hb
    have hb1 : b3 ≠ w.heap.size := by omega
    have hb2 : b3 ≠ w.heap.size + 1 := by omega
    have hb3 : b3 ≠ w.heap.size + 1 + 1 := by omega
    have hw0 : IntKind.i64.wrap (r + r') = r + r' := IntWalk.i64_in _ (by omega)
    have hw1 : IntKind.i64.wrap (m + sizeI C) = m + sizeI C := IntWalk.i64_in _ (by omega)
    generalize sizeI C = sz at *
    have D0 := ((Cells2.new w (.int .i64 r) (.int .i64 t) 102).alloc (.cells #[.int .i64 r', .int .i64 t'] 102)).alloc (.cells #[.int .i64 0, .int .i64 0] 102)
    have D1 : Cells2 (((w.alloc (.cells #[.int .i64 r, .int .i64 t] 102)).alloc (.cells #[.int .i64 r', .int .i64 t'] 102)).alloc (.cells #[.int .i64 0, .int .i64 0] 102)) (w.heap.size + 1) (.int .i64 r') (.int .i64 t') := by
      have := (Cells2.new (w.alloc (.cells #[.int .i64 r, .int .i64 t] 102)) (.int .i64 r') (.int .i64 t') 102).alloc (.cells #[.int .i64 0, .int .i64 0] 102)
      simpa using this
    have D2 : Cells2 (((w.alloc (.cells #[.int .i64 r, .int .i64 t] 102)).alloc (.cells #[.int .i64 r', .int .i64 t'] 102)).alloc (.cells #[.int .i64 0, .int .i64 0] 102)) (w.heap.size + 1 + 1) (.int .i64 0) (.int .i64 0) := by
      have := Cells2.new ((w.alloc (.cells #[.int .i64 r, .int .i64 t] 102)).alloc (.cells #[.int .i64 r', .int .i64 t'] 102)) (.int .i64 0) (.int .i64 0) 102
      simpa using this
    go_enter Tryz.func61, Tryz.ntmps61
    go_wp2
    generalize (((w.alloc (.cells #[.int .i64 r, .int .i64 t] 102)).alloc (.cells #[.int .i64 r', .int .i64 t'] 102)).alloc (.cells #[.int .i64 0, .int .i64 0] 102)) = W0 at *
    have y0 : W0.cell? ⟨b3, 0, none⟩ = some (.int .i64 C) := (HB.out.cell (p := ⟨b3, 0, none⟩) hb).trans h
    have E0 := D0.below (Below.refl _ _).drew
    have E1 := D1.below (Below.refl _ _).drew
    have E2 := Lib.hid (D2.below (Below.refl _ _).drew)
    obtain ⟨p0, p1, _, _⟩ := E0
    obtain ⟨q0, q1, _, _⟩ := E1
    have E3 := (Cells2.new W0 (.int .i64 0) (.int .i64 0) 102).below (Below.refl _ _).drew
    obtain ⟨g0, g1, g2, g3⟩ := E3
    have gl : W0.heap.size < (W0.alloc (.cells #[.int .i64 0, .int .i64 0] 102)).drew.heap.size := by simp
    go_region_held3 (fun w' => w'.cell? ⟨w.heap.size, 0, none⟩ = some (.int .i64 r) ∧ w'.cell? ⟨w.heap.size, 1, none⟩ = some (.int .i64 t) ∧ w'.cell? ⟨w.heap.size + 1, 0, none⟩ = some (.int .i64 r') ∧ w'.cell? ⟨w.heap.size + 1, 1, none⟩ = some (.int .i64 t') ∧ w'.cell? ⟨b3, 0, none⟩ = some (.int .i64 C))
      (first | with_reducible exact five_keep D0.c0 D0.c1 D1.c0 D1.c1 y0 (((Below.refl _ _).alloc (Nat.le_refl _) _).drew) | with_reducible exact five_keep D0.c0 D0.c1 D1.c0 D1.c1 y0 ((Below.refl _ _).drew) | go_keep)
      (first | (go_at_call 62; refine (CS.out _).mono ?_; rintro e w' ⟨rfl, rfl⟩))
    all_goals
      have BA := ((Below.refl W0.heap.size W0).alloc (Nat.le_refl _) (.cells #[.int .i64 (r + r'), .int .i64 (m + sz)] 102)).drew
      have F2 := Lib.hid (D2.below BA)
      have F3 := Lib.hid ((Cells2.new W0 (.int .i64 (r + r')) (.int .i64 (m + sz)) 102).below (Below.refl _ _).drew)
      have F4 := Lib.hid (HB.out.trans (BA.mono HB.out.size))
      go_wp2_with (go_at_call 59; go_must (refine (PM.out _).mono ?_; rintro e w1 ⟨rfl, hb1⟩; have G2 := Lib.hid (F2.out.below hb1); obtain ⟨m0, m1, n0, n1⟩ := G2.out; obtain ⟨o0, o1, _, _⟩ := F3.out.below hb1; have G4 := Lib.hid (F4.out.trans (hb1.mono F4.out.size)); clear hb1))
      have P := G2.out.put (.int .i64 0) (.int .i64 0)
      exact bodyPost_ret (v := .tuple #[.agg #[.int .i64 0, .int .i64 0], .int .i64 6]) (by simp [results, Tryz.results61, go_sem, P.c0, P.c1]) rfl ⟨rfl, below_put2 G4.out (by omega) _ _⟩
end Go.Proofs.YtnboegeljaplbaaGreat
namespace Go.Proofs.YtnboegeljaplbaaGreat
open Go.RowKit Lv Go.Shelf
attribute [local go_sem] Oper.semAt_some drewN_alloc drewN_setCell as_jj as_pj as_pp as_jp

/-- pairs of ints, cell by cell -/
def pcell (cs : List (Int × Int)) : List Value := cs.flatMap fun c => [Value.int .i64 c.1, Value.int .i64 c.2]
theorem pcell_cons (c : Int × Int) (cs : List (Int × Int)) : pcell (c :: cs) = Value.int .i64 c.1 :: Value.int .i64 c.2 :: pcell cs := rfl
theorem pcell_len : ∀ cs : List (Int × Int), (pcell cs).length = cs.length * 2
  | [] => rfl
  | c :: cs => by rw [pcell_cons, List.length_cons, List.length_cons, List.length_cons, pcell_len cs]; omega
theorem pcell_append : ∀ a b : List (Int × Int), pcell (a ++ b) = pcell a ++ pcell b
  | [], b => rfl
  | c :: a, b => by rw [List.cons_append, pcell_cons, pcell_cons, pcell_append a b]; rfl
theorem pcell_at : ∀ (cs : List (Int × Int)) (i : Nat), i < cs.length → (pcell cs)[i * 2]? = some (.int .i64 (cs.getD i (0, 0)).1) ∧ (pcell cs)[i * 2 + 1]? = some (.int .i64 (cs.getD i (0, 0)).2)
  | [], i, h => absurd h (Nat.not_lt_zero _)
  | c :: cs, 0, h => ⟨rfl, rfl⟩
  | c :: cs, i + 1, h => by
    have := pcell_at cs i (by simpa using h)
    rw [pcell_cons, show (i + 1) * 2 = i * 2 + 1 + 1 by omega]
    exact this
theorem pcell_take : ∀ (cs : List (Int × Int)) (k : Nat), (pcell cs).take (k * 2) = pcell (cs.take k)
  | [], k => by simp [pcell]
  | c :: cs, 0 => by simp [pcell]
  | c :: cs, k + 1 => by
    rw [pcell_cons, show (k + 1) * 2 = k * 2 + 1 + 1 by omega, List.take_succ_cons, List.take_succ_cons, pcell_take cs k, List.take_succ_cons, pcell_cons]
theorem pcell_one : ∀ (cs : List (Int × Int)), ∀ u ∈ pcell cs, u.oneCell' = true := by
  intro cs u hu
  unfold pcell at hu
  obtain ⟨c, _, hc⟩ := List.mem_flatMap.1 hu
  simp at hc
  rcases hc with rfl | rfl <;> rfl
/-- a stack of pairs of one's own -/
def OwnP (w : World) (B : Nat) (e : TypeId) (v : Value) (cs : List (Int × Int)) : Prop := w.ownsRow B e 2 v cs.length (pcell cs)
theorem ownP_nil (w : World) (B : Nat) (e : TypeId) : OwnP w B e (.slice none 0 0) [] := World.ownsRow_nil _ _ _ _
theorem OwnP.base {w : World} {B : Nat} {e : TypeId} {v : Value} {cs : List (Int × Int)} (h : OwnP w B e v cs) (k : Nat) (hk : v.ownBlock = some k) : B ≤ k := (owns_lt h k hk).1
theorem OwnP.below {w w' : World} {B : Nat} {e : TypeId} {v : Value} {cs : List (Int × Int)} (h : OwnP w B e v cs) (hb : Below w.heap.size w w') : OwnP w' B e v cs := owns_below h hb (Nat.le_refl _)
theorem OwnP.form {w : World} {B : Nat} {e : TypeId} {v : Value} {cs : List (Int × Int)} {n : Nat} (h : OwnP w B e v cs) (hl : cs.length = n) : ∃ a cap, v = .slice a n cap ∧ n ≤ cap ∧ cap ≤ 9223372036854775807 := by
  subst hl
  rcases h.2 with ⟨rfl, h0⟩ | ⟨g, cap, cur, rfl, _, _, q1, q2, _⟩
  · exact ⟨none, 0, by rw [h0], by omega, by omega⟩
  · unfold maxLen at q2
    exact ⟨_, cap, rfl, q1, by omega⟩
theorem OwnP.at {w : World} {B : Nat} {e : TypeId} {a : Option Addr} {n cap : Nat} {cs : List (Int × Int)} (h : OwnP w B e (.slice a n cap) cs) (hl : cs.length = n) (hn : 0 < n) : ∃ g, a = some ⟨g, 0, none⟩ ∧ B ≤ g ∧ ∀ i, i < n → w.cell? ⟨g, i * 2, none⟩ = some (.int .i64 (cs.getD i (0, 0)).1) ∧ w.cell? ⟨g, i * 2 + 1, none⟩ = some (.int .i64 (cs.getD i (0, 0)).2) := by
  have h1 : w.ownsRow B e 2 (.slice a n cap) cs.length (pcell cs) := h
  have hle := h1.1
  rcases id h1.2 with ⟨e, _⟩ | ⟨g, cap', cur, e, q0, q1, q2, q3, q4, q5⟩
  · simp only [Value.slice.injEq] at e; omega
  · simp only [Value.slice.injEq] at e
    obtain ⟨rfl, rfl, rfl⟩ := e
    refine ⟨g, rfl, q0, fun i hi => ?_⟩
    obtain ⟨k1, k2⟩ := pcell_at cs i (by omega)
    exact ⟨by rw [h1.cellAt (i * 2) (by omega)]; exact k1, by rw [h1.cellAt (i * 2 + 1) (by omega)]; exact k2⟩
theorem OwnP.take {w : World} {B : Nat} {e : TypeId} {a : Option Addr} {n cap : Nat} {cs : List (Int × Int)} (h : OwnP w B e (.slice a n cap) cs) (hn : cs.length = n) {k : Nat} (hk : k ≤ n) (hk0 : 0 < n) : OwnP w B e (.slice a k cap) (cs.take k) := by
  have h1 : w.ownsRow B e 2 (.slice a n cap) cs.length (pcell cs) := h
  have hl : (cs.take k).length = k := by rw [List.length_take]; omega
  show w.ownsRow B e 2 (.slice a k cap) (cs.take k).length (pcell (cs.take k))
  rw [hl, ← pcell_take]
  have hle := h1.1
  rcases h1.2 with ⟨e, e0⟩ | ⟨g, cap', cur, e, q0, q1, q2, q3, q4, q5⟩
  · omega
  · simp only [Value.slice.injEq] at e
    obtain ⟨rfl, _, rfl⟩ := e
    refine ⟨by rw [List.length_take]; omega, .inr ⟨g, cap, cur, rfl, q0, q1, by omega, q3, q4, ?_⟩⟩
    rw [← q5, List.take_take]
    congr 1
    omega
theorem infoC : (Tryz.prog.info? 102).map (fun i => (i.zero, i.size, i.bytes)) = some (some (.agg #[.int .i64 0, .int .i64 0]), 2, 16) := by kernel_rfl
theorem wpList_append_P (w : World) {ops : Array Oper} {rest : List Oper} {o : Oper} {a : Act} {Q : Exit → Act → World → Prop}
    (hg : o.guard = none) (s x : Operand) (e t : TypeId) (hinfo : (Tryz.prog.info? e).map (fun i => (i.zero, i.size, i.bytes)) = some (some (.agg #[.int .i64 0, .int .i64 0]), 2, 16)) (ht : Tryz.prog.underlying t = some (.slice e))
    (hop : o.op = Op.call { callee := Callee.builtin Builtin.append, args := #[s, x], argTypes := #[t, t] })
    (B : Nat) (v : Value) (cs ys : List (Int × Int)) (hs : a.eval s = v) (hown : OwnP w B e v cs) (ad : Addr) (m c : Nat) (hx : a.eval x = .slice (some ad) m c) (hy : ∀ j u, (pcell ys)[j]? = some u → w.cell? (ad.add j) = some u)
    (b1 : cs.length + ys.length ≤ 1000) (hm : ys.length = m) (b3 : B ≤ w.heap.size)
    (hK : ∀ v' w', OwnP w' B e v' (cs ++ ys) → w.grownBy w' v.ownBlock → wpList Tryz.prog ops Q rest (a.put o.dst v') w') :
    wpList Tryz.prog ops Q (o :: rest) a w := by
  obtain ⟨i0, hin, hz0, hz1, hz2⟩ := info_parts hinfo
  have hcl : w.ownsRow B e 2 v cs.length (pcell cs) := hown
  refine wpList_append_own w hg s x _ hop B e i0 _ 2 16 ht hin hz0 hz1 hz2 rfl (by decide) v cs.length (pcell cs) hs hcl ad m c (pcell ys) hx (by rw [pcell_len]; omega) hy (pcell_one ys) (by unfold maxLen; omega) (by omega) b3 ?_
  intro v' w' h1 h2 _
  refine hK v' w' ?_ h2
  show w'.ownsRow B e 2 v' (cs ++ ys).length (pcell (cs ++ ys))
  rw [List.length_append, hm, pcell_append]; exact h1
theorem cnt_new {w : World} {g : Nat} (c1 c2 : Int) (t : TypeId) (hg : g = w.heap.size) : ∀ j u, (pcell [(c1, c2)])[j]? = some u → (w.alloc (.cells #[.int .i64 c1, .int .i64 c2] t)).cell? ((⟨g, 0, none⟩ : Addr).add j) = some u := by
  subst hg
  intro j u hu
  have hj : j < 2 := (List.getElem?_eq_some_iff.1 hu).1
  have hj' : j = 0 ∨ j = 1 := by omega
  rcases hj' with rfl | rfl
  · cases hu; simp [go_sem, Addr.add]
  · cases hu; simp [go_sem, Addr.add]

/-- what stands at the head of play's loop -/
structure CInv (w w2 : World) (R : (Int × Int) × Int) (rows turns : List Int) (C : Int) (l : List Int) (W : World) (i : Nat) (st : List (Int × Int)) (a : Option Addr) (n cap : Nat) : Prop where
  c6 : Cells2 W w.heap.size (.int .i64 0) (.int .i64 0)
  c8 : Cells2 W (w.heap.size + 1) (.int .i64 0) (.int .i64 0)
  own : OwnP W w2.heap.size 102 (.slice a n cap) st
  len : st.length = n
  cap1 : n ≤ cap ∧ cap ≤ 9223372036854775807
  ht : htsP 0 (l.take i) = some (n : Int)
  eq : playD (0, 0) (layC rows turns) (cntAdd C) (l.drop i) st = R
  b2 : Below w2.heap.size w2 W
  ok : ∀ c ∈ st, cntOk c = true
theorem cplay_step {rows turns : List Int} {C : Int} {l : List Int} {i : Nat} (hi : i < l.length) (st : List (Int × Int)) : playD (0, 0) (layC rows turns) (cntAdd C) (l.drop i) st = playD (0, 0) (layC rows turns) (cntAdd C) (l.getD i 0 :: l.drop (i + 1)) st := by rw [drop_snoc hi]
theorem cntOk_in {c : Int × Int} (h : cntOk c = true) : (0 ≤ c.1 ∧ c.1 ≤ 200) ∧ (0 ≤ c.2 ∧ c.2 ≤ 4096) := by
  unfold cntOk at h
  simp only [Bool.and_eq_true, decide_eq_true_eq] at h
  omega
theorem cntAdd_ok {C : Int} {a b : Int × Int} (h : (cntAdd C a b).2 = 0) : cntOk (cntAdd C a b).1 = true := by
  unfold cntAdd at h ⊢
  split at h
  · cases h
  · rename_i hk
    rw [if_neg hk]
    simpa using hk
theorem mem_getD {st : List (Int × Int)} {i : Nat} (h : i < st.length) : st.getD i (0, 0) ∈ st := by
  rw [List.getD_eq_getElem?_getD, List.getElem?_eq_getElem h]; exact List.getElem_mem h
/-- behind the statement that joins two -/
def KCut (wr : World) (c : Int × Int) (W : World) : Prop := Cells2 W wr.heap.size (.int .i64 c.1) (.int .i64 c.2) ∧ Below wr.heap.size wr W
set_option maxRecDepth 100000 in
set_option maxHeartbeats 4000000 in
theorem playC_calls (l : List Int) (a : Option Addr) (n cap : Nat) (rs ts : List Int) (ra ta : Option Addr) (rn rc tn tc b1 b2 b3 : Nat) (C : Int) (w : World) (h : LI w (.slice a n cap) l) (hl : l.length ≤ 100) (hr : LI w (.slice ra rn rc) rs) (ht : LI w (.slice ta tn tc) ts)
    (h1 : w.cell? ⟨b1, 0, none⟩ = some (.slice ra rn rc)) (h2 : w.cell? ⟨b2, 0, none⟩ = some (.slice ta tn tc)) (h3 : w.cell? ⟨b3, 0, none⟩ = some (.int .i64 C)) (hrt : rn = tn) (hall : ∀ k, k < rn → cntOk (rs.getD k 0, ts.getD k 0) = true) (hC1 : 1 ≤ C) (hC6 : C ≤ 6) (hok : pcheckD l rs.length = 0) :
    Calls Tryz.prog 63 #[.slice a n cap, .func (.func 60) #[] #[.pointer (some ⟨b1, 0, none⟩), .pointer (some ⟨b2, 0, none⟩)], .func (.func 61) #[] #[.pointer (some ⟨b3, 0, none⟩)]] w fun e w' => e = .returned (.tuple #[.agg #[.int .i64 (playD (0, 0) (layC rs ts) (cntAdd C) l []).1.1, .int .i64 (playD (0, 0) (layC rs ts) (cntAdd C) l []).1.2], .int .i64 (playD (0, 0) (layC rs ts) (cntAdd C) l []).2]) ∧ Below w.heap.size w w' := by
  obtain ⟨R, hR⟩ : ∃ R, R = playD (0, 0) (layC rs ts) (cntAdd C) l [] := ⟨_, rfl⟩
  rw [← hR]
  subst hrt
  have hn100 : n ≤ 100 := by rw [← h.len.1]; exact hl
  have HX := Lib.hid h.len.1
  have HRL := Lib.hid hr.len.1
  have H := Lib.hid h
  have HL := Lib.hid hl
  have HA := Lib.hid hall
  have HS := Lib.hid (And.intro hr ht)
  have HC := Lib.hid (And.intro h1 (And.intro h2 h3))
  have hb1 := cell_lt h1
  have hb2 := cell_lt h2
  have hb3 := cell_lt h3
  have HB := Lib.hid (show b1 < w.heap.size ∧ b2 < w.heap.size ∧ b3 < w.heap.size from ⟨hb1, hb2, hb3⟩)
  have HOK := Lib.hid hok
  have HR := Lib.hid hR.symm
  have C0 := Lib.hid (Cells2.new w (.int .i64 0) (.int .i64 0) 102)
  have C1 := Lib.hid (Cells2.new (w.alloc (.cells #[.int .i64 0, .int .i64 0] 102)) (.int .i64 0) (.int .i64 0) 102)
  have B1 := Lib.hid (((Below.refl w.heap.size w).alloc (Nat.le_refl _) (.cells #[.int .i64 0, .int .i64 0] 102)).alloc (by simp) (.cells #[.int .i64 0, .int .i64 0] 102))
  clear h hl hr ht h1 h2 h3 hok hR hall hb1 hb2 hb3
  go_enter Tryz.func63, Tryz.ntmps63
  go_wp2_with (go_at_call 32; refine (psteps_calls _ n cap l _ (H.out.below B1.out) HL.out).mono ?_; rintro e w2 ⟨⟨v, rfl, hv⟩, hb2⟩; obtain ⟨va, vc, rfl⟩ := step_form hv HX.out; have HV := Lib.hid hv.cel; have HB2 := Lib.hid hb2; clear hv hb2)
  have hsz2 := Lib.hid (show w.heap.size + 1 + 1 ≤ w2.heap.size by have := HB2.out.size; simp at this; omega)
  have BW := Lib.hid (B1.out.trans (HB2.out.mono (by simp; omega)))
  have IN : CInv w w2 R rs ts C l w2 0 [] none 0 0 := by
    refine ⟨(C0.out.alloc _).below HB2.out, ?_, ownP_nil _ _ _, rfl, ⟨Nat.le_refl _, by omega⟩, rfl, HR.out, Below.refl _ _, fun c hc => nomatch hc⟩
    have := C1.out.below HB2.out
    simpa using this
  go_loopw [9, 20] (fun s9 s20 wr => ∃ (i : Nat) (st : List (Int × Int)) (a : Option Addr) (m c : Nat), s20 = .int .i64 (i : Int) ∧ s9 = .slice a m c ∧ i ≤ n ∧ CInv w w2 R rs ts C l wr i st a m c) (fun _ s20 _ => n - (intOf s20).toNat)
  case atStart => exact ⟨0, [], none, 0, 0, rfl, rfl, Nat.zero_le _, IN⟩
  case round =>
    obtain ⟨i, st, ta', tm, tc', rfl, rfl, hi, I⟩ := hrel
    have HI := Lib.hid I
    obtain ⟨c60, c61, f60, f61⟩ := I.c6
    obtain ⟨c80, c81, f80, f81⟩ := I.c8
    have hs1 := I.b2.size
    have hlw := hsz2.out
    have hl6 : w.heap.size < wr.heap.size := by omega
    have hl8 : w.heap.size + 1 < wr.heap.size := by omega
    clear I
    by_cases hlt : i < n
    · obtain ⟨blk, off, rfl, hcs⟩ := step_at (HV.out.below HI.out.b2) (by omega)
      have hx1 := hcs i hlt
      have hii : (i : Int) < (n : Int) := by omega
      have hil : i < l.length := by rw [HX.out]; exact hlt
      obtain ⟨p1, p2, p3, p4⟩ := play_at HOK.out HI.out.ht hil
      have HP2 := Lib.hid p2
      have HEQ := HI.out.eq
      rw [cplay_step hil] at HEQ
      clear hcs p2
      generalize l.getD i 0 = k at *
      by_cases ek : k = -1
      · subst ek
        rw [show stepV (-1) = .iface 118 (.agg #[]) from rfl] at hx1
        rw [play_join] at HEQ
        rw [if_pos rfl] at HP2
        have h2 := p1 rfl
        obtain ⟨t, rfl⟩ : ∃ t, tm = t + 2 := ⟨tm - 2, by omega⟩
        rw [HI.out.len, show t + 2 - 2 = t by omega, show t + 2 - 1 = t + 1 by omega] at HEQ
        obtain ⟨g, rfl, hg2, hst⟩ := (HI.out.own).at HI.out.len (by omega)
        obtain ⟨k1, k2⟩ := hst t (by omega)
        obtain ⟨t1, ht1⟩ : ∃ t1 : Nat, t + 1 = t1 := ⟨_, rfl⟩
        rw [ht1] at HEQ
        obtain ⟨k1', k2'⟩ := hst t1 (by omega)
        have hcap := HI.out.cap1
        have hi1 : (t : Int) + 1 = (t1 : Int) := by omega
        have hi2 : IntKind.i64.wrap (t1 : Int) = (t1 : Int) := IntWalk.i64_in _ (by omega)
        have hi3 : t1 < t + 2 := by omega
        have hi4 : (t1 : Int) < (t : Int) + 2 := by omega
        obtain ⟨r1, r2⟩ := cntOk_in (HI.out.ok _ (mem_getD (i := t) (by rw [HI.out.len]; omega)))
        obtain ⟨r3, r4⟩ := cntOk_in (HI.out.ok _ (mem_getD (i := t1) (by rw [HI.out.len]; omega)))
        clear ht1
        clear hst p1 p3 p4 h2
        have TW := Lib.hid (fun W hW => pcounts2_calls C (st.getD t (0, 0)).1 (st.getD t (0, 0)).2 (st.getD t1 (0, 0)).1 (st.getD t1 (0, 0)).2 b3 W hW r1 r3 r2 r4 hC1 hC6)
        have HOKD := Lib.hid (cntAdd_ok (C := C) (a := st.getD t (0, 0)) (b := st.getD t1 (0, 0)))
        clear r1 r2 r3 r4
        generalize cntAdd C (st.getD t (0, 0)) (st.getD t1 (0, 0)) = D at *
        generalize st.getD t (0, 0) = G at *
        generalize st.getD t1 (0, 0) = G' at *
        obtain ⟨g1, g2⟩ := G
        obtain ⟨g1', g2'⟩ := G'
        obtain ⟨⟨d1, d2⟩, ge⟩ := D
        dsimp only at *
        have CX := Lib.hid (Cells2.new wr (.int .i64 0) (.int .i64 0) 102)
        have BX := Lib.hid (((Below.refl wr.heap.size wr).alloc (Nat.le_refl _) (.cells #[.int .i64 0, .int .i64 0] 102)).alloc (by simp) (.cells #[] 118))
        have BWR := Lib.hid (BW.out.trans (HI.out.b2.mono (by omega)))
        go_wp2
        go_cut [13] from 41 to 54 (fun s13 wx => s13 = .int .i64 ge ∧ KCut wr (d1, d2) wx)
        case first =>
          rename_i J K' hJ hK'
          have BD := Lib.hid BX.out.drew
          have j1 := (BD.out.cell (p := ⟨g, t * 2, none⟩) (cell_lt k1)).trans k1
          have j2 := (BD.out.cell (p := ⟨g, t * 2 + 1, none⟩) (cell_lt k2)).trans k2
          have j1' := (BD.out.cell (p := ⟨g, t1 * 2, none⟩) (cell_lt k1')).trans k1'
          have j2' := (BD.out.cell (p := ⟨g, t1 * 2 + 1, none⟩) (cell_lt k2')).trans k2'
          have j3 := (BD.out.cell (p := ⟨b3, 0, none⟩) (by have := HB.out.2.2; simp; omega)).trans ((BWR.out.cell (p := ⟨b3, 0, none⟩) HB.out.2.2).trans HC.out.2.2)
          have CD := Lib.hid ((CX.out.alloc (.cells #[] 118)).below (Below.refl _ _).drew)
          go_region_with (go_at_call 61; go_must (refine (TW.out _ j3).mono ?_; rintro e wL ⟨rfl, hbL⟩; have EX := Lib.hid (CD.out.below hbL); have BL := Lib.hid (BD.out.trans (hbL.mono BD.out.size)); obtain ⟨m0, m1, n0, n1⟩ := EX.out; have hzL := BL.out.size; have hzM := EX.out.lt; clear hbL))
          all_goals
            refine hK' _ _ (Met.intro (hJ _ _ ?_))
            (repeat apply Exists.intro)
            refine ⟨?_, rfl⟩
            refine ⟨rfl, ?_⟩
            exact ⟨EX.out.put _ _, below_put2 BL.out (Nat.le_refl _) _ _⟩
        case rest =>
          obtain ⟨rfl, ex, hbc⟩ := hcut
          have BL := Lib.hid hbc
          have E6 := Lib.hid (HI.out.c6.below hbc)
          have E8 := Lib.hid (HI.out.c8.below hbc)
          have EX := Lib.hid ex
          have hlen := Lib.hid HI.out.len
          have HOT := Lib.hid (HI.out.own.take HI.out.len (k := t) (by omega) (by omega))
          obtain ⟨m0, m1, n0, n1⟩ := ex
          obtain ⟨r0, r1, r4, r5⟩ := E6.out
          obtain ⟨v0, v1, _, _⟩ := E8.out
          have hzL := BL.out.size
          have hzM := EX.out.lt
          have hzN : w.heap.size < wc.heap.size := by omega
          have hnex : wr.heap.size ≠ w.heap.size + 1 := by omega
          clear c60 c61 f60 f61 c80 c81 f80 f81 hbc k1 k2 k1' k2'
          dsimp only at m0 m1
          by_cases e2 : ge = 0
          · subst e2
            rw [if_neg (by simp)] at HEQ
            have HEQ2 := Lib.hid HEQ
            clear HEQ
            have hlt2 : Hid ((st.take t).length + 1 ≤ 1000) := by
              unfold Hid
              have := htsP_le HI.out.ht
              rw [List.length_take]
              have := HL.out
              have := List.length_take_le i l
              omega
            go_wp2_with (at_builtin; go_must (refine wpList_append_P _ rfl _ _ 102 145 infoC Tryz.underlying145 rfl w2.heap.size _ (st.take t) [(d1, d2)] rfl (HOT.out.below (BL.out.alloc (by omega) _)) _ _ _ rfl (cnt_new d1 d2 _ (by simp)) hlt2.out rfl (by simp; omega) ?_; intro v9 w3 hown9 hg9; obtain ⟨a9, c9, rfl, hf1, hf2⟩ := hown9.form (n := t + 1) (by rw [List.length_append, List.length_take, hlen.out, List.length_singleton]; omega)))
            have hne0 : ∀ e, (Value.slice (some ⟨g, 0, none⟩) t tc').ownBlock = some e → w2.heap.size ≤ e := fun e he => HOT.out.base e he
            have N6 := (E6.out.alloc (.cells #[.int .i64 d1, .int .i64 d2] 102)).grown hg9 (fun e => by have := hne0 _ e.symm; omega)
            have N8 := (E8.out.alloc (.cells #[.int .i64 d1, .int .i64 d2] 102)).grown hg9 (fun e => by have := hne0 _ e.symm; omega)
            have NB : Below w2.heap.size w2 w3 := (HI.out.b2.trans ((BL.out.alloc (by omega) (.cells #[.int .i64 d1, .int .i64 d2] 102)).mono hs1)).grown hg9 (by simp; omega) hne0
            refine ⟨⟨i + 1, st.take t ++ [(d1, d2)], a9, t + 1, c9, by go_num, rfl, by omega, N6, N8, hown9, by rw [List.length_append, List.length_take, hlen.out, List.length_singleton]; omega, ⟨hf1, hf2⟩, ?_, HEQ2.out, NB, ?_⟩, by simp [intOf]; omega⟩
            · rw [HP2.out]
              congr 1
              omega
            · intro c hc
              rcases List.mem_append.1 hc with hc | hc
              · exact HI.out.ok c (List.mem_of_mem_take hc)
              · rw [List.mem_singleton.1 hc]; exact HOKD.out rfl
          · rw [if_pos (by simpa using e2)] at HEQ
            obtain rfl : R = ((0, 0), ge) := HEQ.symm
            have hne : (ge != 0) = true := bne_iff_ne.2 e2
            clear HEQ
            go_wp2
            have P6 := E6.out.put (.int .i64 0) (.int .i64 0)
            exact bodyPost_ret (v := .tuple #[.agg #[.int .i64 0, .int .i64 0], .int .i64 ge]) (by simp [results, Tryz.results63, go_sem, P6.c0, P6.c1]) rfl ⟨rfl, below_put2 (BWR.out.trans (BL.out.mono BWR.out.size)) (Nat.le_refl _) _ _⟩
      · rw [show stepV k = .iface 67 (.agg #[.int .i64 k]) from if_neg ek] at hx1
        rw [play_push _ _ _ _ _ ek] at HEQ
        rw [if_neg ek] at HP2
        obtain ⟨q, rfl⟩ : ∃ q : Nat, k = (q : Int) := ⟨k.toNat, by omega⟩
        have hq : q < rn := by rw [HRL.out] at p4; omega
        have PR := Lib.hid (fun W h h' hc hc' => pcounts1_calls q rs ts ra ta rn rc rn tc b1 b2 W h h' hc hc' hq hq)
        have HOKD := Lib.hid (HA.out q hq)
        clear hq p1 p3 p4 ek
        have CX := Lib.hid (Cells2.new wr (.int .i64 0) (.int .i64 0) 102)
        rw [show layC rs ts (q : Int) = ((rs.getD q 0, ts.getD q 0), 0) from rfl, if_neg (by simp)] at HEQ
        dsimp only at HEQ
        generalize rs.getD q 0 = d1 at *
        generalize ts.getD q 0 = d2 at *
        have BX := Lib.hid (((Below.refl wr.heap.size wr).alloc (Nat.le_refl _) (.cells #[.int .i64 0, .int .i64 0] 102)).alloc (by simp) (.cells #[.int .i64 (q : Int)] 67))
        have BWR := Lib.hid (BW.out.trans (HI.out.b2.mono (by omega)))
        have BWX := Lib.hid (BWR.out.trans (BX.out.mono BWR.out.size))
        have HEQ2 := Lib.hid HEQ
        clear HEQ
        have hlen := Lib.hid (show st.length + 1 ≤ 1000 by have := htsP_le HI.out.ht; rw [HI.out.len]; have := HL.out; have := List.length_take_le i l; omega)
        go_wp2_with (first
          | (go_at_call 60; go_must (refine (PR.out _ (HS.out.1.below BWX.out) (HS.out.2.below BWX.out) ((BWX.out.cell (p := ⟨b1, 0, none⟩) HB.out.1).trans HC.out.1) ((BWX.out.cell (p := ⟨b2, 0, none⟩) HB.out.2.1).trans HC.out.2.1)).mono ?_; rintro e wL ⟨rfl, hbL⟩; have BL := Lib.hid (BX.out.trans (hbL.mono (by simp; omega))); have E6 := Lib.hid (HI.out.c6.below BL.out); have E8 := Lib.hid (HI.out.c8.below BL.out); have EX := Lib.hid ((CX.out.alloc (.cells #[.int .i64 (q : Int)] 67)).below hbL); obtain ⟨m0, m1, n0, n1⟩ := EX.out; obtain ⟨r0, r1, r4, r5⟩ := E6.out; obtain ⟨v0, v1, _, _⟩ := E8.out; have hzL := BL.out.size; have hzM := EX.out.lt; have hzN : w.heap.size < wL.heap.size := (by omega); have hnex : wr.heap.size ≠ w.heap.size + 1 := (by omega); clear c60 c61 f60 f61 c80 c81 f80 f81 hbL))
          | (at_builtin; go_must (refine wpList_append_P _ rfl _ _ 102 145 infoC Tryz.underlying145 rfl w2.heap.size _ st [(d1, d2)] rfl (HI.out.own.below ((below_put2 BL.out (Nat.le_refl _) _ _).alloc (by simp; omega) _)) _ _ _ rfl (cnt_new d1 d2 _ (by simp)) hlen.out rfl (by simp; omega) ?_; intro v9 w3 hown9 hg9; obtain ⟨a9, c9, rfl, hf1, hf2⟩ := hown9.form (n := tm + 1) (by rw [List.length_append, HI.out.len]; rfl))))
        have hne0 : ∀ e, (Value.slice ta' tm tc').ownBlock = some e → w2.heap.size ≤ e := fun e he => HI.out.own.base e he
        have N6 := ((E6.out.put_other (b' := wr.heap.size) (by omega) (.int .i64 d1) (.int .i64 d2)).alloc (.cells #[.int .i64 d1, .int .i64 d2] 102)).grown hg9 (fun e => by have := hne0 _ e.symm; omega)
        have N8 := ((E8.out.put_other (b' := wr.heap.size) (by omega) (.int .i64 d1) (.int .i64 d2)).alloc (.cells #[.int .i64 d1, .int .i64 d2] 102)).grown hg9 (fun e => by have := hne0 _ e.symm; omega)
        have NB : Below w2.heap.size w2 w3 := (HI.out.b2.trans (((below_put2 BL.out (Nat.le_refl _) (.int .i64 d1) (.int .i64 d2)).alloc (by simp; omega) (.cells #[.int .i64 d1, .int .i64 d2] 102)).mono hs1)).grown hg9 (by simp; omega) hne0
        go_roundw
        case rel => exact ⟨i + 1, st ++ [(d1, d2)], a9, tm + 1, c9, by go_num, rfl, by omega, N6, N8, hown9, by rw [List.length_append, HI.out.len]; rfl, ⟨hf1, hf2⟩, by rw [HP2.out]; simp, HEQ2.out, NB, fun c hc => by
          rcases List.mem_append.1 hc with hc | hc
          · exact HI.out.ok c hc
          · rw [List.mem_singleton.1 hc]; exact HOKD.out⟩
        case measure => simp [intOf]; omega
    · have hii : ¬ (i : Int) < (n : Int) := by omega
      obtain rfl : i = n := by omega
      have hht := HI.out.ht
      rw [← HX.out] at hht
      have h1 := play_end HOK.out hht
      obtain rfl : tm = 1 := by omega
      have HEQ := HI.out.eq
      rw [List.drop_of_length_le (by rw [HX.out]; exact Nat.le_refl _)] at HEQ
      obtain ⟨F, hF⟩ : ∃ F, st.getD 0 (0, 0) = F := ⟨_, rfl⟩
      obtain rfl : R = (F, 0) := by rw [← HEQ, ← hF]; rfl
      obtain ⟨g, rfl, hg2, hcs⟩ := HI.out.own.at HI.out.len (by omega)
      obtain ⟨k1, k2⟩ := hcs 0 (by omega)
      rw [hF] at k1 k2
      have E6 := Lib.hid HI.out.c6
      have BL := Lib.hid (BW.out.trans (HI.out.b2.mono (by omega)))
      rw [Nat.zero_mul] at k1 k2
      rw [Nat.zero_add] at k2
      clear hht h1 HEQ hcs HI hF
      obtain ⟨fc, ft⟩ := F
      dsimp only at *
      go_wp2
      have P4 := E6.out.put (.int .i64 fc) (.int .i64 ft)
      exact bodyPost_ret (v := .tuple #[.agg #[.int .i64 fc, .int .i64 ft], .int .i64 0]) (by simp [results, Tryz.results63, go_sem, P4.c0, P4.c1]) rfl ⟨rfl, below_put2 BL.out (Nat.le_refl _) _ _⟩
end Go.Proofs.YtnboegeljaplbaaGreat
namespace Go.Proofs.YtnboegeljaplbaaGreat
open Go.RowKit Lv Go.Shelf
attribute [local go_sem] Oper.semAt_some drewN_alloc drewN_setCell

theorem any_none {rs ts : List Int} (h : ∀ k, k < rs.length → cntOk (rs.getD k 0, ts.getD k 0) = true) : ¬ ((List.range rs.length).any fun k => !cntOk (rs.getD k 0, ts.getD k 0)) = true := by
  intro hh
  obtain ⟨k, hk, hb⟩ := List.any_eq_true.1 hh
  rw [h k (List.mem_range.1 hk)] at hb
  cases hb
theorem any_one {rs ts : List Int} {k : Nat} (hk : k < rs.length) (h : cntOk (rs.getD k 0, ts.getD k 0) = false) : ((List.range rs.length).any fun k => !cntOk (rs.getD k 0, ts.getD k 0)) = true :=
  List.any_eq_true.2 ⟨k, List.mem_range.2 hk, by rw [h]; rfl⟩
theorem sizeI_ne {C : Int} (h : sizeI C ≠ 0) : 1 ≤ C ∧ C ≤ 6 := by
  unfold sizeI at h
  split at h
  · assumption
  · exact absurd rfl h
set_option maxRecDepth 100000 in
set_option maxHeartbeats 4000000 in
theorem pcounts_calls (l : List Int) (a : Option Addr) (n cap : Nat) (C : Int) (rs ts : List Int) (ra ta : Option Addr) (rn rc tn tc : Nat) (w : World) (h : LI w (.slice a n cap) l) (hl : l.length ≤ 100) (hr : LI w (.slice ra rn rc) rs) (ht : LI w (.slice ta tn tc) ts) :
    Calls Tryz.prog 20 #[.slice a n cap, .int .i64 C, .slice ra rn rc, .slice ta tn tc] w fun e w' => e = .returned (.tuple #[.int .i64 (countsD l C rs ts).1.1, .int .i64 (countsD l C rs ts).1.2, .int .i64 (countsD l C rs ts).2]) ∧ Below w.heap.size w w' := by
  obtain ⟨R, hR⟩ : ∃ R, R = countsD l C rs ts := ⟨_, rfl⟩
  rw [← hR]
  obtain ⟨r1, r2, r3⟩ := hr.len
  obtain ⟨t1, t2, t3⟩ := ht.len
  have HRL := Lib.hid r1
  have HTL := Lib.hid t1
  have H := Lib.hid h
  have HL := Lib.hid hl
  have HS := Lib.hid (And.intro hr ht)
  have HR := Lib.hid hR
  have SZ := Lib.hid (fun w => sizeI_calls C w)
  have B1 := Lib.hid ((((Below.refl w.heap.size w).alloc (Nat.le_refl _) (.cells #[.int .i64 C] 3)).alloc (by simp) (.cells #[.slice ra rn rc] 22)).alloc (by simp; omega) (.cells #[.slice ta tn tc] 22))
  clear h hl hr ht hR r1 t1
  by_cases hz : sizeI C = 0
  · obtain rfl : R = ((0, 0), 1) := by rw [HR.out]; unfold countsD; rw [if_pos (.inl hz)]
    have hz2 : (sizeI C == 0) = true := by simpa using hz
    clear hz HR
    generalize sizeI C = sz at *
    go_enter Tryz.func20, Tryz.ntmps20
    go_wp2_with (go_at_call 58; go_must (refine (SZ.out _).mono ?_; rintro e w1 ⟨rfl, rfl⟩))
    exact bodyPost_ret (v := .tuple #[.int .i64 0, .int .i64 0, .int .i64 1]) (by simp [results, Tryz.results20, go_sem]) rfl ⟨rfl, B1.out⟩
  · obtain ⟨hC1, hC6⟩ := sizeI_ne hz
    have hz2 : (sizeI C == 0) = false := by simpa using hz
    by_cases hrt : rn = tn
    · subst hrt
      have hrt2 : ((rn : Int) != (rn : Int)) = false := by simp
      have hRR : R = if ((List.range rs.length).any fun k => !cntOk (rs.getD k 0, ts.getD k 0)) = true then ((0, 0), 1) else if pcheckD l rs.length ≠ 0 then ((0, 0), 10) else playD (0, 0) (layC rs ts) (cntAdd C) l [] := by
        rw [HR.out]; unfold countsD; rw [if_neg (by rw [HRL.out, HTL.out]; simp [hz])]
      have HR2 := Lib.hid hRR
      clear hz HR hRR
      generalize sizeI C = sz at *
      go_enter Tryz.func20, Tryz.ntmps20
      go_wp2_with (go_at_call 58; go_must (refine (SZ.out _).mono ?_; rintro e w1 ⟨rfl, rfl⟩))
      have x0 : (((w.alloc (.cells #[.int .i64 C] 3)).alloc (.cells #[.slice ra rn rc] 22)).alloc (.cells #[.slice ta rn tc] 22)).cell? ⟨w.heap.size, 0, none⟩ = some (.int .i64 C) := by simp [go_sem]
      have x1 : (((w.alloc (.cells #[.int .i64 C] 3)).alloc (.cells #[.slice ra rn rc] 22)).alloc (.cells #[.slice ta rn tc] 22)).cell? ⟨w.heap.size + 1, 0, none⟩ = some (.slice ra rn rc) := by simp [go_sem]
      have x2 : (((w.alloc (.cells #[.int .i64 C] 3)).alloc (.cells #[.slice ra rn rc] 22)).alloc (.cells #[.slice ta rn tc] 22)).cell? ⟨w.heap.size + 1 + 1, 0, none⟩ = some (.slice ta rn tc) := by simp [go_sem]
      have hsz : w.heap.size + 3 ≤ (((w.alloc (.cells #[.int .i64 C] 3)).alloc (.cells #[.slice ra rn rc] 22)).alloc (.cells #[.slice ta rn tc] 22)).heap.size := by simp
      generalize (((w.alloc (.cells #[.int .i64 C] 3)).alloc (.cells #[.slice ra rn rc] 22)).alloc (.cells #[.slice ta rn tc] 22)) = W0 at *
      have X := Lib.hid (And.intro x0 (And.intro x1 x2))
      clear x0 x1 x2
      go_loopw [31] (fun s wr => ∃ k : Nat, s = .int .i64 (k : Int) ∧ k ≤ rn ∧ Hid ((∀ j, j < k → cntOk (rs.getD j 0, ts.getD j 0) = true) ∧ Below W0.heap.size W0 wr)) (fun s _ => rn - (intOf s).toNat)
      case atStart => exact ⟨0, rfl, Nat.zero_le _, fun j hj => absurd hj (Nat.not_lt_zero _), Below.refl _ _⟩
      case round =>
        obtain ⟨k, rfl, hk, HK⟩ := hrel
        have BW := Lib.hid (B1.out.trans (HK.out.2.mono B1.out.size))
        have y0 := (HK.out.2.cell (p := ⟨w.heap.size, 0, none⟩) (by simp; omega)).trans X.out.1
        have y1 := (HK.out.2.cell (p := ⟨w.heap.size + 1, 0, none⟩) (by simp; omega)).trans X.out.2.1
        have y2 := (HK.out.2.cell (p := ⟨w.heap.size + 1 + 1, 0, none⟩) (by simp; omega)).trans X.out.2.2
        by_cases hlt : k < rn
        · obtain ⟨blk, off, rfl, hc⟩ := (HS.out.1.below BW.out).at (by omega)
          obtain ⟨blk', off', rfl, hc'⟩ := (HS.out.2.below BW.out).at (by omega)
          have z1 := hc k hlt
          have z2 := hc' k hlt
          have hii : (k : Int) < (rn : Int) := by omega
          clear hc hc'
          have PM := Lib.hid (fun w => pcmay_calls (rs.getD k 0) (ts.getD k 0) w)
          have D := Lib.hid (Cells2.new wr (.int .i64 (rs.getD k 0)) (.int .i64 (ts.getD k 0)) 102)
          cases hck : cntOk (rs.getD k 0, ts.getD k 0) with
          | true =>
            have HCK := Lib.hid hck
            rw [hck] at PM
            clear hck
            have BA := Lib.hid ((HK.out.2.alloc (by have := HK.out.2.size; omega) (.cells #[.int .i64 (rs.getD k 0), .int .i64 (ts.getD k 0)] 102)))
            generalize hrd : rs.getD k 0 = r at *
            generalize htd : ts.getD k 0 = t at *
            have HD := Lib.hid (And.intro hrd htd)
            clear hrd htd
            go_wp2_with (go_at_call 59; go_must (refine (PM.out _).mono ?_; rintro e w1 ⟨rfl, hb1⟩; have HB1 := Lib.hid hb1; clear hb1))
            go_roundw
            case rel => exact ⟨k + 1, by go_num, by omega, fun j hj => by
              rcases Nat.lt_or_ge j k with hjk | hjk
              · exact HK.out.1 j hjk
              · obtain rfl : j = k := by omega
                rw [HD.out.1, HD.out.2]; exact HCK.out, BA.out.trans (HB1.out.mono BA.out.size)⟩
            case measure => simp [intOf]; omega
          | false =>
            obtain rfl : R = ((0, 0), 1) := by rw [HR2.out, if_pos (any_one (by rw [HRL.out]; exact hlt) hck)]
            rw [hck] at PM
            clear hck
            have BA := Lib.hid ((BW.out.alloc BW.out.size (.cells #[.int .i64 (rs.getD k 0), .int .i64 (ts.getD k 0)] 102)))
            generalize rs.getD k 0 = r at *
            generalize ts.getD k 0 = t at *
            go_wp2_with (go_at_call 59; go_must (refine (PM.out _).mono ?_; rintro e w1 ⟨rfl, hb1⟩; have HB1 := Lib.hid hb1; clear hb1))
            exact bodyPost_ret (v := .tuple #[.int .i64 0, .int .i64 0, .int .i64 1]) (by simp [results, Tryz.results20, go_sem]) rfl ⟨rfl, BA.out.trans (HB1.out.mono BA.out.size)⟩
        · have hii : ¬ (k : Int) < (rn : Int) := by omega
          obtain rfl : k = rn := by omega
          have HALL := Lib.hid HK.out.1
          have hR3 : R = if pcheckD l rs.length ≠ 0 then ((0, 0), 10) else playD (0, 0) (layC rs ts) (cntAdd C) l [] := by
            rw [HR2.out, if_neg (any_none (by rw [HRL.out]; exact HALL.out))]
          have HR3 := Lib.hid hR3
          clear hR3 HR2
          have PC := Lib.hid (pcheck_calls a n cap (k : Int) l wr (H.out.below BW.out) HL.out)
          rw [HRL.out] at HR3
          by_cases hpc : pcheckD l (k : Int) = 0
          · have HPC := Lib.hid hpc
            rw [hpc] at PC
            have eR : playD (0, 0) (layC rs ts) (cntAdd C) l [] = R := by rw [HR3.out, if_neg (by simpa using hpc)]
            have PL := Lib.hid (fun W h h' h'' g1 g2 g3 => playC_calls l a n cap rs ts ra ta k rc k tc (w.heap.size + 1) (w.heap.size + 1 + 1) w.heap.size C W h HL.out h' h'' g1 g2 g3 rfl HALL.out hC1 hC6 (by rw [HRL.out]; exact HPC.out))
            clear hpc HR3
            rw [eR] at PL
            clear eR
            obtain ⟨⟨d1, d2⟩, de⟩ := R
            have C2 := Lib.hid (fun (W : World) => Cells2.new W (.int .i64 0) (.int .i64 0) 102)
            go_wp2_with (first
              | (go_at_call 21; go_must (refine PC.out.mono ?_; rintro e w1 ⟨rfl, hb1⟩; have BL := Lib.hid (BW.out.trans (hb1.mono BW.out.size)); have u0 := Lib.hid ((hb1.cell (p := ⟨w.heap.size, 0, none⟩) (cell_lt y0)).trans y0); have u1 := Lib.hid ((hb1.cell (p := ⟨w.heap.size + 1, 0, none⟩) (cell_lt y1)).trans y1); have u2 := Lib.hid ((hb1.cell (p := ⟨w.heap.size + 1 + 1, 0, none⟩) (cell_lt y2)).trans y2); clear hb1))
              | (go_at_call 63; go_must (refine (PL.out _ (H.out.below BL.out) (HS.out.1.below BL.out) (HS.out.2.below BL.out) u1.out u2.out u0.out).mono ?_; rintro e w2 ⟨rfl, hb2⟩; have E2 := Lib.hid (Cells2.new w2 (.int .i64 0) (.int .i64 0) 102); obtain ⟨m0, m1, n0, n1⟩ := E2.out; have BL2 := Lib.hid (BL.out.trans (hb2.mono BL.out.size)); have hz3 := E2.out.lt; clear hb2)))
            have P := E2.out.put (.int .i64 d1) (.int .i64 d2)
            obtain ⟨p0, p1, _, _⟩ := P
            go_quiet (fail)
            go_wp2
            exact bodyPost_ret (v := .tuple #[.int .i64 d1, .int .i64 d2, .int .i64 de]) (by simp [results, Tryz.results20, go_sem]) rfl ⟨rfl, below_drewN (BL2.out.alloc BL2.out.size _) _⟩
          · obtain rfl : R = ((0, 0), 10) := by rw [HR3.out, if_pos (by simpa using hpc)]
            have hc10 : pcheckD l (k : Int) = 10 := by
              unfold pcheckD at hpc ⊢
              split <;> simp_all
            rw [hc10] at PC
            clear hpc hc10 HR3
            go_wp2_with (go_at_call 21; go_must (refine PC.out.mono ?_; rintro e w1 ⟨rfl, hb1⟩; have BL := Lib.hid (BW.out.trans (hb1.mono BW.out.size)); clear hb1))
            exact bodyPost_ret (v := .tuple #[.int .i64 0, .int .i64 0, .int .i64 10]) (by simp [results, Tryz.results20, go_sem]) rfl ⟨rfl, BL.out⟩
    · have hrt2 : ((rn : Int) != (tn : Int)) = true := by simp; omega
      obtain rfl : R = ((0, 0), 1) := by rw [HR.out]; unfold countsD; rw [if_pos (.inr (by rw [HRL.out, HTL.out]; exact hrt))]
      clear hz HR
      generalize sizeI C = sz at *
      go_enter Tryz.func20, Tryz.ntmps20
      go_wp2_with (go_at_call 58; go_must (refine (SZ.out _).mono ?_; rintro e w1 ⟨rfl, rfl⟩))
      exact bodyPost_ret (v := .tuple #[.int .i64 0, .int .i64 0, .int .i64 1]) (by simp [results, Tryz.results20, go_sem]) rfl ⟨rfl, B1.out⟩
end Go.Proofs.YtnboegeljaplbaaGreat
namespace Go.Proofs.YtnboegeljaplbaaGreat
open Go.RowKit Lv Go.Shelf

theorem wp_append_NF (w : World) {o : Oper} {a : Act} {K : Act → World → Prop} {Q : Exit → Act → World → Prop} (s x : Operand) (t : TypeId)
    (ho : o.op = .call { callee := .builtin .append, args := #[s, x], argTypes := #[t, t] })
    (base : Nat) (e : TypeId) (i : TypeInfo) (z : Value) (size bytes : Nat) (ht : Tryz.prog.underlying t = some (.slice e)) (hi : Tryz.prog.info? e = some i) (hz : i.zero = some z)
    (hsize : i.size = size) (hby : i.bytes = bytes) (hzs : z.cells.size = size) (hsz : 0 < size)
    (v : Value) (n : Nat) (xs : List Value) (hs : a.eval s = v) (hown : w.ownsRow base e size v n xs) (nf : NoF w v) (nz : ∀ u ∈ z.cells.toList, ∀ x, u ≠ .float .f64 x)
    (ad : Addr) (m c : Nat) (news : List Value) (hx : a.eval x = .slice (some ad) m c) (hl : news.length = m * size) (hnews : ∀ j u, news[j]? = some u → w.cell? (ad.add j) = some u) (h1 : ∀ u ∈ news, u.oneCell' = true) (nn : ∀ u ∈ news, ∀ x, u ≠ .float .f64 x)
    (h63 : n + m ≤ 1000) (hbytes : (n + m) * bytes ≤ 140737488355328) (hbase : base ≤ w.heap.size)
    (h : ∀ v' w', w'.ownsRow base e size v' (n + m) (xs ++ news) → w.grownBy w' v.ownBlock → NoF w' v' → K (a.put o.dst v') w') : Oper.wp Tryz.prog o a w K Q := by
  obtain ⟨v', w', hr, h2, h3, h4⟩ := run_append_NF w base t o.type e i z size bytes ht hi hz hsize hby hzs hsz v n xs hown nf nz ad m c news hl hnews h1 nn h63 hbytes hbase
  unfold Oper.wp execOp
  simp only [ho, resolve, invoke, builtin, Sem.run_bind, Sem.run_pure, Result.andThen_ok, List.map_toArray, List.map_cons, List.map_nil, hs, hx, hr]
  exact h v' w' h2 h3 h4
/-- at a step of a region that draws its order -/
theorem step_append_FF {w : World} {ops : Array Oper} {o : Oper} {a : Act} {K : Act → World → Prop} {Q : Exit → Act → World → Prop} {E : Prop} (hgd : o.guard = none) (s x : Operand)
    (hop : o.op = Op.call { callee := Callee.builtin Builtin.append, args := #[s, x], argTypes := #[23, 23] })
    (B : Nat) (v : Value) (Fs Gs : List FacD) (hs : a.eval s = v) (hown : OwnF w B v Fs) (ad : Addr) (m c : Nat) (hx : a.eval x = .slice (some ad) m c) (hG : Fcs w (.slice (some ad) m c) Gs)
    (b1 : Fs.length + Gs.length ≤ 1000) (b3 : B ≤ w.heap.size)
    (hK : ∀ v' w', OwnF w' B v' (Fs ++ Gs) → w.grownBy w' v.ownBlock → K (a.put o.dst v') w') :
    if Region.wanted o (yielded ops a.tmps) = true then Oper.wp Tryz.prog o a w K Q else E := by
  have hw : Region.wanted o (yielded ops a.tmps) = true := by simp [Region.wanted, hgd]
  rw [if_pos hw]
  obtain ⟨i0, hin, hz0, hz1, hz2⟩ := info_parts infoT
  obtain ⟨cs, h1, nf, h3⟩ := hown
  have hm := hG.len.1
  have hcl := h1.1
  have FC := fcs_cells hG
  obtain ⟨news, hnews⟩ : ∃ news : List Value, news = (List.range (m * 4)).map fun j => (w.cell? (ad.add j)).getD undef := ⟨_, rfl⟩
  have hnl : news.length = m * 4 := by rw [hnews]; simp
  have hat : ∀ j, j < m * 4 → news[j]? = w.cell? (ad.add j) := by
    intro j hj
    obtain ⟨u, hu, _⟩ := FC j hj
    rw [hnews, List.getElem?_map, List.getElem?_range hj, hu]
    simp [hu]
  have hmem : ∀ u ∈ news, u.oneCell' = true ∧ ∀ x, u ≠ .float .f64 x := by
    intro u hu
    obtain ⟨j, hj, rfl⟩ := List.getElem_of_mem hu
    rw [hnl] at hj
    obtain ⟨u', hu', h5⟩ := FC j hj
    have h6 := hat j hj
    rw [List.getElem?_eq_getElem (by rw [hnl]; exact hj), hu'] at h6
    rw [Option.some.inj h6]
    exact h5
  clear hnews
  refine wp_append_NF w s x _ hop B 28 i0 facZ 4 48 Tryz.underlying23 hin hz0 hz1 hz2 rfl (by decide) v Fs.length cs hs h1 nf ?_ ad m c news hx hnl ?_ (fun u hu => (hmem u hu).1) (fun u hu => (hmem u hu).2) (by omega) (by omega) b3 ?_
  · intro u hu x e
    subst e
    simp [facZ, Value.cells] at hu
  · intro j u hu
    have hj : j < m * 4 := by rw [← hnl]; exact (List.getElem?_eq_some_iff.1 hu).1
    rw [← hat j hj]; exact hu
  · intro v' w' ho hgr nf'
    refine hK v' w' ⟨cs ++ news, by rw [List.length_append, hm]; exact ho, nf', fun i hi => ?_⟩ hgr
    rw [List.length_append, hm] at hi
    by_cases hlt : i < Fs.length
    · obtain ⟨b, mm, d, k1, k2, k3, k4, k5⟩ := h3 i hlt
      have e : (Fs ++ Gs).getD i fac0 = Fs.getD i fac0 := by rw [List.getD_eq_getElem?_getD, List.getElem?_append_left hlt, List.getD_eq_getElem?_getD]
      rw [e]
      exact ⟨b, mm, d, by rw [List.getElem?_append_left (by omega)]; exact k1, by rw [List.getElem?_append_left (by omega)]; exact k2, by rw [List.getElem?_append_left (by omega)]; exact k3, by rw [List.getElem?_append_left (by omega)]; exact k4, k5.grown hgr nf⟩
    · obtain ⟨q, rfl⟩ : ∃ q, i = Fs.length + q := ⟨i - Fs.length, by omega⟩
      have e : (Fs ++ Gs).getD (Fs.length + q) fac0 = Gs.getD q fac0 := by rw [List.getD_eq_getElem?_getD, List.getElem?_append_right (by omega), Nat.add_sub_cancel_left, List.getD_eq_getElem?_getD]
      rw [e]
      obtain ⟨blk, off, e2, hc⟩ := hG.at (by omega)
      cases e2
      obtain ⟨b, mm, d, k1, k2, k3, k4, k5⟩ := hc q (by omega)
      have ea : ∀ j, (⟨blk, off, none⟩ : Addr).add j = ⟨blk, off + j, none⟩ := by intro j; unfold Addr.add; by_cases e : j = 0 <;> simp [e]
      refine ⟨b, mm, d, ?_, ?_, ?_, ?_, k5.grown hgr nf⟩
      · rw [List.getElem?_append_right (by omega), hcl, show (Fs.length + q) * 4 - Fs.length * 4 = q * 4 by omega, hat _ (by omega), ea]; exact k1
      · rw [List.getElem?_append_right (by omega), hcl, show (Fs.length + q) * 4 + 1 - Fs.length * 4 = q * 4 + 1 by omega, hat _ (by omega), ea]; exact k2
      · rw [List.getElem?_append_right (by omega), hcl, show (Fs.length + q) * 4 + 2 - Fs.length * 4 = q * 4 + 2 by omega, hat _ (by omega), ea]; exact k3
      · rw [List.getElem?_append_right (by omega), hcl, show (Fs.length + q) * 4 + 3 - Fs.length * 4 = q * 4 + 3 by omega, hat _ (by omega), ea]; exact k4
theorem OwnF.fcs {w : World} {B : Nat} {v : Value} {Fs : List FacD} (h : OwnF w B v Fs) : Fcs w v Fs := by
  obtain ⟨a, cap, rfl, h1, h2⟩ := h.form
  refine ⟨a, cap, rfl, h1, by unfold maxLen; exact h2, ?_⟩
  by_cases h0 : Fs.length = 0
  · exact .inl h0
  · obtain ⟨g, rfl, _, hc⟩ := h.at (by omega)
    exact .inr ⟨g, 0, rfl, fun i hi => by
      obtain ⟨b, m, d, k1, k2, k3, k4, k5⟩ := hc i hi
      exact ⟨b, m, d, by rw [Nat.zero_add]; exact k1, by rw [Nat.zero_add]; exact k2, by rw [Nat.zero_add]; exact k3, by rw [Nat.zero_add]; exact k4, k5⟩⟩
theorem ownF_emp (W : World) (B g : Nat) (hg : g = W.heap.size) (hB : B ≤ g) : OwnF (W.alloc (.cells #[] 28)) B (.slice (some ⟨g, 0, none⟩) 0 0) [] := by
  subst hg
  have ho : (W.alloc (.cells #[] 28)).ownsRow B 28 4 (.slice (some ⟨W.heap.size, 0, none⟩) 0 0) 0 [] := World.ownsRow_lit W #[] 0 hB (Nat.zero_le _) rfl
  refine ⟨[], ho, ?_, fun i hi => absurd hi (Nat.not_lt_zero _)⟩
  intro g' hg cur t' fr hh u hu
  cases hg
  have hh2 : (W.heap.push (.cells #[] 28))[W.heap.size]? = some (.cells cur t' fr) := hh
  rw [Array.getElem?_push_size] at hh2
  cases hh2
  simp at hu
theorem Fcs.grown1 {W W' : World} {B b : Nat} {v : Value} {Fs : List FacD} {G : FacD} (h : Fcs W (.slice (some ⟨b, 0, none⟩) 1 1) [G]) (ho : OwnF W B v Fs) (hg : W.grownBy W' v.ownBlock) (hne : some b ≠ v.ownBlock) : Fcs W' (.slice (some ⟨b, 0, none⟩) 1 1) [G] := by
  obtain ⟨cs, h1, nf, h3⟩ := ho
  obtain ⟨blk, off, e, hc⟩ := h.at (by omega)
  cases e
  obtain ⟨b', m, d, k1, k2, k3, k4, k5⟩ := hc 0 (by omega)
  refine ⟨some ⟨b, 0, none⟩, 1, rfl, Nat.le_refl _, by unfold maxLen; simp, .inr ⟨b, 0, rfl, fun i hi => ?_⟩⟩
  obtain rfl : i = 0 := by simp at hi; omega
  exact ⟨b', m, d, hg.cell k1 hne, hg.cell k2 hne, hg.cell k3 hne, hg.cell k4 hne, k5.grown hg nf⟩
theorem OwnF.mono {w : World} {B B' : Nat} {v : Value} {Fs : List FacD} (h : OwnF w B v Fs) (hB : B' ≤ B) : OwnF w B' v Fs := by
  obtain ⟨cs, h1, h2, h3⟩ := h
  refine ⟨cs, ⟨h1.1, ?_⟩, h2, h3⟩
  rcases h1.2 with h0 | ⟨g, cap, cur, q1, q2, q3⟩
  · exact .inl h0
  · exact .inr ⟨g, cap, cur, q1, Nat.le_trans hB q2, q3⟩
theorem ownF_alloc {W : World} {B : Nat} {v : Value} {Fs : List FacD} (h : OwnF W B v Fs) (o : Obj) : OwnF (W.alloc o) B v Fs := h.below ((Below.refl _ _).alloc (Nat.le_refl _) o)
theorem ownF_drew {W : World} {B : Nat} {v : Value} {Fs : List FacD} (h : OwnF W B v Fs) : OwnF W.drew B v Fs := h.below (Below.refl _ _).drew
end Go.Proofs.YtnboegeljaplbaaGreat
namespace Go.Proofs.YtnboegeljaplbaaGreat
open Go.RowKit Lv Go.Shelf
attribute [local go_sem] Oper.semAt_some run_store_float drewN_alloc drewN_setCell

attribute [local go_sem ↓] Go.wp_at_zero Go.wp_at_succ

/-- what stands at the head of the reference's loop -/
structure DInv (w : World) (R : FacD × Int) (Fs : List FacD) (l : List Int) (W : World) (i : Nat) (st : List FacD) (a : Option Addr) (n cap : Nat) : Prop where
  c4 : Cells4 W w.heap.size (.int .i64 0) (.slice none 0 0) (.int .i64 0) (.int .i64 0)
  own : OwnF W (w.heap.size + 1) (.slice a n cap) st
  len : st.length = n
  cap1 : n ≤ cap ∧ cap ≤ 9223372036854775807
  ht : htsP 0 (l.take i) = some (n : Int)
  eq : playD fac0 (layF Fs) twoD (l.drop i) st = R
  b2 : Below w.heap.size w W
/-- behind the statement that joins two -/
def DCutR (wr : World) (ge : Int) (G : FacD) (s10 s11 : Value) (W : World) : Prop :=
  ∃ (b6 : Nat) (ga : Option Addr) (gn gcp : Nat), s10 = .pointer (some ⟨b6, 0, none⟩) ∧ s11 = .int .i64 ge ∧ Cells4 W b6 (.int .i64 G.cols) (.slice ga gn gcp) (.int .i64 G.rws) (.int .i64 G.trn) ∧ Row W (.slice ga gn gcp) G.xs ∧ Below wr.heap.size wr W ∧ wr.heap.size ≤ b6
end Go.Proofs.YtnboegeljaplbaaGreat
namespace Go.Proofs.YtnboegeljaplbaaGreat
open Go.RowKit Lv Go.Shelf
attribute [local go_sem high] run_maxI

attribute [local go_sem] Oper.semAt_some drewN_alloc drewN_setCell

attribute [local go_sem ↓] Go.wp_at_zero Go.wp_at_succ

/-- pairs in a slice -/
def Prs (w : World) (v : Value) (cs : List (Int × Int)) : Prop :=
  ∃ (a : Option Addr) (cap : Nat), v = .slice a cs.length cap ∧ ∀ j u, (pcell cs)[j]? = some u → ∃ ad, a = some ad ∧ w.cell? (ad.add j) = some u
theorem Prs.below {w w' : World} {v : Value} {cs : List (Int × Int)} (h : Prs w v cs) (hb : Below w.heap.size w w') : Prs w' v cs := by
  obtain ⟨a, cap, e, h1⟩ := h
  refine ⟨a, cap, e, fun j u hu => ?_⟩
  obtain ⟨ad, ea, hc⟩ := h1 j u hu
  exact ⟨ad, ea, (hb.cell (p := ad.add j) (cell_lt hc)).trans hc⟩
theorem Prs.cells {w : World} {ad : Addr} {m c : Nat} {cs : List (Int × Int)} (h : Prs w (.slice (some ad) m c) cs) : cs.length = m ∧ ∀ j u, (pcell cs)[j]? = some u → w.cell? (ad.add j) = some u := by
  obtain ⟨a, cap, e, h1⟩ := h
  cases e
  refine ⟨rfl, fun j u hu => ?_⟩
  obtain ⟨ad', ea, hc⟩ := h1 j u hu
  cases ea
  exact hc
theorem OwnP.prs {w : World} {B : Nat} {e : TypeId} {v : Value} {cs : List (Int × Int)} (h : OwnP w B e v cs) : Prs w v cs := by
  have h1 : w.ownsRow B e 2 v cs.length (pcell cs) := h
  rcases id h1.2 with ⟨rfl, h0⟩ | ⟨g, cap, cur, rfl, q0, q1, q2, q3, q4, q5⟩
  · refine ⟨none, 0, by rw [h0], fun j u hu => ?_⟩
    have := (List.getElem?_eq_some_iff.1 hu).1
    rw [pcell_len, h0] at this
    omega
  · refine ⟨some ⟨g, 0, none⟩, cap, rfl, fun j u hu => ⟨⟨g, 0, none⟩, rfl, ?_⟩⟩
    have hj : j < (pcell cs).length := (List.getElem?_eq_some_iff.1 hu).1
    rw [show (⟨g, 0, none⟩ : Addr).add j = ⟨g, j, none⟩ by unfold Addr.add; by_cases e : j = 0 <;> simp [e]]
    rw [h1.cellAt j (by rw [pcell_len] at hj; omega)]
    exact hu
theorem prs_new {w : World} {g : Nat} (c1 c2 : Int) (t : TypeId) (hg : g = w.heap.size) : Prs (w.alloc (.cells #[.int .i64 c1, .int .i64 c2] t)) (.slice (some ⟨g, 0, none⟩) 1 1) [(c1, c2)] :=
  ⟨_, _, rfl, fun j u hu => ⟨_, rfl, cnt_new c1 c2 t hg j u hu⟩⟩
theorem Prs.grown1 {W W' : World} {B b : Nat} {e : TypeId} {v : Value} {cs ds : List (Int × Int)} {n c : Nat} (h : Prs W (.slice (some ⟨b, 0, none⟩) n c) ds) (_ : OwnP W B e v cs) (hg : W.grownBy W' v.ownBlock) (hne : some b ≠ v.ownBlock) : Prs W' (.slice (some ⟨b, 0, none⟩) n c) ds := by
  obtain ⟨hl, h1⟩ := h.cells
  refine ⟨_, c, by rw [hl], fun j u hu => ⟨_, rfl, ?_⟩⟩
  have hc := h1 j u hu
  have ea : (⟨b, 0, none⟩ : Addr).add j = ⟨b, j, none⟩ := by unfold Addr.add; by_cases e : j = 0 <;> simp [e]
  rw [ea] at hc ⊢
  exact hg.cell hc hne
theorem OwnP.mono {w : World} {B B' : Nat} {e : TypeId} {v : Value} {cs : List (Int × Int)} (h : OwnP w B e v cs) (hB : B' ≤ B) : OwnP w B' e v cs := by
  have h1 : w.ownsRow B e 2 v cs.length (pcell cs) := h
  refine ⟨h1.1, ?_⟩
  rcases h1.2 with h0 | ⟨g, cap, cur, q1, q2, q3⟩
  · exact .inl h0
  · exact .inr ⟨g, cap, cur, q1, Nat.le_trans hB q2, q3⟩
theorem ownP_emp (W : World) (B g : Nat) (e : TypeId) (hg : g = W.heap.size) (hB : B ≤ g) : OwnP (W.alloc (.cells #[] e)) B e (.slice (some ⟨g, 0, none⟩) 0 0) [] := by
  subst hg
  exact World.ownsRow_lit W #[] 0 hB (Nat.zero_le _) rfl
theorem ownP_alloc {W : World} {B : Nat} {e : TypeId} {v : Value} {cs : List (Int × Int)} (h : OwnP W B e v cs) (o : Obj) : OwnP (W.alloc o) B e v cs := h.below ((Below.refl _ _).alloc (Nat.le_refl _) o)
theorem ownP_drew {W : World} {B : Nat} {e : TypeId} {v : Value} {cs : List (Int × Int)} (h : OwnP W B e v cs) : OwnP W.drew B e v cs := h.below (Below.refl _ _).drew
end Go.Proofs.YtnboegeljaplbaaGreat
namespace Go.Proofs.YtnboegeljaplbaaGreat
open Go.RowKit Lv Go.Shelf
attribute [local go_sem high] run_maxI

attribute [local go_sem] Oper.semAt_some drewN_alloc drewN_setCell

attribute [local go_sem ↓] Go.wp_at_zero Go.wp_at_succ

/-- behind the statement that joins two -/
def ECut (wr : World) (c : Int × Int) (s17 : Value) (W : World) : Prop :=
  ∃ (b6 : Nat), s17 = .pointer (some ⟨b6, 0, none⟩) ∧ Cells2 W b6 (.int .i64 c.1) (.int .i64 c.2) ∧ Below wr.heap.size wr W ∧ wr.heap.size ≤ b6
theorem cntAdd_parts {C : Int} {a b : Int × Int} (ha : cntOk a = true) (hb : cntOk b = true) (hC1 : 1 ≤ C) (hC6 : C ≤ 6) :
    ((200 < a.1 + b.1 ∨ 4096 < max a.2 b.2 + sizeI C) ∧ cntAdd C a b = ((0, 0), 6)) ∨ (¬ (200 < a.1 + b.1) ∧ ¬ (4096 < max a.2 b.2 + sizeI C) ∧ cntAdd C a b = ((a.1 + b.1, max a.2 b.2 + sizeI C), 0) ∧ cntOk (a.1 + b.1, max a.2 b.2 + sizeI C) = true) := by
  obtain ⟨a1, a2⟩ := cntOk_in ha
  obtain ⟨b1, b2⟩ := cntOk_in hb
  have hs := sizeI_in hC1 hC6
  by_cases c : 200 < a.1 + b.1 ∨ 4096 < max a.2 b.2 + sizeI C
  · refine .inl ⟨c, ?_⟩
    unfold cntAdd
    rw [if_pos]
    unfold cntOk
    simp only [Bool.and_eq_false_iff, decide_eq_false_iff_not]
    omega
  · have hk : cntOk (a.1 + b.1, max a.2 b.2 + sizeI C) = true := by
      unfold cntOk
      simp only [Bool.and_eq_true, decide_eq_true_eq]
      omega
    refine .inr ⟨by omega, by omega, ?_, hk⟩
    unfold cntAdd
    rw [if_neg (by rw [hk]; simp)]
end Go.Proofs.YtnboegeljaplbaaGreat
namespace Go.Proofs.YtnboegeljaplbaaGreat
open Go.RowKit Lv Go.Shelf
open Ieee (double Format Datum Toward)
attribute [local go_sem] Oper.semAt_some run_store_float drewN_alloc drewN_setCell

theorem li_lits (W : World) (zs : List Int) (n : Nat) (hn : zs.length = n) (hm : n ≤ 1000) : LI (W.alloc (.cells (zs.map (Value.int .i64)).toArray 3)) (.slice (some ⟨W.heap.size, 0, none⟩) n n) zs := by
  subst hn
  refine ⟨_, _, by rw [List.length_map], by rw [List.length_map]; exact Nat.le_refl _, by unfold maxLen; omega, .inr ⟨W.heap.size, 0, rfl, fun i hi => ?_⟩⟩
  rw [List.length_map] at hi
  rw [Nat.zero_add]
  simp [go_sem, hi]
theorem li_lits' (W : World) (zs : List Int) (g n : Nat) (hg : g = W.heap.size) (hn : zs.length = n) (hm : n ≤ 1000) : LI (W.alloc (.cells (zs.map (Value.int .i64)).toArray 3)) (.slice (some ⟨g, 0, none⟩) n n) zs := by
  subst hg; exact li_lits W zs n hn hm
theorem fcs_pair {W : World} {F G : FacD} {a b : Option Addr} {n cap m d g : Nat} (hF : Row W (.slice a n cap) F.xs) (hG : Row W (.slice b m d) G.xs) (hg : g = W.heap.size) :
    Fcs (W.alloc (.cells #[.int .i64 F.cols, .slice a n cap, .int .i64 F.rws, .int .i64 F.trn, .int .i64 G.cols, .slice b m d, .int .i64 G.rws, .int .i64 G.trn] 28)) (.slice (some ⟨g, 0, none⟩) 2 2) [F, G] := by
  subst hg
  refine ⟨_, _, rfl, Nat.le_refl _, by unfold maxLen; simp, .inr ⟨W.heap.size, 0, rfl, fun i hi => ?_⟩⟩
  match i, hi with
  | 0, _ => exact ⟨_, _, _, by simp [go_sem], by simp [go_sem], by simp [go_sem], by simp [go_sem], hF.alloc _⟩
  | 1, _ => exact ⟨_, _, _, by simp [go_sem], by simp [go_sem], by simp [go_sem], by simp [go_sem], hG.alloc _⟩
abbrev Gq : FacD := ⟨1, [some 4617315517961601024, some 4607182418800017408, some 4611686018427387904], 2, 8⟩
theorem livp_q : runD [1, 0, -1] [Ga, Gb] = (Gq, 0) := by decide +kernel
theorem livp_r : runD [0, 0, -1] [Ga, Gb] = (fac0, 10) := by decide +kernel
theorem livp_s : countsD [0, 1, -1] 1 [1, 1] [2, 5] = ((2, 8), 0) := by decide +kernel
theorem livp_t : pcheckD [0] 1 = 0 ∧ pcheckD [] 1 = 10 ∧ heightD [0, 1, 2, -1, -1] = 3 ∧ leftD 3 = [0, 1, -1, 2, -1] ∧ evenD 4 = [0, 1, -1, 2, 3, -1, -1] ∧ rightD 9 = [] ∧ orderD [2, 0, -1] = [2, 0] := by decide +kernel

set_option maxRecDepth 100000 in
set_option maxHeartbeats 4000000 in
theorem live14_calls (w : World) : Calls Tryz.prog 7 #[] w fun e w' => e = .returned (.bool true) ∧ Below w.heap.size w w' := by
  have HT := Lib.hid livp_t
  go_enter Tryz.func7, Tryz.ntmps7
  go_upto_region 1 with (fail)
  go_cut [1] from 10 to 11 (fun s1 wx => ∃ b1 : Nat, s1 = .pointer (some ⟨b1, 0, none⟩) ∧ FacAt wx b1 Ga ∧ Below w.heap.size w wx)
  case first =>
    go_wp2
    go_meet
    case rel => exact ⟨_, rfl, FacAt.new' (F := Ga) (row_lits w [4613937818241073152, 13830554455654793216, 0] (by decide) 3 rfl (by decide)) (by simp), ((Below.refl _ _).alloc (Nat.le_refl _) _).alloc (by simp) _⟩
  case rest =>
    obtain ⟨b1, rfl, F1, B1⟩ := hcut
    obtain ⟨W1, rfl⟩ : ∃ x, x = wc := ⟨_, rfl⟩
    go_upto_region 2 with (fail)
    go_cut [2] from 12 to 13 (fun s2 wx => ∃ b2 : Nat, s2 = .pointer (some ⟨b2, 0, none⟩) ∧ FacAt wx b2 Gb ∧ Below W1.heap.size W1 wx)
    case first =>
      go_wp2
      go_meet
      case rel => exact ⟨_, rfl, FacAt.new' (F := Gb) (row_lits W1 [4616189618054758400, 4611686018427387904, 0] (by decide) 3 rfl (by decide)) (by simp), ((Below.refl _ _).alloc (Nat.le_refl _) _).alloc (by simp) _⟩
    case rest =>
      obtain ⟨b2, rfl, F2, B2⟩ := hcut
      obtain ⟨W2, rfl⟩ : ∃ x, x = wc := ⟨_, rfl⟩
      have F1 := F1.below B2
      go_upto_region 3 with (fail)
      go_cut [3, 4] from 14 to 21 (fun s3 s4 wx => ∃ b3 : Nat, s3 = .pointer (some ⟨b3, 0, none⟩) ∧ s4 = .int .i64 0 ∧ FacAt wx b3 Gq ∧ Below W2.heap.size W2 wx)
      case first =>
        obtain ⟨fa, fn, fc, fC, fR⟩ := F1
        have fC2 := fC.alloc (.cells #[.int .i64 1, .int .i64 0, .int .i64 (-1)] 3)
        obtain ⟨c0, c1, c2, c3, _, _, _, _⟩ := fC2
        have FR := Lib.hid (fR.alloc (.cells #[.int .i64 1, .int .i64 0, .int .i64 (-1)] 3))
        obtain ⟨ea, en, ec, eC, eR⟩ := F2
        have eC2 := eC.alloc (.cells #[.int .i64 1, .int .i64 0, .int .i64 (-1)] 3)
        obtain ⟨d0, d1, d2, d3, _, _, _, _⟩ := eC2
        have ER := Lib.hid (eR.alloc (.cells #[.int .i64 1, .int .i64 0, .int .i64 (-1)] 3))
        clear fR eR fC eC
        dsimp only at c0 c1 c2 c3 d0 d1 d2 d3
        go_wp2_with (go_at_call 8; go_must (refine (prun_calls [1, 0, -1] _ 3 3 [Ga, Gb] _ 2 2 _ ((li_lits W2 [1, 0, -1] 3 rfl (by decide)).below ((Below.refl _ _).alloc (Nat.le_refl _) _)) (by decide) (fcs_pair (F := Ga) (G := Gb) FR.out ER.out (by simp))).mono ?_; rintro e wL ⟨⟨ga, gn, gcp, he, hrow⟩, hbL⟩; rw [livp_q] at he hrow; dsimp only at he hrow; subst he))
        go_meet
        case rel => exact ⟨_, rfl, rfl, FacAt.new (F := Gq) hrow, ((((Below.refl _ _).alloc (Nat.le_refl _) _).alloc (by simp) _).trans (hbL.mono (by simp; omega))).alloc (by have := hbL.size; simp at this; omega) _⟩
      case rest =>
        obtain ⟨b3, rfl, rfl, F3, B3⟩ := hcut
        obtain ⟨W3, rfl⟩ : ∃ x, x = wc := ⟨_, rfl⟩
        have F1 := F1.below B3
        have F2 := F2.below B3
        go_upto_region 4 with (fail)
        go_cut [5, 6] from 22 to 29 (fun s5 s6 wx => ∃ b5 : Nat, s5 = .pointer (some ⟨b5, 0, none⟩) ∧ s6 = .int .i64 10 ∧ FacAt wx b5 fac0 ∧ Below W3.heap.size W3 wx)
        case first =>
          obtain ⟨fa, fn, fc, fC, fR⟩ := F1
          have fC2 := fC.alloc (.cells #[.int .i64 0, .int .i64 0, .int .i64 (-1)] 3)
          obtain ⟨c0, c1, c2, c3, _, _, _, _⟩ := fC2
          have FR := Lib.hid (fR.alloc (.cells #[.int .i64 0, .int .i64 0, .int .i64 (-1)] 3))
          obtain ⟨ea, en, ec, eC, eR⟩ := F2
          have eC2 := eC.alloc (.cells #[.int .i64 0, .int .i64 0, .int .i64 (-1)] 3)
          obtain ⟨d0, d1, d2, d3, _, _, _, _⟩ := eC2
          have ER := Lib.hid (eR.alloc (.cells #[.int .i64 0, .int .i64 0, .int .i64 (-1)] 3))
          clear fR eR fC eC F3
          dsimp only at c0 c1 c2 c3 d0 d1 d2 d3
          go_wp2_with (go_at_call 8; go_must (refine (prun_calls [0, 0, -1] _ 3 3 [Ga, Gb] _ 2 2 _ ((li_lits W3 [0, 0, -1] 3 rfl (by decide)).below ((Below.refl _ _).alloc (Nat.le_refl _) _)) (by decide) (fcs_pair (F := Ga) (G := Gb) FR.out ER.out (by simp))).mono ?_; rintro e wL ⟨⟨ga, gn, gcp, he, hrow⟩, hbL⟩; rw [livp_r] at he hrow; dsimp only at he hrow; subst he))
          go_meet
          case rel => exact ⟨_, rfl, rfl, FacAt.new (F := fac0) hrow, ((((Below.refl _ _).alloc (Nat.le_refl _) _).alloc (by simp) _).trans (hbL.mono (by simp; omega))).alloc (by have := hbL.size; simp at this; omega) _⟩
        case rest =>
          obtain ⟨b5, rfl, rfl, F5, B5⟩ := hcut
          obtain ⟨W5, rfl⟩ : ∃ x, x = wc := ⟨_, rfl⟩
          have F3 := F3.below B5
          have HB5 := Lib.hid ((((B1.trans (B2.mono B1.size)).trans (B3.mono (by have := B1.size; have := B2.size; omega))).trans (B5.mono (by have := B1.size; have := B2.size; have := B3.size; omega))))
          clear F1 F2 F5 B1 B2 B3 B5
          go_upto_region 5 with (fail)
          go_cut [7, 8, 9] from 30 to 37 (fun s7 s8 s9 wx => s7 = .int .i64 2 ∧ s8 = .int .i64 8 ∧ s9 = .int .i64 0 ∧ Below W5.heap.size W5 wx)
          case first =>
            clear F3
            go_wp2_with (go_at_call 20; go_must (refine (pcounts_calls [0, 1, -1] _ 3 3 1 [1, 1] [2, 5] _ _ 2 2 2 2 _ (((li_lits W5 [0, 1, -1] 3 rfl (by decide)).below ((Below.refl _ _).alloc (Nat.le_refl _) _)).below ((Below.refl _ _).alloc (Nat.le_refl _) _)) (by decide) ((li_lits' _ [1, 1] (W5.heap.size + 1) 2 (by simp) rfl (by decide)).below ((Below.refl _ _).alloc (Nat.le_refl _) _)) (li_lits' _ [2, 5] (W5.heap.size + 1 + 1) 2 (by simp) rfl (by decide))).mono ?_; rintro e wL ⟨he, hbL⟩; rw [livp_s] at he; dsimp only at he; subst he))
            go_meet
            case rel => exact ⟨rfl, rfl, rfl, ((((Below.refl _ _).alloc (Nat.le_refl _) _).alloc (by simp) _).alloc (by simp; omega) _).trans (hbL.mono (by simp; omega))⟩
          case rest =>
            obtain ⟨rfl, rfl, rfl, B6⟩ := hcut
            obtain ⟨W6, rfl⟩ : ∃ x, x = wc := ⟨_, rfl⟩
            have HB6 := Lib.hid (HB5.out.trans (B6.mono HB5.out.size))
            have F3 := F3.below B6
            clear B6 HB5
            obtain ⟨ga, gn, gc, gC, gR⟩ := F3
            obtain ⟨g0, g1, g2, g3, _, _, _, _⟩ := gC
            obtain ⟨gb, go, rfl, rfl, gx, gy, gz⟩ := row_three gR
            dsimp only at g0 g1 g2 g3
            clear gR gy gz
            go_wp2_with (first
              | (go_at_call_of 21 (Value.slice none 0 0); go_must (refine (pcheck_calls none 0 0 1 [] _ (li_nil _) (by decide)).mono ?_; rintro e wB ⟨he, hbB⟩; rw [HT.out.2.1] at he; subst he; have BB := Lib.hid (BA.out.trans (hbB.mono BA.out.size)); clear hbB))
              | (go_at_call 21; go_must (refine (pcheck_calls _ 1 1 1 [0] _ (li_lits W6 [0] 1 rfl (by decide)) (by decide)).mono ?_; rintro e wA ⟨he, hbA⟩; rw [HT.out.1] at he; subst he; have BA := Lib.hid (((Below.refl W6.heap.size W6).alloc (Nat.le_refl _) _).trans (hbA.mono (by simp))); clear hbA))
              | (go_at_call 22; go_must (refine (pheight_calls _ 5 5 [0, 1, 2, -1, -1] _ (li_lits wB [0, 1, 2, -1, -1] 5 rfl (by decide)) (by decide)).mono ?_; rintro e wC ⟨he, hbC⟩; rw [HT.out.2.2.1] at he; subst he; have BC := Lib.hid ((BB.out.alloc BB.out.size _).trans (hbC.mono (by have := BB.out.size; simp; omega))); clear hbC))
              | (go_at_call 24; go_must (refine (pleft_calls 3 _).mono ?_; rintro e wD ⟨⟨vD, rfl, hvD⟩, hbD⟩; rw [HT.out.2.2.2.1] at hvD; obtain ⟨aD, cD, rfl⟩ := hvD.form; have HVD := Lib.hid hvD; have BD := Lib.hid (BC.out.trans (hbD.mono BC.out.size)); clear hvD hbD))
              | (go_at_call 25; go_must (refine (pEven_calls 4 _).mono ?_; rintro e wF ⟨⟨vF, rfl, hvF⟩, hbF⟩; rw [HT.out.2.2.2.2.1] at hvF; obtain ⟨aF, cF, rfl⟩ := hvF.form; have HVF := Lib.hid hvF; have BF := Lib.hid (BE.out.trans (hbF.mono BE.out.size)); clear hvF hbF))
              | (go_at_call 26; go_must (refine (pright_calls 9 _).mono ?_; rintro e wH ⟨⟨vH, rfl, hvH⟩, hbH⟩; rw [HT.out.2.2.2.2.2.1] at hvH; obtain ⟨aH, cH, rfl⟩ := hvH.form; have BH := Lib.hid (BG.out.trans (hbH.mono BG.out.size)); clear hvH hbH))
              | (go_at_call 10; go_must (refine (porder_calls _ 3 3 [2, 0, -1] _ (li_lits wH [2, 0, -1] 3 rfl (by decide)) (by decide)).mono ?_; rintro e wI ⟨⟨vI, rfl, hvI⟩, hbI⟩; rw [HT.out.2.2.2.2.2.2] at hvI; obtain ⟨aI, cI, rfl⟩ := hvI.form; have HVI := Lib.hid hvI; have BI := Lib.hid ((BH.out.alloc BH.out.size _).trans (hbI.mono (by have := BH.out.size; simp; omega))); clear hvI hbI))
              | (go_at_call 23; refine (rints_calls aI _ 2 cI 2 2 [2, 0] [2, 0] _ (HVI.out.below ((Below.refl _ _).alloc (Nat.le_refl _) _)) (li_lits wI [2, 0] 2 rfl (by decide))).mono ?_; rintro e wJ ⟨he, hbJ⟩; rw [show decide (([2, 0] : List Int) = [2, 0]) = true from rfl] at he; subst he; have BJ := Lib.hid ((BI.out.alloc BI.out.size _).trans (hbJ.mono (by have := BI.out.size; simp; omega))); clear hbJ)
              | (go_at_call 23; refine (rints_calls aF _ 7 cF 7 7 [0, 1, -1, 2, 3, -1, -1] [0, 1, -1, 2, 3, -1, -1] _ (HVF.out.below ((Below.refl _ _).alloc (Nat.le_refl _) _)) (li_lits wF [0, 1, -1, 2, 3, -1, -1] 7 rfl (by decide))).mono ?_; rintro e wG ⟨he, hbG⟩; rw [show decide (([0, 1, -1, 2, 3, -1, -1] : List Int) = [0, 1, -1, 2, 3, -1, -1]) = true from rfl] at he; subst he; have BG := Lib.hid ((BF.out.alloc BF.out.size _).trans (hbG.mono (by have := BF.out.size; simp; omega))); clear hbG)
              | (go_at_call 23; go_must (refine (rints_calls aD _ 5 cD 5 5 [0, 1, -1, 2, -1] [0, 1, -1, 2, -1] _ (HVD.out.below ((Below.refl _ _).alloc (Nat.le_refl _) _)) (li_lits wD [0, 1, -1, 2, -1] 5 rfl (by decide))).mono ?_; rintro e wE ⟨he, hbE⟩; rw [show decide (([0, 1, -1, 2, -1] : List Int) = [0, 1, -1, 2, -1]) = true from rfl] at he; subst he; have BE := Lib.hid ((BD.out.alloc BD.out.size _).trans (hbE.mono (by have := BD.out.size; simp; omega))); clear hbE)))
            go_ret
            exact ⟨rfl, HB6.out.trans (BJ.out.mono HB6.out.size)⟩
end Go.Proofs.YtnboegeljaplbaaGreat
