/- What a plan comes to: the program's Run. Counts: two cells in memory; what may be; what a plan's counts lay and join. What a plan's counts join. -/
import Derived.Test.YtgmaljikjkbdlaaYk
namespace Go.Proofs.Ytgmaljikjkbdlaa
open Go.RowKit Lv Go.Shelf
attribute [local go_sem] Oper.semAt_some run_store_float drewN_alloc drewN_setCell

set_option maxRecDepth 100000 in
set_option maxHeartbeats 1000000 in
theorem prun_calls (l : List Int) (a : Option Addr) (n cap : Nat) (Fs : List FacD) (sa : Option Addr) (sn sc : Nat) (w : World) (h : LI w (.slice a n cap) l) (hl : l.length ≤ 100) (hs : Fcs w (.slice sa sn sc) Fs) :
    Calls Try.prog 23 #[.slice a n cap, .slice sa sn sc] w fun e w' => FacE (runD l Fs) e w' ∧ Below w.heap.size w w' := by
  obtain ⟨s1, s2, s3⟩ := hs.len
  subst s1
  have H := Lib.hid h
  have HL := Lib.hid hl
  have HS := Lib.hid hs
  have B1 := Lib.hid (((Below.refl w.heap.size w).alloc (Nat.le_refl _) (.cells #[.slice sa Fs.length sc] 31)).alloc (by simp) (.cells #[.int .i64 0, .slice none 0 0, .int .i64 0, .int .i64 0] 36))
  have C1 := Lib.hid (show Cells4 ((w.alloc (.cells #[.slice sa Fs.length sc] 31)).alloc (.cells #[.int .i64 0, .slice none 0 0, .int .i64 0, .int .i64 0] 36)) (w.heap.size + 1) (.int .i64 0) (.slice none 0 0) (.int .i64 0) (.int .i64 0) from by
    have := Cells4.new (w.alloc (.cells #[.slice sa Fs.length sc] 31)) (.int .i64 0) (.slice none 0 0) (.int .i64 0) (.int .i64 0) 36
    simpa using this)
  have HC := Lib.hid (pcheck_calls a n cap Fs.length l _ (H.out.below B1.out) HL.out)
  clear h hl hs
  by_cases c : pcheckD l Fs.length = 0
  · have hR : runD l Fs = playD fac0 (layF Fs) twoD l [] := by unfold runD; rw [if_neg (by simpa using c)]
    rw [hR]
    have HP := Lib.hid (fun W h hs bs hc => playF_calls l a n cap Fs sa Fs.length sc bs W h HL.out hs hc c)
    rw [c] at HC
    clear hR c
    generalize playD fac0 (layF Fs) twoD l [] = R at *
    obtain ⟨⟨gc, gx, gr, gt⟩, ge⟩ := R
    go_enter Try.func23, Try.ntmps23
    go_wp2_with (first
      | (go_at_call 9; go_must (refine HC.out.mono ?_; rintro e w1 ⟨rfl, hb1⟩; have BL := Lib.hid (B1.out.trans (hb1.mono (by simp; omega))); have E1 := Lib.hid (C1.out.below hb1); have q0 := (hb1.cell (p := ⟨w.heap.size, 0, none⟩) (by simp; omega)).trans (show _ = some (.slice sa Fs.length sc) by simp [go_sem]); have hz1 := hb1.size; simp at hz1; clear hb1))
      | (go_at_call 40; go_must (refine (HP.out _ (H.out.below BL.out) (HS.out.below BL.out) _ q0).mono ?_; rintro e w2 ⟨⟨ga, gn, gcp, rfl, hrow⟩, hb2⟩; have E2 := Lib.hid (E1.out.below hb2); obtain ⟨m0, m1, m2, m3, n0, n1, n2, n3⟩ := E2.out; have HRW := Lib.hid hrow; have BL2 := Lib.hid (BL.out.trans (hb2.mono BL.out.size)); have hz3 := E2.out.lt; clear hrow hb2)))
    have P4 := E2.out.put (.int .i64 gc) (.slice ga gn gcp) (.int .i64 gr) (.int .i64 gt)
    exact bodyPost_ret (v := .tuple #[.agg #[.int .i64 gc, .slice ga gn gcp, .int .i64 gr, .int .i64 gt], .int .i64 ge]) (by simp [results, Try.results23, go_sem, P4.c0, P4.c1, P4.c2, P4.c3]) rfl ⟨⟨ga, gn, gcp, rfl, HRW.out.put4 E2.out slice_ne _ _ _ _⟩, below_put4 BL2.out (Nat.le_succ _) _ _ _ _⟩
  · have hR : runD l Fs = (fac0, 10) := by unfold runD; rw [if_pos (by simpa using c)]
    rw [hR]
    have hc10 : pcheckD l Fs.length = 10 := by
      unfold pcheckD at c ⊢
      split <;> simp_all
    rw [hc10] at HC
    clear hR c hc10
    go_enter Try.func23, Try.ntmps23
    go_wp2_with (go_at_call 9; go_must (refine HC.out.mono ?_; rintro e w1 ⟨rfl, hb1⟩; have BL := Lib.hid (B1.out.trans (hb1.mono (by simp; omega))); have E1 := Lib.hid (C1.out.below hb1); obtain ⟨m0, m1, m2, m3, n0, n1, n2, n3⟩ := E1.out; have hz3 := E1.out.lt; clear hb1))
    have P4 := E1.out.put (.int .i64 0) (.slice none 0 0) (.int .i64 0) (.int .i64 0)
    exact bodyPost_ret (v := .tuple #[facZ, .int .i64 10]) (by simp [results, Try.results23, go_sem, facZ, P4.c0, P4.c1, P4.c2, P4.c3]) rfl ⟨facE_no _ rfl, below_put4 BL.out (Nat.le_succ _) _ _ _ _⟩
end Go.Proofs.Ytgmaljikjkbdlaa
namespace Go.Proofs.Ytgmaljikjkbdlaa
open Go.RowKit Lv Go.Shelf
attribute [local go_sem high] run_maxI

attribute [local go_sem] Oper.semAt_some drewN_alloc drewN_setCell

/-- two cells -/
structure Cells2 (W : World) (b : Nat) (u0 u1 : Value) : Prop where
  c0 : W.cell? ⟨b, 0, none⟩ = some u0
  c1 : W.cell? ⟨b, 1, none⟩ = some u1
  f0 : W.frozen? ⟨b, 0, none⟩ = false
  f1 : W.frozen? ⟨b, 1, none⟩ = false
theorem Cells2.lt {W : World} {b : Nat} {u0 u1 : Value} (h : Cells2 W b u0 u1) : b < W.heap.size := cell_lt h.c0
theorem Cells2.below {W W' : World} {b : Nat} {u0 u1 : Value} (h : Cells2 W b u0 u1) (hb : Below W.heap.size W W') : Cells2 W' b u0 u1 :=
  ⟨(hb.cell (p := ⟨b, 0, none⟩) h.lt).trans h.c0, (hb.cell (p := ⟨b, 1, none⟩) h.lt).trans h.c1, (hb.frozen (p := ⟨b, 0, none⟩) h.lt).trans h.f0, (hb.frozen (p := ⟨b, 1, none⟩) h.lt).trans h.f1⟩
theorem Cells2.new (w : World) (u0 u1 : Value) (t : TypeId) : Cells2 (w.alloc (.cells #[u0, u1] t)) w.heap.size u0 u1 := ⟨by simp [go_sem], by simp [go_sem], by simp [go_sem], by simp [go_sem]⟩
theorem Cells2.alloc {W : World} {b : Nat} {u0 u1 : Value} (h : Cells2 W b u0 u1) (o : Obj) : Cells2 (W.alloc o) b u0 u1 := h.below ((Below.refl _ _).alloc (Nat.le_refl _) _)
theorem Cells2.grown {W W' : World} {b : Nat} {u0 u1 : Value} {row : Option Nat} (h : Cells2 W b u0 u1) (hg : W.grownBy W' row) (hne : some b ≠ row) : Cells2 W' b u0 u1 := by
  have hb := hg.block b h.lt hne
  exact ⟨(World.cell?_of_block (w := W) (a := ⟨b, 0, none⟩) hb).trans h.c0, (World.cell?_of_block (w := W) (a := ⟨b, 1, none⟩) hb).trans h.c1, (World.frozen?_of_block (w := W) (a := ⟨b, 0, none⟩) hb).trans h.f0, (World.frozen?_of_block (w := W) (a := ⟨b, 1, none⟩) hb).trans h.f1⟩
theorem Cells2.put {W : World} {b : Nat} {u0 u1 : Value} (h : Cells2 W b u0 u1) (v0 v1 : Value) : Cells2 ((W.setCell ⟨b, 0, none⟩ v0).setCell ⟨b, 1, none⟩ v1) b v0 v1 :=
  ⟨cell_set_off (cell_set_eq h.c0) (by decide), cell_set_eq (cell_set_off h.c1 (by decide)), frozen_set (frozen_set h.f0), frozen_set (frozen_set h.f1)⟩
theorem Cells2.put_other {W : World} {b b' : Nat} {u0 u1 : Value} (h : Cells2 W b u0 u1) (hne : b' ≠ b) (v0 v1 : Value) : Cells2 ((W.setCell ⟨b', 0, none⟩ v0).setCell ⟨b', 1, none⟩ v1) b u0 u1 :=
  ⟨cell_set_ne (cell_set_ne h.c0 hne) hne, cell_set_ne (cell_set_ne h.c1 hne) hne, frozen_set (frozen_set h.f0), frozen_set (frozen_set h.f1)⟩
theorem below_put2 {w W : World} {b : Nat} (h : Below w.heap.size w W) (hb : w.heap.size ≤ b) (u0 u1 : Value) : Below w.heap.size w ((W.setCell ⟨b, 0, none⟩ u0).setCell ⟨b, 1, none⟩ u1) :=
  (h.setCell (p := ⟨b, 0, none⟩) hb _).setCell (p := ⟨b, 1, none⟩) hb _

theorem pcmay_calls (r t : Int) (w : World) : Calls Try.prog 44 #[.agg #[.int .i64 r, .int .i64 t]] w fun e w' => e = .returned (.bool (cntOk (r, t))) ∧ Below w.heap.size w w' := by
  have HB := (Below.refl w.heap.size w).alloc (Nat.le_refl _) (.cells #[.int .i64 r, .int .i64 t] 66)
  by_cases c1 : 0 ≤ r
  · by_cases c2 : r ≤ 200
    · by_cases c3 : 0 ≤ t
      · by_cases c4 : t ≤ 4096
        · have e : cntOk (r, t) = true := by unfold cntOk; simp; omega
          rw [e]
          go_enter Try.func44, Try.ntmps44
          go_wp2
          go_ret
          exact ⟨rfl, HB⟩
        · have e : cntOk (r, t) = false := by unfold cntOk; simp; omega
          rw [e]
          go_enter Try.func44, Try.ntmps44
          go_wp2
          go_ret
          exact ⟨rfl, HB⟩
      · have e : cntOk (r, t) = false := by unfold cntOk; simp; omega
        rw [e]
        go_enter Try.func44, Try.ntmps44
        go_wp2
        go_ret
        exact ⟨rfl, HB⟩
    · have e : cntOk (r, t) = false := by unfold cntOk; simp; omega
      rw [e]
      go_enter Try.func44, Try.ntmps44
      go_wp2
      go_ret
      exact ⟨rfl, HB⟩
  · have e : cntOk (r, t) = false := by unfold cntOk; simp; omega
    rw [e]
    go_enter Try.func44, Try.ntmps44
    go_wp2
    go_ret
    exact ⟨rfl, HB⟩

set_option maxRecDepth 100000 in
set_option maxHeartbeats 1000000 in
theorem pcounts1_calls (i : Nat) (rs ts : List Int) (ra ta : Option Addr) (rn rc tn tc b1 b2 : Nat) (w : World) (hr : LI w (.slice ra rn rc) rs) (ht : LI w (.slice ta tn tc) ts) (h1 : w.cell? ⟨b1, 0, none⟩ = some (.slice ra rn rc)) (h2 : w.cell? ⟨b2, 0, none⟩ = some (.slice ta tn tc)) (hi : i < rn) (hi2 : i < tn) :
    Calls Try.prog 45 #[.int .i64 (i : Int), .pointer (some ⟨b1, 0, none⟩), .pointer (some ⟨b2, 0, none⟩)] w fun e w' => e = .returned (.tuple #[.agg #[.int .i64 (rs.getD i 0), .int .i64 (ts.getD i 0)], .int .i64 0]) ∧ Below w.heap.size w w' := by
  obtain ⟨l1, l2, l3⟩ := hr.len
  obtain ⟨k1, k2, k3⟩ := ht.len
  obtain ⟨blk, off, rfl, hc⟩ := hr.at (by omega)
  obtain ⟨blk', off', rfl, hc'⟩ := ht.at (by omega)
  have x1 := hc i hi
  have x2 := hc' i hi2
  have hii : (i : Int) < (rn : Int) := by omega
  have hii2 : (i : Int) < (tn : Int) := by omega
  have B1 := Lib.hid ((Below.refl w.heap.size w).alloc (Nat.le_refl _) (.cells #[.int .i64 0, .int .i64 0] 66)).drew
  have C1 := Lib.hid ((Cells2.new w (.int .i64 0) (.int .i64 0) 66).below (Below.refl _ _).drew)
  have y1 := (B1.out.cell (p := ⟨blk, off + i, none⟩) (cell_lt x1)).trans x1
  have y2 := (B1.out.cell (p := ⟨blk', off' + i, none⟩) (cell_lt x2)).trans x2
  have z1 := (B1.out.cell (p := ⟨b1, 0, none⟩) (cell_lt h1)).trans h1
  have z2 := (B1.out.cell (p := ⟨b2, 0, none⟩) (cell_lt h2)).trans h2
  obtain ⟨m0, m1, n0, n1⟩ := C1.out
  have hlt := C1.out.lt
  clear hr ht h1 h2 hc hc' x1 x2 l1 k1
  generalize rs.getD i 0 = r at *
  generalize ts.getD i 0 = t at *
  go_enter Try.func45, Try.ntmps45
  go_wp2
  go_region
  all_goals
    go_wp2
    exact bodyPost_ret (v := .tuple #[.agg #[.int .i64 r, .int .i64 t], .int .i64 0]) (by simp [results, Try.results45, go_sem]) rfl ⟨rfl, ((Below.refl w.heap.size w).alloc (Nat.le_refl _) _).drew⟩
end Go.Proofs.Ytgmaljikjkbdlaa
namespace Go.Proofs.Ytgmaljikjkbdlaa
open Go.RowKit Lv Go.Shelf
attribute [local go_sem high] run_maxI

attribute [local go_sem] Oper.semAt_some drewN_alloc drewN_setCell

theorem five_keep {W W' : World} {a0 a1 a2 a3 a4 : Addr} {u0 u1 u2 u3 u4 : Value} (e0 : W.cell? a0 = some u0) (e1 : W.cell? a1 = some u1) (e2 : W.cell? a2 = some u2) (e3 : W.cell? a3 = some u3) (e4 : W.cell? a4 = some u4) (hb : Below W.heap.size W W') : W'.cell? a0 = some u0 ∧ W'.cell? a1 = some u1 ∧ W'.cell? a2 = some u2 ∧ W'.cell? a3 = some u3 ∧ W'.cell? a4 = some u4 :=
  ⟨(hb.cell (cell_lt e0)).trans e0, (hb.cell (cell_lt e1)).trans e1, (hb.cell (cell_lt e2)).trans e2, (hb.cell (cell_lt e3)).trans e3, (hb.cell (cell_lt e4)).trans e4⟩
set_option maxRecDepth 100000 in
set_option maxHeartbeats 2000000 in
theorem pcounts2_calls (C r t r' t' : Int) (b3 : Nat) (w : World) (h : w.cell? ⟨b3, 0, none⟩ = some (.int .i64 C)) (hr : 0 ≤ r ∧ r ≤ 200) (hr' : 0 ≤ r' ∧ r' ≤ 200) (ht : 0 ≤ t ∧ t ≤ 4096) (ht' : 0 ≤ t' ∧ t' ≤ 4096) (hC1 : 1 ≤ C) (hC6 : C ≤ 6) :
    Calls Try.prog 46 #[.agg #[.int .i64 r, .int .i64 t], .agg #[.int .i64 r', .int .i64 t'], .pointer (some ⟨b3, 0, none⟩)] w fun e w' => e = .returned (.tuple #[.agg #[.int .i64 (cntAdd C (r, t) (r', t')).1.1, .int .i64 (cntAdd C (r, t) (r', t')).1.2], .int .i64 (cntAdd C (r, t) (r', t')).2]) ∧ Below w.heap.size w w' := by
  have hs := sizeI_in hC1 hC6
  have CS := Lib.hid (fun w => cost_calls C w)
  obtain ⟨m, hm⟩ : ∃ m, max t t' = m := ⟨_, rfl⟩
  have hm0 : 0 ≤ m ∧ m ≤ 4096 := by omega
  have hb := cell_lt h
  have HB := Lib.hid ((((Below.refl w.heap.size w).alloc (Nat.le_refl _) (.cells #[.int .i64 r, .int .i64 t] 66)).alloc (by simp) (.cells #[.int .i64 r', .int .i64 t'] 66)).alloc (by simp; omega) (.cells #[.int .i64 0, .int .i64 0] 66))
  have y1 := (HB.out.drew.cell (p := ⟨b3, 0, none⟩) hb).trans h
  unfold cntAdd
  dsimp only
  rw [hm]
  have PM := Lib.hid (fun w => pcmay_calls (r + r') (m + sizeI C) w)
  cases hk : cntOk (r + r', m + sizeI C) with
  | true =>
    rw [hk] at PM
    rw [if_neg (by simp)]
    clear hk
    have hb' : b3 < w.heap.size := hb
    have hb1 : b3 ≠ w.heap.size := by omega
    have hb2 : b3 ≠ w.heap.size + 1 := by omega
    have hb3 : b3 ≠ w.heap.size + 1 + 1 := by omega
    have hw0 : IntKind.i64.wrap (r + r') = r + r' := IntWalk.i64_in _ (by omega)
    have hw1 : IntKind.i64.wrap (m + sizeI C) = m + sizeI C := IntWalk.i64_in _ (by omega)
    generalize sizeI C = sz at *
    have D0 := ((Cells2.new w (.int .i64 r) (.int .i64 t) 66).alloc (.cells #[.int .i64 r', .int .i64 t'] 66)).alloc (.cells #[.int .i64 0, .int .i64 0] 66)
    have D1 : Cells2 (((w.alloc (.cells #[.int .i64 r, .int .i64 t] 66)).alloc (.cells #[.int .i64 r', .int .i64 t'] 66)).alloc (.cells #[.int .i64 0, .int .i64 0] 66)) (w.heap.size + 1) (.int .i64 r') (.int .i64 t') := by
      have := (Cells2.new (w.alloc (.cells #[.int .i64 r, .int .i64 t] 66)) (.int .i64 r') (.int .i64 t') 66).alloc (.cells #[.int .i64 0, .int .i64 0] 66)
      simpa using this
    have D2 : Cells2 (((w.alloc (.cells #[.int .i64 r, .int .i64 t] 66)).alloc (.cells #[.int .i64 r', .int .i64 t'] 66)).alloc (.cells #[.int .i64 0, .int .i64 0] 66)) (w.heap.size + 1 + 1) (.int .i64 0) (.int .i64 0) := by
      have := Cells2.new ((w.alloc (.cells #[.int .i64 r, .int .i64 t] 66)).alloc (.cells #[.int .i64 r', .int .i64 t'] 66)) (.int .i64 0) (.int .i64 0) 66
      simpa using this
    go_enter Try.func46, Try.ntmps46
    go_wp2
    generalize (((w.alloc (.cells #[.int .i64 r, .int .i64 t] 66)).alloc (.cells #[.int .i64 r', .int .i64 t'] 66)).alloc (.cells #[.int .i64 0, .int .i64 0] 66)) = W0 at *
    have y0 : W0.cell? ⟨b3, 0, none⟩ = some (.int .i64 C) := (HB.out.cell (p := ⟨b3, 0, none⟩) hb).trans h
    have E0 := D0.below (Below.refl _ _).drew
    have E1 := D1.below (Below.refl _ _).drew
    have E2 := Lib.hid (D2.below (Below.refl _ _).drew)
    obtain ⟨p0, p1, _, _⟩ := E0
    obtain ⟨q0, q1, _, _⟩ := E1
    have E3 := (Cells2.new W0 (.int .i64 0) (.int .i64 0) 66).below (Below.refl _ _).drew
    obtain ⟨g0, g1, g2, g3⟩ := E3
    have gl : W0.heap.size < (W0.alloc (.cells #[.int .i64 0, .int .i64 0] 66)).drew.heap.size := by simp
    go_region_held3 (fun w' => w'.cell? ⟨w.heap.size, 0, none⟩ = some (.int .i64 r) ∧ w'.cell? ⟨w.heap.size, 1, none⟩ = some (.int .i64 t) ∧ w'.cell? ⟨w.heap.size + 1, 0, none⟩ = some (.int .i64 r') ∧ w'.cell? ⟨w.heap.size + 1, 1, none⟩ = some (.int .i64 t') ∧ w'.cell? ⟨b3, 0, none⟩ = some (.int .i64 C))
      (first | with_reducible exact five_keep D0.c0 D0.c1 D1.c0 D1.c1 y0 (((Below.refl _ _).alloc (Nat.le_refl _) _).drew) | with_reducible exact five_keep D0.c0 D0.c1 D1.c0 D1.c1 y0 ((Below.refl _ _).drew) | go_keep)
      (first | (go_at_call 47; refine (CS.out _).mono ?_; rintro e w' ⟨rfl, rfl⟩))
    all_goals
      have BA := ((Below.refl W0.heap.size W0).alloc (Nat.le_refl _) (.cells #[.int .i64 (r + r'), .int .i64 (m + sz)] 66)).drew
      have F2 := Lib.hid (D2.below BA)
      have F3 := Lib.hid ((Cells2.new W0 (.int .i64 (r + r')) (.int .i64 (m + sz)) 66).below (Below.refl _ _).drew)
      have F4 := Lib.hid (HB.out.trans (BA.mono HB.out.size))
      go_wp2_with (go_at_call 44; go_must (refine (PM.out _).mono ?_; rintro e w1 ⟨rfl, hb1⟩; have G2 := Lib.hid (F2.out.below hb1); obtain ⟨m0, m1, n0, n1⟩ := G2.out; obtain ⟨o0, o1, _, _⟩ := F3.out.below hb1; have G4 := Lib.hid (F4.out.trans (hb1.mono F4.out.size)); clear hb1))
      have P := G2.out.put (.int .i64 (r + r')) (.int .i64 (m + sz))
      exact bodyPost_ret (v := .tuple #[.agg #[.int .i64 (r + r'), .int .i64 (m + sz)], .int .i64 0]) (by simp [results, Try.results46, go_sem, P.c0, P.c1]) rfl ⟨rfl, below_put2 G4.out (by omega) _ _⟩
  | false =>
    rw [hk] at PM
    rw [if_pos rfl]
    clear hk
    have hb' : b3 < w.heap.size := hb
    have hb1 : b3 ≠ w.heap.size := by omega
    have hb2 : b3 ≠ w.heap.size + 1 := by omega
    have hb3 : b3 ≠ w.heap.size + 1 + 1 := by omega
    have hw0 : IntKind.i64.wrap (r + r') = r + r' := IntWalk.i64_in _ (by omega)
    have hw1 : IntKind.i64.wrap (m + sizeI C) = m + sizeI C := IntWalk.i64_in _ (by omega)
    generalize sizeI C = sz at *
    have D0 := ((Cells2.new w (.int .i64 r) (.int .i64 t) 66).alloc (.cells #[.int .i64 r', .int .i64 t'] 66)).alloc (.cells #[.int .i64 0, .int .i64 0] 66)
    have D1 : Cells2 (((w.alloc (.cells #[.int .i64 r, .int .i64 t] 66)).alloc (.cells #[.int .i64 r', .int .i64 t'] 66)).alloc (.cells #[.int .i64 0, .int .i64 0] 66)) (w.heap.size + 1) (.int .i64 r') (.int .i64 t') := by
      have := (Cells2.new (w.alloc (.cells #[.int .i64 r, .int .i64 t] 66)) (.int .i64 r') (.int .i64 t') 66).alloc (.cells #[.int .i64 0, .int .i64 0] 66)
      simpa using this
    have D2 : Cells2 (((w.alloc (.cells #[.int .i64 r, .int .i64 t] 66)).alloc (.cells #[.int .i64 r', .int .i64 t'] 66)).alloc (.cells #[.int .i64 0, .int .i64 0] 66)) (w.heap.size + 1 + 1) (.int .i64 0) (.int .i64 0) := by
      have := Cells2.new ((w.alloc (.cells #[.int .i64 r, .int .i64 t] 66)).alloc (.cells #[.int .i64 r', .int .i64 t'] 66)) (.int .i64 0) (.int .i64 0) 66
      simpa using this
    go_enter Try.func46, Try.ntmps46
    go_wp2
    generalize (((w.alloc (.cells #[.int .i64 r, .int .i64 t] 66)).alloc (.cells #[.int .i64 r', .int .i64 t'] 66)).alloc (.cells #[.int .i64 0, .int .i64 0] 66)) = W0 at *
    have y0 : W0.cell? ⟨b3, 0, none⟩ = some (.int .i64 C) := (HB.out.cell (p := ⟨b3, 0, none⟩) hb).trans h
    have E0 := D0.below (Below.refl _ _).drew
    have E1 := D1.below (Below.refl _ _).drew
    have E2 := Lib.hid (D2.below (Below.refl _ _).drew)
    obtain ⟨p0, p1, _, _⟩ := E0
    obtain ⟨q0, q1, _, _⟩ := E1
    have E3 := (Cells2.new W0 (.int .i64 0) (.int .i64 0) 66).below (Below.refl _ _).drew
    obtain ⟨g0, g1, g2, g3⟩ := E3
    have gl : W0.heap.size < (W0.alloc (.cells #[.int .i64 0, .int .i64 0] 66)).drew.heap.size := by simp
    go_region_held3 (fun w' => w'.cell? ⟨w.heap.size, 0, none⟩ = some (.int .i64 r) ∧ w'.cell? ⟨w.heap.size, 1, none⟩ = some (.int .i64 t) ∧ w'.cell? ⟨w.heap.size + 1, 0, none⟩ = some (.int .i64 r') ∧ w'.cell? ⟨w.heap.size + 1, 1, none⟩ = some (.int .i64 t') ∧ w'.cell? ⟨b3, 0, none⟩ = some (.int .i64 C))
      (first | with_reducible exact five_keep D0.c0 D0.c1 D1.c0 D1.c1 y0 (((Below.refl _ _).alloc (Nat.le_refl _) _).drew) | with_reducible exact five_keep D0.c0 D0.c1 D1.c0 D1.c1 y0 ((Below.refl _ _).drew) | go_keep)
      (first | (go_at_call 47; refine (CS.out _).mono ?_; rintro e w' ⟨rfl, rfl⟩))
    all_goals
      have BA := ((Below.refl W0.heap.size W0).alloc (Nat.le_refl _) (.cells #[.int .i64 (r + r'), .int .i64 (m + sz)] 66)).drew
      have F2 := Lib.hid (D2.below BA)
      have F3 := Lib.hid ((Cells2.new W0 (.int .i64 (r + r')) (.int .i64 (m + sz)) 66).below (Below.refl _ _).drew)
      have F4 := Lib.hid (HB.out.trans (BA.mono HB.out.size))
      go_wp2_with (go_at_call 44; go_must (refine (PM.out _).mono ?_; rintro e w1 ⟨rfl, hb1⟩; have G2 := Lib.hid (F2.out.below hb1); obtain ⟨m0, m1, n0, n1⟩ := G2.out; obtain ⟨o0, o1, _, _⟩ := F3.out.below hb1; have G4 := Lib.hid (F4.out.trans (hb1.mono F4.out.size)); clear hb1))
      have P := G2.out.put (.int .i64 0) (.int .i64 0)
      exact bodyPost_ret (v := .tuple #[.agg #[.int .i64 0, .int .i64 0], .int .i64 6]) (by simp [results, Try.results46, go_sem, P.c0, P.c1]) rfl ⟨rfl, below_put2 G4.out (by omega) _ _⟩
end Go.Proofs.Ytgmaljikjkbdlaa
