/- PlanNear, walked. PlanNear holds of every input: the given statement Rows.PlanNearSaid. -/
import Derived.Test.YtnboegeljaplbaaGreatWe
import Derived.Test.YtnboegeljaplbaaGreatYu
import Derived.Test.YtnboegeljaplbaaGreatLdP
import Derived.Test.YtnboegeljaplbaaGreatOe
import Derived.Test.YtnboegeljaplbaaGreatPa
namespace Go.Proofs.YtnboegeljaplbaaGreat
open Go.RowKit Lv Go.Shelf
open Ieee (double Format Datum Toward)
attribute [local go_sem] Oper.semAt_some run_store_float drewN_alloc drewN_setCell

theorem few_short {Fs : List FacD} {k : Nat} (h : fewF Fs k = true) : Fs.length ≤ k := by
  unfold fewF at h
  simp only [Bool.and_eq_true, decide_eq_true_eq] at h
  exact h.1
theorem fcs_words {w : World} {v : Value} {Fs : List FacD} (h : Fcs w v Fs) : ∀ F ∈ Fs, ∀ i, Wd (F.xs.getD i none) := by
  obtain ⟨a, cap, rfl, _, _, h3⟩ := h
  intro F hF
  obtain ⟨i, hi, rfl⟩ := List.getElem_of_mem hF
  rcases h3 with h3 | ⟨blk, off, _, hc⟩
  · omega
  · obtain ⟨b, m, d, _, _, _, _, hR⟩ := hc i hi
    have e : Fs.getD i fac0 = Fs[i] := by rw [List.getD_eq_getElem?_getD, List.getElem?_eq_getElem hi]; rfl
    rw [e] at hR
    exact row_wd hR
set_option maxRecDepth 100000 in
set_option maxHeartbeats 4000000 in
theorem planNear_walk (w : World) (l : List Int) (a : Option Addr) (n cap : Nat) (hl : LI w (.slice a n cap) l) (Fs : List FacD) (t : Option Addr) (tn tc : Nat) (hs : Fcs w (.slice t tn tc) Fs) :
    Calls Tryz.prog 3 #[.slice a n cap, .slice t tn tc] w fun e w' => e = .returned (.bool true) ∧ Below w.heap.size w w' := by
  obtain ⟨l1, l2, l3⟩ := hl.len
  obtain ⟨s1, s2, s3⟩ := hs.len
  have H := Lib.hid hl
  have HS := Lib.hid hs
  have HF := Lib.hid (rfew_calls t tn tc 8 Fs w hs)
  by_cases c1 : 30 < n
  · have h1 : (30 : Int) < (n : Int) := by omega
    clear hl hs l1 s1
    go_enter Tryz.func3, Tryz.ntmps3
    go_wp2_with (first | (go_at_call 7; refine (live14_calls _).mono ?_; rintro e w1 ⟨rfl, hb⟩))
    go_ret
    exact ⟨rfl, hb⟩
  have h1 : ¬ (30 : Int) < (n : Int) := by omega
  cases hf : fewF Fs 8
  · rw [hf] at HF
    clear hl hs l1 s1 hf
    go_enter Tryz.func3, Tryz.ntmps3
    go_wp2_with (first | (go_at_call 6; refine HF.out.mono ?_; rintro e w1 ⟨rfl, rfl⟩) | (go_at_call 7; refine (live14_calls _).mono ?_; rintro e w1 ⟨rfl, hb⟩))
    go_ret
    exact ⟨rfl, hb⟩
  rw [hf] at HF
  have h8 := few_short hf
  have RU := Lib.hid (prun_calls l a n cap Fs t tn tc w hl (by omega) hs)
  have OR := Lib.hid (fun W (hb : Below w.heap.size w W) => porder_calls a n cap l W (hl.below hb) (by omega))
  obtain ⟨R, hR⟩ : ∃ R, R = runD l Fs := ⟨_, rfl⟩
  rw [← hR] at RU
  obtain ⟨G, ge⟩ := R
  by_cases hge : ge ≠ 0
  · have hne : (ge != 0) = true := by simpa using hge
    clear hl hs l1 s1 hf hR hge
    go_enter Tryz.func3, Tryz.ntmps3
    go_wp2_with (first
      | (go_at_call 6; refine HF.out.mono ?_; rintro e w1 ⟨rfl, rfl⟩)
      | (go_at_call 8; go_must (refine RU.out.mono ?_; rintro e w2 ⟨⟨ga, gn, gcp, he, hrow⟩, hb2⟩; dsimp only at he hrow; subst he; have B2 := Lib.hid (hb2.alloc hb2.size (.cells #[.int .i64 G.cols, .slice ga gn gcp, .int .i64 G.rws, .int .i64 G.trn] 28)); clear hrow hb2))
      | (go_at_call 7; refine (live14_calls _).mono ?_; rintro e w3 ⟨rfl, hb⟩))
    go_ret
    exact ⟨rfl, B2.out.trans (hb.mono B2.out.size)⟩
  obtain rfl : ge = 0 := by simpa using hge
  obtain ⟨hT, hin⟩ := run_tree (fcs_words hs) hR.symm
  obtain ⟨_, hle8⟩ := run_few h8 hR.symm
  have hlen : ((orderD l).map fun k => Fs.getD k.toNat fac0).length = (orderD l).length := List.length_map ..
  have h1m := (mrg_facts hT).2.2.2.1
  obtain ⟨c, k, h1c, h6c, hG, hk4, hck, hTG, hLF, h37⟩ := tree_end hT (by rw [hlen]; exact hle8)
  have hGc : G.cols = (c : Int) := by rw [hG]
  have PN := Lib.hid (fun us A (hA : A ≤ 860) hN => plan_near (k := k) (us := us) (A := A) hT h1c h6c (by rw [hlen]; exact hle8) hGc hTG (fun F hF => (hLF F hF).2.1) rfl h37 hA hN)
  obtain ⟨gc, gx, gr, gt⟩ := G
  simp only [FacD.mk.injEq, true_and] at hG
  obtain ⟨rfl, hgr, rfl⟩ := hG
  dsimp only at hTG hck PN
  rw [← hgr] at hck
  obtain ⟨s, hs'⟩ : ∃ s, tsz c = s := ⟨_, rfl⟩
  obtain ⟨m, hm⟩ : ∃ m, (orderD l).length = m := ⟨_, rfl⟩
  have SU := Lib.hid (fun W v (hb : Below w.heap.size w W) ca (hv : LI W (.slice v m ca) (orderD l)) => (sum14_calls c s (orderD l) Fs v t m ca tn tc W hv (hs.below hb) h1c h6c hs' (by omega) (by omega) hin (fun F hF => ⟨(hLF F hF).1, (hLF F hF).2.1, (hLF F hF).2.2⟩)).mono (fun e w' ⟨⟨va, vc, he, hd, hx⟩, hb⟩ => (⟨⟨va, vc, he, hd, hx.2⟩, hb⟩ : (∃ va vc, e = Ending.returned (Value.slice va s vc) ∧ DqL w' (.slice va s vc) (sumL ((leavesL (orderD l) Fs).map (gramF c))) 2148 ∧ ∀ j, j < s → Bd ((sumL ((leavesL (orderD l) Fs).map (gramF c))).getD j 0) (p2 ((860 : Nat) : Int))) ∧ Below W.heap.size W w')))
  have LF := gramL_ok (c := c) (A := 420) _ hTG.lines
  rw [linesD_len, hs'] at LF
  have GF := Lib.hid (fun W b m d hW => gfactor_calls c 420 gr (k : Int) b m d gx W hW hck hTG.lines (by omega))
  have PN2 : Hid (∀ us A, A ≤ 860 → Norms c A (sumL ((leavesL (orderD l) Fs).map (gramF c))) us → ∀ i j, i ≤ j → j ≤ c → absR ((gramL c (linesD gx c)).getD (gix c i j) 0 - (sumL ((leavesL (orderD l) Fs).map (gramF c))).getD (gix c i j) 0) ≤ bndQ (us.getD i 0) (us.getD j 0) k) := fun us A hA hN i j hij hj => PN.out us A hA hN i j hij hj
  have HM := Lib.hid hm
  generalize sumL ((leavesL (orderD l) Fs).map (gramF c)) = qs at *
  generalize gramL c (linesD gx c) = qf at *
  have PF := Lib.hid (show ∀ j, j < s → Bd (qf.getD j 0) (p2 ((860 : Nat) : Int)) from fun j hj => bd_p2_mono (LF.2 j hj) (by omega))
  have LQ := Lib.hid LF.1
  have HZ := Lib.hid hs'
  have CE := Lib.hid (fun (a1 a2 : Option Addr) (c1 c2 : Nat) (W : World) (d1 : DqL W (.slice a1 s c1) qs 2148) (d2 : DqL W (.slice a2 s c2) qf 2148) b1 => echeck_calls c k s 860 a1 a1 a2 c1 c1 c2 qs qs qf W d1 d1 d2 h1c h6c HZ.out.symm b1 b1 PF.out (by omega) (by omega) (fun us hN' i j hij hj => PN2.out us 860 (by omega) hN' i j hij hj))
  clear hl hs l1 s1 hf hR hge hT hin hlen h1m hck hTG hLF h37 hGc PN PN2 LF hs' hm hgr
  go_enter Tryz.func3, Tryz.ntmps3
  go_upto_region 6 with (first
    | (go_at_call 6; refine HF.out.mono ?_; rintro e w1 ⟨rfl, rfl⟩)
    | (go_at_call 8; go_must (refine RU.out.mono ?_; rintro e w2 ⟨⟨ga, gn, gcp, he, hrow⟩, hb2⟩; dsimp only at he hrow; subst he)))
  have B2 := Lib.hid (hb2.alloc hb2.size (.cells #[.int .i64 (c : Int), .slice ga gn gcp, .int .i64 gr, .int .i64 (k : Int)] 28))
  have C2 := Lib.hid (Cells4.new w2 (.int .i64 (c : Int)) (.slice ga gn gcp) (.int .i64 gr) (.int .i64 (k : Int)) 28)
  have R2 := Lib.hid (hrow.alloc (.cells #[.int .i64 (c : Int), .slice ga gn gcp, .int .i64 gr, .int .i64 (k : Int)] 28))
  clear hb2 hrow
  generalize w2.alloc (.cells #[.int .i64 (c : Int), .slice ga gn gcp, .int .i64 gr, .int .i64 (k : Int)] 28) = W2 at *
  generalize w2.heap.size = g5 at *
  go_wp2_with (first
    | (go_at_call 10; go_must (refine (OR.out _ B2.out).mono ?_; rintro e w3 ⟨⟨v, rfl, hv⟩, hb⟩; obtain ⟨va, vc, rfl⟩ := hv.form; rw [HM.out] at hv ⊢; have O3 := Lib.hid hv; have B3 := Lib.hid (B2.out.trans (hb.mono B2.out.size)); have C3 := Lib.hid (C2.out.below hb); have R3 := Lib.hid (R2.out.below hb); clear hv hb))
    | (go_at_call 9; go_must (refine (SU.out _ _ B3.out _ O3.out).mono ?_; rintro e w4 ⟨⟨sa, sc, rfl, hd, hx4⟩, hb⟩; have S4 := Lib.hid hd; have SB := Lib.hid hx4; have B4 := Lib.hid (B3.out.trans (hb.mono B3.out.size)); have C4 := Lib.hid (C3.out.below hb); have R4 := Lib.hid (R3.out.below hb); clear hd hx4 hb; obtain ⟨c0, c1', c2, c3, _, _, _, _⟩ := C4.out))
    | (go_at_call 11; go_must (refine (GF.out _ _ _ _ R4.out).mono ?_; rintro e w5 ⟨⟨v, rfl, hv⟩, hb⟩; obtain ⟨la, lc, hpv, _, _⟩ := hv.form; rw [LQ.out] at hpv; subst hpv; have F5 := Lib.hid hv.dql; have S5 := Lib.hid (S4.out.below hb); have B5 := Lib.hid (B4.out.trans (hb.mono B4.out.size)); have C5 := Lib.hid (C4.out.below hb); clear hv hb c0 c1' c2 c3; obtain ⟨c0, c1', c2, c3, _, _, _, _⟩ := C5.out))
    | (go_at_call 12; go_must (refine (CE.out _ _ _ _ _ S5.out F5.out SB.out).mono ?_; rintro e w6 ⟨rfl, hb⟩; have B6 := Lib.hid (B5.out.trans (hb.mono B5.out.size)); clear hb c0 c1' c2 c3))
    | (go_at_call 7; refine (live14_calls _).mono ?_; rintro e w7 ⟨rfl, hb⟩))
  go_ret
  exact ⟨rfl, B6.out.trans (hb.mono B6.out.size)⟩
end Go.Proofs.YtnboegeljaplbaaGreat
namespace Go.Proofs.YtnboegeljaplbaaGreat
open Go.ChangeShapes Go.WideShapes Go.ChangeAt Go.RowKit Lv

set_option maxRecDepth 100000 in
theorem planNear_lifted (os : Os) (started : os.Started) (H : Type) (enc : TypeId × Value → H) :
    ReturnsInHanded {} Tryz.checked os 3 .any (Rows.planNearSpec.pre6 enc Tryz.prog Tryz.f3 Rows.planNearRow.domain false) (Rows.planNearSpec.post enc Tryz.prog Tryz.f3 false true false false) := by
  refine returnsInHanded_of_change (C := Tryz.checked) own started (by kernel_rfl) Tryz.func3
    (ChangeSpec.witness6 (enc := enc) (C := Tryz.checked) false ⟨#[], #[.slice none 0 0, .slice none 0 0], []⟩ 12 (by kernel_rfl) (by kernel_rfl) (by kernel_rfl) (by kernel_rfl)) ?_
  intro W base args ds gs before hval0 hW hcnd _
  have hval : ∀ (j : Nat) t v, Tryz.f3.params[j]? = some t → args[j]? = some v → Value.okWide Tryz.prog W .any base t v := hval0
  have hW' := hW
  obtain ⟨p, q, hA0, hV, rfl, hfz, hnd⟩ := hW
  have hA : DataW.TrodAll enc Tryz.prog W 0 (fun _ => true) true Tryz.f3.params.toList args.toList ds p := hA0
  rw [Tryz.params3] at hA hval
  obtain ⟨v0, vs0, d0, ds0, p0, q0, hargs, rfl, rfl, h0, r0⟩ := trodAll_cons hA
  obtain ⟨v1, vs1, d1, ds1, p1, q1, rfl, rfl, rfl, h1, r1⟩ := trodAll_cons r0
  obtain ⟨rfl, rfl, rfl⟩ := trodAll_nil r1
  obtain rfl : args = #[v0, v1] := by cases args; simp_all
  obtain ⟨rfl, rfl⟩ := trodVars_none hV
  have k0 := h0
  have lt0 : ∀ x ∈ p0, x.block < W.heap.size := by obtain ⟨m, hm⟩ := k0; exact DataW.trod_lt m _ _ _ hm
  obtain ⟨l0, a0, n0, c0, rfl, w0⟩ := open_ints (hval 0 22 v0 rfl rfl) h0
  have k1 := h1
  have lt1 : ∀ x ∈ p1, x.block < W.heap.size := by obtain ⟨m, hm⟩ := k1; exact DataW.trod_lt m _ _ _ hm
  obtain ⟨l1, a1, n1, c1, rfl, w1⟩ := open_factors (hval 1 23 v1 rfl rfl) h1
  clear hA0 hval0
  refine (planNear_walk W l0 a0 n0 c0 w0 l1 a1 n1 c1 w1).mono fun e W' ⟨he, bel⟩ => ?_
  subst he
  exact ⟨_, rfl, _, _, _, [], _, [], hW', trodAll_mk1 (shut_bool Tryz.underlying4 _), (trodAll_cons_mk (Below.trod laidOut (by kernel_rfl) (of_decide_eq_true (by kernel_rfl)) k0 bel lt0) (trodAll_cons_mk (Below.trod laidOut (by kernel_rfl) (of_decide_eq_true (by kernel_rfl)) k1 bel lt1) trodAll_mk0)), rfl, bel.frame _, fun h => by cases h⟩

theorem planNear_holds : Rows.PlanNearSaid :=
  OpenClaim.holds_of_wide 3 Tryz.f3 rfl rfl rfl rfl rfl rfl rfl ⟨rfl, rfl, rfl, rfl, rfl⟩ rfl rfl rfl rfl rfl (by kernel_rfl) Tryz.func3 (by kernel_rfl)
    (of_decide_eq_true (by kernel_rfl)) (by unfold Func.isWrapper; first | (rw [if_pos (by decide +kernel)]; kernel_rfl) | (rw [if_neg (by decide +kernel)]; exact ⟨rfl, rfl⟩))
    (fun os started H enc _ => planNear_lifted os started H enc)
#print axioms planNear_holds
end Go.Proofs.YtnboegeljaplbaaGreat
