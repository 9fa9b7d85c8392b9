/- PlanTrees, walked. PlanTrees holds of every input: the given statement Rows.PlanTreesSaid. -/
import Derived.Test.YtnboegeljaplbaaGreatWe
import Derived.Test.YtnboegeljaplbaaGreatYu
import Derived.Test.YtnboegeljaplbaaGreatLdP
import Derived.Test.YtnboegeljaplbaaGreatOe
import Derived.Test.YtnboegeljaplbaaGreatPa
namespace Go.Proofs.YtnboegeljaplbaaGreat
open Go.RowKit Lv Go.Shelf
open Ieee (double Format Datum Toward)
attribute [local go_sem] Oper.semAt_some run_store_float drewN_alloc drewN_setCell

theorem few_short' {Fs : List FacD} {k : Nat} (h : fewF Fs k = true) : Fs.length ≤ k := by
  unfold fewF at h
  simp only [Bool.and_eq_true, decide_eq_true_eq] at h
  exact h.1
theorem fcs_words' {w : World} {v : Value} {Fs : List FacD} (h : Fcs w v Fs) : ∀ F ∈ Fs, ∀ i, Wd (F.xs.getD i none) := by
  obtain ⟨a, cap, rfl, _, _, h3⟩ := h
  intro F hF
  obtain ⟨i, hi, rfl⟩ := List.getElem_of_mem hF
  rcases h3 with h3 | ⟨blk, off, _, hc⟩
  · omega
  · obtain ⟨b, m, d, _, _, _, _, hR⟩ := hc i hi
    have e : Fs.getD i fac0 = Fs[i] := by rw [List.getD_eq_getElem?_getD, List.getElem?_eq_getElem hi]; rfl
    rw [e] at hR
    exact row_wd hR
/-- two plans of the same shards -/
theorem trees_pair {Fs : List FacD} {l1 l2 : List Int} {G G' : FacD} (hw : ∀ F ∈ Fs, ∀ i, Wd (F.xs.getD i none)) (h8 : Fs.length ≤ 8) (h1 : runD l1 Fs = (G, 0)) (h2 : runD l2 Fs = (G', 0)) (hl : (orderD l1).length = (orderD l2).length) (hsub : ∀ x ∈ orderD l1, x ∈ orderD l2) :
    ∃ (c k k' : Nat) (gr : Int) (gx gx' : List (Option Nat)), G = ⟨(c : Int), gx, gr, (k : Int)⟩ ∧ G' = ⟨(c : Int), gx', gr, (k' : Int)⟩ ∧ 1 ≤ c ∧ c ≤ 6 ∧ k ≤ 4096 ∧ k' ≤ 4096 ∧ checkP (c : Int) gx gr (k : Int) = true ∧ checkP (c : Int) gx' gr (k' : Int) = true ∧ TriOk c gx ∧ TriOk c gx' ∧ 0 < (orderD l1).length ∧ (orderD l1).length ≤ 8 ∧
      (∀ x ∈ orderD l1, 0 ≤ x ∧ x < Fs.length) ∧ (∀ F ∈ leavesL (orderD l1) Fs, LeafOk c F) ∧ ∀ us A, A ≤ 860 → Norms c A (sumL ((leavesL (orderD l1) Fs).map (gramF c))) us → ∀ i j, i ≤ j → j ≤ c → absR ((gramL c (linesD gx' c)).getD (gix c i j) 0 - (gramL c (linesD gx c)).getD (gix c i j) 0) ≤ bndQ (us.getD i 0) (us.getD j 0) (k + k') := by
  obtain ⟨hT, hin⟩ := run_tree hw h1
  obtain ⟨hT', _⟩ := run_tree hw h2
  obtain ⟨hd, hle8⟩ := run_few h8 h1
  have hlen : (leavesL (orderD l1) Fs).length = (orderD l1).length := List.length_map ..
  have hlen' : (leavesL (orderD l2) Fs).length = (orderD l2).length := List.length_map ..
  have hp : (leavesL (orderD l1) Fs).Perm (leavesL (orderD l2) Fs) := (perm_of hd hsub hl).map _
  have hT : Mrg G (leavesL (orderD l1) Fs) := hT
  have hT' : Mrg G' (leavesL (orderD l2) Fs) := hT'
  have h1m := (mrg_facts hT).2.2.2.1
  obtain ⟨c, k, h1c, h6c, hG, hk4, hck, hTG, hLF, h37⟩ := tree_end hT (by rw [hlen]; exact hle8)
  obtain ⟨c', k', _, _, hG', hk4', hck', hTG', hLF', h37'⟩ := tree_end hT' (by rw [hlen', ← hl]; exact hle8)
  obtain ⟨F, hF⟩ := List.exists_mem_of_length_pos (show 0 < (leavesL (orderD l1) Fs).length by omega)
  have hcc : c' = c := by
    have e1 := (hLF F hF).1
    have e2 := (hLF' F (hp.mem_iff.1 hF)).1
    omega
  subst hcc
  have hGc : G.cols = (c' : Int) := by rw [hG]
  have hGc' : G'.cols = (c' : Int) := by rw [hG']
  rw [← rowsS_perm hp] at hG' hck'
  refine ⟨c', k, k', rowsS (leavesL (orderD l1) Fs), G.xs, G'.xs, hG, hG', h1c, h6c, hk4, hk4', hck, hck', hTG, hTG', by omega, hle8, hin, fun F hF => ⟨(hLF F hF).1, (hLF F hF).2.1, (hLF F hF).2.2⟩, fun us A hA hN => ?_⟩
  exact plan_trees hT hT' hp h1c h6c (by rw [hlen]; exact hle8) hGc hGc' hTG hTG' (fun F hF => (hLF F hF).2.1) rfl h37 (by rw [hp.length_eq]; exact h37') hA hN
set_option maxRecDepth 100000 in
set_option maxHeartbeats 4000000 in
theorem planTrees_walk (w : World) (l1 : List Int) (a1 : Option Addr) (n1 c1 : Nat) (hl1 : LI w (.slice a1 n1 c1) l1) (l2 : List Int) (a2 : Option Addr) (n2 c2 : Nat) (hl2 : LI w (.slice a2 n2 c2) l2) (Fs : List FacD) (t : Option Addr) (tn tc : Nat) (hs : Fcs w (.slice t tn tc) Fs) :
    Calls Tryz.prog 4 #[.agg #[.slice a1 n1 c1, .slice a2 n2 c2], .slice t tn tc] w fun e w' => e = .returned (.bool true) ∧ Below w.heap.size w w' := by
  obtain ⟨ln1, ln2, ln3⟩ := hl1.len
  obtain ⟨lm1, lm2, lm3⟩ := hl2.len
  have H1 := Lib.hid hl1
  have H2 := Lib.hid hl2
  have HS := Lib.hid hs
  have B0 := Lib.hid ((Below.refl w.heap.size w).alloc (Nat.le_refl _) (.cells #[.slice a1 n1 c1, .slice a2 n2 c2] 40))
  have D0 := Lib.hid (Cells2.new w (.slice a1 n1 c1) (.slice a2 n2 c2) 40)
  have HF := Lib.hid (fun W h => rfew_calls t tn tc 8 Fs W h)
  have z0 : w.heap.size < (w.alloc (.cells #[.slice a1 n1 c1, .slice a2 n2 c2] 40)).heap.size := by simp
  by_cases b1 : 30 < n1
  · have h1 : (30 : Int) < (n1 : Int) := by omega
    obtain ⟨d0, d1, _, _⟩ := D0.out
    clear hl1 hl2 hs ln1 lm1
    go_enter Tryz.func4, Tryz.ntmps4
    go_wp2_with (first | (go_at_call 7; refine (live14_calls _).mono ?_; rintro e w1 ⟨rfl, hb⟩))
    go_ret
    exact ⟨rfl, B0.out.trans (hb.mono B0.out.size)⟩
  have h1 : ¬ (30 : Int) < (n1 : Int) := by omega
  by_cases b2 : 30 < n2
  · have h2 : (30 : Int) < (n2 : Int) := by omega
    obtain ⟨d0, d1, _, _⟩ := D0.out
    clear hl1 hl2 hs ln1 lm1
    go_enter Tryz.func4, Tryz.ntmps4
    go_wp2_with (first | (go_at_call 7; refine (live14_calls _).mono ?_; rintro e w1 ⟨rfl, hb⟩))
    go_ret
    exact ⟨rfl, B0.out.trans (hb.mono B0.out.size)⟩
  have h2 : ¬ (30 : Int) < (n2 : Int) := by omega
  cases hf : fewF Fs 8
  · rw [hf] at HF
    obtain ⟨d0, d1, _, _⟩ := D0.out
    clear hl1 hl2 hs ln1 lm1 hf
    go_enter Tryz.func4, Tryz.ntmps4
    go_wp2_with (first | (go_at_call 6; refine (HF.out _ (HS.out.below B0.out)).mono ?_; rintro e w1 ⟨rfl, rfl⟩) | (go_at_call 7; refine (live14_calls _).mono ?_; rintro e w1 ⟨rfl, hb⟩))
    go_ret
    exact ⟨rfl, B0.out.trans (hb.mono B0.out.size)⟩
  rw [hf] at HF
  have h8 := few_short' hf
  have RU1 := Lib.hid (fun W (hb : Below w.heap.size w W) => prun_calls l1 a1 n1 c1 Fs t tn tc W (hl1.below hb) (by omega) (hs.below hb))
  have RU2 := Lib.hid (fun W (hb : Below w.heap.size w W) => prun_calls l2 a2 n2 c2 Fs t tn tc W (hl2.below hb) (by omega) (hs.below hb))
  have OR1 := Lib.hid (fun W (hb : Below w.heap.size w W) => porder_calls a1 n1 c1 l1 W (hl1.below hb) (by omega))
  have OR2 := Lib.hid (fun W (hb : Below w.heap.size w W) => porder_calls a2 n2 c2 l2 W (hl2.below hb) (by omega))
  have TP := Lib.hid (fun (G G' : FacD) (x1 : runD l1 Fs = (G, 0)) (x2 : runD l2 Fs = (G', 0)) => trees_pair (fcs_words' hs) h8 x1 x2)
  obtain ⟨R, hR⟩ : ∃ R, R = runD l1 Fs := ⟨_, rfl⟩
  obtain ⟨R', hR'⟩ : ∃ R, R = runD l2 Fs := ⟨_, rfl⟩
  rw [← hR] at RU1 TP
  rw [← hR'] at RU2 TP
  obtain ⟨G, e1⟩ := R
  obtain ⟨G', e2⟩ := R'
  have LN := Lib.hid ln1
  clear hl1 hl2 hs ln1 lm1 hf hR hR' h8
  obtain ⟨d0, d1, _, _⟩ := D0.out
  go_enter Tryz.func4, Tryz.ntmps4
  go_upto_region 4 with (first
    | (go_at_call 6; refine (HF.out _ (HS.out.below B0.out)).mono ?_; rintro e w1 ⟨rfl, rfl⟩)
    | (go_at_call 8; go_must (refine (RU1.out _ B0.out).mono ?_; rintro e w2 ⟨⟨ga, gn, gcp, he, hrow⟩, hb2⟩; dsimp only at he hrow; subst he)))
  have hb3 := hb2.alloc hb2.size (.cells #[.int .i64 G.cols, .slice ga gn gcp, .int .i64 G.rws, .int .i64 G.trn] 28)
  have B3 := Lib.hid (B0.out.trans (hb3.mono B0.out.size))
  have D3 := Lib.hid (D0.out.below hb3)
  have C3 := Lib.hid (Cells4.new w2 (.int .i64 G.cols) (.slice ga gn gcp) (.int .i64 G.rws) (.int .i64 G.trn) 28)
  have R3 := Lib.hid (hrow.alloc (.cells #[.int .i64 G.cols, .slice ga gn gcp, .int .i64 G.rws, .int .i64 G.trn] 28))
  clear hb2 hb3 hrow d0 d1
  generalize w2.alloc (.cells #[.int .i64 G.cols, .slice ga gn gcp, .int .i64 G.rws, .int .i64 G.trn] 28) = W3 at *
  generalize w2.heap.size = g5 at *
  obtain ⟨d0, d1, _, _⟩ := D3.out
  go_upto_region 5 with (go_at_call 8; go_must (refine (RU2.out _ B3.out).mono ?_; rintro e w4 ⟨⟨ka, kn, kcp, he, hrow⟩, hb2⟩; dsimp only at he hrow; subst he))
  have hb3 := hb2.alloc hb2.size (.cells #[.int .i64 G'.cols, .slice ka kn kcp, .int .i64 G'.rws, .int .i64 G'.trn] 28)
  have B5 := Lib.hid (B3.out.trans (hb3.mono B3.out.size))
  have D5 := Lib.hid (D3.out.below hb3)
  have C5 := Lib.hid (C3.out.below hb3)
  have R5 := Lib.hid (R3.out.below hb3)
  have C5' := Lib.hid (Cells4.new w4 (.int .i64 G'.cols) (.slice ka kn kcp) (.int .i64 G'.rws) (.int .i64 G'.trn) 28)
  have R5' := Lib.hid (hrow.alloc (.cells #[.int .i64 G'.cols, .slice ka kn kcp, .int .i64 G'.rws, .int .i64 G'.trn] 28))
  clear hb2 hb3 hrow d0 d1
  generalize w4.alloc (.cells #[.int .i64 G'.cols, .slice ka kn kcp, .int .i64 G'.rws, .int .i64 G'.trn] 28) = W5 at *
  generalize w4.heap.size = g7 at *
  obtain ⟨d0, d1, _, _⟩ := D5.out
  have bA := Lib.hid (show Below W5.heap.size W5 W5.drew from (Below.refl _ _).drew)
  have KP := Lib.hid (show ∀ W, Below W5.heap.size W5 W → W.cell? ⟨w.heap.size, 0, none⟩ = some (.slice a1 n1 c1) ∧ W.cell? ⟨w.heap.size, 1, none⟩ = some (.slice a2 n2 c2) from fun W hb => ⟨(hb.cell (p := ⟨w.heap.size, 0, none⟩) (cell_lt d0)).trans d0, (hb.cell (p := ⟨w.heap.size, 1, none⟩) (cell_lt d1)).trans d1⟩)
  have ka0 := Lib.hid (KP.out _ bA.out)
  go_region_held3 (fun w' => w'.cell? ⟨w.heap.size, 0, none⟩ = some (.slice a1 n1 c1) ∧ w'.cell? ⟨w.heap.size, 1, none⟩ = some (.slice a2 n2 c2))
    (first
      | with_reducible exact ka0.out
      | with_reducible exact K7.out
      | with_reducible exact K8.out)
    (first
      | (go_at_call_of 10 (Value.slice a1 n1 c1); first
          | (refine (OR1.out _ (B5.out.trans (bA.out.mono B5.out.size))).mono ?_; rintro e w6 ⟨⟨v, rfl, hv⟩, hb⟩; obtain ⟨va, vc, rfl⟩ := hv.form; have O6 := Lib.hid hv; have B6 := Lib.hid (bA.out.trans (hb.mono bA.out.size)); have K7 := Lib.hid (KP.out _ B6.out); clear hv hb))
      | (go_at_call 10; go_must (refine (OR2.out _ (B5.out.trans (B6.out.mono B5.out.size))).mono ?_; rintro e w7 ⟨⟨v, rfl, hv⟩, hb⟩; obtain ⟨vb, vd, rfl⟩ := hv.form; have O7 := Lib.hid (O6.out.below hb); have P7 := Lib.hid hv; have B7 := Lib.hid (B6.out.trans (hb.mono B6.out.size)); have K8 := Lib.hid (KP.out _ B7.out); clear hv hb)))
  have B8 := Lib.hid (B5.out.trans (B7.out.mono B5.out.size))
  have C8 := Lib.hid (C5.out.below B7.out)
  have C8' := Lib.hid (C5'.out.below B7.out)
  have R8 := Lib.hid (R5.out.below B7.out)
  have R8' := Lib.hid (R5'.out.below B7.out)
  clear bA KP ka0 K7 K8 O6 B6 d0 d1
  clear B7 B5 B3 C5 C5' R5 R5' C3 R3 D5 D3
  obtain ⟨m1, hm1⟩ : ∃ m, (orderD l1).length = m := ⟨_, rfl⟩
  obtain ⟨m2, hm2⟩ : ∃ m, (orderD l2).length = m := ⟨_, rfl⟩
  rw [hm1] at O7 ⊢
  rw [hm2] at P7 ⊢
  have HM1 := Lib.hid hm1
  have hm30 : m1 ≤ 30 := by
    have := LN.out
    have := List.length_filter_le (fun k => decide (0 ≤ k)) l1
    unfold orderD at hm1
    omega
  have HM2 := Lib.hid hm2
  clear hm1 hm2
  by_cases he1 : e1 ≠ 0
  · have hne : (e1 != 0) = true := by simpa using he1
    go_wp2_with (go_at_call 7; refine (live14_calls _).mono ?_; rintro e w9 ⟨rfl, hb⟩)
    go_ret
    exact ⟨rfl, B8.out.trans (hb.mono B8.out.size)⟩
  obtain rfl : e1 = 0 := by simpa using he1
  by_cases he2 : e2 ≠ 0
  · have hne : (e2 != 0) = true := by simpa using he2
    go_wp2_with (go_at_call 7; refine (live14_calls _).mono ?_; rintro e w9 ⟨rfl, hb⟩)
    go_ret
    exact ⟨rfl, B8.out.trans (hb.mono B8.out.size)⟩
  obtain rfl : e2 = 0 := by simpa using he2
  by_cases hmm : m1 ≠ m2
  · have hne : ((m1 : Int) != (m2 : Int)) = true := by simp; omega
    go_wp2_with (go_at_call 7; refine (live14_calls _).mono ?_; rintro e w9 ⟨rfl, hb⟩)
    go_ret
    exact ⟨rfl, B8.out.trans (hb.mono B8.out.size)⟩
  obtain rfl : m1 = m2 := by simpa using hmm
  have hne : ((m1 : Int) != (m1 : Int)) = false := by simp
  clear he1 he2 hmm
  have TQ := Lib.hid (fun hsub => TP.out G G' rfl rfl (by rw [HM1.out, HM2.out]) hsub)
  clear TP
  go_wp2
  go_loopw [11] (fun s11 wr => ∃ i : Nat, s11 = .int .i64 (i : Int) ∧ i ≤ m1 ∧ Hid ((∀ j, j < i → (orderD l1).getD j 0 ∈ orderD l2) ∧ Below w7.heap.size w7 wr)) (fun s11 _ => m1 - (intOf s11).toNat)
  case atStart => exact ⟨0, rfl, Nat.zero_le _, fun j hj => absurd hj (Nat.not_lt_zero _), Below.refl _ _⟩
  case round =>
    obtain ⟨i, rfl, hi, HR⟩ := hrel
    by_cases hlt : i < m1
    · have hii : (i : Int) < (m1 : Int) := by omega
      obtain ⟨ob, oo, rfl, hoc⟩ := (O7.out.below HR.out.2).at (show 0 < m1 by omega)
      obtain ⟨pb, po, rfl, hpc⟩ := (P7.out.below HR.out.2).at (show 0 < m1 by omega)
      have ho := hoc i hlt
      have HP := Lib.hid hpc
      have HX := Lib.hid (show (orderD l1).getD i 0 = (orderD l1).getD i 0 from rfl)
      obtain ⟨x, hx⟩ : ∃ x, (orderD l1).getD i 0 = x := ⟨_, rfl⟩
      rw [hx] at ho HX
      have HX2 := Lib.hid hx
      clear hoc hpc hx
      go_wp2
      go_loopw [12, 13] (fun s12 s13 wq => ∃ (f : Bool) (k : Nat), s12 = .bool f ∧ s13 = .int .i64 (k : Int) ∧ k ≤ m1 ∧ Hid (f = decide (x ∈ (orderD l2).take k) ∧ Below wr.heap.size wr wq)) (fun _ s13 _ => m1 - (intOf s13).toNat)
      case atStart => exact ⟨false, 0, rfl, rfl, Nat.zero_le _, by simp, Below.refl _ _⟩
      case round =>
        obtain ⟨f, k, rfl, rfl, hk, HJ⟩ := hrel
        by_cases hlk : k < m1
        · have hkk : (k : Int) < (m1 : Int) := by omega
          have hp := HP.out k hlk
          have HTK := Lib.hid (take_snoc (l := orderD l2) (i := k) (by rw [HM2.out]; exact hlk))
          generalize (orderD l2).getD k 0 = y at *
          have ho2 := (HJ.out.2.cell (p := ⟨ob, oo + i, none⟩) (cell_lt ho)).trans ho
          have hp2 := (HJ.out.2.cell (p := ⟨pb, po + k, none⟩) (cell_lt hp)).trans hp
          cases f
          · go_wp2
            go_quiet (fail)
            go_wp2
            go_roundw
            case rel =>
              refine ⟨_, k + 1, rfl, by go_num, by omega, ?_, below_drewN HJ.out.2 _⟩
              have h0 : ¬ x ∈ (orderD l2).take k := of_decide_eq_false HJ.out.1.symm
              rw [HTK.out]
              simp [h0]
              rfl
            case measure => simp [intOf]; omega
          · go_wp2
            go_quiet (fail)
            go_wp2
            go_roundw
            case rel =>
              refine ⟨_, k + 1, rfl, by go_num, by omega, ?_, below_drewN HJ.out.2 _⟩
              have h0 : x ∈ (orderD l2).take k := of_decide_eq_true HJ.out.1.symm
              rw [HTK.out]
              simp [h0]
            case measure => simp [intOf]; omega
        · obtain rfl : m1 = k := by omega
          have hkk : ¬ (m1 : Int) < (m1 : Int) := by omega
          have hful : (orderD l2).take m1 = orderD l2 := List.take_of_length_le (by rw [HM2.out]; exact Nat.le_refl _)
          cases f
          · go_wp2_with (go_at_call 7; refine (live14_calls _).mono ?_; rintro e w9 ⟨rfl, hb⟩)
            go_ret
            exact ⟨rfl, (B8.out.trans (HR.out.2.mono B8.out.size)).trans (((HJ.out.2.trans (hb.mono HJ.out.2.size))).mono (by have := B8.out.size; have := HR.out.2.size; omega))⟩
          · have hmem : x ∈ orderD l2 := by
              have := HJ.out.1
              rw [hful] at this
              exact of_decide_eq_true this.symm
            have HM3 := Lib.hid hmem
            clear hmem hful
            go_wp2
            go_roundw
            case rel =>
              refine ⟨i + 1, by go_num, by omega, fun j hj => ?_, HR.out.2.trans (HJ.out.2.mono HR.out.2.size)⟩
              by_cases hji : j = i
              · subst hji; rw [HX2.out]; exact HM3.out
              · exact HR.out.1 j (by omega)
            case measure => simp [intOf]; omega
    · obtain rfl : m1 = i := by omega
      have hii : ¬ (m1 : Int) < (m1 : Int) := by omega
      have hsub : ∀ x ∈ orderD l1, x ∈ orderD l2 := by
        intro x hx
        obtain ⟨j, hj, rfl⟩ := List.getElem_of_mem hx
        have := HR.out.1 j (by rw [← HM1.out]; exact hj)
        rwa [List.getD_eq_getElem?_getD, List.getElem?_eq_getElem hj] at this
      obtain ⟨c, k, k', gr, gx, gx', rfl, rfl, h1c, h6c, hk4, hk4', hck, hck', hT, hT', h0m, h8m, hin, hLF, hN⟩ := TQ.out hsub
      obtain ⟨s, hs'⟩ : ∃ s, tsz c = s := ⟨_, rfl⟩
      rw [HM1.out] at h0m h8m
      have SU := Lib.hid (fun W v (hb : Below w.heap.size w W) ca (hv : LI W (.slice v m1 ca) (orderD l1)) => (sum14_calls c s (orderD l1) Fs v t m1 ca tn tc W hv (HS.out.below hb) h1c h6c hs' h0m h8m hin hLF).mono (fun e w' ⟨⟨va, vc, he, hd, hx⟩, hb⟩ => (⟨⟨va, vc, he, hd, hx.2⟩, hb⟩ : (∃ va vc, e = Ending.returned (Value.slice va s vc) ∧ DqL w' (.slice va s vc) (sumL ((leavesL (orderD l1) Fs).map (gramF c))) 2148 ∧ ∀ j, j < s → Bd ((sumL ((leavesL (orderD l1) Fs).map (gramF c))).getD j 0) (p2 ((860 : Nat) : Int))) ∧ Below W.heap.size W w')))
      have LF := gramL_ok (c := c) (A := 420) _ hT.lines
      have LF' := gramL_ok (c := c) (A := 420) _ hT'.lines
      rw [linesD_len, hs'] at LF LF'
      have GF := Lib.hid (fun W b m d hW => gfactor_calls c 420 gr (k : Int) b m d gx W hW hck hT.lines (by omega))
      have GF' := Lib.hid (fun W b m d hW => gfactor_calls c 420 gr (k' : Int) b m d gx' W hW hck' hT'.lines (by omega))
      generalize sumL ((leavesL (orderD l1) Fs).map (gramF c)) = qs at *
      generalize gramL c (linesD gx c) = qf at *
      generalize gramL c (linesD gx' c) = qg at *
      have PF := Lib.hid (show ∀ j, j < s → Bd (qf.getD j 0) (p2 ((860 : Nat) : Int)) from fun j hj => bd_p2_mono (LF.2 j hj) (by omega))
      have PG := Lib.hid (show ∀ j, j < s → Bd (qg.getD j 0) (p2 ((860 : Nat) : Int)) from fun j hj => bd_p2_mono (LF'.2 j hj) (by omega))
      have LQ := Lib.hid (And.intro LF.1 LF'.1)
      obtain ⟨K, hK⟩ : ∃ K, k + k' = K := ⟨_, rfl⟩
      rw [hK] at hN
      have hKi : (k : Int) + (k' : Int) = (K : Int) := by omega
      have hKw : IntKind.i64.wrap (K : Int) = (K : Int) := IntWalk.i64_in _ (by omega)
      have CE := Lib.hid (fun (x1 x2 x3 : Option Addr) (y1 y2 y3 : Nat) (W : World) (d1 : DqL W (.slice x1 s y1) qf 2148) (d2 : DqL W (.slice x2 s y2) qs 2148) (d3 : DqL W (.slice x3 s y3) qg 2148) b2 => echeck_calls c K s 860 x1 x2 x3 y1 y2 y3 qf qs qg W d1 d2 d3 h1c h6c hs'.symm PF.out b2 PG.out (by omega) (by omega) (fun us hN' i j hij hj => hN us 860 (by omega) hN' i j hij hj))
      have hrr : (gr == gr) = true := by simp
      have BE := Lib.hid (B8.out.trans (HR.out.2.mono B8.out.size))
      have OE := Lib.hid (O7.out.below HR.out.2)
      have CA := Lib.hid (C8.out.below HR.out.2)
      have CB := Lib.hid (C8'.out.below HR.out.2)
      have RA := Lib.hid (R8.out.below HR.out.2)
      have RB := Lib.hid (R8'.out.below HR.out.2)
      clear hsub hck hck' hT hT' hin hLF hN LF LF' hs' TQ hK HR C8 C8' R8 R8' O7 P7
      dsimp only at CA CB RA RB
      obtain ⟨x0, x1, x2, x3, _, _, _, _⟩ := CA.out
      obtain ⟨y0, y1, y2, y3, _, _, _, _⟩ := CB.out
      go_wp2_with (first
        | (go_at_call 9; go_must (refine (SU.out _ _ BE.out _ OE.out).mono ?_; rintro e w10 ⟨⟨sa, sc, rfl, hd, hx4⟩, hb⟩; have S4 := Lib.hid hd; have SB := Lib.hid hx4; have B10 := Lib.hid (BE.out.trans (hb.mono BE.out.size)); have CA1 := Lib.hid (CA.out.below hb); have CB1 := Lib.hid (CB.out.below hb); have RA1 := Lib.hid (RA.out.below hb); have RB1 := Lib.hid (RB.out.below hb); clear hd hx4 hb x0 x1 x2 x3 y0 y1 y2 y3; obtain ⟨x0, x1, x2, x3, _, _, _, _⟩ := CA1.out; obtain ⟨y0, y1, y2, y3, _, _, _, _⟩ := CB1.out))
        | (go_at_call_of 11 (Value.agg #[.int .i64 (c : Int), .slice ga gn gcp, .int .i64 gr, .int .i64 (k : Int)]); go_must (refine (GF.out _ _ _ _ RA1.out).mono ?_; rintro e w11 ⟨⟨v, rfl, hv⟩, hb⟩; obtain ⟨la, lc, hpv, _, _⟩ := hv.form; rw [LQ.out.1] at hpv; subst hpv; have F5 := Lib.hid hv.dql; have S5 := Lib.hid (S4.out.below hb); have B11 := Lib.hid (B10.out.trans (hb.mono B10.out.size)); have CA2 := Lib.hid (CA1.out.below hb); have CB2 := Lib.hid (CB1.out.below hb); have RB2 := Lib.hid (RB1.out.below hb); clear hv hb x0 x1 x2 x3 y0 y1 y2 y3; obtain ⟨x0, x1, x2, x3, _, _, _, _⟩ := CA2.out; obtain ⟨y0, y1, y2, y3, _, _, _, _⟩ := CB2.out))
        | (go_at_call 11; go_must (refine (GF'.out _ _ _ _ RB2.out).mono ?_; rintro e w12 ⟨⟨v, rfl, hv⟩, hb⟩; obtain ⟨ja, jc, hpv, _, _⟩ := hv.form; rw [LQ.out.2] at hpv; subst hpv; have G6 := Lib.hid hv.dql; have F6 := Lib.hid (F5.out.below hb); have S6 := Lib.hid (S5.out.below hb); have B12 := Lib.hid (B11.out.trans (hb.mono B11.out.size)); have CA3 := Lib.hid (CA2.out.below hb); have CB3 := Lib.hid (CB2.out.below hb); clear hv hb x0 x1 x2 x3 y0 y1 y2 y3; obtain ⟨x0, x1, x2, x3, _, _, _, _⟩ := CA3.out; obtain ⟨y0, y1, y2, y3, _, _, _, _⟩ := CB3.out))
        | (go_at_call 12; go_must (refine (CE.out _ _ _ _ _ _ _ F6.out S6.out G6.out SB.out).mono ?_; rintro e w13 ⟨rfl, hb⟩; have B13 := Lib.hid (B12.out.trans (hb.mono B12.out.size)); have CA4 := Lib.hid (CA3.out.below hb); have CB4 := Lib.hid (CB3.out.below hb); clear hb x0 x1 x2 x3 y0 y1 y2 y3; obtain ⟨x0, x1, x2, x3, _, _, _, _⟩ := CA4.out; obtain ⟨y0, y1, y2, y3, _, _, _, _⟩ := CB4.out))
        | (go_at_call 7; refine (live14_calls _).mono ?_; rintro e w14 ⟨rfl, hb⟩))
      go_ret
      exact ⟨by simp, B13.out.trans (hb.mono B13.out.size)⟩
end Go.Proofs.YtnboegeljaplbaaGreat
namespace Go.Proofs.YtnboegeljaplbaaGreat
open Go.ChangeShapes Go.WideShapes Go.ChangeAt Go.RowKit Lv

set_option maxRecDepth 100000 in
theorem planTrees_lifted (os : Os) (started : os.Started) (H : Type) (enc : TypeId × Value → H) :
    ReturnsInHanded {} Tryz.checked os 4 .any (Rows.planTreesSpec.pre6 enc Tryz.prog Tryz.f4 Rows.planTreesRow.domain false) (Rows.planTreesSpec.post enc Tryz.prog Tryz.f4 false true false false) := by
  refine returnsInHanded_of_change (C := Tryz.checked) own started (by kernel_rfl) Tryz.func4
    (ChangeSpec.witness6 (enc := enc) (C := Tryz.checked) false ⟨#[], #[.agg #[.slice none 0 0, .slice none 0 0], .slice none 0 0], []⟩ 12 (by kernel_rfl) (by kernel_rfl) (by kernel_rfl) (by kernel_rfl)) ?_
  intro W base args ds gs before hval0 hW hcnd _
  have hval : ∀ (j : Nat) t v, Tryz.f4.params[j]? = some t → args[j]? = some v → Value.okWide Tryz.prog W .any base t v := hval0
  have hW' := hW
  obtain ⟨p, q, hA0, hV, rfl, hfz, hnd⟩ := hW
  have hA : DataW.TrodAll enc Tryz.prog W 0 (fun _ => true) true Tryz.f4.params.toList args.toList ds p := hA0
  rw [Tryz.params4] at hA hval
  obtain ⟨v0, vs0, d0, ds0, p0, q0, hargs, rfl, rfl, h0, r0⟩ := trodAll_cons hA
  obtain ⟨v1, vs1, d1, ds1, p1, q1, rfl, rfl, rfl, h1, r1⟩ := trodAll_cons r0
  obtain ⟨rfl, rfl, rfl⟩ := trodAll_nil r1
  obtain rfl : args = #[v0, v1] := by cases args; simp_all
  obtain ⟨rfl, rfl⟩ := trodVars_none hV
  have k0 := h0
  have lt0 : ∀ x ∈ p0, x.block < W.heap.size := by obtain ⟨m, hm⟩ := k0; exact DataW.trod_lt m _ _ _ hm
  obtain ⟨l0, m0, a0, n0, c0, b0, e0, f0, rfl, w0, u0⟩ := open_ints2 (hval 0 40 v0 rfl rfl) h0
  have k1 := h1
  have lt1 : ∀ x ∈ p1, x.block < W.heap.size := by obtain ⟨m, hm⟩ := k1; exact DataW.trod_lt m _ _ _ hm
  obtain ⟨l1, a1, n1, c1, rfl, w1⟩ := open_factors (hval 1 23 v1 rfl rfl) h1
  clear hA0 hval0
  refine (planTrees_walk W l0 a0 n0 c0 w0 m0 b0 e0 f0 u0 l1 a1 n1 c1 w1).mono fun e W' ⟨he, bel⟩ => ?_
  subst he
  exact ⟨_, rfl, _, _, _, [], _, [], hW', trodAll_mk1 (shut_bool Tryz.underlying4 _), (trodAll_cons_mk (Below.trod laidOut (by kernel_rfl) (of_decide_eq_true (by kernel_rfl)) k0 bel lt0) (trodAll_cons_mk (Below.trod laidOut (by kernel_rfl) (of_decide_eq_true (by kernel_rfl)) k1 bel lt1) trodAll_mk0)), rfl, bel.frame _, fun h => by cases h⟩

theorem planTrees_holds : Rows.PlanTreesSaid :=
  OpenClaim.holds_of_wide 4 Tryz.f4 rfl rfl rfl rfl rfl rfl rfl ⟨rfl, rfl, rfl, rfl, rfl⟩ rfl rfl rfl rfl rfl (by kernel_rfl) Tryz.func4 (by kernel_rfl)
    (of_decide_eq_true (by kernel_rfl)) (by unfold Func.isWrapper; first | (rw [if_pos (by decide +kernel)]; kernel_rfl) | (rw [if_neg (by decide +kernel)]; exact ⟨rfl, rfl⟩))
    (fun os started H enc _ => planTrees_lifted os started H enc)
#print axioms planTrees_holds
end Go.Proofs.YtnboegeljaplbaaGreat
