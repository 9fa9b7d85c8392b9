/- MergeRows, walked. -/
import Derived.Test.YtnboegeljaplbaaWb
import Derived.Test.YtnboegeljaplbaaOh
import Derived.Test.YtnboegeljaplbaaMj
import Derived.Test.YtnboegeljaplbaaOe
namespace Go.Proofs.Ytnboegeljaplbaa
open Go.RowKit Lv Go.Shelf
open Ieee (double Format Datum Toward)
attribute [local go_sem] Oper.semAt_some run_store_float drewN_alloc drewN_setCell

/-- behind a statement that calls All -/
def RowsCut (wr : World) (R : FacD × Int × Int) (s s' s'' : Value) (W : World) : Prop :=
  ∃ (b : Nat) (ga : Option Addr) (gn gcp : Nat), s = .pointer (some ⟨b, 0, none⟩) ∧ s' = .int .i64 R.2.1 ∧ s'' = .int .i64 R.2.2 ∧ Cells4 W b (.int .i64 R.1.cols) (.slice ga gn gcp) (.int .i64 R.1.rws) (.int .i64 R.1.trn) ∧ Row W (.slice ga gn gcp) R.1.xs ∧ Below wr.heap.size wr W
theorem rws_none {W : World} {a : Option Addr} {c : Nat} (h : c ≤ maxLen) : Rws W (.slice a 0 c) [] := ⟨a, c, rfl, Nat.zero_le _, h, .inl rfl⟩
theorem rws_words {w : World} {v : Value} {rs : List RowD} (h : Rws w v rs) : RwW rs := by
  obtain ⟨a, cap, rfl, _, _, h3⟩ := h
  intro r hr
  obtain ⟨i, hi, rfl⟩ := List.getElem_of_mem hr
  rcases h3 with h3 | ⟨blk, off, _, hc⟩
  · omega
  · obtain ⟨b, m, d, y, _, _, hR, hY⟩ := hc i hi
    have e : rs.getD i ([], none) = rs[i] := by rw [List.getD_eq_getElem?_getD, List.getElem?_eq_getElem hi]; rfl
    rw [e] at hR hY
    exact ⟨row_wd hR, fw_wd hY⟩
theorem RwW.sub {rs ss : List RowD} (h : RwW rs) (hs : ∀ r ∈ ss, r ∈ rs) : RwW ss := fun r hr => h r (hs r hr)

set_option maxRecDepth 100000 in
set_option maxHeartbeats 4000000 in
theorem mergeRows_walk (w : World) (cc : Int) (_ : (Lit.int .i64 cc).wf = true) (rs : List RowD) (t : Option Addr) (tn tc : Nat) (hl : Rws w (.slice t tn tc) rs) (kc : Int) (_ : (Lit.int .i64 kc).wf = true) :
    Calls Try.prog 6 #[.int .i64 cc, .slice t tn tc, .int .i64 kc] w fun e w' => e = .returned (.bool true) ∧ Below w.heap.size w w' := by
  have HL := Lib.hid hl
  obtain ⟨hn1, hn2⟩ := hl.len
  have htt : tn ≤ tc ∧ tc ≤ maxLen := by obtain ⟨a', c', hv, k1, k2, _⟩ := hl; simp only [Value.slice.injEq] at hv; obtain ⟨_, rfl, rfl⟩ := hv; exact ⟨k1, k2⟩
  obtain ⟨ht1, ht2⟩ := htt
  have FW8 := Lib.hid (rfew8_calls t tn tc 20 rs w hl)
  cases hf : fewR rs 20
  · rw [hf] at FW8
    clear hf hl
    go_enter Try.func6, Try.ntmps6
    go_wp2_with (first | (go_at_call 19; refine FW8.out.mono ?_; rintro e w0 ⟨rfl, rfl⟩) | (go_at_call 16; refine (live13_calls _).mono ?_; rintro e w6 ⟨rfl, hb6⟩))
    go_ret
    exact ⟨rfl, hb6⟩
  rw [hf] at FW8
  have h20 : rs.length ≤ 20 := by
    unfold fewR at hf
    rw [Bool.and_eq_true] at hf
    exact of_decide_eq_true hf.1
  have H20 := Lib.hid h20
  clear hf h20
  by_cases hneg : kc < 0
  · clear hl
    go_enter Try.func6, Try.ntmps6
    go_wp2_with (first | (go_at_call 19; refine FW8.out.mono ?_; rintro e w0 ⟨rfl, rfl⟩) | (go_at_call 16; refine (live13_calls _).mono ?_; rintro e w6 ⟨rfl, hb6⟩))
    go_ret
    exact ⟨rfl, hb6⟩
  obtain ⟨k, rfl⟩ : ∃ k : Nat, kc = (k : Int) := ⟨kc.toNat, by omega⟩
  by_cases hbig : tn < k
  · have hbigi : (tn : Int) < (k : Int) := by omega
    clear hl
    go_enter Try.func6, Try.ntmps6
    go_wp2_with (first | (go_at_call 19; refine FW8.out.mono ?_; rintro e w0 ⟨rfl, rfl⟩) | (go_at_call 16; refine (live13_calls _).mono ?_; rintro e w6 ⟨rfl, hb6⟩))
    go_ret
    exact ⟨rfl, hb6⟩
  have hki : ¬ (tn : Int) < (k : Int) := by omega
  by_cases hc : ¬ (1 ≤ cc ∧ cc ≤ 6)
  · have NW := Lib.hid (fun W => new_out cc W hc)
    clear hc hl
    go_enter Try.func6, Try.ntmps6
    go_wp2_with (first
      | (go_at_call 19; refine FW8.out.mono ?_; rintro e w0 ⟨rfl, rfl⟩)
      | (go_at_call 20; refine (NW.out _).mono ?_; rintro e w1 ⟨he, hb⟩; unfold facZ at he; subst he; have hC := Lib.hid hb; clear hb)
      | (go_at_call 16; refine (live13_calls _).mono ?_; rintro e w6 ⟨rfl, hb6⟩))
    go_ret
    exact ⟨rfl, (hC.out.alloc hC.out.size _).trans (hb6.mono (by have := hC.out.size; simp; omega))⟩
  obtain ⟨c, rfl⟩ := Int.eq_ofNat_of_zero_le (show 0 ≤ cc by omega)
  have h1c : 1 ≤ c := by omega
  have h6c : c ≤ 6 := by omega
  have hk1 : k ≤ tn := by omega
  have hk2 : k ≤ tc := by omega
  have hk1i : (k : Int) ≤ (tn : Int) := by omega
  have hk2i : (k : Int) ≤ (tc : Int) := by omega
  have hmx : (tn : Int) ≤ 9223372036854775807 := by omega
  have hkmx : (k : Int) ≤ 9223372036854775807 := by omega
  have htd : rs.take k ++ rs.drop k = rs := List.take_append_drop k rs
  have MR := Lib.hid (fun (a b : FacD) (n1 n2 : Int) (e1 : allD (newD c) (rs.take k) = (a, n1, 0)) (e2 : allD (newD c) (rs.drop k) = (b, n2, 0)) => by
    have := merge_rows h1c h6c ((rws_words hl).sub (fun r hr => List.mem_of_mem_take hr)) ((rws_words hl).sub (fun r hr => List.mem_of_mem_drop hr)) e1 e2 (by have := H20.out; rw [List.length_take, List.length_drop]; omega)
    rw [htd, show (rs.take k).length + (rs.drop k).length = tn by rw [List.length_take, List.length_drop]; omega] at this
    exact this)
  have HRW : Hid (∀ W, Below w.heap.size w W → (∀ a', (tn = 0 ∨ t = a') → Rws W (.slice a' k tc) (rs.take k)) ∧ (∀ blk off a', t = some ⟨blk, off, none⟩ → (k = tn ∨ a' = some ⟨blk, off + k * 2, none⟩) → Rws W (.slice a' (tn - k) (tc - k)) (rs.drop k)) ∧ (tn = 0 → ∀ a', Rws W (.slice a' (tn - k) (tc - k)) (rs.drop k))) := by
    intro W hW
    have hw := HL.out.below hW
    have hm := ht2
    refine ⟨fun a' ha => ?_, fun blk off a' e ha => ?_, fun h0 a' => ?_⟩
    · rcases ha with h0 | rfl
      · obtain rfl : k = 0 := by omega
        exact rws_none hm
      · exact hw.take k hk1
    · subst e
      exact hw.drop k hk1 ha
    · obtain rfl := List.length_eq_zero_iff.1 (hn1.trans h0)
      obtain rfl : k = 0 := by omega
      subst h0
      exact rws_none (by omega)
  have GR := Lib.hid (fun W (hb : Below w.heap.size w W) (hr : ∀ r ∈ rs, RowOk c 400 r) => growsQ_calls c tn 400 t tc rs W (HL.out.below hb) h1c h6c (by have := H20.out; omega) hr (by omega))
  have CE := Lib.hid (show ∀ (qs gs : List Rat) (a1 a2 : Option Addr) (c1 c2 s K : Nat) (W : World), tsz c = s → DqL W (.slice a1 s c1) qs 2148 → DqL W (.slice a2 s c2) gs 2148 → (∀ j, j < s → Bd (qs.getD j 0) (p2 ((860 : Nat) : Int))) → (∀ j, j < s → Bd (gs.getD j 0) (p2 ((860 : Nat) : Int))) → K ≤ 4096 →
      (∀ us A, A ≤ 860 → Norms c A qs us → ∀ i j, i ≤ j → j ≤ c → absR (gs.getD (gix c i j) 0 - qs.getD (gix c i j) 0) ≤ bndQ (us.getD i 0) (us.getD j 0) K) → Calls Try.prog 15 #[.int .i64 (c : Int), .slice a1 s c1, .slice a1 s c1, .slice a2 s c2, .int .i64 (K : Int)] W fun e w' => e = .returned (.tuple #[.int .i64 0, .bool true]) ∧ Below W.heap.size W w' from fun qs gs a1 a2 c1 c2 s K W hs d1 d2 b1 b2 hK hN =>
    echeck_calls c K s 860 a1 a1 a2 c1 c1 c2 qs qs gs W d1 d1 d2 h1c h6c hs.symm b1 b1 b2 (by omega) (by omega) (fun us hN' i j hij hj => hN us 860 (by omega) hN' i j hij hj))
  obtain ⟨R1, hR1⟩ : ∃ R, R = allD (newD c) (rs.take k) := ⟨_, rfl⟩
  obtain ⟨R2, hR2⟩ : ∃ R, R = allD (newD c) (rs.drop k) := ⟨_, rfl⟩
  rw [← hR1, ← hR2] at MR
  obtain ⟨a1, n1, e1⟩ := R1
  obtain ⟨a2, n2, e2⟩ := R2

  obtain ⟨nx, hnx⟩ : ∃ nx, nx = (List.replicate (tsz c) (some 0) : List (Option Nat)) := ⟨_, rfl⟩
  have NW : Hid (∀ W, Calls Try.prog 20 #[.int .i64 (c : Int)] W fun e w' => (∃ a n cap, e = .returned (.tuple #[.agg #[.int .i64 (c : Int), .slice a n cap, .int .i64 0, .int .i64 0], .int .i64 0]) ∧ Row w' (.slice a n cap) nx) ∧ Below W.heap.size W w') := by
    intro W
    rw [hnx]
    exact new_in c W h1c h6c
  have A3 : Hid (∀ W b m d t' tn' tc', Row W (.slice b m d) nx → Rws W (.slice t' tn' tc') (rs.take k) → Calls Try.prog 21 #[.agg #[.int .i64 (c : Int), .slice b m d, .int .i64 0, .int .i64 0], .slice t' tn' tc'] W fun e w' => FacN (a1, n1, e1) e w' ∧ Below W.heap.size W w') := by
    intro W b m d t' tn' tc' h h'
    rw [hnx] at h
    have := aall_calls (newD c) b t' m d tn' tc' (rs.take k) W h h'
    rw [← hR1] at this
    exact this
  have A4 : Hid (∀ W b m d t' tn' tc', Row W (.slice b m d) nx → Rws W (.slice t' tn' tc') (rs.drop k) → Calls Try.prog 21 #[.agg #[.int .i64 (c : Int), .slice b m d, .int .i64 0, .int .i64 0], .slice t' tn' tc'] W fun e w' => FacN (a2, n2, e2) e w' ∧ Below W.heap.size W w') := by
    intro W b m d t' tn' tc' h h'
    rw [hnx] at h
    have := aall_calls (newD c) b t' m d tn' tc' (rs.drop k) W h h'
    rw [← hR2] at this
    exact this
  clear hnx hR1 hR2 hl hc htd
  by_cases h0 : tn = 0
  · have H0 := Lib.hid h0
    clear h0
    by_cases hc : tc = k
    · obtain rfl : k = tc := hc.symm
      have HRA : Hid (∀ W, Below w.heap.size w W → ∀ a', Rws W (.slice a' 0 0) (rs.drop k)) := by
        intro W hW a'
        have := (HRW.out W hW).2.2 H0.out a'
        rw [Nat.sub_self, Nat.sub_eq_zero_of_le ht1] at this
        exact this
      go_enter Try.func6, Try.ntmps6
      go_upto_region 4 with (first
        | (go_at_call 19; refine FW8.out.mono ?_; rintro e w0 ⟨rfl, rfl⟩)
        | (go_at_call 20; go_must (refine (NW.out _).mono ?_; rintro e w1 ⟨⟨xa, xn, xcp, he, hrow⟩, hb⟩; subst he)))
      have B2 := Lib.hid (hb.alloc hb.size (.cells #[.int .i64 (c : Int), .slice xa xn xcp, .int .i64 0, .int .i64 0] 24))
      have C2 := Lib.hid (Cells4.new w1 (.int .i64 (c : Int)) (.slice xa xn xcp) (.int .i64 0) (.int .i64 0) 24)
      have X2 := Lib.hid (hrow.alloc (.cells #[.int .i64 (c : Int), .slice xa xn xcp, .int .i64 0, .int .i64 0] 24))
      clear hb hrow
      generalize w1.alloc (.cells #[.int .i64 (c : Int), .slice xa xn xcp, .int .i64 0, .int .i64 0] 24) = w2 at *
      generalize w1.heap.size = g7 at *
      go_wp2
      go_cut [9, 10, 11] from 43 to 52 (fun s9 s10 s11 wx => RowsCut w2 (a1, n1, e1) s9 s10 s11 wx)
      case first =>
        rename_i J K' hJ hK'
        have hs3 := B2.out.size
        obtain ⟨d0, d1, d2, d3, _, _, _, _⟩ := C2.out
        have hl4 := C2.out.lt
        have bA : Below w2.heap.size w2 w2.drew := (Below.refl _ _).drew
        have bB : Below w2.heap.size w2 (w2.alloc (.cells #[.int .i64 0, .slice none 0 0, .int .i64 0, .int .i64 0] 24)).drew := ((Below.refl w2.heap.size w2).alloc (Nat.le_refl _) _).drew
        have zB : Cells4 (w2.alloc (.cells #[.int .i64 0, .slice none 0 0, .int .i64 0, .int .i64 0] 24)).drew w2.heap.size (.int .i64 0) (.slice none 0 0) (.int .i64 0) (.int .i64 0) := (Cells4.new w2 _ _ _ _ 24).below ((Below.refl _ _).drew)
        have HbA := Lib.hid bA
        have HbB := Lib.hid bB
        have HzB := Lib.hid zB
        have HQA := Lib.hid (B2.out.trans (bA.mono hs3))
        have HQB := Lib.hid (B2.out.trans (bB.mono hs3))
        clear bA bB zB
        go_region_held3 (fun w' => w'.cell? ⟨g7, 0, none⟩ = some (.int .i64 (c : Int)) ∧ w'.cell? ⟨g7, 1, none⟩ = some (.slice xa xn xcp) ∧ w'.cell? ⟨g7, 2, none⟩ = some (.int .i64 0) ∧ w'.cell? ⟨g7, 3, none⟩ = some (.int .i64 0))
          (first
            | with_reducible exact ⟨((BL.out).cell (p := ⟨g7, 0, none⟩) hl4).trans d0, ((BL.out).cell (p := ⟨g7, 1, none⟩) hl4).trans d1, ((BL.out).cell (p := ⟨g7, 2, none⟩) hl4).trans d2, ((BL.out).cell (p := ⟨g7, 3, none⟩) hl4).trans d3⟩
            | with_reducible exact ⟨((BL.out.alloc BL.out.size _).cell (p := ⟨g7, 0, none⟩) hl4).trans d0, ((BL.out.alloc BL.out.size _).cell (p := ⟨g7, 1, none⟩) hl4).trans d1, ((BL.out.alloc BL.out.size _).cell (p := ⟨g7, 2, none⟩) hl4).trans d2, ((BL.out.alloc BL.out.size _).cell (p := ⟨g7, 3, none⟩) hl4).trans d3⟩
            | with_reducible exact ⟨((HbB.out).cell (p := ⟨g7, 0, none⟩) hl4).trans d0, ((HbB.out).cell (p := ⟨g7, 1, none⟩) hl4).trans d1, ((HbB.out).cell (p := ⟨g7, 2, none⟩) hl4).trans d2, ((HbB.out).cell (p := ⟨g7, 3, none⟩) hl4).trans d3⟩
            | with_reducible exact ⟨((HbA.out).cell (p := ⟨g7, 0, none⟩) hl4).trans d0, ((HbA.out).cell (p := ⟨g7, 1, none⟩) hl4).trans d1, ((HbA.out).cell (p := ⟨g7, 2, none⟩) hl4).trans d2, ((HbA.out).cell (p := ⟨g7, 3, none⟩) hl4).trans d3⟩
            | with_reducible exact ⟨((below_put4 BL.out (Nat.le_refl _) _ _ _ _).cell (p := ⟨g7, 0, none⟩) hl4).trans d0, ((below_put4 BL.out (Nat.le_refl _) _ _ _ _).cell (p := ⟨g7, 1, none⟩) hl4).trans d1, ((below_put4 BL.out (Nat.le_refl _) _ _ _ _).cell (p := ⟨g7, 2, none⟩) hl4).trans d2, ((below_put4 BL.out (Nat.le_refl _) _ _ _ _).cell (p := ⟨g7, 3, none⟩) hl4).trans d3⟩
            | go_keep)
          (first
            | (go_at_call 21; go_must ((first | refine (A3.out _ _ _ _ _ _ _ (X2.out.below HbA.out) ((HRW.out _ HQA.out).1 _ (.inl H0.out))).mono ?_ | refine (A3.out _ _ _ _ _ _ _ (X2.out.below HbB.out) ((HRW.out _ HQB.out).1 _ (.inl H0.out))).mono ?_); rintro e wL ⟨⟨pa, pn, pcp, rfl, hrowL⟩, hbL⟩; have BL' : Below w2.heap.size w2 wL := (by first | with_reducible exact HbA.out.trans (hbL.mono (by simp)) | with_reducible exact HbB.out.trans (hbL.mono (by simp))); have hszL := BL'.size; have hLz0 : g7 < wL.heap.size := (by omega); (first | ((with_reducible have yy := HzB.out.below hbL); have YL := Lib.hid yy; obtain ⟨y0, y1, y2, y3, yf0, yf1, yf2, yf3⟩ := yy) | (have YN : True := trivial)); have BL := Lib.hid BL'; have RL := Lib.hid hrowL; clear BL' hrowL hbL)))
        all_goals
          refine hK' _ _ (Met.intro (hJ _ _ ?_))
          (repeat apply Exists.intro)
          refine ⟨?_, rfl⟩
          have hwL := BL.out.size
          unfold RowsCut
          (first
            | (refine ⟨wL.heap.size, pa, pn, pcp, rfl, rfl, rfl, ?_⟩; with_reducible exact ⟨Cells4.new wL _ _ _ _ _, RL.out.alloc _, BL.out.alloc hwL _⟩)
            | (refine ⟨w2.heap.size, pa, pn, pcp, rfl, rfl, rfl, ?_⟩; with_reducible exact ⟨YL.out.put _ _ _ _, RL.out.put4 YL.out slice_ne _ _ _ _, below_put4 BL.out (Nat.le_refl _) _ _ _ _⟩))
      case rest =>
        obtain ⟨b9, pa, pn, pcp, rfl, rfl, rfl, PC, PR, PB⟩ := hcut
        obtain ⟨w5, rfl⟩ : ∃ x, x = wc := ⟨_, rfl⟩
        have HPC := Lib.hid PC
        have HPR := Lib.hid PR
        have B5 := Lib.hid (B2.out.trans (PB.mono B2.out.size))
        have C5 := Lib.hid (C2.out.below PB)
        have X5 := Lib.hid (X2.out.below PB)
        clear PC PR PB
        go_wp2
        go_cut [12, 13, 8] from 52 to 61 (fun s12 s13 s8 wx => RowsCut w5 (a2, n2, e2) s12 s13 s8 wx)
        case first =>
          rename_i J K' hJ hK'
          have hs3 := B5.out.size
          obtain ⟨d0, d1, d2, d3, _, _, _, _⟩ := C5.out
          have hl4 := C5.out.lt
          have bA : Below w5.heap.size w5 w5.drew := (Below.refl _ _).drew
          have bB : Below w5.heap.size w5 (w5.alloc (.cells #[.int .i64 0, .slice none 0 0, .int .i64 0, .int .i64 0] 24)).drew := ((Below.refl w5.heap.size w5).alloc (Nat.le_refl _) _).drew
          have zB : Cells4 (w5.alloc (.cells #[.int .i64 0, .slice none 0 0, .int .i64 0, .int .i64 0] 24)).drew w5.heap.size (.int .i64 0) (.slice none 0 0) (.int .i64 0) (.int .i64 0) := (Cells4.new w5 _ _ _ _ 24).below ((Below.refl _ _).drew)
          have HbA := Lib.hid bA
          have HbB := Lib.hid bB
          have HzB := Lib.hid zB
          have HQA := Lib.hid (B5.out.trans (bA.mono hs3))
          have HQB := Lib.hid (B5.out.trans (bB.mono hs3))
          clear bA bB zB
          go_region_held3 (fun w' => w'.cell? ⟨g7, 0, none⟩ = some (.int .i64 (c : Int)) ∧ w'.cell? ⟨g7, 1, none⟩ = some (.slice xa xn xcp) ∧ w'.cell? ⟨g7, 2, none⟩ = some (.int .i64 0) ∧ w'.cell? ⟨g7, 3, none⟩ = some (.int .i64 0))
            (first
              | with_reducible exact ⟨((BL.out).cell (p := ⟨g7, 0, none⟩) hl4).trans d0, ((BL.out).cell (p := ⟨g7, 1, none⟩) hl4).trans d1, ((BL.out).cell (p := ⟨g7, 2, none⟩) hl4).trans d2, ((BL.out).cell (p := ⟨g7, 3, none⟩) hl4).trans d3⟩
              | with_reducible exact ⟨((BL.out.alloc BL.out.size _).cell (p := ⟨g7, 0, none⟩) hl4).trans d0, ((BL.out.alloc BL.out.size _).cell (p := ⟨g7, 1, none⟩) hl4).trans d1, ((BL.out.alloc BL.out.size _).cell (p := ⟨g7, 2, none⟩) hl4).trans d2, ((BL.out.alloc BL.out.size _).cell (p := ⟨g7, 3, none⟩) hl4).trans d3⟩
              | with_reducible exact ⟨((HbB.out).cell (p := ⟨g7, 0, none⟩) hl4).trans d0, ((HbB.out).cell (p := ⟨g7, 1, none⟩) hl4).trans d1, ((HbB.out).cell (p := ⟨g7, 2, none⟩) hl4).trans d2, ((HbB.out).cell (p := ⟨g7, 3, none⟩) hl4).trans d3⟩
              | with_reducible exact ⟨((HbA.out).cell (p := ⟨g7, 0, none⟩) hl4).trans d0, ((HbA.out).cell (p := ⟨g7, 1, none⟩) hl4).trans d1, ((HbA.out).cell (p := ⟨g7, 2, none⟩) hl4).trans d2, ((HbA.out).cell (p := ⟨g7, 3, none⟩) hl4).trans d3⟩
              | with_reducible exact ⟨((below_put4 BL.out (Nat.le_refl _) _ _ _ _).cell (p := ⟨g7, 0, none⟩) hl4).trans d0, ((below_put4 BL.out (Nat.le_refl _) _ _ _ _).cell (p := ⟨g7, 1, none⟩) hl4).trans d1, ((below_put4 BL.out (Nat.le_refl _) _ _ _ _).cell (p := ⟨g7, 2, none⟩) hl4).trans d2, ((below_put4 BL.out (Nat.le_refl _) _ _ _ _).cell (p := ⟨g7, 3, none⟩) hl4).trans d3⟩
              | go_keep)
            (first
              | (go_at_call 21; go_must ((first | refine (A4.out _ _ _ _ _ _ _ (X5.out.below HbA.out) (HRA.out _ HQA.out _)).mono ?_ | refine (A4.out _ _ _ _ _ _ _ (X5.out.below HbB.out) (HRA.out _ HQB.out _)).mono ?_); rintro e wL ⟨⟨pa, pn, pcp, rfl, hrowL⟩, hbL⟩; have BL' : Below w5.heap.size w5 wL := (by first | with_reducible exact HbA.out.trans (hbL.mono (by simp)) | with_reducible exact HbB.out.trans (hbL.mono (by simp))); have hszL := BL'.size; have hLz0 : g7 < wL.heap.size := (by omega); (first | ((with_reducible have yy := HzB.out.below hbL); have YL := Lib.hid yy; obtain ⟨y0, y1, y2, y3, yf0, yf1, yf2, yf3⟩ := yy) | (have YN : True := trivial)); have BL := Lib.hid BL'; have RL := Lib.hid hrowL; clear BL' hrowL hbL)))
          all_goals
            refine hK' _ _ (Met.intro (hJ _ _ ?_))
            (repeat apply Exists.intro)
            refine ⟨?_, rfl⟩
            have hwL := BL.out.size
            unfold RowsCut
            (first
              | (refine ⟨wL.heap.size, pa, pn, pcp, rfl, rfl, rfl, ?_⟩; with_reducible exact ⟨Cells4.new wL _ _ _ _ _, RL.out.alloc _, BL.out.alloc hwL _⟩)
              | (refine ⟨w5.heap.size, pa, pn, pcp, rfl, rfl, rfl, ?_⟩; with_reducible exact ⟨YL.out.put _ _ _ _, RL.out.put4 YL.out slice_ne _ _ _ _, below_put4 BL.out (Nat.le_refl _) _ _ _ _⟩))
        case rest =>
          obtain ⟨b12, qa, qn, qcp, rfl, rfl, rfl, QC, QR, QB⟩ := hcut
          obtain ⟨w7, rfl⟩ : ∃ x, x = wc := ⟨_, rfl⟩
          have B7 := Lib.hid (B5.out.trans (QB.mono B5.out.size))
          have HQR := Lib.hid QR
          have HPR7 := Lib.hid (HPR.out.below QB)
          have HPC7 := Lib.hid (HPC.out.below QB)
          have HQC := Lib.hid QC
          clear QR QC QB HPR HPC X5 C5
          dsimp only at HQR HPR7 HPC7 HQC
          by_cases he1 : e1 ≠ 0
          · have hne : (e1 != 0) = true := by simpa using he1
            go_wp2_with (go_at_call 16; refine (live13_calls _).mono ?_; rintro e w6 ⟨rfl, hb6⟩)
            go_ret
            exact ⟨rfl, B7.out.trans (hb6.mono B7.out.size)⟩
          obtain rfl : e1 = 0 := by simpa using he1
          by_cases he2 : e2 ≠ 0
          · have hne : (e2 != 0) = true := by simpa using he2
            go_wp2_with (go_at_call 16; refine (live13_calls _).mono ?_; rintro e w6 ⟨rfl, hb6⟩)
            go_ret
            exact ⟨rfl, B7.out.trans (hb6.mono B7.out.size)⟩
          obtain rfl : e2 = 0 := by simpa using he2
          obtain ⟨hro, ⟨gc, gx, gr, gt⟩, K, hTW, hG, hK4, hck, hT, hN⟩ := MR.out a1 a2 n1 n2 rfl rfl
          simp only [FacD.mk.injEq] at hG
          obtain ⟨rfl, _, rfl, rfl⟩ := hG
          dsimp only at hck hT hN
          have TW := Lib.hid (fun W b m d b' m' d' (h : Row W (.slice b m d) a1.xs) (h' : Row W (.slice b' m' d') a2.xs) => by
            have := two_calls a1 a2 b b' m d m' d' W h h'
            rw [hTW] at this
            exact this)
          obtain ⟨s, hs⟩ : ∃ s, tsz c = s := ⟨_, rfl⟩
          have LF := gramL_ok (c := c) (A := 420) _ hT.lines
          have LR := gramL_ok (c := c) (A := 400) _ hro
          rw [linesD_len, hs] at LF
          rw [hs] at LR
          have GF := Lib.hid (fun W b m d hW => gfactor_calls c 420 ((tn : Nat) : Int) (K : Int) b m d gx W hW hck hT.lines (by omega))
          have GRO := Lib.hid (fun W hb => GR.out W hb hro)
          have hl20 := H20.out
          generalize gramL c (linesD gx c) = qf at *
          generalize gramL c rs = qr at *
          have PF := Lib.hid (show ∀ j, j < s → Bd (qf.getD j 0) (p2 ((860 : Nat) : Int)) from fun j hj => bd_p2_mono (LF.2 j hj) (by omega))
          have PR := Lib.hid (show ∀ j, j < s → Bd (qr.getD j 0) (p2 ((860 : Nat) : Int)) from fun j hj => bd_p2_mono (LR.2 j hj) (by omega))
          have LQ := Lib.hid (And.intro LF.1 LR.1)
          have CC := Lib.hid (fun a1 a2 c1 c2 W d1 d2 => CE.out qr qf a1 a2 c1 c2 s K W hs d1 d2 PR.out PF.out hK4 hN)
          have htt : ((tn : Int) == (tn : Int)) = true := by simp
          clear hro hTW hck hT hN LF LR MR he1 he2
          obtain ⟨d0, d1, d2, d3, _, _, _, _⟩ := HPC7.out
          obtain ⟨f0, f1, f2, f3, _, _, _, _⟩ := HQC.out
          go_upto_region 11 with (go_at_call 17; go_must (refine (TW.out _ _ _ _ _ _ _ HPR7.out HQR.out).mono ?_; rintro e w8 ⟨⟨ga, gn, gcp, rfl, hr8⟩, hb8⟩; dsimp only at hr8; have hb9 := hb8.alloc hb8.size (.cells #[.int .i64 (c : Int), .slice ga gn gcp, .int .i64 (tn : Int), .int .i64 (K : Int)] 24); have B9 := Lib.hid (B7.out.trans (hb9.mono B7.out.size)); have C9 := Lib.hid (Cells4.new w8 (.int .i64 (c : Int)) (.slice ga gn gcp) (.int .i64 (tn : Int)) (.int .i64 (K : Int)) 24); have R9 := Lib.hid (hr8.alloc (.cells #[.int .i64 (c : Int), .slice ga gn gcp, .int .i64 (tn : Int), .int .i64 (K : Int)] 24)); clear hr8 hb8 hb9 d0 d1 d2 d3 f0 f1 f2 f3))
          generalize w8.alloc (.cells #[.int .i64 (c : Int), .slice ga gn gcp, .int .i64 (tn : Int), .int .i64 (K : Int)] 24) = w9 at *
          generalize w8.heap.size = g14 at *
          obtain ⟨f0, f1, f2, f3, _, _, _, _⟩ := C9.out
          go_wp2_with (first
            | (go_at_call 22; go_must (refine (GRO.out _ B9.out).mono ?_; rintro e w10 ⟨⟨v, rfl, hv⟩, hb⟩; obtain ⟨ra, rc, hpv, _, _⟩ := hv.form; rw [LQ.out.2] at hpv; subst hpv; have Q10 := Lib.hid hv.dql; have B10 := Lib.hid (B9.out.trans (hb.mono B9.out.size)); have C10 := Lib.hid (C9.out.below hb); have R10 := Lib.hid (R9.out.below hb); clear hv hb f0 f1 f2 f3; obtain ⟨f0, f1, f2, f3, _, _, _, _⟩ := C10.out))
            | (go_at_call 12; go_must (refine (GF.out _ _ _ _ R10.out).mono ?_; rintro e w11 ⟨⟨v, rfl, hv⟩, hb⟩; obtain ⟨la, lc, hpv, _, _⟩ := hv.form; rw [LQ.out.1] at hpv; subst hpv; have F11 := Lib.hid hv.dql; have Q11 := Lib.hid (Q10.out.below hb); have B11 := Lib.hid (B10.out.trans (hb.mono B10.out.size)); have C11 := Lib.hid (C10.out.below hb); clear hv hb f0 f1 f2 f3; obtain ⟨f0, f1, f2, f3, _, _, _, _⟩ := C11.out))
            | (go_at_call 15; go_must (refine (CC.out _ _ _ _ _ Q11.out F11.out).mono ?_; rintro e w12 ⟨rfl, hb⟩; have B12 := Lib.hid (B11.out.trans (hb.mono B11.out.size)); have C12 := Lib.hid (C11.out.below hb); clear hb f0 f1 f2 f3; obtain ⟨f0, f1, f2, f3, _, _, _, _⟩ := C12.out))
            | (go_at_call 16; refine (live13_calls _).mono ?_; rintro e w13 ⟨rfl, hb13⟩))
          go_ret
          exact ⟨by simp, B12.out.trans (hb13.mono B12.out.size)⟩
    · have hne : ¬ tc = k := hc
      go_enter Try.func6, Try.ntmps6
      go_upto_region 4 with (first
        | (go_at_call 19; refine FW8.out.mono ?_; rintro e w0 ⟨rfl, rfl⟩)
        | (go_at_call 20; go_must (refine (NW.out _).mono ?_; rintro e w1 ⟨⟨xa, xn, xcp, he, hrow⟩, hb⟩; subst he)))
      have B2 := Lib.hid (hb.alloc hb.size (.cells #[.int .i64 (c : Int), .slice xa xn xcp, .int .i64 0, .int .i64 0] 24))
      have C2 := Lib.hid (Cells4.new w1 (.int .i64 (c : Int)) (.slice xa xn xcp) (.int .i64 0) (.int .i64 0) 24)
      have X2 := Lib.hid (hrow.alloc (.cells #[.int .i64 (c : Int), .slice xa xn xcp, .int .i64 0, .int .i64 0] 24))
      clear hb hrow
      generalize w1.alloc (.cells #[.int .i64 (c : Int), .slice xa xn xcp, .int .i64 0, .int .i64 0] 24) = w2 at *
      generalize w1.heap.size = g7 at *
      go_wp2
      go_cut [9, 10, 11] from 43 to 52 (fun s9 s10 s11 wx => RowsCut w2 (a1, n1, e1) s9 s10 s11 wx)
      case first =>
        rename_i J K' hJ hK'
        have hs3 := B2.out.size
        obtain ⟨d0, d1, d2, d3, _, _, _, _⟩ := C2.out
        have hl4 := C2.out.lt
        have bA : Below w2.heap.size w2 w2.drew := (Below.refl _ _).drew
        have bB : Below w2.heap.size w2 (w2.alloc (.cells #[.int .i64 0, .slice none 0 0, .int .i64 0, .int .i64 0] 24)).drew := ((Below.refl w2.heap.size w2).alloc (Nat.le_refl _) _).drew
        have zB : Cells4 (w2.alloc (.cells #[.int .i64 0, .slice none 0 0, .int .i64 0, .int .i64 0] 24)).drew w2.heap.size (.int .i64 0) (.slice none 0 0) (.int .i64 0) (.int .i64 0) := (Cells4.new w2 _ _ _ _ 24).below ((Below.refl _ _).drew)
        have HbA := Lib.hid bA
        have HbB := Lib.hid bB
        have HzB := Lib.hid zB
        have HQA := Lib.hid (B2.out.trans (bA.mono hs3))
        have HQB := Lib.hid (B2.out.trans (bB.mono hs3))
        clear bA bB zB
        go_region_held3 (fun w' => w'.cell? ⟨g7, 0, none⟩ = some (.int .i64 (c : Int)) ∧ w'.cell? ⟨g7, 1, none⟩ = some (.slice xa xn xcp) ∧ w'.cell? ⟨g7, 2, none⟩ = some (.int .i64 0) ∧ w'.cell? ⟨g7, 3, none⟩ = some (.int .i64 0))
          (first
            | with_reducible exact ⟨((BL.out).cell (p := ⟨g7, 0, none⟩) hl4).trans d0, ((BL.out).cell (p := ⟨g7, 1, none⟩) hl4).trans d1, ((BL.out).cell (p := ⟨g7, 2, none⟩) hl4).trans d2, ((BL.out).cell (p := ⟨g7, 3, none⟩) hl4).trans d3⟩
            | with_reducible exact ⟨((BL.out.alloc BL.out.size _).cell (p := ⟨g7, 0, none⟩) hl4).trans d0, ((BL.out.alloc BL.out.size _).cell (p := ⟨g7, 1, none⟩) hl4).trans d1, ((BL.out.alloc BL.out.size _).cell (p := ⟨g7, 2, none⟩) hl4).trans d2, ((BL.out.alloc BL.out.size _).cell (p := ⟨g7, 3, none⟩) hl4).trans d3⟩
            | with_reducible exact ⟨((HbB.out).cell (p := ⟨g7, 0, none⟩) hl4).trans d0, ((HbB.out).cell (p := ⟨g7, 1, none⟩) hl4).trans d1, ((HbB.out).cell (p := ⟨g7, 2, none⟩) hl4).trans d2, ((HbB.out).cell (p := ⟨g7, 3, none⟩) hl4).trans d3⟩
            | with_reducible exact ⟨((HbA.out).cell (p := ⟨g7, 0, none⟩) hl4).trans d0, ((HbA.out).cell (p := ⟨g7, 1, none⟩) hl4).trans d1, ((HbA.out).cell (p := ⟨g7, 2, none⟩) hl4).trans d2, ((HbA.out).cell (p := ⟨g7, 3, none⟩) hl4).trans d3⟩
            | with_reducible exact ⟨((below_put4 BL.out (Nat.le_refl _) _ _ _ _).cell (p := ⟨g7, 0, none⟩) hl4).trans d0, ((below_put4 BL.out (Nat.le_refl _) _ _ _ _).cell (p := ⟨g7, 1, none⟩) hl4).trans d1, ((below_put4 BL.out (Nat.le_refl _) _ _ _ _).cell (p := ⟨g7, 2, none⟩) hl4).trans d2, ((below_put4 BL.out (Nat.le_refl _) _ _ _ _).cell (p := ⟨g7, 3, none⟩) hl4).trans d3⟩
            | go_keep)
          (first
            | (go_at_call 21; go_must ((first | refine (A3.out _ _ _ _ _ _ _ (X2.out.below HbA.out) ((HRW.out _ HQA.out).1 _ (.inl H0.out))).mono ?_ | refine (A3.out _ _ _ _ _ _ _ (X2.out.below HbB.out) ((HRW.out _ HQB.out).1 _ (.inl H0.out))).mono ?_); rintro e wL ⟨⟨pa, pn, pcp, rfl, hrowL⟩, hbL⟩; have BL' : Below w2.heap.size w2 wL := (by first | with_reducible exact HbA.out.trans (hbL.mono (by simp)) | with_reducible exact HbB.out.trans (hbL.mono (by simp))); have hszL := BL'.size; have hLz0 : g7 < wL.heap.size := (by omega); (first | ((with_reducible have yy := HzB.out.below hbL); have YL := Lib.hid yy; obtain ⟨y0, y1, y2, y3, yf0, yf1, yf2, yf3⟩ := yy) | (have YN : True := trivial)); have BL := Lib.hid BL'; have RL := Lib.hid hrowL; clear BL' hrowL hbL)))
        all_goals
          refine hK' _ _ (Met.intro (hJ _ _ ?_))
          (repeat apply Exists.intro)
          refine ⟨?_, rfl⟩
          have hwL := BL.out.size
          unfold RowsCut
          (first
            | (refine ⟨wL.heap.size, pa, pn, pcp, rfl, rfl, rfl, ?_⟩; with_reducible exact ⟨Cells4.new wL _ _ _ _ _, RL.out.alloc _, BL.out.alloc hwL _⟩)
            | (refine ⟨w2.heap.size, pa, pn, pcp, rfl, rfl, rfl, ?_⟩; with_reducible exact ⟨YL.out.put _ _ _ _, RL.out.put4 YL.out slice_ne _ _ _ _, below_put4 BL.out (Nat.le_refl _) _ _ _ _⟩))
      case rest =>
        obtain ⟨b9, pa, pn, pcp, rfl, rfl, rfl, PC, PR, PB⟩ := hcut
        obtain ⟨w5, rfl⟩ : ∃ x, x = wc := ⟨_, rfl⟩
        have HPC := Lib.hid PC
        have HPR := Lib.hid PR
        have B5 := Lib.hid (B2.out.trans (PB.mono B2.out.size))
        have C5 := Lib.hid (C2.out.below PB)
        have X5 := Lib.hid (X2.out.below PB)
        clear PC PR PB
        go_wp2
        go_cut [12, 13, 8] from 52 to 61 (fun s12 s13 s8 wx => RowsCut w5 (a2, n2, e2) s12 s13 s8 wx)
        case first =>
          rename_i J K' hJ hK'
          have hs3 := B5.out.size
          obtain ⟨d0, d1, d2, d3, _, _, _, _⟩ := C5.out
          have hl4 := C5.out.lt
          have bA : Below w5.heap.size w5 w5.drew := (Below.refl _ _).drew
          have bB : Below w5.heap.size w5 (w5.alloc (.cells #[.int .i64 0, .slice none 0 0, .int .i64 0, .int .i64 0] 24)).drew := ((Below.refl w5.heap.size w5).alloc (Nat.le_refl _) _).drew
          have zB : Cells4 (w5.alloc (.cells #[.int .i64 0, .slice none 0 0, .int .i64 0, .int .i64 0] 24)).drew w5.heap.size (.int .i64 0) (.slice none 0 0) (.int .i64 0) (.int .i64 0) := (Cells4.new w5 _ _ _ _ 24).below ((Below.refl _ _).drew)
          have HbA := Lib.hid bA
          have HbB := Lib.hid bB
          have HzB := Lib.hid zB
          have HQA := Lib.hid (B5.out.trans (bA.mono hs3))
          have HQB := Lib.hid (B5.out.trans (bB.mono hs3))
          clear bA bB zB
          go_region_held3 (fun w' => w'.cell? ⟨g7, 0, none⟩ = some (.int .i64 (c : Int)) ∧ w'.cell? ⟨g7, 1, none⟩ = some (.slice xa xn xcp) ∧ w'.cell? ⟨g7, 2, none⟩ = some (.int .i64 0) ∧ w'.cell? ⟨g7, 3, none⟩ = some (.int .i64 0))
            (first
              | with_reducible exact ⟨((BL.out).cell (p := ⟨g7, 0, none⟩) hl4).trans d0, ((BL.out).cell (p := ⟨g7, 1, none⟩) hl4).trans d1, ((BL.out).cell (p := ⟨g7, 2, none⟩) hl4).trans d2, ((BL.out).cell (p := ⟨g7, 3, none⟩) hl4).trans d3⟩
              | with_reducible exact ⟨((BL.out.alloc BL.out.size _).cell (p := ⟨g7, 0, none⟩) hl4).trans d0, ((BL.out.alloc BL.out.size _).cell (p := ⟨g7, 1, none⟩) hl4).trans d1, ((BL.out.alloc BL.out.size _).cell (p := ⟨g7, 2, none⟩) hl4).trans d2, ((BL.out.alloc BL.out.size _).cell (p := ⟨g7, 3, none⟩) hl4).trans d3⟩
              | with_reducible exact ⟨((HbB.out).cell (p := ⟨g7, 0, none⟩) hl4).trans d0, ((HbB.out).cell (p := ⟨g7, 1, none⟩) hl4).trans d1, ((HbB.out).cell (p := ⟨g7, 2, none⟩) hl4).trans d2, ((HbB.out).cell (p := ⟨g7, 3, none⟩) hl4).trans d3⟩
              | with_reducible exact ⟨((HbA.out).cell (p := ⟨g7, 0, none⟩) hl4).trans d0, ((HbA.out).cell (p := ⟨g7, 1, none⟩) hl4).trans d1, ((HbA.out).cell (p := ⟨g7, 2, none⟩) hl4).trans d2, ((HbA.out).cell (p := ⟨g7, 3, none⟩) hl4).trans d3⟩
              | with_reducible exact ⟨((below_put4 BL.out (Nat.le_refl _) _ _ _ _).cell (p := ⟨g7, 0, none⟩) hl4).trans d0, ((below_put4 BL.out (Nat.le_refl _) _ _ _ _).cell (p := ⟨g7, 1, none⟩) hl4).trans d1, ((below_put4 BL.out (Nat.le_refl _) _ _ _ _).cell (p := ⟨g7, 2, none⟩) hl4).trans d2, ((below_put4 BL.out (Nat.le_refl _) _ _ _ _).cell (p := ⟨g7, 3, none⟩) hl4).trans d3⟩
              | go_keep)
            (first
              | (go_at_call 21; go_must ((first | refine (A4.out _ _ _ _ _ _ _ (X5.out.below HbA.out) ((HRW.out _ HQA.out).2.2 H0.out _)).mono ?_ | refine (A4.out _ _ _ _ _ _ _ (X5.out.below HbB.out) ((HRW.out _ HQB.out).2.2 H0.out _)).mono ?_); rintro e wL ⟨⟨pa, pn, pcp, rfl, hrowL⟩, hbL⟩; have BL' : Below w5.heap.size w5 wL := (by first | with_reducible exact HbA.out.trans (hbL.mono (by simp)) | with_reducible exact HbB.out.trans (hbL.mono (by simp))); have hszL := BL'.size; have hLz0 : g7 < wL.heap.size := (by omega); (first | ((with_reducible have yy := HzB.out.below hbL); have YL := Lib.hid yy; obtain ⟨y0, y1, y2, y3, yf0, yf1, yf2, yf3⟩ := yy) | (have YN : True := trivial)); have BL := Lib.hid BL'; have RL := Lib.hid hrowL; clear BL' hrowL hbL)))
          all_goals
            refine hK' _ _ (Met.intro (hJ _ _ ?_))
            (repeat apply Exists.intro)
            refine ⟨?_, rfl⟩
            have hwL := BL.out.size
            unfold RowsCut
            (first
              | (refine ⟨wL.heap.size, pa, pn, pcp, rfl, rfl, rfl, ?_⟩; with_reducible exact ⟨Cells4.new wL _ _ _ _ _, RL.out.alloc _, BL.out.alloc hwL _⟩)
              | (refine ⟨w5.heap.size, pa, pn, pcp, rfl, rfl, rfl, ?_⟩; with_reducible exact ⟨YL.out.put _ _ _ _, RL.out.put4 YL.out slice_ne _ _ _ _, below_put4 BL.out (Nat.le_refl _) _ _ _ _⟩))
        case rest =>
          obtain ⟨b12, qa, qn, qcp, rfl, rfl, rfl, QC, QR, QB⟩ := hcut
          obtain ⟨w7, rfl⟩ : ∃ x, x = wc := ⟨_, rfl⟩
          have B7 := Lib.hid (B5.out.trans (QB.mono B5.out.size))
          have HQR := Lib.hid QR
          have HPR7 := Lib.hid (HPR.out.below QB)
          have HPC7 := Lib.hid (HPC.out.below QB)
          have HQC := Lib.hid QC
          clear QR QC QB HPR HPC X5 C5
          dsimp only at HQR HPR7 HPC7 HQC
          by_cases he1 : e1 ≠ 0
          · have hne : (e1 != 0) = true := by simpa using he1
            go_wp2_with (go_at_call 16; refine (live13_calls _).mono ?_; rintro e w6 ⟨rfl, hb6⟩)
            go_ret
            exact ⟨rfl, B7.out.trans (hb6.mono B7.out.size)⟩
          obtain rfl : e1 = 0 := by simpa using he1
          by_cases he2 : e2 ≠ 0
          · have hne : (e2 != 0) = true := by simpa using he2
            go_wp2_with (go_at_call 16; refine (live13_calls _).mono ?_; rintro e w6 ⟨rfl, hb6⟩)
            go_ret
            exact ⟨rfl, B7.out.trans (hb6.mono B7.out.size)⟩
          obtain rfl : e2 = 0 := by simpa using he2
          obtain ⟨hro, ⟨gc, gx, gr, gt⟩, K, hTW, hG, hK4, hck, hT, hN⟩ := MR.out a1 a2 n1 n2 rfl rfl
          simp only [FacD.mk.injEq] at hG
          obtain ⟨rfl, _, rfl, rfl⟩ := hG
          dsimp only at hck hT hN
          have TW := Lib.hid (fun W b m d b' m' d' (h : Row W (.slice b m d) a1.xs) (h' : Row W (.slice b' m' d') a2.xs) => by
            have := two_calls a1 a2 b b' m d m' d' W h h'
            rw [hTW] at this
            exact this)
          obtain ⟨s, hs⟩ : ∃ s, tsz c = s := ⟨_, rfl⟩
          have LF := gramL_ok (c := c) (A := 420) _ hT.lines
          have LR := gramL_ok (c := c) (A := 400) _ hro
          rw [linesD_len, hs] at LF
          rw [hs] at LR
          have GF := Lib.hid (fun W b m d hW => gfactor_calls c 420 ((tn : Nat) : Int) (K : Int) b m d gx W hW hck hT.lines (by omega))
          have GRO := Lib.hid (fun W hb => GR.out W hb hro)
          have hl20 := H20.out
          generalize gramL c (linesD gx c) = qf at *
          generalize gramL c rs = qr at *
          have PF := Lib.hid (show ∀ j, j < s → Bd (qf.getD j 0) (p2 ((860 : Nat) : Int)) from fun j hj => bd_p2_mono (LF.2 j hj) (by omega))
          have PR := Lib.hid (show ∀ j, j < s → Bd (qr.getD j 0) (p2 ((860 : Nat) : Int)) from fun j hj => bd_p2_mono (LR.2 j hj) (by omega))
          have LQ := Lib.hid (And.intro LF.1 LR.1)
          have CC := Lib.hid (fun a1 a2 c1 c2 W d1 d2 => CE.out qr qf a1 a2 c1 c2 s K W hs d1 d2 PR.out PF.out hK4 hN)
          have htt : ((tn : Int) == (tn : Int)) = true := by simp
          clear hro hTW hck hT hN LF LR MR he1 he2
          obtain ⟨d0, d1, d2, d3, _, _, _, _⟩ := HPC7.out
          obtain ⟨f0, f1, f2, f3, _, _, _, _⟩ := HQC.out
          go_upto_region 11 with (go_at_call 17; go_must (refine (TW.out _ _ _ _ _ _ _ HPR7.out HQR.out).mono ?_; rintro e w8 ⟨⟨ga, gn, gcp, rfl, hr8⟩, hb8⟩; dsimp only at hr8; have hb9 := hb8.alloc hb8.size (.cells #[.int .i64 (c : Int), .slice ga gn gcp, .int .i64 (tn : Int), .int .i64 (K : Int)] 24); have B9 := Lib.hid (B7.out.trans (hb9.mono B7.out.size)); have C9 := Lib.hid (Cells4.new w8 (.int .i64 (c : Int)) (.slice ga gn gcp) (.int .i64 (tn : Int)) (.int .i64 (K : Int)) 24); have R9 := Lib.hid (hr8.alloc (.cells #[.int .i64 (c : Int), .slice ga gn gcp, .int .i64 (tn : Int), .int .i64 (K : Int)] 24)); clear hr8 hb8 hb9 d0 d1 d2 d3 f0 f1 f2 f3))
          generalize w8.alloc (.cells #[.int .i64 (c : Int), .slice ga gn gcp, .int .i64 (tn : Int), .int .i64 (K : Int)] 24) = w9 at *
          generalize w8.heap.size = g14 at *
          obtain ⟨f0, f1, f2, f3, _, _, _, _⟩ := C9.out
          go_wp2_with (first
            | (go_at_call 22; go_must (refine (GRO.out _ B9.out).mono ?_; rintro e w10 ⟨⟨v, rfl, hv⟩, hb⟩; obtain ⟨ra, rc, hpv, _, _⟩ := hv.form; rw [LQ.out.2] at hpv; subst hpv; have Q10 := Lib.hid hv.dql; have B10 := Lib.hid (B9.out.trans (hb.mono B9.out.size)); have C10 := Lib.hid (C9.out.below hb); have R10 := Lib.hid (R9.out.below hb); clear hv hb f0 f1 f2 f3; obtain ⟨f0, f1, f2, f3, _, _, _, _⟩ := C10.out))
            | (go_at_call 12; go_must (refine (GF.out _ _ _ _ R10.out).mono ?_; rintro e w11 ⟨⟨v, rfl, hv⟩, hb⟩; obtain ⟨la, lc, hpv, _, _⟩ := hv.form; rw [LQ.out.1] at hpv; subst hpv; have F11 := Lib.hid hv.dql; have Q11 := Lib.hid (Q10.out.below hb); have B11 := Lib.hid (B10.out.trans (hb.mono B10.out.size)); have C11 := Lib.hid (C10.out.below hb); clear hv hb f0 f1 f2 f3; obtain ⟨f0, f1, f2, f3, _, _, _, _⟩ := C11.out))
            | (go_at_call 15; go_must (refine (CC.out _ _ _ _ _ Q11.out F11.out).mono ?_; rintro e w12 ⟨rfl, hb⟩; have B12 := Lib.hid (B11.out.trans (hb.mono B11.out.size)); have C12 := Lib.hid (C11.out.below hb); clear hb f0 f1 f2 f3; obtain ⟨f0, f1, f2, f3, _, _, _, _⟩ := C12.out))
            | (go_at_call 16; refine (live13_calls _).mono ?_; rintro e w13 ⟨rfl, hb13⟩))
          go_ret
          exact ⟨by simp, B12.out.trans (hb13.mono B12.out.size)⟩
  · have h0p : 0 < tn := by omega
    obtain ⟨blk, off, rfl, _⟩ := HL.out.at h0p
    clear h0
    by_cases hc : tc = k
    · obtain rfl : k = tc := hc.symm
      obtain rfl : k = tn := by omega
      have HRB : Hid (∀ W, Below w.heap.size w W → Rws W (.slice (some ⟨blk, off, none⟩) 0 0) (rs.drop k)) := by
        intro W hW
        have := (HRW.out W hW).2.1 blk off (some ⟨blk, off, none⟩) rfl (.inl rfl)
        rw [Nat.sub_self] at this
        exact this
      go_enter Try.func6, Try.ntmps6
      go_upto_region 4 with (first
        | (go_at_call 19; refine FW8.out.mono ?_; rintro e w0 ⟨rfl, rfl⟩)
        | (go_at_call 20; go_must (refine (NW.out _).mono ?_; rintro e w1 ⟨⟨xa, xn, xcp, he, hrow⟩, hb⟩; subst he)))
      have B2 := Lib.hid (hb.alloc hb.size (.cells #[.int .i64 (c : Int), .slice xa xn xcp, .int .i64 0, .int .i64 0] 24))
      have C2 := Lib.hid (Cells4.new w1 (.int .i64 (c : Int)) (.slice xa xn xcp) (.int .i64 0) (.int .i64 0) 24)
      have X2 := Lib.hid (hrow.alloc (.cells #[.int .i64 (c : Int), .slice xa xn xcp, .int .i64 0, .int .i64 0] 24))
      clear hb hrow
      generalize w1.alloc (.cells #[.int .i64 (c : Int), .slice xa xn xcp, .int .i64 0, .int .i64 0] 24) = w2 at *
      generalize w1.heap.size = g7 at *
      go_wp2
      go_cut [9, 10, 11] from 43 to 52 (fun s9 s10 s11 wx => RowsCut w2 (a1, n1, e1) s9 s10 s11 wx)
      case first =>
        rename_i J K' hJ hK'
        have hs3 := B2.out.size
        obtain ⟨d0, d1, d2, d3, _, _, _, _⟩ := C2.out
        have hl4 := C2.out.lt
        have bA : Below w2.heap.size w2 w2.drew := (Below.refl _ _).drew
        have bB : Below w2.heap.size w2 (w2.alloc (.cells #[.int .i64 0, .slice none 0 0, .int .i64 0, .int .i64 0] 24)).drew := ((Below.refl w2.heap.size w2).alloc (Nat.le_refl _) _).drew
        have zB : Cells4 (w2.alloc (.cells #[.int .i64 0, .slice none 0 0, .int .i64 0, .int .i64 0] 24)).drew w2.heap.size (.int .i64 0) (.slice none 0 0) (.int .i64 0) (.int .i64 0) := (Cells4.new w2 _ _ _ _ 24).below ((Below.refl _ _).drew)
        have HbA := Lib.hid bA
        have HbB := Lib.hid bB
        have HzB := Lib.hid zB
        have HQA := Lib.hid (B2.out.trans (bA.mono hs3))
        have HQB := Lib.hid (B2.out.trans (bB.mono hs3))
        clear bA bB zB
        go_region_held3 (fun w' => w'.cell? ⟨g7, 0, none⟩ = some (.int .i64 (c : Int)) ∧ w'.cell? ⟨g7, 1, none⟩ = some (.slice xa xn xcp) ∧ w'.cell? ⟨g7, 2, none⟩ = some (.int .i64 0) ∧ w'.cell? ⟨g7, 3, none⟩ = some (.int .i64 0))
          (first
            | with_reducible exact ⟨((BL.out).cell (p := ⟨g7, 0, none⟩) hl4).trans d0, ((BL.out).cell (p := ⟨g7, 1, none⟩) hl4).trans d1, ((BL.out).cell (p := ⟨g7, 2, none⟩) hl4).trans d2, ((BL.out).cell (p := ⟨g7, 3, none⟩) hl4).trans d3⟩
            | with_reducible exact ⟨((BL.out.alloc BL.out.size _).cell (p := ⟨g7, 0, none⟩) hl4).trans d0, ((BL.out.alloc BL.out.size _).cell (p := ⟨g7, 1, none⟩) hl4).trans d1, ((BL.out.alloc BL.out.size _).cell (p := ⟨g7, 2, none⟩) hl4).trans d2, ((BL.out.alloc BL.out.size _).cell (p := ⟨g7, 3, none⟩) hl4).trans d3⟩
            | with_reducible exact ⟨((HbB.out).cell (p := ⟨g7, 0, none⟩) hl4).trans d0, ((HbB.out).cell (p := ⟨g7, 1, none⟩) hl4).trans d1, ((HbB.out).cell (p := ⟨g7, 2, none⟩) hl4).trans d2, ((HbB.out).cell (p := ⟨g7, 3, none⟩) hl4).trans d3⟩
            | with_reducible exact ⟨((HbA.out).cell (p := ⟨g7, 0, none⟩) hl4).trans d0, ((HbA.out).cell (p := ⟨g7, 1, none⟩) hl4).trans d1, ((HbA.out).cell (p := ⟨g7, 2, none⟩) hl4).trans d2, ((HbA.out).cell (p := ⟨g7, 3, none⟩) hl4).trans d3⟩
            | with_reducible exact ⟨((below_put4 BL.out (Nat.le_refl _) _ _ _ _).cell (p := ⟨g7, 0, none⟩) hl4).trans d0, ((below_put4 BL.out (Nat.le_refl _) _ _ _ _).cell (p := ⟨g7, 1, none⟩) hl4).trans d1, ((below_put4 BL.out (Nat.le_refl _) _ _ _ _).cell (p := ⟨g7, 2, none⟩) hl4).trans d2, ((below_put4 BL.out (Nat.le_refl _) _ _ _ _).cell (p := ⟨g7, 3, none⟩) hl4).trans d3⟩
            | go_keep)
          (first
            | (go_at_call 21; go_must ((first | refine (A3.out _ _ _ _ _ _ _ (X2.out.below HbA.out) ((HRW.out _ HQA.out).1 _ (.inr rfl))).mono ?_ | refine (A3.out _ _ _ _ _ _ _ (X2.out.below HbB.out) ((HRW.out _ HQB.out).1 _ (.inr rfl))).mono ?_); rintro e wL ⟨⟨pa, pn, pcp, rfl, hrowL⟩, hbL⟩; have BL' : Below w2.heap.size w2 wL := (by first | with_reducible exact HbA.out.trans (hbL.mono (by simp)) | with_reducible exact HbB.out.trans (hbL.mono (by simp))); have hszL := BL'.size; have hLz0 : g7 < wL.heap.size := (by omega); (first | ((with_reducible have yy := HzB.out.below hbL); have YL := Lib.hid yy; obtain ⟨y0, y1, y2, y3, yf0, yf1, yf2, yf3⟩ := yy) | (have YN : True := trivial)); have BL := Lib.hid BL'; have RL := Lib.hid hrowL; clear BL' hrowL hbL)))
        all_goals
          refine hK' _ _ (Met.intro (hJ _ _ ?_))
          (repeat apply Exists.intro)
          refine ⟨?_, rfl⟩
          have hwL := BL.out.size
          unfold RowsCut
          (first
            | (refine ⟨wL.heap.size, pa, pn, pcp, rfl, rfl, rfl, ?_⟩; with_reducible exact ⟨Cells4.new wL _ _ _ _ _, RL.out.alloc _, BL.out.alloc hwL _⟩)
            | (refine ⟨w2.heap.size, pa, pn, pcp, rfl, rfl, rfl, ?_⟩; with_reducible exact ⟨YL.out.put _ _ _ _, RL.out.put4 YL.out slice_ne _ _ _ _, below_put4 BL.out (Nat.le_refl _) _ _ _ _⟩))
      case rest =>
        obtain ⟨b9, pa, pn, pcp, rfl, rfl, rfl, PC, PR, PB⟩ := hcut
        obtain ⟨w5, rfl⟩ : ∃ x, x = wc := ⟨_, rfl⟩
        have HPC := Lib.hid PC
        have HPR := Lib.hid PR
        have B5 := Lib.hid (B2.out.trans (PB.mono B2.out.size))
        have C5 := Lib.hid (C2.out.below PB)
        have X5 := Lib.hid (X2.out.below PB)
        clear PC PR PB
        go_wp2
        go_cut [12, 13, 8] from 52 to 61 (fun s12 s13 s8 wx => RowsCut w5 (a2, n2, e2) s12 s13 s8 wx)
        case first =>
          rename_i J K' hJ hK'
          have hs3 := B5.out.size
          obtain ⟨d0, d1, d2, d3, _, _, _, _⟩ := C5.out
          have hl4 := C5.out.lt
          have bA : Below w5.heap.size w5 w5.drew := (Below.refl _ _).drew
          have bB : Below w5.heap.size w5 (w5.alloc (.cells #[.int .i64 0, .slice none 0 0, .int .i64 0, .int .i64 0] 24)).drew := ((Below.refl w5.heap.size w5).alloc (Nat.le_refl _) _).drew
          have zB : Cells4 (w5.alloc (.cells #[.int .i64 0, .slice none 0 0, .int .i64 0, .int .i64 0] 24)).drew w5.heap.size (.int .i64 0) (.slice none 0 0) (.int .i64 0) (.int .i64 0) := (Cells4.new w5 _ _ _ _ 24).below ((Below.refl _ _).drew)
          have HbA := Lib.hid bA
          have HbB := Lib.hid bB
          have HzB := Lib.hid zB
          have HQA := Lib.hid (B5.out.trans (bA.mono hs3))
          have HQB := Lib.hid (B5.out.trans (bB.mono hs3))
          clear bA bB zB
          go_region_held3 (fun w' => w'.cell? ⟨g7, 0, none⟩ = some (.int .i64 (c : Int)) ∧ w'.cell? ⟨g7, 1, none⟩ = some (.slice xa xn xcp) ∧ w'.cell? ⟨g7, 2, none⟩ = some (.int .i64 0) ∧ w'.cell? ⟨g7, 3, none⟩ = some (.int .i64 0))
            (first
              | with_reducible exact ⟨((BL.out).cell (p := ⟨g7, 0, none⟩) hl4).trans d0, ((BL.out).cell (p := ⟨g7, 1, none⟩) hl4).trans d1, ((BL.out).cell (p := ⟨g7, 2, none⟩) hl4).trans d2, ((BL.out).cell (p := ⟨g7, 3, none⟩) hl4).trans d3⟩
              | with_reducible exact ⟨((BL.out.alloc BL.out.size _).cell (p := ⟨g7, 0, none⟩) hl4).trans d0, ((BL.out.alloc BL.out.size _).cell (p := ⟨g7, 1, none⟩) hl4).trans d1, ((BL.out.alloc BL.out.size _).cell (p := ⟨g7, 2, none⟩) hl4).trans d2, ((BL.out.alloc BL.out.size _).cell (p := ⟨g7, 3, none⟩) hl4).trans d3⟩
              | with_reducible exact ⟨((HbB.out).cell (p := ⟨g7, 0, none⟩) hl4).trans d0, ((HbB.out).cell (p := ⟨g7, 1, none⟩) hl4).trans d1, ((HbB.out).cell (p := ⟨g7, 2, none⟩) hl4).trans d2, ((HbB.out).cell (p := ⟨g7, 3, none⟩) hl4).trans d3⟩
              | with_reducible exact ⟨((HbA.out).cell (p := ⟨g7, 0, none⟩) hl4).trans d0, ((HbA.out).cell (p := ⟨g7, 1, none⟩) hl4).trans d1, ((HbA.out).cell (p := ⟨g7, 2, none⟩) hl4).trans d2, ((HbA.out).cell (p := ⟨g7, 3, none⟩) hl4).trans d3⟩
              | with_reducible exact ⟨((below_put4 BL.out (Nat.le_refl _) _ _ _ _).cell (p := ⟨g7, 0, none⟩) hl4).trans d0, ((below_put4 BL.out (Nat.le_refl _) _ _ _ _).cell (p := ⟨g7, 1, none⟩) hl4).trans d1, ((below_put4 BL.out (Nat.le_refl _) _ _ _ _).cell (p := ⟨g7, 2, none⟩) hl4).trans d2, ((below_put4 BL.out (Nat.le_refl _) _ _ _ _).cell (p := ⟨g7, 3, none⟩) hl4).trans d3⟩
              | go_keep)
            (first
              | (go_at_call 21; go_must ((first | refine (A4.out _ _ _ _ _ _ _ (X5.out.below HbA.out) (HRB.out _ HQA.out)).mono ?_ | refine (A4.out _ _ _ _ _ _ _ (X5.out.below HbB.out) (HRB.out _ HQB.out)).mono ?_); rintro e wL ⟨⟨pa, pn, pcp, rfl, hrowL⟩, hbL⟩; have BL' : Below w5.heap.size w5 wL := (by first | with_reducible exact HbA.out.trans (hbL.mono (by simp)) | with_reducible exact HbB.out.trans (hbL.mono (by simp))); have hszL := BL'.size; have hLz0 : g7 < wL.heap.size := (by omega); (first | ((with_reducible have yy := HzB.out.below hbL); have YL := Lib.hid yy; obtain ⟨y0, y1, y2, y3, yf0, yf1, yf2, yf3⟩ := yy) | (have YN : True := trivial)); have BL := Lib.hid BL'; have RL := Lib.hid hrowL; clear BL' hrowL hbL)))
          all_goals
            refine hK' _ _ (Met.intro (hJ _ _ ?_))
            (repeat apply Exists.intro)
            refine ⟨?_, rfl⟩
            have hwL := BL.out.size
            unfold RowsCut
            (first
              | (refine ⟨wL.heap.size, pa, pn, pcp, rfl, rfl, rfl, ?_⟩; with_reducible exact ⟨Cells4.new wL _ _ _ _ _, RL.out.alloc _, BL.out.alloc hwL _⟩)
              | (refine ⟨w5.heap.size, pa, pn, pcp, rfl, rfl, rfl, ?_⟩; with_reducible exact ⟨YL.out.put _ _ _ _, RL.out.put4 YL.out slice_ne _ _ _ _, below_put4 BL.out (Nat.le_refl _) _ _ _ _⟩))
        case rest =>
          obtain ⟨b12, qa, qn, qcp, rfl, rfl, rfl, QC, QR, QB⟩ := hcut
          obtain ⟨w7, rfl⟩ : ∃ x, x = wc := ⟨_, rfl⟩
          have B7 := Lib.hid (B5.out.trans (QB.mono B5.out.size))
          have HQR := Lib.hid QR
          have HPR7 := Lib.hid (HPR.out.below QB)
          have HPC7 := Lib.hid (HPC.out.below QB)
          have HQC := Lib.hid QC
          clear QR QC QB HPR HPC X5 C5
          dsimp only at HQR HPR7 HPC7 HQC
          by_cases he1 : e1 ≠ 0
          · have hne : (e1 != 0) = true := by simpa using he1
            go_wp2_with (go_at_call 16; refine (live13_calls _).mono ?_; rintro e w6 ⟨rfl, hb6⟩)
            go_ret
            exact ⟨rfl, B7.out.trans (hb6.mono B7.out.size)⟩
          obtain rfl : e1 = 0 := by simpa using he1
          by_cases he2 : e2 ≠ 0
          · have hne : (e2 != 0) = true := by simpa using he2
            go_wp2_with (go_at_call 16; refine (live13_calls _).mono ?_; rintro e w6 ⟨rfl, hb6⟩)
            go_ret
            exact ⟨rfl, B7.out.trans (hb6.mono B7.out.size)⟩
          obtain rfl : e2 = 0 := by simpa using he2
          obtain ⟨hro, ⟨gc, gx, gr, gt⟩, K, hTW, hG, hK4, hck, hT, hN⟩ := MR.out a1 a2 n1 n2 rfl rfl
          simp only [FacD.mk.injEq] at hG
          obtain ⟨rfl, _, rfl, rfl⟩ := hG
          dsimp only at hck hT hN
          have TW := Lib.hid (fun W b m d b' m' d' (h : Row W (.slice b m d) a1.xs) (h' : Row W (.slice b' m' d') a2.xs) => by
            have := two_calls a1 a2 b b' m d m' d' W h h'
            rw [hTW] at this
            exact this)
          obtain ⟨s, hs⟩ : ∃ s, tsz c = s := ⟨_, rfl⟩
          have LF := gramL_ok (c := c) (A := 420) _ hT.lines
          have LR := gramL_ok (c := c) (A := 400) _ hro
          rw [linesD_len, hs] at LF
          rw [hs] at LR
          have GF := Lib.hid (fun W b m d hW => gfactor_calls c 420 ((k : Nat) : Int) (K : Int) b m d gx W hW hck hT.lines (by omega))
          have GRO := Lib.hid (fun W hb => GR.out W hb hro)
          have hl20 := H20.out
          generalize gramL c (linesD gx c) = qf at *
          generalize gramL c rs = qr at *
          have PF := Lib.hid (show ∀ j, j < s → Bd (qf.getD j 0) (p2 ((860 : Nat) : Int)) from fun j hj => bd_p2_mono (LF.2 j hj) (by omega))
          have PR := Lib.hid (show ∀ j, j < s → Bd (qr.getD j 0) (p2 ((860 : Nat) : Int)) from fun j hj => bd_p2_mono (LR.2 j hj) (by omega))
          have LQ := Lib.hid (And.intro LF.1 LR.1)
          have CC := Lib.hid (fun a1 a2 c1 c2 W d1 d2 => CE.out qr qf a1 a2 c1 c2 s K W hs d1 d2 PR.out PF.out hK4 hN)
          have htt : ((k : Int) == (k : Int)) = true := by simp
          clear hro hTW hck hT hN LF LR MR he1 he2
          obtain ⟨d0, d1, d2, d3, _, _, _, _⟩ := HPC7.out
          obtain ⟨f0, f1, f2, f3, _, _, _, _⟩ := HQC.out
          go_upto_region 11 with (go_at_call 17; go_must (refine (TW.out _ _ _ _ _ _ _ HPR7.out HQR.out).mono ?_; rintro e w8 ⟨⟨ga, gn, gcp, rfl, hr8⟩, hb8⟩; dsimp only at hr8; have hb9 := hb8.alloc hb8.size (.cells #[.int .i64 (c : Int), .slice ga gn gcp, .int .i64 (k : Int), .int .i64 (K : Int)] 24); have B9 := Lib.hid (B7.out.trans (hb9.mono B7.out.size)); have C9 := Lib.hid (Cells4.new w8 (.int .i64 (c : Int)) (.slice ga gn gcp) (.int .i64 (k : Int)) (.int .i64 (K : Int)) 24); have R9 := Lib.hid (hr8.alloc (.cells #[.int .i64 (c : Int), .slice ga gn gcp, .int .i64 (k : Int), .int .i64 (K : Int)] 24)); clear hr8 hb8 hb9 d0 d1 d2 d3 f0 f1 f2 f3))
          generalize w8.alloc (.cells #[.int .i64 (c : Int), .slice ga gn gcp, .int .i64 (k : Int), .int .i64 (K : Int)] 24) = w9 at *
          generalize w8.heap.size = g14 at *
          obtain ⟨f0, f1, f2, f3, _, _, _, _⟩ := C9.out
          go_wp2_with (first
            | (go_at_call 22; go_must (refine (GRO.out _ B9.out).mono ?_; rintro e w10 ⟨⟨v, rfl, hv⟩, hb⟩; obtain ⟨ra, rc, hpv, _, _⟩ := hv.form; rw [LQ.out.2] at hpv; subst hpv; have Q10 := Lib.hid hv.dql; have B10 := Lib.hid (B9.out.trans (hb.mono B9.out.size)); have C10 := Lib.hid (C9.out.below hb); have R10 := Lib.hid (R9.out.below hb); clear hv hb f0 f1 f2 f3; obtain ⟨f0, f1, f2, f3, _, _, _, _⟩ := C10.out))
            | (go_at_call 12; go_must (refine (GF.out _ _ _ _ R10.out).mono ?_; rintro e w11 ⟨⟨v, rfl, hv⟩, hb⟩; obtain ⟨la, lc, hpv, _, _⟩ := hv.form; rw [LQ.out.1] at hpv; subst hpv; have F11 := Lib.hid hv.dql; have Q11 := Lib.hid (Q10.out.below hb); have B11 := Lib.hid (B10.out.trans (hb.mono B10.out.size)); have C11 := Lib.hid (C10.out.below hb); clear hv hb f0 f1 f2 f3; obtain ⟨f0, f1, f2, f3, _, _, _, _⟩ := C11.out))
            | (go_at_call 15; go_must (refine (CC.out _ _ _ _ _ Q11.out F11.out).mono ?_; rintro e w12 ⟨rfl, hb⟩; have B12 := Lib.hid (B11.out.trans (hb.mono B11.out.size)); have C12 := Lib.hid (C11.out.below hb); clear hb f0 f1 f2 f3; obtain ⟨f0, f1, f2, f3, _, _, _, _⟩ := C12.out))
            | (go_at_call 16; refine (live13_calls _).mono ?_; rintro e w13 ⟨rfl, hb13⟩))
          go_ret
          exact ⟨by simp, B12.out.trans (hb13.mono B12.out.size)⟩
    · have hne : ¬ tc = k := hc
      go_enter Try.func6, Try.ntmps6
      go_upto_region 4 with (first
        | (go_at_call 19; refine FW8.out.mono ?_; rintro e w0 ⟨rfl, rfl⟩)
        | (go_at_call 20; go_must (refine (NW.out _).mono ?_; rintro e w1 ⟨⟨xa, xn, xcp, he, hrow⟩, hb⟩; subst he)))
      have B2 := Lib.hid (hb.alloc hb.size (.cells #[.int .i64 (c : Int), .slice xa xn xcp, .int .i64 0, .int .i64 0] 24))
      have C2 := Lib.hid (Cells4.new w1 (.int .i64 (c : Int)) (.slice xa xn xcp) (.int .i64 0) (.int .i64 0) 24)
      have X2 := Lib.hid (hrow.alloc (.cells #[.int .i64 (c : Int), .slice xa xn xcp, .int .i64 0, .int .i64 0] 24))
      clear hb hrow
      generalize w1.alloc (.cells #[.int .i64 (c : Int), .slice xa xn xcp, .int .i64 0, .int .i64 0] 24) = w2 at *
      generalize w1.heap.size = g7 at *
      go_wp2
      go_cut [9, 10, 11] from 43 to 52 (fun s9 s10 s11 wx => RowsCut w2 (a1, n1, e1) s9 s10 s11 wx)
      case first =>
        rename_i J K' hJ hK'
        have hs3 := B2.out.size
        obtain ⟨d0, d1, d2, d3, _, _, _, _⟩ := C2.out
        have hl4 := C2.out.lt
        have bA : Below w2.heap.size w2 w2.drew := (Below.refl _ _).drew
        have bB : Below w2.heap.size w2 (w2.alloc (.cells #[.int .i64 0, .slice none 0 0, .int .i64 0, .int .i64 0] 24)).drew := ((Below.refl w2.heap.size w2).alloc (Nat.le_refl _) _).drew
        have zB : Cells4 (w2.alloc (.cells #[.int .i64 0, .slice none 0 0, .int .i64 0, .int .i64 0] 24)).drew w2.heap.size (.int .i64 0) (.slice none 0 0) (.int .i64 0) (.int .i64 0) := (Cells4.new w2 _ _ _ _ 24).below ((Below.refl _ _).drew)
        have HbA := Lib.hid bA
        have HbB := Lib.hid bB
        have HzB := Lib.hid zB
        have HQA := Lib.hid (B2.out.trans (bA.mono hs3))
        have HQB := Lib.hid (B2.out.trans (bB.mono hs3))
        clear bA bB zB
        go_region_held3 (fun w' => w'.cell? ⟨g7, 0, none⟩ = some (.int .i64 (c : Int)) ∧ w'.cell? ⟨g7, 1, none⟩ = some (.slice xa xn xcp) ∧ w'.cell? ⟨g7, 2, none⟩ = some (.int .i64 0) ∧ w'.cell? ⟨g7, 3, none⟩ = some (.int .i64 0))
          (first
            | with_reducible exact ⟨((BL.out).cell (p := ⟨g7, 0, none⟩) hl4).trans d0, ((BL.out).cell (p := ⟨g7, 1, none⟩) hl4).trans d1, ((BL.out).cell (p := ⟨g7, 2, none⟩) hl4).trans d2, ((BL.out).cell (p := ⟨g7, 3, none⟩) hl4).trans d3⟩
            | with_reducible exact ⟨((BL.out.alloc BL.out.size _).cell (p := ⟨g7, 0, none⟩) hl4).trans d0, ((BL.out.alloc BL.out.size _).cell (p := ⟨g7, 1, none⟩) hl4).trans d1, ((BL.out.alloc BL.out.size _).cell (p := ⟨g7, 2, none⟩) hl4).trans d2, ((BL.out.alloc BL.out.size _).cell (p := ⟨g7, 3, none⟩) hl4).trans d3⟩
            | with_reducible exact ⟨((HbB.out).cell (p := ⟨g7, 0, none⟩) hl4).trans d0, ((HbB.out).cell (p := ⟨g7, 1, none⟩) hl4).trans d1, ((HbB.out).cell (p := ⟨g7, 2, none⟩) hl4).trans d2, ((HbB.out).cell (p := ⟨g7, 3, none⟩) hl4).trans d3⟩
            | with_reducible exact ⟨((HbA.out).cell (p := ⟨g7, 0, none⟩) hl4).trans d0, ((HbA.out).cell (p := ⟨g7, 1, none⟩) hl4).trans d1, ((HbA.out).cell (p := ⟨g7, 2, none⟩) hl4).trans d2, ((HbA.out).cell (p := ⟨g7, 3, none⟩) hl4).trans d3⟩
            | with_reducible exact ⟨((below_put4 BL.out (Nat.le_refl _) _ _ _ _).cell (p := ⟨g7, 0, none⟩) hl4).trans d0, ((below_put4 BL.out (Nat.le_refl _) _ _ _ _).cell (p := ⟨g7, 1, none⟩) hl4).trans d1, ((below_put4 BL.out (Nat.le_refl _) _ _ _ _).cell (p := ⟨g7, 2, none⟩) hl4).trans d2, ((below_put4 BL.out (Nat.le_refl _) _ _ _ _).cell (p := ⟨g7, 3, none⟩) hl4).trans d3⟩
            | go_keep)
          (first
            | (go_at_call 21; go_must ((first | refine (A3.out _ _ _ _ _ _ _ (X2.out.below HbA.out) ((HRW.out _ HQA.out).1 _ (.inr rfl))).mono ?_ | refine (A3.out _ _ _ _ _ _ _ (X2.out.below HbB.out) ((HRW.out _ HQB.out).1 _ (.inr rfl))).mono ?_); rintro e wL ⟨⟨pa, pn, pcp, rfl, hrowL⟩, hbL⟩; have BL' : Below w2.heap.size w2 wL := (by first | with_reducible exact HbA.out.trans (hbL.mono (by simp)) | with_reducible exact HbB.out.trans (hbL.mono (by simp))); have hszL := BL'.size; have hLz0 : g7 < wL.heap.size := (by omega); (first | ((with_reducible have yy := HzB.out.below hbL); have YL := Lib.hid yy; obtain ⟨y0, y1, y2, y3, yf0, yf1, yf2, yf3⟩ := yy) | (have YN : True := trivial)); have BL := Lib.hid BL'; have RL := Lib.hid hrowL; clear BL' hrowL hbL)))
        all_goals
          refine hK' _ _ (Met.intro (hJ _ _ ?_))
          (repeat apply Exists.intro)
          refine ⟨?_, rfl⟩
          have hwL := BL.out.size
          unfold RowsCut
          (first
            | (refine ⟨wL.heap.size, pa, pn, pcp, rfl, rfl, rfl, ?_⟩; with_reducible exact ⟨Cells4.new wL _ _ _ _ _, RL.out.alloc _, BL.out.alloc hwL _⟩)
            | (refine ⟨w2.heap.size, pa, pn, pcp, rfl, rfl, rfl, ?_⟩; with_reducible exact ⟨YL.out.put _ _ _ _, RL.out.put4 YL.out slice_ne _ _ _ _, below_put4 BL.out (Nat.le_refl _) _ _ _ _⟩))
      case rest =>
        obtain ⟨b9, pa, pn, pcp, rfl, rfl, rfl, PC, PR, PB⟩ := hcut
        obtain ⟨w5, rfl⟩ : ∃ x, x = wc := ⟨_, rfl⟩
        have HPC := Lib.hid PC
        have HPR := Lib.hid PR
        have B5 := Lib.hid (B2.out.trans (PB.mono B2.out.size))
        have C5 := Lib.hid (C2.out.below PB)
        have X5 := Lib.hid (X2.out.below PB)
        clear PC PR PB
        go_wp2
        go_cut [12, 13, 8] from 52 to 61 (fun s12 s13 s8 wx => RowsCut w5 (a2, n2, e2) s12 s13 s8 wx)
        case first =>
          rename_i J K' hJ hK'
          have hs3 := B5.out.size
          obtain ⟨d0, d1, d2, d3, _, _, _, _⟩ := C5.out
          have hl4 := C5.out.lt
          have bA : Below w5.heap.size w5 w5.drew := (Below.refl _ _).drew
          have bB : Below w5.heap.size w5 (w5.alloc (.cells #[.int .i64 0, .slice none 0 0, .int .i64 0, .int .i64 0] 24)).drew := ((Below.refl w5.heap.size w5).alloc (Nat.le_refl _) _).drew
          have zB : Cells4 (w5.alloc (.cells #[.int .i64 0, .slice none 0 0, .int .i64 0, .int .i64 0] 24)).drew w5.heap.size (.int .i64 0) (.slice none 0 0) (.int .i64 0) (.int .i64 0) := (Cells4.new w5 _ _ _ _ 24).below ((Below.refl _ _).drew)
          have HbA := Lib.hid bA
          have HbB := Lib.hid bB
          have HzB := Lib.hid zB
          have HQA := Lib.hid (B5.out.trans (bA.mono hs3))
          have HQB := Lib.hid (B5.out.trans (bB.mono hs3))
          clear bA bB zB
          go_region_held3 (fun w' => w'.cell? ⟨g7, 0, none⟩ = some (.int .i64 (c : Int)) ∧ w'.cell? ⟨g7, 1, none⟩ = some (.slice xa xn xcp) ∧ w'.cell? ⟨g7, 2, none⟩ = some (.int .i64 0) ∧ w'.cell? ⟨g7, 3, none⟩ = some (.int .i64 0))
            (first
              | with_reducible exact ⟨((BL.out).cell (p := ⟨g7, 0, none⟩) hl4).trans d0, ((BL.out).cell (p := ⟨g7, 1, none⟩) hl4).trans d1, ((BL.out).cell (p := ⟨g7, 2, none⟩) hl4).trans d2, ((BL.out).cell (p := ⟨g7, 3, none⟩) hl4).trans d3⟩
              | with_reducible exact ⟨((BL.out.alloc BL.out.size _).cell (p := ⟨g7, 0, none⟩) hl4).trans d0, ((BL.out.alloc BL.out.size _).cell (p := ⟨g7, 1, none⟩) hl4).trans d1, ((BL.out.alloc BL.out.size _).cell (p := ⟨g7, 2, none⟩) hl4).trans d2, ((BL.out.alloc BL.out.size _).cell (p := ⟨g7, 3, none⟩) hl4).trans d3⟩
              | with_reducible exact ⟨((HbB.out).cell (p := ⟨g7, 0, none⟩) hl4).trans d0, ((HbB.out).cell (p := ⟨g7, 1, none⟩) hl4).trans d1, ((HbB.out).cell (p := ⟨g7, 2, none⟩) hl4).trans d2, ((HbB.out).cell (p := ⟨g7, 3, none⟩) hl4).trans d3⟩
              | with_reducible exact ⟨((HbA.out).cell (p := ⟨g7, 0, none⟩) hl4).trans d0, ((HbA.out).cell (p := ⟨g7, 1, none⟩) hl4).trans d1, ((HbA.out).cell (p := ⟨g7, 2, none⟩) hl4).trans d2, ((HbA.out).cell (p := ⟨g7, 3, none⟩) hl4).trans d3⟩
              | with_reducible exact ⟨((below_put4 BL.out (Nat.le_refl _) _ _ _ _).cell (p := ⟨g7, 0, none⟩) hl4).trans d0, ((below_put4 BL.out (Nat.le_refl _) _ _ _ _).cell (p := ⟨g7, 1, none⟩) hl4).trans d1, ((below_put4 BL.out (Nat.le_refl _) _ _ _ _).cell (p := ⟨g7, 2, none⟩) hl4).trans d2, ((below_put4 BL.out (Nat.le_refl _) _ _ _ _).cell (p := ⟨g7, 3, none⟩) hl4).trans d3⟩
              | go_keep)
            (first
              | (go_at_call 21; go_must ((first | refine (A4.out _ _ _ _ _ _ _ (X5.out.below HbA.out) ((HRW.out _ HQA.out).2.1 _ _ _ rfl (.inr rfl))).mono ?_ | refine (A4.out _ _ _ _ _ _ _ (X5.out.below HbB.out) ((HRW.out _ HQB.out).2.1 _ _ _ rfl (.inr rfl))).mono ?_); rintro e wL ⟨⟨pa, pn, pcp, rfl, hrowL⟩, hbL⟩; have BL' : Below w5.heap.size w5 wL := (by first | with_reducible exact HbA.out.trans (hbL.mono (by simp)) | with_reducible exact HbB.out.trans (hbL.mono (by simp))); have hszL := BL'.size; have hLz0 : g7 < wL.heap.size := (by omega); (first | ((with_reducible have yy := HzB.out.below hbL); have YL := Lib.hid yy; obtain ⟨y0, y1, y2, y3, yf0, yf1, yf2, yf3⟩ := yy) | (have YN : True := trivial)); have BL := Lib.hid BL'; have RL := Lib.hid hrowL; clear BL' hrowL hbL)))
          all_goals
            refine hK' _ _ (Met.intro (hJ _ _ ?_))
            (repeat apply Exists.intro)
            refine ⟨?_, rfl⟩
            have hwL := BL.out.size
            unfold RowsCut
            (first
              | (refine ⟨wL.heap.size, pa, pn, pcp, rfl, rfl, rfl, ?_⟩; with_reducible exact ⟨Cells4.new wL _ _ _ _ _, RL.out.alloc _, BL.out.alloc hwL _⟩)
              | (refine ⟨w5.heap.size, pa, pn, pcp, rfl, rfl, rfl, ?_⟩; with_reducible exact ⟨YL.out.put _ _ _ _, RL.out.put4 YL.out slice_ne _ _ _ _, below_put4 BL.out (Nat.le_refl _) _ _ _ _⟩))
        case rest =>
          obtain ⟨b12, qa, qn, qcp, rfl, rfl, rfl, QC, QR, QB⟩ := hcut
          obtain ⟨w7, rfl⟩ : ∃ x, x = wc := ⟨_, rfl⟩
          have B7 := Lib.hid (B5.out.trans (QB.mono B5.out.size))
          have HQR := Lib.hid QR
          have HPR7 := Lib.hid (HPR.out.below QB)
          have HPC7 := Lib.hid (HPC.out.below QB)
          have HQC := Lib.hid QC
          clear QR QC QB HPR HPC X5 C5
          dsimp only at HQR HPR7 HPC7 HQC
          by_cases he1 : e1 ≠ 0
          · have hne : (e1 != 0) = true := by simpa using he1
            go_wp2_with (go_at_call 16; refine (live13_calls _).mono ?_; rintro e w6 ⟨rfl, hb6⟩)
            go_ret
            exact ⟨rfl, B7.out.trans (hb6.mono B7.out.size)⟩
          obtain rfl : e1 = 0 := by simpa using he1
          by_cases he2 : e2 ≠ 0
          · have hne : (e2 != 0) = true := by simpa using he2
            go_wp2_with (go_at_call 16; refine (live13_calls _).mono ?_; rintro e w6 ⟨rfl, hb6⟩)
            go_ret
            exact ⟨rfl, B7.out.trans (hb6.mono B7.out.size)⟩
          obtain rfl : e2 = 0 := by simpa using he2
          obtain ⟨hro, ⟨gc, gx, gr, gt⟩, K, hTW, hG, hK4, hck, hT, hN⟩ := MR.out a1 a2 n1 n2 rfl rfl
          simp only [FacD.mk.injEq] at hG
          obtain ⟨rfl, _, rfl, rfl⟩ := hG
          dsimp only at hck hT hN
          have TW := Lib.hid (fun W b m d b' m' d' (h : Row W (.slice b m d) a1.xs) (h' : Row W (.slice b' m' d') a2.xs) => by
            have := two_calls a1 a2 b b' m d m' d' W h h'
            rw [hTW] at this
            exact this)
          obtain ⟨s, hs⟩ : ∃ s, tsz c = s := ⟨_, rfl⟩
          have LF := gramL_ok (c := c) (A := 420) _ hT.lines
          have LR := gramL_ok (c := c) (A := 400) _ hro
          rw [linesD_len, hs] at LF
          rw [hs] at LR
          have GF := Lib.hid (fun W b m d hW => gfactor_calls c 420 ((tn : Nat) : Int) (K : Int) b m d gx W hW hck hT.lines (by omega))
          have GRO := Lib.hid (fun W hb => GR.out W hb hro)
          have hl20 := H20.out
          generalize gramL c (linesD gx c) = qf at *
          generalize gramL c rs = qr at *
          have PF := Lib.hid (show ∀ j, j < s → Bd (qf.getD j 0) (p2 ((860 : Nat) : Int)) from fun j hj => bd_p2_mono (LF.2 j hj) (by omega))
          have PR := Lib.hid (show ∀ j, j < s → Bd (qr.getD j 0) (p2 ((860 : Nat) : Int)) from fun j hj => bd_p2_mono (LR.2 j hj) (by omega))
          have LQ := Lib.hid (And.intro LF.1 LR.1)
          have CC := Lib.hid (fun a1 a2 c1 c2 W d1 d2 => CE.out qr qf a1 a2 c1 c2 s K W hs d1 d2 PR.out PF.out hK4 hN)
          have htt : ((tn : Int) == (tn : Int)) = true := by simp
          clear hro hTW hck hT hN LF LR MR he1 he2
          obtain ⟨d0, d1, d2, d3, _, _, _, _⟩ := HPC7.out
          obtain ⟨f0, f1, f2, f3, _, _, _, _⟩ := HQC.out
          go_upto_region 11 with (go_at_call 17; go_must (refine (TW.out _ _ _ _ _ _ _ HPR7.out HQR.out).mono ?_; rintro e w8 ⟨⟨ga, gn, gcp, rfl, hr8⟩, hb8⟩; dsimp only at hr8; have hb9 := hb8.alloc hb8.size (.cells #[.int .i64 (c : Int), .slice ga gn gcp, .int .i64 (tn : Int), .int .i64 (K : Int)] 24); have B9 := Lib.hid (B7.out.trans (hb9.mono B7.out.size)); have C9 := Lib.hid (Cells4.new w8 (.int .i64 (c : Int)) (.slice ga gn gcp) (.int .i64 (tn : Int)) (.int .i64 (K : Int)) 24); have R9 := Lib.hid (hr8.alloc (.cells #[.int .i64 (c : Int), .slice ga gn gcp, .int .i64 (tn : Int), .int .i64 (K : Int)] 24)); clear hr8 hb8 hb9 d0 d1 d2 d3 f0 f1 f2 f3))
          generalize w8.alloc (.cells #[.int .i64 (c : Int), .slice ga gn gcp, .int .i64 (tn : Int), .int .i64 (K : Int)] 24) = w9 at *
          generalize w8.heap.size = g14 at *
          obtain ⟨f0, f1, f2, f3, _, _, _, _⟩ := C9.out
          go_wp2_with (first
            | (go_at_call 22; go_must (refine (GRO.out _ B9.out).mono ?_; rintro e w10 ⟨⟨v, rfl, hv⟩, hb⟩; obtain ⟨ra, rc, hpv, _, _⟩ := hv.form; rw [LQ.out.2] at hpv; subst hpv; have Q10 := Lib.hid hv.dql; have B10 := Lib.hid (B9.out.trans (hb.mono B9.out.size)); have C10 := Lib.hid (C9.out.below hb); have R10 := Lib.hid (R9.out.below hb); clear hv hb f0 f1 f2 f3; obtain ⟨f0, f1, f2, f3, _, _, _, _⟩ := C10.out))
            | (go_at_call 12; go_must (refine (GF.out _ _ _ _ R10.out).mono ?_; rintro e w11 ⟨⟨v, rfl, hv⟩, hb⟩; obtain ⟨la, lc, hpv, _, _⟩ := hv.form; rw [LQ.out.1] at hpv; subst hpv; have F11 := Lib.hid hv.dql; have Q11 := Lib.hid (Q10.out.below hb); have B11 := Lib.hid (B10.out.trans (hb.mono B10.out.size)); have C11 := Lib.hid (C10.out.below hb); clear hv hb f0 f1 f2 f3; obtain ⟨f0, f1, f2, f3, _, _, _, _⟩ := C11.out))
            | (go_at_call 15; go_must (refine (CC.out _ _ _ _ _ Q11.out F11.out).mono ?_; rintro e w12 ⟨rfl, hb⟩; have B12 := Lib.hid (B11.out.trans (hb.mono B11.out.size)); have C12 := Lib.hid (C11.out.below hb); clear hb f0 f1 f2 f3; obtain ⟨f0, f1, f2, f3, _, _, _, _⟩ := C12.out))
            | (go_at_call 16; refine (live13_calls _).mono ?_; rintro e w13 ⟨rfl, hb13⟩))
          go_ret
          exact ⟨by simp, B12.out.trans (hb13.mono B12.out.size)⟩
end Go.Proofs.Ytnboegeljaplbaa
