/- A plan's order and height; the reference's Check, Order, Height. The reference's Check and Height of a plan. -/
import Derived.Test.YtgmaljikjkbdlaaYd
namespace Go.Proofs.Ytgmaljikjkbdlaa
open Go.RowKit Lv Go.Shelf
attribute [local go_sem high] run_maxI

attribute [local go_sem] Oper.semAt_some as_jj as_pj as_pp as_jp

theorem li_one' {w : World} {z : Int} {b : Nat} (h : b = w.heap.size) : LI (w.alloc (.cells #[.int .i64 z] 3)) (.slice (some ⟨b, 0, none⟩) 1 1) [z] := by subst h; exact li_one w z
set_option maxRecDepth 100000 in
set_option maxHeartbeats 2000000 in
theorem porder_calls (a : Option Addr) (n cap : Nat) (l : List Int) (w : World) (h : LI w (.slice a n cap) l) (hl : l.length ≤ 100) :
    Calls Try.prog 12 #[.slice a n cap] w fun e w' => (∃ v, e = .returned v ∧ LI w' v (orderD l)) ∧ Below w.heap.size w w' := by
  obtain ⟨l1, l2, l3⟩ := h.len
  have H := Lib.hid h
  have HX := Lib.hid l1
  have HL := Lib.hid hl
  clear h l1 hl
  go_enter Try.func12, Try.ntmps12
  go_wp2_with (go_at_call 32; refine (psteps_calls _ n cap l _ H.out HL.out).mono ?_; rintro e w2 ⟨⟨v, rfl, hv⟩, hb2⟩; obtain ⟨va, vc, rfl⟩ := step_form hv HX.out; have HV := Lib.hid hv.cel; have HB2 := Lib.hid hb2; clear hv hb2)
  go_loopw [3, 11] (fun s3 s11 wr => ∃ (i : Nat), s11 = .int .i64 (i : Int) ∧ i ≤ n ∧ Hid (OwnI wr w2.heap.size s3 (orderD (l.take i)) ∧ Below w2.heap.size w2 wr)) (fun _ s11 _ => n - (intOf s11).toNat)
  case atStart => exact ⟨0, rfl, Nat.zero_le _, ownI_nil _ _, Below.refl _ _⟩
  case round =>
    obtain ⟨i, rfl, hi, HR⟩ := hrel
    by_cases hlt : i < n
    · obtain ⟨blk, off, rfl, hc⟩ := step_at (HV.out.below HR.out.2) (by omega)
      have hx1 := hc i hlt
      have hii : (i : Int) < (n : Int) := by omega
      have hsz := Lib.hid HR.out.2.size
      have HO := Lib.hid (order_snoc (l := l) (i := i) (by rw [HX.out]; exact hlt))
      have hlen : Hid ((orderD (l.take i)).length + 1 ≤ 1000) := by
        unfold Hid orderD
        have := List.length_filter_le (fun k => decide (0 ≤ k)) (l.take i)
        rw [List.length_take] at this
        have := HL.out
        omega
      have HB := Lib.hid (fun e (he : u3.ownBlock = some e) => HR.out.1.base e he)
      clear hc
      generalize l.getD i 0 = k at *
      by_cases ek : k = -1
      · subst ek
        rw [show stepV (-1) = .iface 84 (.agg #[]) from rfl] at hx1
        have HO2 := Lib.hid (show orderD (l.take (i + 1)) = orderD (l.take i) by rw [HO.out, if_neg (by decide), List.append_nil])
        have hBe := Lib.hid ((Below.refl wr.heap.size wr).alloc (Nat.le_refl _) (.cells #[.int .i64 0] 57))
        go_wp2
        go_roundw
        case rel => exact ⟨i + 1, by go_num, by omega, by rw [HO2.out]; exact HR.out.1.below hBe.out (Nat.le_refl _), HR.out.2.trans (hBe.out.mono hsz.out)⟩
        case measure => simp [intOf]; omega
      · rw [show stepV k = .iface 57 (.agg #[.int .i64 k]) from if_neg ek] at hx1
        have hBe := Lib.hid ((Below.refl wr.heap.size wr).alloc (Nat.le_refl _) (.cells #[.int .i64 k] 57))
        by_cases e0 : 0 ≤ k
        · have HO2 := Lib.hid (show orderD (l.take (i + 1)) = orderD (l.take i) ++ [k] by rw [HO.out, if_pos e0])
          go_wp2_with (at_builtin; go_must (refine wpList_append_I _ rfl _ _ rfl w2.heap.size _ _ [_] rfl ((HR.out.1.below hBe.out (Nat.le_refl _)).below ((Below.refl _ _).alloc (Nat.le_refl _) _) (Nat.le_refl _)) _ _ _ rfl (li_one' (by simp)) hlen.out (by have := hsz.out; simp; omega) ?_; intro v9 w3 hown9 hg9))
          rw [← HO2.out] at hown9
          have hBf : Below w2.heap.size w2 w3 := ((HR.out.2.trans (hBe.out.mono hsz.out)).alloc (by have := hsz.out; simp; omega) _).grown hg9 (by have := hsz.out; simp; omega) HB.out
          go_roundw
          case rel => exact ⟨i + 1, by go_num, by omega, hown9, hBf⟩
          case measure => simp [intOf]; omega
        · have HO2 := Lib.hid (show orderD (l.take (i + 1)) = orderD (l.take i) by rw [HO.out, if_neg e0, List.append_nil])
          go_wp2
          go_roundw
          case rel => exact ⟨i + 1, by go_num, by omega, by rw [HO2.out]; exact HR.out.1.below hBe.out (Nat.le_refl _), HR.out.2.trans (hBe.out.mono hsz.out)⟩
          case measure => simp [intOf]; omega
    · have hii : ¬ (i : Int) < (n : Int) := by omega
      obtain rfl : i = n := by omega
      have HM := Lib.hid HR.out.1.li
      rw [List.take_of_length_le (by rw [HX.out]; exact Nat.le_refl _)] at HM
      go_wp2
      go_ret
      exact ⟨⟨_, rfl, HM.out⟩, HB2.out.trans (HR.out.2.mono HB2.out.size)⟩
set_option maxRecDepth 100000 in
set_option maxHeartbeats 1000000 in
theorem rporder_calls (a : Option Addr) (n cap : Nat) (l : List Int) (w : World) (h : LI w (.slice a n cap) l) (hl : l.length ≤ 100) :
    Calls Try.prog 13 #[.slice a n cap] w fun e w' => (∃ v, e = .returned v ∧ LI w' v (orderD l)) ∧ Below w.heap.size w w' := by
  obtain ⟨l1, l2, l3⟩ := h.len
  have H := Lib.hid h
  have HX := Lib.hid l1
  have HL := Lib.hid hl
  clear h l1 hl
  go_enter Try.func13, Try.ntmps13
  go_wp2
  go_loopw [3, 4] (fun s3 s4 wr => ∃ (i : Nat), s4 = .int .i64 (i : Int) ∧ i ≤ n ∧ Hid (OwnI wr w.heap.size s3 (orderD (l.take i)) ∧ Below w.heap.size w wr)) (fun _ s4 _ => n - (intOf s4).toNat)
  case atStart => exact ⟨0, rfl, Nat.zero_le _, ownI_nil _ _, Below.refl _ _⟩
  case round =>
    obtain ⟨i, rfl, hi, HR⟩ := hrel
    by_cases hlt : i < n
    · obtain ⟨blk, off, rfl, hc⟩ := (H.out.below HR.out.2).at (by omega)
      have hx1 := hc i hlt
      have hii : (i : Int) < (n : Int) := by omega
      have hsz := Lib.hid HR.out.2.size
      have HO := Lib.hid (order_snoc (l := l) (i := i) (by rw [HX.out]; exact hlt))
      have hlen : Hid ((orderD (l.take i)).length + 1 ≤ 1000) := by
        unfold Hid orderD
        have := List.length_filter_le (fun k => decide (0 ≤ k)) (l.take i)
        rw [List.length_take] at this
        have := HL.out
        omega
      have HB := Lib.hid (fun e (he : u3.ownBlock = some e) => HR.out.1.base e he)
      clear hc
      generalize l.getD i 0 = k at *
      by_cases e0 : 0 ≤ k
      · have HO2 := Lib.hid (show orderD (l.take (i + 1)) = orderD (l.take i) ++ [k] by rw [HO.out, if_pos e0])
        go_wp2_with (at_builtin; go_must (refine wpList_append_I _ rfl _ _ rfl w.heap.size _ _ [_] rfl (HR.out.1.below ((Below.refl _ _).alloc (Nat.le_refl _) _) (Nat.le_refl _)) _ _ _ rfl (li_one' (by simp)) hlen.out (by have := hsz.out; simp; omega) ?_; intro v9 w3 hown9 hg9))
        rw [← HO2.out] at hown9
        have hBf : Below w.heap.size w w3 := (HR.out.2.alloc hsz.out _).grown hg9 (by have := hsz.out; simp; omega) HB.out
        go_roundw
        case rel => exact ⟨i + 1, by go_num, by omega, hown9, hBf⟩
        case measure => simp [intOf]; omega
      · have HO2 := Lib.hid (show orderD (l.take (i + 1)) = orderD (l.take i) by rw [HO.out, if_neg e0, List.append_nil])
        go_wp2
        go_roundw
        case rel => exact ⟨i + 1, by go_num, by omega, by rw [HO2.out]; exact HR.out.1, HR.out.2⟩
        case measure => simp [intOf]; omega
    · have hii : ¬ (i : Int) < (n : Int) := by omega
      obtain rfl : i = n := by omega
      have HM := Lib.hid HR.out.1.li
      rw [List.take_of_length_le (by rw [HX.out]; exact Nat.le_refl _)] at HM
      go_wp2
      go_ret
      exact ⟨⟨_, rfl, HM.out⟩, HR.out.2⟩

/-- the least maximum: of what is 1 or more -/
theorem foldl_max0 {l : List Int} (h : ∀ x ∈ l, 1 ≤ x) (hn : l ≠ []) : l.foldl max 0 = maxL l := by
  cases l with
  | nil => exact absurd rfl hn
  | cons z t =>
    show t.foldl max (max 0 z) = t.foldl max z
    rw [Int.max_eq_right (by have := h z List.mem_cons_self; omega)]
set_option maxRecDepth 100000 in
theorem pheight_calls (a : Option Addr) (n cap : Nat) (l : List Int) (w : World) (h : LI w (.slice a n cap) l) (hl : l.length ≤ 100) :
    Calls Try.prog 14 #[.slice a n cap] w fun e w' => e = .returned (.int .i64 (heightD l)) ∧ Below w.heap.size w w' := by
  have HX := Lib.hid h.len.1
  have H := Lib.hid h
  have HL := Lib.hid hl
  have HC := Lib.hid (pcheck_calls a n cap 9223372036854775807 l w h hl)
  clear h hl
  by_cases c : pcheckD l 9223372036854775807 = 0
  · obtain ⟨c1, c2⟩ := pcheck_yes c
    have HH := Lib.hid (fun a n c W (hc : Cel W (.slice a n c) (l.map stepV)) => pheights_calls a n c l W hc HL.out)
    rw [decide_eq_true c2] at HH
    obtain ⟨k1, k2⟩ := htsP_pos 0 l 1 (by omega) c2
    have hne : l ≠ [] := fun e => by rw [e] at c2; cases c2
    have hne2 : runH 0 l ≠ [] := fun e => hne (List.length_eq_zero_iff.1 (by rw [← runH_len 0 l, e]; rfl))
    have HE := Lib.hid (show maxL (runH 0 l) = heightD l by unfold heightD; rw [if_neg (by rw [c]; simp), foldl_max0 k2 hne2])
    have hn : 0 < n := by have := List.length_pos_iff.2 hne; have := HX.out; omega
    have HN := Lib.hid (show htsP 0 l ≠ none by rw [c2]; simp)
    rw [c] at HC
    clear c c1 c2 k1 k2 hne hne2
    generalize heightD l = tt at *
    go_enter Try.func14, Try.ntmps14
    go_wp2_with (first
      | (go_at_call 9; go_must (refine HC.out.mono ?_; rintro e w1 ⟨rfl, hb1⟩; have HB1 := Lib.hid hb1; clear hb1))
      | (go_at_call 32; go_must (refine (psteps_calls _ n cap l _ (H.out.below HB1.out) HL.out).mono ?_; rintro e w2 ⟨⟨v, rfl, hv⟩, hb2⟩; obtain ⟨va, vc, rfl⟩ := step_form hv HX.out; have HV := Lib.hid hv.cel; have HB2 := Lib.hid hb2; clear hv hb2))
      | (go_at_call 31; go_must (refine (HH.out _ _ _ _ HV.out).mono ?_; rintro e w3 ⟨⟨u, rfl, hu⟩, hb3⟩; obtain ⟨ua, uc, rfl⟩ := (hu HN.out).li.form; rw [runH_len, HX.out] at hu; have HU := Lib.hid (hu HN.out).li; have HB3 := Lib.hid hb3; clear hu hb3; rw [runH_len, HX.out]))
      | (go_at_call 33; go_must (refine (maxI_calls _ _ _ _ _ HU.out hn).mono ?_; rintro e w4 ⟨rfl, rfl⟩)))
    go_ret
    exact ⟨ret_int HE.out, HB1.out.trans ((HB2.out.mono HB1.out.size).trans (HB3.out.mono (Nat.le_trans HB1.out.size HB2.out.size)))⟩
  · have HE := Lib.hid (show heightD l = 0 by unfold heightD; rw [if_pos c])
    have c' : (pcheckD l 9223372036854775807 != 0) = true := bne_iff_ne.2 c
    generalize pcheckD l 9223372036854775807 = p at *
    generalize heightD l = tt at *
    go_enter Try.func14, Try.ntmps14
    go_wp2_with (go_at_call 9; go_must (refine HC.out.mono ?_; rintro e w1 ⟨rfl, hb1⟩))
    go_ret
    exact ⟨ret_int HE.out.symm, hb1⟩
end Go.Proofs.Ytgmaljikjkbdlaa
namespace Go.Proofs.Ytgmaljikjkbdlaa
open Go.RowKit Lv Go.Shelf
attribute [local go_sem high] run_maxI

attribute [local go_sem] Oper.semAt_some

theorem contains_no {l : List Int} {i : Nat} {k : Int} (hi : i ≤ l.length) (h : ∀ m, m < i → l.getD m 0 ≠ k) : (l.take i).contains k = false := by
  cases e : (l.take i).contains k with
  | false => rfl
  | true =>
    rw [List.contains_iff_mem] at e
    obtain ⟨m, hm, hk⟩ := List.getElem_of_mem e
    rw [List.length_take] at hm
    rw [List.getElem_take] at hk
    exact absurd (by rw [List.getD_eq_getElem?_getD, List.getElem?_eq_getElem (by omega)]; exact hk) (h m (by omega))
theorem contains_yes {l : List Int} {i m : Nat} {k : Int} (hi : i ≤ l.length) (hm : m < i) (h : l.getD m 0 = k) : (l.take i).contains k = true := by
  rw [List.contains_iff_mem, ← h, List.getD_eq_getElem?_getD, List.getElem?_eq_getElem (by omega)]
  exact List.mem_take_iff_getElem.2 ⟨m, by omega, rfl⟩

set_option maxRecDepth 100000 in
set_option maxHeartbeats 4000000 in
theorem rpcheck_calls (a : Option Addr) (n cap : Nat) (sh : Int) (l : List Int) (w : World) (h : LI w (.slice a n cap) l) (hl : l.length ≤ 100) :
    Calls Try.prog 10 #[.slice a n cap, .int .i64 sh] w fun e w' => e = .returned (.int .i64 (pcheckD l sh)) ∧ Below w.heap.size w w' := by
  obtain ⟨l1, l2, l3⟩ := h.len
  have H := Lib.hid h
  have HX := Lib.hid l1
  have HL := Lib.hid hl
  clear h l1 hl
  generalize hT : pcheckD l sh = tt
  have HTT := Lib.hid hT
  clear hT
  go_enter Try.func10, Try.ntmps10
  go_wp2
  go_loopw [5, 6] (fun s5 s6 wr => ∃ (i : Nat) (x : Int), s6 = .int .i64 (i : Int) ∧ s5 = .int .i64 x ∧ i ≤ n ∧ 0 ≤ x ∧ x ≤ i ∧ Hid ((∀ j, j < i → badAt l sh j = false) ∧ htsP 0 (l.take i) = some x ∧ Below w.heap.size w wr)) (fun _ s6 _ => n - (intOf s6).toNat)
  case atStart => exact ⟨0, 0, rfl, rfl, Nat.zero_le _, by omega, by omega, fun j hj => absurd hj (Nat.not_lt_zero _), rfl, Below.refl _ _⟩
  case round =>
    obtain ⟨i, x, rfl, rfl, hi, hx0, hxi, HR⟩ := hrel
    by_cases hlt : i < n
    · obtain ⟨blk, off, rfl, hc⟩ := (H.out.below HR.out.2.2).at (by omega)
      have hx1 := hc i hlt
      have hii : (i : Int) < (n : Int) := by omega
      have hi100 : (i : Int) ≤ 100 := by have := HX.out; have := HL.out; omega
      have HBD := Lib.hid (fun (e : badAt l sh i = true) => pcheck_in (inP_bad (by rw [HX.out]; exact hlt) e))
      have HU := Lib.hid (show badAt l sh i = (decide (l.getD i 0 < -1) || decide (sh ≤ l.getD i 0) || (decide (0 ≤ l.getD i 0) && (l.take i).contains (l.getD i 0))) from rfl)
      have htk := take_snocI (l := l) (i := i) (by rw [HX.out]; exact hlt)
      have HK := Lib.hid (htsP_snoc 0 (l.take i) (l.getD i 0))
      rw [← htk, HR.out.2.1] at HK
      have HDR := Lib.hid (fun (e : htsP 0 (l.take (i + 1)) = none) => pcheck_hts (shards := sh) (l := l) (by rw [hts_none e]; simp))
      have HNO := Lib.hid (fun (h : ∀ m, m < i → l.getD m 0 ≠ l.getD i 0) => contains_no (by rw [HX.out]; exact hi) h)
      have HYE := Lib.hid (fun m (hm : m < i) (h : l.getD m 0 = l.getD i 0) => contains_yes (by rw [HX.out]; exact hi) hm h)
      clear hc htk
      generalize (l.take i).contains (l.getD i 0) = ct at *
      obtain ⟨k, hkd⟩ : ∃ k, l.getD i 0 = k := ⟨_, rfl⟩
      rw [hkd] at hx1 HU HK HNO HYE
      have HKD := Lib.hid hkd
      clear hkd
      by_cases c1 : k < -1
      · have HE := Lib.hid (HBD.out (by rw [HU.out, decide_eq_true c1]; rfl))
        go_wp2
        go_ret
        exact ⟨ret_int (by rw [← HTT.out, HE.out]), HR.out.2.2⟩
      · by_cases c2 : sh ≤ k
        · have HE := Lib.hid (HBD.out (by rw [HU.out, decide_eq_true c2, Bool.or_true]; rfl))
          go_wp2
          go_ret
          exact ⟨ret_int (by rw [← HTT.out, HE.out]), HR.out.2.2⟩
        · have HU2 := Lib.hid (show badAt l sh i = (decide (0 ≤ k) && ct) by rw [HU.out, decide_eq_false c1, decide_eq_false c2]; rfl)
          go_wp2
          clear hx1
          go_loopw [7] (fun s7 wr2 => ∃ (j : Nat), s7 = .int .i64 (j : Int) ∧ j ≤ i ∧ Hid ((0 ≤ k → ∀ m, m < j → l.getD m 0 ≠ k) ∧ Below w.heap.size w wr2)) (fun s7 _ => i - (intOf s7).toNat)
          case atStart => exact ⟨0, rfl, Nat.zero_le _, fun _ m hm => absurd hm (Nat.not_lt_zero _), HR.out.2.2⟩
          case round =>
            obtain ⟨j, rfl, hj, HJ⟩ := hrel
            obtain ⟨blk', off', e2, hc⟩ := (H.out.below HJ.out.2).at (by omega)
            cases e2
            have hx1 := hc i hlt
            by_cases hji : j < i
            · have hx2 := hc j (by omega)
              have hii2 : (j : Int) < (i : Int) := by omega
              have hjn : (j : Int) < (n : Int) := by omega
              clear hc
              have HY2 := Lib.hid (HYE.out j hji)
              have HJ2 := Lib.hid (fun (q : 0 ≤ k) (h : l.getD j 0 ≠ k) m (hm : m < j + 1) => (show l.getD m 0 ≠ k by
                by_cases e : m = j
                · subst e; exact h
                · exact HJ.out.1 q m (by omega)))
              rw [HKD.out] at hx1
              generalize l.getD j 0 = y at *
              by_cases q0 : 0 ≤ k
              · by_cases q1 : y = k
                · subst q1
                  have HE := Lib.hid (HBD.out (by rw [HU2.out, HY2.out rfl, decide_eq_true q0]; rfl))
                  go_wp2
                  go_quiet (fail)
                  go_wp2
                  go_ret
                  exact ⟨ret_int (by rw [← HTT.out, HE.out]), below_drewN HJ.out.2 _⟩
                · have q1' : (y == k) = false := beq_eq_false_iff_ne.2 q1
                  have HJ3 := Lib.hid (HJ2.out q0 q1)
                  go_wp2
                  go_quiet (fail)
                  go_wp2
                  go_roundw
                  case rel => exact ⟨j + 1, by go_num, by omega, fun _ => HJ3.out, below_drewN HJ.out.2 _⟩
                  case measure => simp [intOf]; omega
              · obtain rfl : k = -1 := by omega
                go_wp2
                go_quiet (fail)
                go_wp2
                go_roundw
                case rel => exact ⟨j + 1, by go_num, by omega, fun q => absurd q (by decide), below_drewN HJ.out.2 _⟩
                case measure => simp [intOf]; omega
            · have hii2 : ¬ (j : Int) < (i : Int) := by omega
              obtain rfl : j = i := by omega
              clear hc
              have HBF := Lib.hid (show badAt l sh j = false by
                rw [HU2.out]
                by_cases q0 : 0 ≤ k
                · rw [HNO.out (HJ.out.1 q0), Bool.and_false]
                · rw [decide_eq_false q0, Bool.false_and])
              rw [HKD.out] at hx1
              by_cases q0 : 0 ≤ k
              · have HK2 := Lib.hid (show htsP 0 (l.take (j + 1)) = some (x + 1) by rw [HK.out]; show (if k = -1 then (if x < 2 then none else some (x - 1)) else some (x + 1)) = _; rw [if_neg (by omega)])
                go_wp2
                refine ⟨⟨j + 1, _, by go_num, rfl, by omega, by omega, by omega, fun m hm => ?_, HK2.out, HJ.out.2⟩, by simp [intOf]; omega⟩
                by_cases e : m = j
                · subst e; exact HBF.out
                · exact HR.out.1 m (by omega)
              · obtain rfl : k = -1 := by omega
                by_cases hx2 : x < 2
                · have HE := Lib.hid (HDR.out (by rw [HK.out]; show (if (-1 : Int) = -1 then (if x < 2 then none else some (x - 1)) else some (x + 1)) = none; rw [if_pos rfl, if_pos hx2]))
                  go_wp2
                  go_ret
                  exact ⟨ret_int (by rw [← HTT.out, HE.out]), HJ.out.2⟩
                · have HK2 := Lib.hid (show htsP 0 (l.take (j + 1)) = some (x - 1) by rw [HK.out]; show (if (-1 : Int) = -1 then (if x < 2 then none else some (x - 1)) else some (x + 1)) = _; rw [if_pos rfl, if_neg hx2])
                  go_wp2
                  refine ⟨⟨j + 1, _, by go_num, rfl, by omega, by omega, by omega, fun m hm => ?_, HK2.out, HJ.out.2⟩, by simp [intOf]; omega⟩
                  by_cases e : m = j
                  · subst e; exact HBF.out
                  · exact HR.out.1 m (by omega)
    · have hii : ¬ (i : Int) < (n : Int) := by omega
      obtain rfl : i = n := by omega
      have HP := Lib.hid (inP_all (l := l) (shards := sh) (by rw [HX.out]; exact HR.out.1))
      have HM := Lib.hid HR.out.2.1
      rw [List.take_of_length_le (by rw [HX.out]; exact Nat.le_refl _)] at HM
      by_cases e1 : x = 1
      · subst e1
        have HE := Lib.hid (show pcheckD l sh = 0 by unfold pcheckD; rw [if_pos ⟨HP.out, HM.out⟩])
        go_wp2
        go_ret
        exact ⟨ret_int (by rw [← HTT.out, HE.out]), HR.out.2.2⟩
      · have e1' : (x != 1) = true := bne_iff_ne.2 e1
        have HE := Lib.hid (pcheck_hts (l := l) (shards := sh) (by rw [HM.out]; intro h; exact e1 (Option.some.inj h)))
        go_wp2
        go_ret
        exact ⟨ret_int (by rw [← HTT.out, HE.out]), HR.out.2.2⟩
set_option maxRecDepth 100000 in
set_option maxHeartbeats 1000000 in
theorem rpheight_calls (a : Option Addr) (n cap : Nat) (l : List Int) (w : World) (h : LI w (.slice a n cap) l) (hl : l.length ≤ 100) :
    Calls Try.prog 15 #[.slice a n cap] w fun e w' => e = .returned (.int .i64 (heightD l)) ∧ Below w.heap.size w w' := by
  have HX := Lib.hid h.len.1
  have H := Lib.hid h
  have HL := Lib.hid hl
  have HC := Lib.hid (rpcheck_calls a n cap 9223372036854775807 l w h hl)
  clear h hl
  by_cases c : pcheckD l 9223372036854775807 = 0
  · obtain ⟨c1, c2⟩ := pcheck_yes c
    have HIN := Lib.hid (fun i (hi : i < l.length) => inP_at c1 hi)
    have HE := Lib.hid (show (runH 0 l).foldl max 0 = heightD l by unfold heightD; rw [if_neg (by rw [c]; simp)])
    rw [c] at HC
    clear c c1 c2
    generalize heightD l = tt at *
    go_enter Try.func15, Try.ntmps15
    go_wp2_with (go_at_call 10; go_must (refine HC.out.mono ?_; rintro e w1 ⟨rfl, hb1⟩; have HB1 := Lib.hid hb1; clear hb1))
    go_loopw [3, 4, 5] (fun s3 s4 s5 wr => ∃ (i : Nat) (x y : Int), s5 = .int .i64 (i : Int) ∧ s3 = .int .i64 x ∧ s4 = .int .i64 y ∧ i ≤ n ∧ -(i : Int) ≤ x ∧ x ≤ i ∧ Hid (netH 0 (l.take i) = x ∧ (runH 0 (l.take i)).foldl max 0 = y ∧ wr = w1)) (fun _ _ s5 _ => n - (intOf s5).toNat)
    case atStart => exact ⟨0, 0, 0, rfl, rfl, rfl, Nat.zero_le _, by omega, by omega, rfl, rfl, rfl⟩
    case round =>
      obtain ⟨i, x, y, rfl, rfl, rfl, hi, hx0, hxi, HR⟩ := hrel
      obtain rfl := HR.out.2.2
      by_cases hlt : i < n
      · obtain ⟨blk, off, rfl, hc⟩ := (H.out.below HB1.out).at (by omega)
        have hx1 := hc i hlt
        have hii : (i : Int) < (n : Int) := by omega
        have hi100 : (i : Int) ≤ 100 := by have := HX.out; have := HL.out; omega
        have htk := take_snocI (l := l) (i := i) (by rw [HX.out]; exact hlt)
        have HN := Lib.hid (netH_snoc 0 (l.take i) (l.getD i 0))
        have HRU := Lib.hid (runH_snoc 0 (l.take i) (l.getD i 0))
        rw [← htk, HR.out.1] at HN HRU
        have hk := HIN.out i (by rw [HX.out]; exact hlt)
        clear hc htk
        generalize l.getD i 0 = k at *
        obtain ⟨hk1, _⟩ := hk
        by_cases q0 : 0 ≤ k
        · have HN2 := Lib.hid (show netH 0 (l.take (i + 1)) = x + 1 by rw [HN.out, if_neg (by omega)])
          have HM2 := Lib.hid (show (runH 0 (l.take (i + 1))).foldl max 0 = max y (x + 1) by rw [HRU.out, if_neg (by omega), List.foldl_append, HR.out.2.1]; rfl)
          clear HRU HN
          go_wp2
          go_roundw
          case rel => exact ⟨i + 1, _, _, by go_num, rfl, rfl, by omega, by omega, by omega, HN2.out, HM2.out, trivial⟩
          case measure => simp [intOf]; omega
        · obtain rfl : k = -1 := by omega
          have HN2 := Lib.hid (show netH 0 (l.take (i + 1)) = x - 1 by rw [HN.out, if_pos rfl])
          have HM2 := Lib.hid (show (runH 0 (l.take (i + 1))).foldl max 0 = max y (x - 1) by rw [HRU.out, if_pos rfl, List.foldl_append, HR.out.2.1]; rfl)
          clear HRU HN
          go_wp2
          go_roundw
          case rel => exact ⟨i + 1, _, _, by go_num, rfl, rfl, by omega, by omega, by omega, HN2.out, HM2.out, trivial⟩
          case measure => simp [intOf]; omega
      · have hii : ¬ (i : Int) < (n : Int) := by omega
        obtain rfl : i = n := by omega
        have HM := Lib.hid HR.out.2.1
        rw [List.take_of_length_le (by rw [HX.out]; exact Nat.le_refl _), HE.out] at HM
        go_wp2
        go_ret
        exact ⟨ret_int HM.out.symm, HB1.out⟩
  · have HE := Lib.hid (show heightD l = 0 by unfold heightD; rw [if_pos c])
    have c' : (pcheckD l 9223372036854775807 != 0) = true := bne_iff_ne.2 c
    generalize pcheckD l 9223372036854775807 = p at *
    generalize heightD l = tt at *
    go_enter Try.func15, Try.ntmps15
    go_wp2_with (go_at_call 10; go_must (refine HC.out.mono ?_; rintro e w1 ⟨rfl, hb1⟩))
    go_ret
    exact ⟨ret_int HE.out.symm, hb1⟩
end Go.Proofs.Ytgmaljikjkbdlaa
