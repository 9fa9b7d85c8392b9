/- ShedOne, walked. -/
import Derived.Test.YtfohknalldelfaaDoorLl
import Derived.Test.YtfohknalldelfaaDoorOk
import Derived.Test.YtfohknalldelfaaDoorLh
import Derived.Laws.AppendOwnNone
namespace Go.Proofs.YtfohknalldelfaaDoor
open Go.RowKit Lv Go.Shelf
open Ieee (double Format Datum Toward)
attribute [local go_sem] Oper.semAt_some run_store_float drewN_alloc drewN_setCell

/-- what a first row leaves are words -/
theorem first_words {c : Nat} {L ys : List (Option Nat)} (hl : ys.length = tsz c) (hF : FirstP c L ys) : ∀ i b, ys.getD i none = some b → b < 18446744073709551616 := by
  intro i b hb
  have zr : ∀ x, Zr x → x = some b → b < 18446744073709551616 := by
    rintro x ⟨q, rfl⟩ e
    obtain rfl := Option.some.inj e
    cases q <;> decide
  by_cases hi : i < tsz c
  · rcases hF with ⟨_, z⟩ | ⟨p, u, r, hp, q1, q2, q3, q4, q5, q6⟩
    · exact zr _ (z i hi) hb
    · by_cases c1 : i < offs c p ∨ offs c p + (c - p) < i
      · exact zr _ (q6 i hi c1) hb
      · obtain ⟨s, t, r', k1, _, k3, _⟩ := q5 (i - offs c p) (by omega)
        rw [show offs c p + (i - offs c p) = i by omega, hb] at k1
        obtain rfl := Option.some.inj k1
        have := pw420_lt k3
        cases s <;> simp only [wd, Bool.false_eq_true, if_false, if_true] <;> omega
  · rw [List.getD_eq_getElem?_getD, List.getElem?_eq_none (by omega)] at hb
    cases hb

theorem wpList_append_big (w : World) {ops : Array Oper} {rest : List Oper} {o : Oper} {a : Act} {Q : Exit → Act → World → Prop}
    (hg : o.guard = none) (s x : Operand) (hop : o.op = Op.call { callee := Callee.builtin Builtin.append, args := #[s, x], argTypes := #[22, 22] })
    (B : Nat) (v : Value) (xs ys : List (Option Nat)) (hs : a.eval s = v) (hown : OwnV w B v xs) (ad : Addr) (m c : Nat) (hx : a.eval x = .slice (some ad) m c) (hy : Row w (.slice (some ad) m c) ys)
    (b1 : (xs.length + ys.length) * 8 ≤ 140737488355328) (hm : ys.length = m) (b3 : B ≤ w.heap.size)
    (hK : ∀ v' w', OwnV w' B v' (xs ++ ys) → w.grownBy w' v.ownBlock → wpList Tryd.prog ops Q rest (a.put o.dst v') w') :
    wpList Tryd.prog ops Q (o :: rest) a w := by
  obtain ⟨i0, hin, hz0, hz1, hz2⟩ := info_parts infoF
  obtain ⟨vs, ho, hv⟩ := hown
  obtain ⟨us, hu, hul, huc⟩ := hy.vals
  refine wpList_append_own w hg s x _ hop B 31 i0 _ 1 8 Tryd.underlying22 hin hz0 hz1 hz2 rfl (by decide) v xs.length vs hs ho ad m c us hx (by omega) huc hu.one (by unfold maxLen; omega) (by omega) b3 ?_
  intro v' w' h1 h2 _
  refine hK v' w' ⟨vs ++ us, ?_, hv.append hu⟩ h2
  rw [List.length_append, hm]; exact h1
theorem wpList_append_none (w : World) {ops : Array Oper} {rest : List Oper} {o : Oper} {a : Act} {Q : Exit → Act → World → Prop}
    (hg : o.guard = none) (s x : Operand) (hop : o.op = Op.call { callee := Callee.builtin Builtin.append, args := #[s, x], argTypes := #[22, 22] })
    (B : Nat) (v : Value) (xs : List (Option Nat)) (hs : a.eval s = v) (hown : OwnV w B v xs) (hx : a.eval x = .slice none 0 0)
    (hK : wpList Tryd.prog ops Q rest (a.put o.dst v) w) :
    wpList Tryd.prog ops Q (o :: rest) a w := by
  obtain ⟨i0, hin, hz0, hz1, hz2⟩ := info_parts infoF
  obtain ⟨vs, ho, hv⟩ := hown
  exact wpList_append_own_none hg s x _ hop B 31 i0 1 Tryd.underlying22 hin v xs.length vs hs ho hx hK
theorem own_block_le {w : World} {B : Nat} {v : Value} {xs : List (Option Nat)} (h : OwnV w B v xs) : ∀ k, v.ownBlock = some k → B ≤ k := by
  obtain ⟨vs, hown, _⟩ := h
  intro k hk
  rcases hown.2 with ⟨rfl, _⟩ | ⟨g, cap, cur, rfl, h2, _⟩
  · cases hk
  · cases hk; exact h2
/-- the reference's Entries, of a row of any size -/
theorem rentries_any (b : Option Addr) (m d y : Nat) (ls : List (Option Nat)) {Y : Option Nat} (w : World) (h : Row w (.slice b m d) ls) (hy : FW y Y) (hm : m * 8 ≤ 140737488351232) :
    Calls Tryd.prog 22 #[.agg #[.slice b m d, .float .f64 y]] w fun e w' => (∃ v, e = .returned v) ∧ Below w.heap.size w w' := by
  have HL := Lib.hid h.len
  have HR := Lib.hid h
  have HY := Lib.hid hy
  clear hy
  rcases b with _ | ad
  · obtain ⟨a', cap', hv, k1, k2, k3⟩ := h
    simp only [Value.slice.injEq] at hv
    obtain ⟨rfl, rfl, rfl⟩ := hv
    rcases k3 with ⟨k3, k4⟩ | ⟨blk, off, k3, _⟩
    · obtain rfl := k4 rfl
      obtain rfl : ls = [] := List.eq_nil_of_length_eq_zero k3
      have HX : Hid (Row (((w.alloc (.cells #[.slice none 0 0, .float .f64 y] 33)).alloc (.cells #[] 31)).alloc (.cells #[.float .f64 y] 31)) (.slice (some ⟨w.heap.size + 1 + 1, 0, none⟩) 1 1) [Y]) := by
        have := row_one ((w.alloc (.cells #[.slice none 0 0, .float .f64 y] 33)).alloc (.cells #[] 31)) y HY.out
        show Row _ _ _
        simpa using this
      clear k1 k2 k3 k4 hm HL HR
      go_enter Tryd.func22, Tryd.ntmps22
      go_wp2_with (first | (at_builtin; refine wpList_append_none _ rfl _ _ rfl (w.heap.size + 1) _ [] rfl (ownV_empty' (w.alloc (.cells #[.slice none 0 0, .float .f64 y] 33)) _ (w.heap.size + 1) (by simp) (by simp)) rfl ?_) | (at_builtin; go_must (refine wpList_append_big _ rfl _ _ rfl (w.heap.size + 1) _ [] [Y] rfl ((ownV_empty' (w.alloc (.cells #[.slice none 0 0, .float .f64 y] 33)) _ (w.heap.size + 1) (by simp) (by simp)).below ((Below.refl _ _).alloc (Nat.le_refl _) (.cells #[.float .f64 y] 31)) (Nat.le_refl _)) _ _ _ rfl HX.out (by simp) rfl (by first | (simp; done) | (simp; omega)) ?_; intro v9 w3 hown9 hg9)))
      go_ret
      exact ⟨⟨_, rfl⟩, ((((Below.refl w.heap.size w).alloc (Nat.le_refl _) _).alloc (by simp) _).alloc (by simp; omega) _).grown hg9 (by simp; omega) (fun k e => by cases e; simp)⟩
    · cases k3
  · clear h
    go_enter Tryd.func22, Tryd.ntmps22
    go_wp2_with (first | (at_builtin; refine wpList_append_big _ rfl _ _ rfl (w.heap.size + 1) _ [] ls rfl (ownV_empty' (w.alloc (.cells #[.slice (some ad) m d, .float .f64 y] 33)) _ (w.heap.size + 1) (by simp) (by simp)) _ _ _ rfl ((HR.out.alloc _).alloc _) (by rw [List.length_nil, HL.out]; omega) HL.out (by simp) ?_; intro v8 w2 hown8 hg8; rw [List.nil_append] at hown8; have c1 := hg8.cell (a := ⟨w.heap.size, 1, none⟩) (v := .float .f64 y) (by simp [go_sem]) (ne_blk (by simp)); have HB2 := Lib.hid ((((Below.refl w.heap.size w).alloc (Nat.le_refl _) (.cells #[.slice (some ad) m d, .float .f64 y] 33)).alloc (by simp) (.cells #[] 31)).grown hg8 (by simp; omega) (fun k e => by cases e; simp)); have HO := Lib.hid hown8; clear hown8) | (at_builtin; go_must (refine wpList_append_big _ rfl _ _ rfl (w.heap.size + 1) _ ls [Y] rfl (HO.out.below ((Below.refl _ _).alloc (Nat.le_refl _) (.cells #[.float .f64 y] 31)) (Nat.le_refl _)) _ _ _ rfl (row_one w2 y HY.out) (by rw [HL.out]; simp; omega) rfl (by have := HB2.out.size; simp; omega) ?_; intro v9 w3 hown9 hg9)))
    go_ret
    have hs2 := HB2.out.size
    exact ⟨⟨_, rfl⟩, (HB2.out.alloc hs2 (.cells #[.float .f64 y] 31)).grown hg9 (by simp; omega) (fun k e => by have := own_block_le HO.out k e; omega)⟩

set_option maxRecDepth 100000 in
set_option maxHeartbeats 4000000 in
theorem shedOne_walk (w : World) (a0 a1 a2 : Addr) (LD : Laid w a0 a1 a2) (ls : List (Option Nat)) (Y : Option Nat) (a : Option Addr) (n cap y : Nat) (h : Row w (.slice a n cap) ls) (hy : FW y Y) (hr8 : n * 8 ≤ 140737488351232) :
    Calls Tryd.prog 8 #[.agg #[.slice a n cap, .float .f64 y]] w fun e w' => e = .returned (.bool true) ∧ Below w.heap.size w w' := by
  have hB := (Below.refl w.heap.size w).alloc (Nat.le_refl _) (.cells #[.slice a n cap, .float .f64 y] 33)
  have HR := Lib.hid h
  have HLD := Lib.hid LD
  clear LD
  have HB := Lib.hid hB
  have HY := Lib.hid hy
  by_cases hc : ¬ (1 ≤ n ∧ n ≤ 6)
  · have NW := Lib.hid (fun W => new_out (n : Int) W (by omega))
    have EN := Lib.hid (fun W h => rentries_any a n cap y ls W h hy hr8)
    clear h hc hy
    go_enter Tryd.func8, Tryd.ntmps8
    go_wp2_with (first
      | (go_at_call 21; refine (NW.out _).mono ?_; rintro e w1 ⟨he, hb⟩; unfold facZ at he; subst he; have hC := Lib.hid ((HB.out.trans (hb.mono (by simp))).alloc (by have := hb.size; simp at this; omega) (.cells #[.int .i64 0, .slice none 0 0, .int .i64 0, .int .i64 0] 24)); have C3 := Lib.hid (((Cel2.new w (.slice a n cap) (.float .f64 y) 33).below hb).below ((Below.refl _ _).alloc (Nat.le_refl _) (.cells #[.int .i64 0, .slice none 0 0, .int .i64 0, .int .i64 0] 24))); obtain ⟨c0, c1⟩ := C3.out; clear hb)
      | (go_at_call 22; go_must (refine (EN.out _ (HR.out.below hC.out)).mono ?_; rintro e w4 ⟨⟨v, rfl⟩, hb4⟩; have B4 := Lib.hid (hC.out.trans (hb4.mono hC.out.size)); clear hb4))
      | (go_at_call 9; refine (live11_calls _ a0 a1 a2 (HLD.out.below B4.out)).mono ?_; rintro e w6 ⟨rfl, hb6⟩))
    go_ret
    exact ⟨rfl, B4.out.trans (hb6.mono B4.out.size)⟩
  · obtain ⟨k1, k6⟩ : 1 ≤ n ∧ n ≤ 6 := by omega
    have hl := h.len
    have hlen : (ls ++ [Y]).length = n + 1 := by rw [List.length_append, hl]; rfl
    have HLN := Lib.hid hlen
    have NW := Lib.hid (fun W => new_in n W k1 k6)
    have EN := Lib.hid (fun W h => rentries_calls a n cap y ls W h hy (by omega) (by omega))
    have A5 := Lib.hid (fun W g d h => rall5_calls (some ⟨g, 0, none⟩) (n + 1) d (ls ++ [Y]) W h)
    have hDc : (newD n).cols = (n : Int) := rfl
    have hDr : (newD n).rws = 0 := rfl
    have hDt : (newD n).trn = 0 := rfl
    cases ho : (ls ++ [Y]).any outF
    · obtain ⟨ys, q1, q2, q3⟩ := row_first k1 k6 hl (row_words h) (fun b e => by have h2 := hy.2; rw [e] at h2; obtain ⟨rfl, _⟩ := ab_some h2; exact hy.1) ho
      have AR := Lib.hid (fun W b m d hD h => arow_calls (newD n) b a m d n cap y ls W hD h hy)
      rw [q1] at AR
      rw [ho] at A5
      have hGok : checkP (n : Int) ys 1 ((n : Int) + 1) = true := by have := (rowD_ok (F := newD n) (ls := ls) (Y := Y) (by rw [q1])).1; rw [q1] at this; exact this
      have SO := srow_one k1 k6 hl ho hGok (first_words q2 q3) q3
      have SR := Lib.hid (fun W b m d ld hD h => srow_calls ⟨(n : Int), ys, 1, (n : Int) + 1⟩ b a m d n cap y ls W a0 a1 a2 ld hD h hy)
      obtain ⟨R, hR⟩ : ∃ R, R = sRowD ⟨(n : Int), ys, 1, (n : Int) + 1⟩ ls Y := ⟨_, rfl⟩
      rw [← hR] at SO SR
      obtain ⟨G, ge⟩ := R
      have SO := Lib.hid SO
      dsimp only at SO SR
      generalize newD n = D at *
      obtain ⟨dc, dx, dr, dt⟩ := D
      dsimp only at hDc hDr hDt
      subst hDc hDr hDt
      generalize ls ++ [Y] = L at *
      clear h hc hl hlen ho q1 q2 q3 hGok hy hR
      go_enter Tryd.func8, Tryd.ntmps8
      go_upto_region 1 with (fail)
      go_cut [3, 4] from 10 to 16 (fun s3 s4 wx => FacCut (w.alloc (.cells #[.slice a n cap, .float .f64 y] 33)) ⟨(n : Int), dx, 0, 0⟩ 0 s3 s4 wx)
      case first =>
        go_wp2_with (go_at_call 21; go_must (refine (NW.out _).mono ?_; rintro e wL ⟨⟨ga, gn, gcp, he, hrow⟩, hbL⟩; dsimp only at he hrow; subst he))
        go_meet
        case rel => exact ⟨_, rfl, rfl, FacAt.new (F := ⟨(n : Int), dx, 0, 0⟩) hrow, hbL.alloc hbL.size _⟩
      case rest =>
        obtain ⟨b3, rfl, rfl, F3, B3⟩ := hcut
        obtain ⟨W3, rfl⟩ : ∃ x, x = wc := ⟨_, rfl⟩
        have B3' := Lib.hid (HB.out.trans (B3.mono (by simp)))
        have C3 := Lib.hid ((Cel2.new w (.slice a n cap) (.float .f64 y) 33).below B3)
        obtain ⟨c0, c1⟩ := C3.out
        go_upto_region 5 with (first
          | (go_at_call 22; go_must (refine (EN.out _ (HR.out.below B3'.out)).mono ?_; rintro e w4 ⟨v, rfl, hown, hb4⟩; obtain ⟨g, gc, hv, _, _, _, _⟩ := hown.shape (by rw [HLN.out]; omega); rw [HLN.out] at hv; subst hv; have HO := Lib.hid hown; have H4 := Lib.hid hb4; clear hown hb4))
          | (go_at_call 23; go_must (refine (A5.out _ _ _ HO.out.row).mono ?_; rintro e w' ⟨rfl, rfl⟩)))
        have B4 := Lib.hid (B3'.out.trans (H4.out.mono B3'.out.size))
        have C4 := Lib.hid (C3.out.below H4.out)
        have F4 := F3.below H4.out
        clear c0 c1 C3 F3
        go_cut [6, 7] from 27 to 32 (fun s6 s7 wx => FacCut w4 ⟨(n : Int), ys, 1, (n : Int) + 1⟩ 0 s6 s7 wx)
        case first =>
          obtain ⟨fa, fn, fcp, fC, fR⟩ := F4
          obtain ⟨d0, d1, d2, d3, _, _, _, _⟩ := fC
          obtain ⟨c0, c1⟩ := C4.out
          have FR := Lib.hid fR
          clear fR
          dsimp only at d0 d1 d2 d3
          go_wp2_with (go_at_call 24; go_must (refine (AR.out _ _ _ _ FR.out (HR.out.below B4.out)).mono ?_; rintro e wL ⟨⟨ga, gn, gcp, he, hrow⟩, hbL⟩; dsimp only at he hrow; subst he))
          go_meet
          case rel => exact ⟨_, rfl, rfl, FacAt.new (F := ⟨(n : Int), ys, 1, (n : Int) + 1⟩) hrow, hbL.alloc hbL.size _⟩
        case rest =>
          obtain ⟨b5, rfl, rfl, F5, B5⟩ := hcut
          obtain ⟨W5, rfl⟩ : ∃ x, x = wc := ⟨_, rfl⟩
          have B5' := Lib.hid (B4.out.trans (B5.mono B4.out.size))
          have C5 := Lib.hid (C4.out.below B5)
          have HO5 := Lib.hid (HO.out.below B5 (Nat.le_refl _))
          obtain ⟨c0, c1⟩ := C5.out
          obtain ⟨fa, fn, fcp, fC, fR⟩ := F5
          have FR5 := Lib.hid fR
          have FC5 := Lib.hid fC
          obtain ⟨d0, d1, d2, d3, _, _, _, _⟩ := FC5.out
          dsimp only at d0 d1 d2 d3
          clear H4 F4 C4 NW AR A5 EN fR fC
          go_wp2_with (go_at_call 13; go_must (refine (SR.out _ _ _ _ (HLD.out.below B5'.out) FR5.out (HR.out.below B5'.out)).mono ?_; rintro e w6 ⟨⟨ga, gn, gcp, he, hrow⟩, hb6⟩; dsimp only at he hrow; subst he; have H6 := Lib.hid hb6; clear hrow hb6))
          have B6 := Lib.hid (B5'.out.trans (H6.out.mono B5'.out.size))
          have HO6 := Lib.hid (HO5.out.below H6.out (Nat.le_refl _))
          have S6 := B6.out.size
          clear c0 c1 C5 d0 d1 d2 d3 SR
          go_loop [8, 9] (fun s8 s9 => ∃ (k : Nat) (z : Bool), s8 = .bool z ∧ s9 = .int .i64 (k : Int) ∧ k ≤ n + 1 ∧ Hid (z = true ↔ ∀ i, i < k → Zr (L.getD i none))) (fun _ s9 => n + 1 - (intOf s9).toNat)
          case atStart => exact ⟨0, true, rfl, rfl, Nat.zero_le _, fun _ i hi => absurd hi (Nat.not_lt_zero i), fun _ => rfl⟩
          case round =>
            obtain ⟨k, z, rfl, rfl, hk, HZ⟩ := hrel
            by_cases hlt : k < n + 1
            · have hi : (k : Int) < (n : Int) + 1 := by omega
              obtain ⟨b, hb1, hb2⟩ := HO6.out.cell HLN.out hlt
              cases z
              · have HN : Hid (¬ ∀ i, i < k → Zr (L.getD i none)) := fun hall => Bool.noConfusion (HZ.out.2 hall)
                clear HZ hb2
                go_wp2
                go_round
                case rel => exact ⟨k + 1, false, rfl, by go_num, by omega, fun h => Bool.noConfusion h, fun hall => absurd (fun i hi => hall i (by omega)) HN.out⟩
                case measure => simp [intOf]; omega
              · have HA : Hid (∀ i, i < k → Zr (L.getD i none)) := HZ.out.1 rfl
                clear HZ
                by_cases hz : Zr (L.getD k none)
                · have hz0 := zr_order_t hb2 hz
                  have HZ2 := Lib.hid hz
                  clear hz hb2
                  go_wp2
                  go_round
                  case rel => exact ⟨k + 1, true, rfl, by go_num, by omega, fun _ i hi => by
                    by_cases e : i = k
                    · rw [e]; exact HZ2.out
                    · exact HA.out i (by omega), fun _ => rfl⟩
                  case measure => simp [intOf]; omega
                · have hz0 := zr_order_f hb2 hz
                  have HZ2 := Lib.hid hz
                  clear hz hb2
                  go_wp2
                  go_round
                  case rel => exact ⟨k + 1, false, rfl, by go_num, by omega, fun h => Bool.noConfusion h, fun hall => absurd (hall k (by omega)) HZ2.out⟩
                  case measure => simp [intOf]; omega
            · have hi : ¬ (k : Int) < (n : Int) + 1 := by omega
              obtain rfl : k = n + 1 := by omega
              cases z
              · have hge : ge = 8 := SO.out.2 (fun hall => Bool.noConfusion (HZ.out.2 (fun i hi => hall i (by omega))))
                subst hge
                clear SO HZ
                go_wp2_with (go_at_call 9; refine (live11_calls _ a0 a1 a2 (HLD.out.below B6.out)).mono ?_; rintro e wv ⟨rfl, hbv⟩)
                go_ret
                exact ⟨rfl, B6.out.trans (hbv.mono S6)⟩
              · have hge : ge = 0 := SO.out.1 (fun i hi => HZ.out.1 rfl i (by omega))
                subst hge
                clear SO HZ
                go_wp2_with (go_at_call 9; refine (live11_calls _ a0 a1 a2 (HLD.out.below B6.out)).mono ?_; rintro e wv ⟨rfl, hbv⟩)
                go_ret
                exact ⟨rfl, B6.out.trans (hbv.mono S6)⟩
    · rw [ho] at A5
      generalize ls ++ [Y] = L at *
      clear h hc hl hlen ho hy
      generalize newD n = D at *
      obtain ⟨dc, dx, dr, dt⟩ := D
      dsimp only at hDc hDr hDt
      subst hDc hDr hDt
      go_enter Tryd.func8, Tryd.ntmps8
      go_upto_region 1 with (fail)
      go_cut [3, 4] from 10 to 16 (fun s3 s4 wx => FacCut (w.alloc (.cells #[.slice a n cap, .float .f64 y] 33)) ⟨(n : Int), dx, 0, 0⟩ 0 s3 s4 wx)
      case first =>
        go_wp2_with (go_at_call 21; go_must (refine (NW.out _).mono ?_; rintro e wL ⟨⟨ga, gn, gcp, he, hrow⟩, hbL⟩; dsimp only at he hrow; subst he))
        go_meet
        case rel => exact ⟨_, rfl, rfl, FacAt.new (F := ⟨(n : Int), dx, 0, 0⟩) hrow, hbL.alloc hbL.size _⟩
      case rest =>
        obtain ⟨b3, rfl, rfl, F3, B3⟩ := hcut
        obtain ⟨W3, rfl⟩ : ∃ x, x = wc := ⟨_, rfl⟩
        have B3' := Lib.hid (HB.out.trans (B3.mono (by simp)))
        have C3 := Lib.hid ((Cel2.new w (.slice a n cap) (.float .f64 y) 33).below B3)
        obtain ⟨c0, c1⟩ := C3.out
        go_wp2_with (first
          | (go_at_call 22; go_must (refine (EN.out _ (HR.out.below B3'.out)).mono ?_; rintro e w4 ⟨v, rfl, hown, hb4⟩; obtain ⟨g, gc, hv, _, _, _, _⟩ := hown.shape (by rw [HLN.out]; omega); rw [HLN.out] at hv; subst hv; have HO := Lib.hid hown; have B4 := Lib.hid (B3'.out.trans (hb4.mono B3'.out.size)); clear hown hb4))
          | (go_at_call 23; go_must (refine (A5.out _ _ _ HO.out.row).mono ?_; rintro e w' ⟨rfl, rfl⟩))
          | (go_at_call 9; refine (live11_calls _ a0 a1 a2 (HLD.out.below B4.out)).mono ?_; rintro e w6 ⟨rfl, hb6⟩))
        go_ret
        exact ⟨rfl, B4.out.trans (hb6.mono B4.out.size)⟩
end Go.Proofs.YtfohknalldelfaaDoor
