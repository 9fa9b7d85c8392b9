/- AbsorbFirst, walked. -/
import Derived.Test.YtaabfjfaljhjmaaAa
import Derived.Test.YtaabfjfaljhjmaaOh
namespace Go.Proofs.Ytaabfjfaljhjmaa
open Go.RowKit Lv Go.Shelf
open Ieee (double Format Datum Toward)
attribute [local go_sem] Oper.semAt_some run_store_float drewN_alloc drewN_setCell

theorem run_negF (x : Nat) (w : World) : (Op.unary .neg (.float .f64 x)).run Try.prog w = .ok (.float .f64 (x ^^^ 9223372036854775808)) w := by kernel_rfl
attribute [local go_sem] run_negF
theorem in_nm {x : Option Nat} (h : outF x = false) (hw : ∀ b, x = some b → b < 18446744073709551616) : Nm x := by
  cases x with
  | none => cases h
  | some b =>
    have h64 := hw b rfl
    have hb : inW b = true := by unfold outF at h; simpa using h
    have h2 : b % 9223372036854775808 ≤ pw 420 := by
      have h4 : pw 400 ≤ pw 420 := by decide
      unfold inW at hb
      rw [Bool.or_eq_true, Bool.and_eq_true] at hb
      rcases hb with hb | ⟨_, hb⟩
      · have := of_decide_eq_true hb; omega
      · have := of_decide_eq_true hb; omega
    refine ⟨decide (9223372036854775808 ≤ b), b % 9223372036854775808, ?_, h2⟩
    by_cases c : 9223372036854775808 ≤ b
    · rw [decide_eq_true c]
      show some b = some (9223372036854775808 + b % 9223372036854775808)
      congr 1; omega
    · rw [decide_eq_false c]
      show some b = some (b % 9223372036854775808)
      congr 1; omega
theorem getD_snoc (l : List (Option Nat)) (y : Option Nat) (i : Nat) : (l ++ [y]).getD i none = if i = l.length then y else l.getD i none := by
  rw [List.getD_eq_getElem?_getD]
  by_cases h : i < l.length
  · rw [List.getElem?_append_left h, if_neg (by omega), List.getD_eq_getElem?_getD]
  · rw [List.getElem?_append_right (by omega)]
    by_cases h2 : i = l.length
    · rw [if_pos h2, h2, Nat.sub_self]; rfl
    · rw [if_neg h2, List.getD_eq_getElem?_getD, List.getElem?_eq_none (by simp; omega), List.getElem?_eq_none (by omega)]
/-- a first row, absorbed -/
theorem row_first {c : Nat} (h1 : 1 ≤ c) (h6 : c ≤ 6) {ls : List (Option Nat)} {Y : Option Nat} (hl : ls.length = c) (hw : ∀ i b, ls.getD i none = some b → b < 18446744073709551616) (hY : ∀ b, Y = some b → b < 18446744073709551616) (ho : (ls ++ [Y]).any outF = false) :
    ∃ ys, rowD (newD c) ls Y = (⟨(c : Int), ys, 1, (c : Int) + 1⟩, 0) ∧ ys.length = tsz c ∧ FirstP c (ls ++ [Y]) ys := by
  have ho2 : ls.any outF = false ∧ outF Y = false := by
    rw [List.any_append, Bool.or_eq_false_iff] at ho
    exact ⟨ho.1, by simpa using ho.2⟩
  have hN : ∀ i, i ≤ c → Nm ((ls ++ [Y]).getD i none) := by
    intro i hi
    rw [getD_snoc]
    by_cases e : i = ls.length
    · rw [if_pos e]; exact in_nm ho2.2 hY
    · rw [if_neg e]
      refine in_nm ?_ (hw i)
      have := List.any_eq_false.1 ho2.1 (ls.getD i none) (by
        rw [List.getD_eq_getElem?_getD, List.getElem?_eq_getElem (by omega)]
        exact List.getElem_mem _)
      simpa using this
  obtain ⟨ys, e, e2, e3⟩ := line_first h1 h6 (L := ls ++ [Y]) (by rw [List.length_append, hl]; rfl) hN
  refine ⟨ys, ?_, e2, e3⟩
  have he : earlyD (newD c) ls Y = 0 := by
    unfold earlyD
    rw [if_neg (by rw [new_ok h1 h6]; decide), if_neg (by rw [hl]; simp [newD]), if_neg (by rw [ho2.1, ho2.2]; decide)]
  have hf : fullD (newD c) = false := by
    unfold fullD newD
    rw [decide_eq_false (show ¬ (0 : Int) = 200 by decide), decide_eq_false (by dsimp only; omega)]
    rfl
  rw [rowD_line he hf, show lineD (newD c) (ls ++ [Y]) 0 = (⟨(c : Int), ys, 0, 0⟩, true) from e, if_neg (show ¬ (true = false) by decide)]
  simp [newD]
/-- what the law asks of the triangle, entry by entry -/
theorem first_facts {c p : Nat} (h1 : 1 ≤ c) (h6 : c ≤ 6) {L ys : List (Option Nat)} (hF : FirstP c L ys) (hb : ∀ i, i < p → Zr (L.getD i none)) (hp : p ≤ c → ¬ Zr (L.getD p none)) :
    ∃ u : Bool, (p ≤ c → ∃ r, L.getD p none = some (wd u r) ∧ r ≠ 0 ∧ r ≤ pw 420) ∧ ∀ i j, i ≤ j → j ≤ c → (i = p → Eqn u (ys.getD (offs c i + (j - i)) none) (L.getD j none)) ∧ (i ≠ p → Zr (ys.getD (offs c i + (j - i)) none)) := by
  rcases hF with ⟨z1, z2⟩ | ⟨q, u, r, hq, q1, q2, q3, q4, q5, q6⟩
  · refine ⟨false, fun h => absurd (z1 p h) (hp h), fun i j hij hj => ⟨fun e => ?_, fun _ => z2 _ (offs_in h1 h6 (by omega) (by omega))⟩⟩
    subst e
    exact absurd (z1 i (by omega)) (hp (by omega))
  · have hqp : q = p := by
      by_cases c1 : q < p
      · exfalso
        obtain ⟨s, hs⟩ := hb q c1
        rw [q2] at hs
        have := pw420_lt q4
        obtain ⟨_, e⟩ := wd_inj (by omega) (by omega) (Option.some.inj hs)
        exact q3 e
      · by_cases c2 : p < q
        · exact absurd (q1 p c2) (hp (by omega))
        · omega
    subst hqp
    refine ⟨u, fun _ => ⟨r, q2, q3, q4⟩, fun i j hij hj => ⟨fun e => ?_, fun e => ?_⟩⟩
    · subst e
      have := q5 (j - i) (by omega)
      rw [show i + (j - i) = j by omega] at this
      exact this
    · refine q6 _ (offs_in h1 h6 (by omega) (by omega)) ?_
      by_cases c1 : i < q
      · have := offs_apart c h6 i q c1 hq
        omega
      · have := offs_apart c h6 q i (by omega) (by omega)
        omega
theorem neg_wd (s : Bool) {r : Nat} (h : r < 9223372036854775808) : wd s r ^^^ 9223372036854775808 = wd (!s) r := by
  have hx : ∀ a : Nat, a < 2 ^ 63 → a ^^^ 2 ^ 63 = 2 ^ 63 * 1 + a := by
    intro a ha
    apply Nat.eq_of_testBit_eq
    intro i
    rw [Nat.testBit_xor, Nat.testBit_two_pow, Nat.testBit_two_pow_mul_add _ ha]
    by_cases h1 : i < 63
    · rw [if_pos h1, decide_eq_false (by omega), Bool.xor_false]
    · rw [if_neg h1, Nat.testBit_lt_two_pow (Nat.lt_of_lt_of_le ha (Nat.pow_le_pow_right (by decide) (by omega))), Bool.false_xor]
      by_cases h2 : i = 63
      · subst h2; rfl
      · rw [decide_eq_false (by omega)]
        have : (1 : Nat) < 2 ^ (i - 63) := Nat.one_lt_two_pow (by omega)
        exact (Nat.testBit_lt_two_pow this).symm
  cases s with
  | false =>
    have := hx r (by omega)
    show r ^^^ 9223372036854775808 = 9223372036854775808 + r
    rw [show (9223372036854775808 : Nat) = 2 ^ 63 from by decide, this]
  | true =>
    have := hx r (by omega)
    show (9223372036854775808 + r) ^^^ 9223372036854775808 = r
    rw [show (9223372036854775808 : Nat) + r = r ^^^ 9223372036854775808 by rw [show (9223372036854775808 : Nat) = 2 ^ 63 from by decide, this]]
    rw [Nat.xor_assoc, Nat.xor_self, Nat.xor_zero]

theorem sign_lt {u : Bool} {r : Nat} (h0 : r ≠ 0) (h : r ≤ pw 420) : (FloatKind.f64.format.order (wd u r) 0 == some Ordering.lt) = u := by
  have hr := pw420_lt h
  have hn : nan (wd u r) = false := by unfold Lv.nan; rw [wd_mod u (by omega)]; exact decide_eq_false (by omega)
  refine (order_lt hn (by decide) (by cases u <;> simp only [wd, Bool.false_eq_true, if_false, if_true] <;> omega) (by decide)).trans ?_
  unfold key
  cases u
  · simp only [wd, Bool.false_eq_true, if_false]
    rw [if_pos (by omega), if_pos (by decide)]
    exact decide_eq_false (by omega)
  · simp only [wd, if_true]
    rw [if_neg (by omega), if_pos (by decide)]
    exact decide_eq_true (by omega)
theorem eqz_neq {z b : Nat} {X Y : Option Nat} (hz : FW z X) (hb : FW b Y) (h : Eqz X Y) : (FloatKind.f64.format.order z b != some Ordering.eq) = false := by
  obtain ⟨s, t, r, rfl, rfl, h1, h2⟩ := h
  obtain ⟨e1, _⟩ := ab_some hz.2
  obtain ⟨e2, _⟩ := ab_some hb.2
  have : double.order z b = some .eq := eqz_order (by rw [← e1, ← e2]; exact ⟨s, t, r, rfl, rfl, h1, h2⟩)
  rw [show FloatKind.f64.format.order z b = some Ordering.eq from this]
  rfl
theorem want_zero {z : Nat} {X : Option Nat} (hz : FW z X) (h : Zr X) : (FloatKind.f64.format.order z 0 != some Ordering.eq) = false := eqz_neq hz fw_zero h.eqz
theorem want_pos {z b : Nat} {X Y : Option Nat} (hz : FW z X) (hb : FW b Y) (h : Eqn false X Y) : (FloatKind.f64.format.order z b != some Ordering.eq) = false := by
  obtain ⟨s, t, r, h1, h2, h3, h4⟩ := h
  exact eqz_neq hz hb ⟨s, t, r, h1, h2, h3, fun c => by rw [h4 c, Bool.false_xor]⟩
theorem want_neg {z b : Nat} {X Y : Option Nat} (hz : FW z X) (hb : FW b Y) (h : Eqn true X Y) : (FloatKind.f64.format.order z (b ^^^ 9223372036854775808) != some Ordering.eq) = false := by
  obtain ⟨s, t, r, rfl, rfl, h3, h4⟩ := h
  have hr := pw420_lt h3
  obtain ⟨e2, _⟩ := ab_some hb.2
  subst e2
  rw [neg_wd t (by omega)]
  refine eqz_neq (Y := some (wd (!t) r)) hz ⟨?_, ab_num ?_⟩ ⟨s, !t, r, rfl, rfl, h3, fun c => by rw [h4 c, Bool.true_xor]⟩
  · unfold W64; cases t <;> simp only [wd, Bool.not_false, Bool.not_true, Bool.false_eq_true, if_false, if_true] <;> omega
  · unfold Lv.nan; rw [wd_mod (!t) (by omega)]; exact decide_eq_false (by omega)

set_option maxRecDepth 100000 in
set_option maxHeartbeats 4000000 in
theorem absorbFirst_walk (w : World) (ls : List (Option Nat)) (Y : Option Nat) (a : Option Addr) (n cap y : Nat) (h : Row w (.slice a n cap) ls) (hy : FW y Y) :
    Calls Try.prog 12 #[.agg #[.slice a n cap, .float .f64 y]] w fun e w' => e = .returned (.bool true) ∧ Below w.heap.size w w' := by
  have hB := (Below.refl w.heap.size w).alloc (Nat.le_refl _) (.cells #[.slice a n cap, .float .f64 y] 45)
  have HR := Lib.hid h
  have HB := Lib.hid hB
  have HY := Lib.hid hy
  by_cases hc : ¬ (1 ≤ n ∧ n ≤ 6)
  · have NW := Lib.hid (fun W => new_out (n : Int) W (by omega))
    clear h hc
    go_enter Try.func12, Try.ntmps12
    go_wp2_with (first | (go_at_call 24; refine (NW.out _).mono ?_; rintro e w1 ⟨he, hb⟩; unfold facZ at he; subst he; have hC := Lib.hid (HB.out.trans (hb.mono (by simp))); clear hb) | (go_at_call 26; refine (live10_calls _).mono ?_; rintro e w6 ⟨rfl, hb6⟩))
    go_ret
    exact ⟨rfl, (hC.out.alloc hC.out.size _).trans (hb6.mono (by have := hC.out.size; simp; omega))⟩
  · obtain ⟨k1, k6⟩ : 1 ≤ n ∧ n ≤ 6 := by omega
    have hl := h.len
    have hlen : (ls ++ [Y]).length = n + 1 := by rw [List.length_append, hl]; rfl
    have HLN := Lib.hid hlen
    have NW := Lib.hid (fun W => new_in n W k1 k6)
    have EN := Lib.hid (fun W h => rentries_calls a n cap y ls W h hy (by omega) (by omega))
    have A5 := Lib.hid (fun W g d h => rall5_calls (some ⟨g, 0, none⟩) (n + 1) d (ls ++ [Y]) W h)
    have hDc : (newD n).cols = (n : Int) := rfl
    have hDr : (newD n).rws = 0 := rfl
    have hDt : (newD n).trn = 0 := rfl
    cases ho : (ls ++ [Y]).any outF
    · obtain ⟨ys, q1, q2, q3⟩ := row_first k1 k6 hl (row_words h) (fun b e => by have h2 := hy.2; rw [e] at h2; obtain ⟨rfl, _⟩ := ab_some h2; exact hy.1) ho
      have AR := Lib.hid (fun W b m d hD h => arow_calls (newD n) b a m d n cap y ls W hD h hy)
      rw [q1] at AR
      rw [ho] at A5
      have hGok : checkP (n : Int) ys 1 ((n : Int) + 1) = true := by have := (rowD_ok (F := newD n) (ls := ls) (Y := Y) (by rw [q1])).1; rw [q1] at this; exact this
      have GT := Lib.hid (fun W b m d (hW : Row W (.slice b m d) ys) i j (hij : i ≤ j) (hj : j ≤ n) => get_calls n i j 1 ((n : Int) + 1) b m d ys W hW hGok (by omega) hj hij)
      have FF := Lib.hid (fun p (hb : ∀ i, i < p → Zr ((ls ++ [Y]).getD i none)) (hp : p ≤ n → ¬ Zr ((ls ++ [Y]).getD p none)) => first_facts k1 k6 q3 hb hp)
      generalize newD n = D at *
      obtain ⟨dc, dx, dr, dt⟩ := D
      dsimp only at hDc hDr hDt
      subst hDc hDr hDt
      generalize ls ++ [Y] = L at *
      clear h hc hl hlen ho q1 q2 q3 hGok hy
      go_enter Try.func12, Try.ntmps12
      go_upto_region 1 with (fail)
      go_cut [3, 4] from 11 to 17 (fun s3 s4 wx => FacCut (w.alloc (.cells #[.slice a n cap, .float .f64 y] 45)) ⟨(n : Int), dx, 0, 0⟩ 0 s3 s4 wx)
      case first =>
        go_wp2_with (go_at_call 24; go_must (refine (NW.out _).mono ?_; rintro e wL ⟨⟨ga, gn, gcp, he, hrow⟩, hbL⟩; dsimp only at he hrow; subst he))
        go_meet
        case rel => exact ⟨_, rfl, rfl, FacAt.new (F := ⟨(n : Int), dx, 0, 0⟩) hrow, hbL.alloc hbL.size _⟩
      case rest =>
        obtain ⟨b3, rfl, rfl, F3, B3⟩ := hcut
        obtain ⟨W3, rfl⟩ : ∃ x, x = wc := ⟨_, rfl⟩
        have B3' := Lib.hid (HB.out.trans (B3.mono (by simp)))
        have C3 := Lib.hid ((Cel2.new w (.slice a n cap) (.float .f64 y) 45).below B3)
        obtain ⟨c0, c1⟩ := C3.out
        go_upto_region 4 with (first
          | (go_at_call 39; go_must (refine (EN.out _ (HR.out.below B3'.out)).mono ?_; rintro e w4 ⟨v, rfl, hown, hb4⟩; obtain ⟨g, gc, hv, _, _, _, _⟩ := hown.shape (by rw [HLN.out]; omega); rw [HLN.out] at hv; subst hv; have HO := Lib.hid hown; have H4 := Lib.hid hb4; clear hown hb4))
          | (go_at_call 38; go_must (refine (A5.out _ _ _ HO.out.row).mono ?_; rintro e w' ⟨rfl, rfl⟩)))
        have B4 := Lib.hid (B3'.out.trans (H4.out.mono B3'.out.size))
        have C4 := Lib.hid (C3.out.below H4.out)
        have F4 := F3.below H4.out
        clear c0 c1 C3 F3
        go_cut [4, 5] from 27 to 32 (fun s4 s5 wx => FacCut w4 ⟨(n : Int), ys, 1, (n : Int) + 1⟩ 0 s5 s4 wx)
        case first =>
          obtain ⟨fa, fn, fcp, fC, fR⟩ := F4
          obtain ⟨d0, d1, d2, d3, _, _, _, _⟩ := fC
          obtain ⟨c0, c1⟩ := C4.out
          have FR := Lib.hid fR
          clear fR
          dsimp only at d0 d1 d2 d3
          go_wp2_with (go_at_call 29; go_must (refine (AR.out _ _ _ _ FR.out (HR.out.below B4.out)).mono ?_; rintro e wL ⟨⟨ga, gn, gcp, he, hrow⟩, hbL⟩; dsimp only at he hrow; subst he))
          go_meet
          case rel => exact ⟨_, rfl, rfl, FacAt.new (F := ⟨(n : Int), ys, 1, (n : Int) + 1⟩) hrow, hbL.alloc hbL.size _⟩
        case rest =>
          obtain ⟨b5, rfl, rfl, F5, B5⟩ := hcut
          obtain ⟨W5, rfl⟩ : ∃ x, x = wc := ⟨_, rfl⟩
          have B5' := Lib.hid (B4.out.trans (B5.mono B4.out.size))
          have C5 := Lib.hid (C4.out.below B5)
          obtain ⟨c0, c1⟩ := C5.out
          clear HO H4 F4 C4 NW AR A5
          go_wp2_with (go_at_call 39; go_must (refine (EN.out _ (HR.out.below B5'.out)).mono ?_; rintro e w6 ⟨v, rfl, hown, hb6⟩; obtain ⟨g6, gc6, hv, _, _, _, _⟩ := hown.shape (by rw [HLN.out]; omega); rw [HLN.out] at hv; subst hv; have HO6 := Lib.hid hown; have H6 := Lib.hid hb6; clear hown hb6))
          have B6 := Lib.hid (B5'.out.trans (H6.out.mono B5'.out.size))
          obtain ⟨fa, fn, fcp, fC, fR⟩ := F5
          have FC6 := Lib.hid (fC.below H6.out)
          have FR6 := Lib.hid (fR.below H6.out)
          have S6 := B6.out.size
          clear c0 c1 C5 fC fR EN
          go_loop [7] (fun s => ∃ k : Nat, s = .int .i64 (k : Int) ∧ k ≤ n + 1 ∧ Hid (∀ i, i < k → Zr (L.getD i none))) (fun s => n + 1 - (intOf s).toNat)
          case atStart => exact ⟨0, rfl, Nat.zero_le _, fun i hi => absurd hi (Nat.not_lt_zero i)⟩
          case round =>
            obtain ⟨k, rfl, hk, HZ⟩ := hrel
            by_cases hgo : k < n + 1 ∧ Zr (L.getD k none)
            · obtain ⟨hlt, hz⟩ := hgo
              obtain ⟨b, hb1, hb2⟩ := HO6.out.cell HLN.out hlt
              have hi : (k : Int) < (n : Int) + 1 := by omega
              have hz0 := zr_order_t hb2 hz
              have HZ2 := Lib.hid hz
              clear hz hb2
              go_wp2
              go_round
              case rel => exact ⟨k + 1, by go_num, by omega, fun i hi => by
                by_cases e : i = k
                · rw [e]; exact HZ2.out
                · exact HZ.out i (by omega)⟩
              case measure => simp [intOf]; omega
            · have FF2 := Lib.hid (FF.out k HZ.out (fun hkn hz => hgo ⟨by omega, hz⟩))
              by_cases hlt : k < n + 1
              case' pos =>
                obtain ⟨b, hb1, hb2⟩ := HO6.out.cell HLN.out hlt
                have hi : (k : Int) < (n : Int) + 1 := by omega
                have hz0 := zr_order_f hb2 (fun hz => hgo ⟨hlt, hz⟩)
                clear hb2 hgo
                go_wp2
                clear hb1 hz0 hi
              case' neg =>
                have hi : ¬ (k : Int) < (n : Int) + 1 := by omega
                clear hgo
                go_wp2
                clear hi
              all_goals
                obtain ⟨u, FU, FE⟩ := FF2.out
                have FU := Lib.hid FU
                have FE := Lib.hid FE
                clear FF FF2 hlt
                go_loopw [8] (fun s wr => ∃ i : Nat, s = .int .i64 (i : Int) ∧ i ≤ n + 1 ∧ Hid (Below w6.heap.size w6 wr)) (fun s _ => n + 1 - (intOf s).toNat)
                case atStart => exact ⟨0, rfl, Nat.zero_le _, Below.refl _ _⟩
                case round =>
                  obtain ⟨i, rfl, hin, HB8⟩ := hrel
                  by_cases hi : i < n + 1
                  · have hii : (i : Int) < (n : Int) + 1 := by omega
                    go_wp2
                    go_loopw [9] (fun s wr => ∃ j : Nat, s = .int .i64 (j : Int) ∧ i ≤ j ∧ j ≤ n + 1 ∧ Hid (Below w6.heap.size w6 wr)) (fun s _ => n + 1 - (intOf s).toNat)
                    case atStart => exact ⟨i, rfl, Nat.le_refl _, by omega, HB8.out⟩
                    case round =>
                      obtain ⟨j, rfl, hij, hjn, HB9⟩ := hrel
                      by_cases hj : j < n + 1
                      · have hji : (j : Int) < (n : Int) + 1 := by omega
                        have FC9 := Lib.hid (FC6.out.below HB9.out)
                        obtain ⟨d0, d1, d2, d3, _, _, _, _⟩ := FC9.out
                        have HO9 := Lib.hid (HO6.out.below HB9.out (Nat.le_refl _))
                        obtain ⟨bj, hbj1, hbj2⟩ := HO9.out.cell HLN.out hj
                        have HBJ := Lib.hid hbj2
                        clear hbj2 hii
                        by_cases hik : i = k
                        · subst hik
                          obtain ⟨bi, hbi1, hbi2⟩ := HO9.out.cell HLN.out hi
                          obtain ⟨r, hr1, hr2, hr3⟩ := FU.out (by omega)
                          rw [hr1] at hbi2
                          obtain ⟨e, _⟩ := ab_some hbi2.2
                          subst e
                          have hsg := sign_lt (u := u) hr2 hr3
                          clear hbi2 hr1 hr2 hr3
                          generalize wd u r = bi at *
                          cases u
                          · go_wp2_with (go_at_call 23; go_must (refine (GT.out _ fa fn fcp (FR6.out.below HB9.out) i j hij (by omega)).mono ?_; rintro e wg ⟨⟨x, rfl, hx⟩, hbg⟩; have hcmp := want_pos hx HBJ.out ((FE.out i j hij (by omega)).1 rfl); have BG := Lib.hid (HB9.out.trans (hbg.mono HB9.out.size)); clear hbg hx))
                            go_roundw
                            case rel => exact ⟨j + 1, by go_num, by omega, by omega, BG.out⟩
                            case measure => simp [intOf]; omega
                          · go_wp2_with (go_at_call 23; go_must (refine (GT.out _ fa fn fcp (FR6.out.below HB9.out) i j hij (by omega)).mono ?_; rintro e wg ⟨⟨x, rfl, hx⟩, hbg⟩; have hcmp := want_neg hx HBJ.out ((FE.out i j hij (by omega)).1 rfl); have BG := Lib.hid (HB9.out.trans (hbg.mono HB9.out.size)); clear hbg hx))
                            go_roundw
                            case rel => exact ⟨j + 1, by go_num, by omega, by omega, BG.out⟩
                            case measure => simp [intOf]; omega
                        · have hne : ((i : Int) == (k : Int)) = false := by simp; omega
                          have HNE := Lib.hid hik
                          clear hik
                          go_wp2_with (go_at_call 23; go_must (refine (GT.out _ fa fn fcp (FR6.out.below HB9.out) i j hij (by omega)).mono ?_; rintro e wg ⟨⟨x, rfl, hx⟩, hbg⟩; have hcmp := want_zero hx ((FE.out i j hij (by omega)).2 HNE.out); have BG := Lib.hid (HB9.out.trans (hbg.mono HB9.out.size)); clear hbg hx))
                          go_roundw
                          case rel => exact ⟨j + 1, by go_num, by omega, by omega, BG.out⟩
                          case measure => simp [intOf]; omega
                      · have hji : ¬ (j : Int) < (n : Int) + 1 := by omega
                        go_wp2
                        go_roundw
                        case rel => exact ⟨i + 1, by go_num, by omega, HB9.out⟩
                        case measure => simp [intOf]; omega
                  · have hii : ¬ (i : Int) < (n : Int) + 1 := by omega
                    go_wp2_with (go_at_call 26; refine (live10_calls _).mono ?_; rintro e wv ⟨rfl, hbv⟩)
                    go_ret
                    exact ⟨rfl, (B6.out.trans (HB8.out.mono S6)).trans (hbv.mono (by have := HB8.out.size; omega))⟩
    · rw [ho] at A5
      generalize ls ++ [Y] = L at *
      clear h hc hl hlen ho hy
      generalize newD n = D at *
      obtain ⟨dc, dx, dr, dt⟩ := D
      dsimp only at hDc hDr hDt
      subst hDc hDr hDt
      go_enter Try.func12, Try.ntmps12
      go_upto_region 1 with (fail)
      go_cut [3, 4] from 11 to 17 (fun s3 s4 wx => FacCut (w.alloc (.cells #[.slice a n cap, .float .f64 y] 45)) ⟨(n : Int), dx, 0, 0⟩ 0 s3 s4 wx)
      case first =>
        go_wp2_with (go_at_call 24; go_must (refine (NW.out _).mono ?_; rintro e wL ⟨⟨ga, gn, gcp, he, hrow⟩, hbL⟩; dsimp only at he hrow; subst he))
        go_meet
        case rel => exact ⟨_, rfl, rfl, FacAt.new (F := ⟨(n : Int), dx, 0, 0⟩) hrow, hbL.alloc hbL.size _⟩
      case rest =>
        obtain ⟨b3, rfl, rfl, F3, B3⟩ := hcut
        obtain ⟨W3, rfl⟩ : ∃ x, x = wc := ⟨_, rfl⟩
        have B3' := Lib.hid (HB.out.trans (B3.mono (by simp)))
        have C3 := Lib.hid ((Cel2.new w (.slice a n cap) (.float .f64 y) 45).below B3)
        obtain ⟨c0, c1⟩ := C3.out
        go_wp2_with (first
          | (go_at_call 39; go_must (refine (EN.out _ (HR.out.below B3'.out)).mono ?_; rintro e w4 ⟨v, rfl, hown, hb4⟩; obtain ⟨g, gc, hv, _, _, _, _⟩ := hown.shape (by rw [HLN.out]; omega); rw [HLN.out] at hv; subst hv; have HO := Lib.hid hown; have B4 := Lib.hid (B3'.out.trans (hb4.mono B3'.out.size)); clear hown hb4))
          | (go_at_call 38; go_must (refine (A5.out _ _ _ HO.out.row).mono ?_; rintro e w' ⟨rfl, rfl⟩))
          | (go_at_call 26; refine (live10_calls _).mono ?_; rintro e w6 ⟨rfl, hb6⟩))
        go_ret
        exact ⟨rfl, B4.out.trans (hb6.mono B4.out.size)⟩
end Go.Proofs.Ytaabfjfaljhjmaa
