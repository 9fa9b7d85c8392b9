/- AbsorbFirst, walked. -/
import Derived.Test.YtfohknalldelfaaDoorAa
import Derived.Test.YtfohknalldelfaaDoorOh
namespace Go.Proofs.YtfohknalldelfaaDoor
open Go.RowKit Lv Go.Shelf
open Ieee (double Format Datum Toward)
attribute [local go_sem] Oper.semAt_some run_store_float drewN_alloc drewN_setCell

theorem run_negF (x : Nat) (w : World) : (Op.unary .neg (.float .f64 x)).run Tryd.prog w = .ok (.float .f64 (x ^^^ 9223372036854775808)) w := by kernel_rfl
attribute [local go_sem] run_negF

theorem in_nm {x : Option Nat} (h : outF x = false) (hw : ∀ b, x = some b → b < 18446744073709551616) : Nm x := by
  cases x with
  | none => cases h
  | some b =>
    have h64 := hw b rfl
    have hb : inW b = true := by unfold outF at h; simpa using h
    have h2 : b % 9223372036854775808 ≤ pw 420 := by
      have h4 : pw 400 ≤ pw 420 := by decide
      unfold inW at hb
      rw [Bool.or_eq_true, Bool.and_eq_true] at hb
      rcases hb with hb | ⟨_, hb⟩
      · have := of_decide_eq_true hb; omega
      · have := of_decide_eq_true hb; omega
    refine ⟨decide (9223372036854775808 ≤ b), b % 9223372036854775808, ?_, h2⟩
    by_cases c : 9223372036854775808 ≤ b
    · rw [decide_eq_true c]
      show some b = some (9223372036854775808 + b % 9223372036854775808)
      congr 1; omega
    · rw [decide_eq_false c]
      show some b = some (b % 9223372036854775808)
      congr 1; omega
theorem getD_snoc (l : List (Option Nat)) (y : Option Nat) (i : Nat) : (l ++ [y]).getD i none = if i = l.length then y else l.getD i none := by
  rw [List.getD_eq_getElem?_getD]
  by_cases h : i < l.length
  · rw [List.getElem?_append_left h, if_neg (by omega), List.getD_eq_getElem?_getD]
  · rw [List.getElem?_append_right (by omega)]
    by_cases h2 : i = l.length
    · rw [if_pos h2, h2, Nat.sub_self]; rfl
    · rw [if_neg h2, List.getD_eq_getElem?_getD, List.getElem?_eq_none (by simp; omega), List.getElem?_eq_none (by omega)]
/-- a first row, absorbed -/
theorem row_first {c : Nat} (h1 : 1 ≤ c) (h6 : c ≤ 6) {ls : List (Option Nat)} {Y : Option Nat} (hl : ls.length = c) (hw : ∀ i b, ls.getD i none = some b → b < 18446744073709551616) (hY : ∀ b, Y = some b → b < 18446744073709551616) (ho : (ls ++ [Y]).any outF = false) :
    ∃ ys, rowD (newD c) ls Y = (⟨(c : Int), ys, 1, (c : Int) + 1⟩, 0) ∧ ys.length = tsz c ∧ FirstP c (ls ++ [Y]) ys := by
  have ho2 : ls.any outF = false ∧ outF Y = false := by
    rw [List.any_append, Bool.or_eq_false_iff] at ho
    exact ⟨ho.1, by simpa using ho.2⟩
  have hN : ∀ i, i ≤ c → Nm ((ls ++ [Y]).getD i none) := by
    intro i hi
    rw [getD_snoc]
    by_cases e : i = ls.length
    · rw [if_pos e]; exact in_nm ho2.2 hY
    · rw [if_neg e]
      refine in_nm ?_ (hw i)
      have := List.any_eq_false.1 ho2.1 (ls.getD i none) (by
        rw [List.getD_eq_getElem?_getD, List.getElem?_eq_getElem (by omega)]
        exact List.getElem_mem _)
      simpa using this
  obtain ⟨ys, e, e2, e3⟩ := line_first h1 h6 (L := ls ++ [Y]) (by rw [List.length_append, hl]; rfl) hN
  refine ⟨ys, ?_, e2, e3⟩
  have he : earlyD (newD c) ls Y = 0 := by
    unfold earlyD
    rw [if_neg (by rw [new_ok h1 h6]; decide), if_neg (by rw [hl]; simp [newD]), if_neg (by rw [ho2.1, ho2.2]; decide)]
  have hf : fullD (newD c) = false := by
    unfold fullD newD
    rw [decide_eq_false (show ¬ (0 : Int) = 200 by decide), decide_eq_false (by dsimp only; omega)]
    rfl
  rw [rowD_line he hf, show lineD (newD c) (ls ++ [Y]) 0 = (⟨(c : Int), ys, 0, 0⟩, true) from e, if_neg (show ¬ (true = false) by decide)]
  simp [newD]
/-- what the law asks of the triangle, entry by entry -/
theorem first_facts {c p : Nat} (h1 : 1 ≤ c) (h6 : c ≤ 6) {L ys : List (Option Nat)} (hF : FirstP c L ys) (hb : ∀ i, i < p → Zr (L.getD i none)) (hp : p ≤ c → ¬ Zr (L.getD p none)) :
    ∃ u : Bool, (p ≤ c → ∃ r, L.getD p none = some (wd u r) ∧ r ≠ 0 ∧ r ≤ pw 420) ∧ ∀ i j, i ≤ j → j ≤ c → (i = p → Eqn u (ys.getD (offs c i + (j - i)) none) (L.getD j none)) ∧ (i ≠ p → Zr (ys.getD (offs c i + (j - i)) none)) := by
  rcases hF with ⟨z1, z2⟩ | ⟨q, u, r, hq, q1, q2, q3, q4, q5, q6⟩
  · refine ⟨false, fun h => absurd (z1 p h) (hp h), fun i j hij hj => ⟨fun e => ?_, fun _ => z2 _ (offs_in h1 h6 (by omega) (by omega))⟩⟩
    subst e
    exact absurd (z1 i (by omega)) (hp (by omega))
  · have hqp : q = p := by
      by_cases c1 : q < p
      · exfalso
        obtain ⟨s, hs⟩ := hb q c1
        rw [q2] at hs
        have := pw420_lt q4
        obtain ⟨_, e⟩ := wd_inj (by omega) (by omega) (Option.some.inj hs)
        exact q3 e
      · by_cases c2 : p < q
        · exact absurd (q1 p c2) (hp (by omega))
        · omega
    subst hqp
    refine ⟨u, fun _ => ⟨r, q2, q3, q4⟩, fun i j hij hj => ⟨fun e => ?_, fun e => ?_⟩⟩
    · subst e
      have := q5 (j - i) (by omega)
      rw [show i + (j - i) = j by omega] at this
      exact this
    · refine q6 _ (offs_in h1 h6 (by omega) (by omega)) ?_
      by_cases c1 : i < q
      · have := offs_apart c h6 i q c1 hq
        omega
      · have := offs_apart c h6 q i (by omega) (by omega)
        omega
theorem neg_wd (s : Bool) {r : Nat} (h : r < 9223372036854775808) : wd s r ^^^ 9223372036854775808 = wd (!s) r := by
  have hx : ∀ a : Nat, a < 2 ^ 63 → a ^^^ 2 ^ 63 = 2 ^ 63 * 1 + a := by
    intro a ha
    apply Nat.eq_of_testBit_eq
    intro i
    rw [Nat.testBit_xor, Nat.testBit_two_pow, Nat.testBit_two_pow_mul_add _ ha]
    by_cases h1 : i < 63
    · rw [if_pos h1, decide_eq_false (by omega), Bool.xor_false]
    · rw [if_neg h1, Nat.testBit_lt_two_pow (Nat.lt_of_lt_of_le ha (Nat.pow_le_pow_right (by decide) (by omega))), Bool.false_xor]
      by_cases h2 : i = 63
      · subst h2; rfl
      · rw [decide_eq_false (by omega)]
        have : (1 : Nat) < 2 ^ (i - 63) := Nat.one_lt_two_pow (by omega)
        exact (Nat.testBit_lt_two_pow this).symm
  cases s with
  | false =>
    have := hx r (by omega)
    show r ^^^ 9223372036854775808 = 9223372036854775808 + r
    rw [show (9223372036854775808 : Nat) = 2 ^ 63 from by decide, this]
  | true =>
    have := hx r (by omega)
    show (9223372036854775808 + r) ^^^ 9223372036854775808 = r
    rw [show (9223372036854775808 : Nat) + r = r ^^^ 9223372036854775808 by rw [show (9223372036854775808 : Nat) = 2 ^ 63 from by decide, this]]
    rw [Nat.xor_assoc, Nat.xor_self, Nat.xor_zero]

theorem sign_lt {u : Bool} {r : Nat} (h0 : r ≠ 0) (h : r ≤ pw 420) : (FloatKind.f64.format.order (wd u r) 0 == some Ordering.lt) = u := by
  have hr := pw420_lt h
  have hn : nan (wd u r) = false := by unfold Lv.nan; rw [wd_mod u (by omega)]; exact decide_eq_false (by omega)
  refine (order_lt hn (by decide) (by cases u <;> simp only [wd, Bool.false_eq_true, if_false, if_true] <;> omega) (by decide)).trans ?_
  unfold key
  cases u
  · simp only [wd, Bool.false_eq_true, if_false]
    rw [if_pos (by omega), if_pos (by decide)]
    exact decide_eq_false (by omega)
  · simp only [wd, if_true]
    rw [if_neg (by omega), if_pos (by decide)]
    exact decide_eq_true (by omega)
theorem eqz_neq {z b : Nat} {X Y : Option Nat} (hz : FW z X) (hb : FW b Y) (h : Eqz X Y) : (FloatKind.f64.format.order z b != some Ordering.eq) = false := by
  obtain ⟨s, t, r, rfl, rfl, h1, h2⟩ := h
  obtain ⟨e1, _⟩ := ab_some hz.2
  obtain ⟨e2, _⟩ := ab_some hb.2
  have : double.order z b = some .eq := eqz_order (by rw [← e1, ← e2]; exact ⟨s, t, r, rfl, rfl, h1, h2⟩)
  rw [show FloatKind.f64.format.order z b = some Ordering.eq from this]
  rfl
theorem want_zero {z : Nat} {X : Option Nat} (hz : FW z X) (h : Zr X) : (FloatKind.f64.format.order z 0 != some Ordering.eq) = false := eqz_neq hz fw_zero h.eqz
theorem want_pos {z b : Nat} {X Y : Option Nat} (hz : FW z X) (hb : FW b Y) (h : Eqn false X Y) : (FloatKind.f64.format.order z b != some Ordering.eq) = false := by
  obtain ⟨s, t, r, h1, h2, h3, h4⟩ := h
  exact eqz_neq hz hb ⟨s, t, r, h1, h2, h3, fun c => by rw [h4 c, Bool.false_xor]⟩
theorem want_neg {z b : Nat} {X Y : Option Nat} (hz : FW z X) (hb : FW b Y) (h : Eqn true X Y) : (FloatKind.f64.format.order z (b ^^^ 9223372036854775808) != some Ordering.eq) = false := by
  obtain ⟨s, t, r, rfl, rfl, h3, h4⟩ := h
  have hr := pw420_lt h3
  obtain ⟨e2, _⟩ := ab_some hb.2
  subst e2
  rw [neg_wd t (by omega)]
  refine eqz_neq (Y := some (wd (!t) r)) hz ⟨?_, ab_num ?_⟩ ⟨s, !t, r, rfl, rfl, h3, fun c => by rw [h4 c, Bool.true_xor]⟩
  · unfold W64; cases t <;> simp only [wd, Bool.not_false, Bool.not_true, Bool.false_eq_true, if_false, if_true] <;> omega
  · unfold Lv.nan; rw [wd_mod (!t) (by omega)]; exact decide_eq_false (by omega)

end Go.Proofs.YtfohknalldelfaaDoor
