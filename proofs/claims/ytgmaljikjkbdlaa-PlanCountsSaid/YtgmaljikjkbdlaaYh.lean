/- Plans of n shards: Left, Right, Even; Go's Repeat of one int. Go's Repeat of one int; plans to the right. -/
import Derived.Test.YtgmaljikjkbdlaaYf
import Derived.Laws.CopyOwn
import Derived.Laws.BitsAllLaws
namespace Go.Proofs.Ytgmaljikjkbdlaa
open Go.RowKit Lv Go.Shelf
attribute [local go_sem] Oper.semAt_some

theorem pmay_calls (n : Int) (w : World) : Calls Try.prog 34 #[.int .i64 n] w fun e w' => e = .returned (.bool (mayP n)) ∧ w = w' := by
  go_enter Try.func34, Try.ntmps34
  by_cases c1 : 1 ≤ n
  · by_cases c2 : n ≤ 8
    · go_wp2
      go_ret
      exact ⟨ret_bool (by unfold mayP; rw [decide_eq_true c1, decide_eq_true c2]; rfl), rfl⟩
    · go_wp2
      go_ret
      exact ⟨ret_bool (by unfold mayP; rw [decide_eq_true c1, decide_eq_false (by omega)]; rfl), rfl⟩
  · go_wp2
    go_ret
    exact ⟨ret_bool (by unfold mayP; rw [decide_eq_false (by omega)]; rfl), rfl⟩
theorem mayP_nat {n : Int} (h : mayP n = true) : ∃ k : Nat, n = (k : Int) ∧ 1 ≤ k ∧ k ≤ 8 := by
  unfold mayP at h
  simp only [Bool.and_eq_true, decide_eq_true_eq] at h
  exact ⟨n.toNat, by omega, by omega, by omega⟩
theorem leftL_step (k : Nat) : leftL (k + 1 + 1) = leftL (k + 1) ++ [((k + 1 : Nat) : Int), -1] := by
  show 0 :: (List.range (k + 1)).flatMap _ = (0 :: (List.range k).flatMap _) ++ _
  rw [List.range_succ, List.flatMap_append]
  rfl
theorem leftL_len (k : Nat) : (leftL (k + 1)).length = 2 * k + 1 := by
  induction k with
  | zero => rfl
  | succ k ih => rw [leftL_step, List.length_append, ih]; simp; omega
theorem li_two {w : World} {x y : Int} {b : Nat} (h : b = w.heap.size) : LI (w.alloc (.cells #[.int .i64 x, .int .i64 y] 3)) (.slice (some ⟨b, 0, none⟩) 2 2) [x, y] := by
  subst h
  refine ⟨_, _, rfl, Nat.le_refl _, by unfold maxLen; simp, .inr ⟨_, _, rfl, fun i hi => ?_⟩⟩
  have : i = 0 ∨ i = 1 := by simp at hi; omega
  rcases this with rfl | rfl <;> simp [go_sem]
theorem own_one {w : World} {z : Int} {b B : Nat} (h : b = w.heap.size) (hB : B ≤ w.heap.size) : OwnI (w.alloc (.cells #[.int .i64 z] 3)) B (.slice (some ⟨b, 0, none⟩) 1 1) [z] := by
  subst h
  exact ⟨rfl, .inr ⟨w.heap.size, 1, _, rfl, hB, World.alloc_heap_new w _, Nat.le_refl _, by unfold maxLen; omega, rfl, rfl⟩⟩

set_option maxRecDepth 100000 in
set_option maxHeartbeats 1000000 in
theorem pleft_calls (n : Int) (w : World) : Calls Try.prog 16 #[.int .i64 n] w fun e w' => (∃ v, e = .returned v ∧ LI w' v (leftD n)) ∧ Below w.heap.size w w' := by
  have HM := Lib.hid (fun w => pmay_calls n w)
  by_cases c : mayP n = true
  · have hD : leftD n = leftL n.toNat := by unfold leftD; rw [if_pos c]
    rw [hD]
    rw [c] at HM
    obtain ⟨k, rfl, hk1, hk8⟩ := mayP_nat c
    rw [Int.toNat_natCast]
    clear c hD
    go_enter Try.func16, Try.ntmps16
    go_wp2_with (go_at_call 34; refine (HM.out _).mono ?_; rintro e w1 ⟨rfl, rfl⟩)
    go_loopw [3, 4] (fun s3 s4 wr => ∃ (i : Nat), s4 = .int .i64 ((i : Int) + 1) ∧ i + 1 ≤ k ∧ Hid (OwnI wr w.heap.size s3 (leftL (i + 1)) ∧ Below w.heap.size w wr)) (fun _ s4 _ => k - (intOf s4).toNat)
    case atStart => exact ⟨0, rfl, hk1, own_one rfl (Nat.le_refl _), (Below.refl _ _).alloc (Nat.le_refl _) _⟩
    case round =>
      obtain ⟨i, rfl, hi, HR⟩ := hrel
      by_cases hlt : i + 1 < k
      · have hii : (i : Int) + 1 < (k : Int) := by omega
        have hsz := Lib.hid HR.out.2.size
        have hlen : Hid ((leftL (i + 1)).length + 2 ≤ 1000) := by unfold Hid; rw [leftL_len]; omega
        have HB := Lib.hid (fun e (he : u3.ownBlock = some e) => HR.out.1.base e he)
        go_wp2_with (at_builtin; go_must (refine wpList_append_I _ rfl _ _ rfl w.heap.size _ _ [_, _] rfl (HR.out.1.below ((Below.refl _ _).alloc (Nat.le_refl _) _) (Nat.le_refl _)) _ _ _ rfl (li_two (by simp)) hlen.out (by have := hsz.out; simp; omega) ?_; intro v9 w3 hown9 hg9))
        have hBf : Below w.heap.size w w3 := (HR.out.2.alloc hsz.out _).grown hg9 (by have := hsz.out; simp; omega) HB.out
        go_roundw
        case rel => exact ⟨i + 1, by go_num, by omega, by rw [leftL_step]; exact hown9, hBf⟩
        case measure => simp [intOf]; omega
      · have hii : ¬ (i : Int) + 1 < (k : Int) := by omega
        have HO := Lib.hid HR.out.1.li
        obtain rfl : i + 1 = k := by omega
        go_wp2
        go_ret
        exact ⟨⟨_, rfl, HO.out⟩, HR.out.2⟩
  · have hD : leftD n = [] := by unfold leftD; rw [if_neg c]
    rw [hD]
    rw [Bool.eq_false_iff.2 c] at HM
    clear c hD
    go_enter Try.func16, Try.ntmps16
    go_wp2_with (go_at_call 34; refine (HM.out _).mono ?_; rintro e w1 ⟨rfl, rfl⟩)
    go_ret
    exact ⟨⟨_, rfl, li_nil _⟩, Below.refl _ _⟩
set_option maxRecDepth 100000 in
set_option maxHeartbeats 1000000 in
theorem rpleft_calls (n : Int) (w : World) : Calls Try.prog 17 #[.int .i64 n] w fun e w' => (∃ v, e = .returned v ∧ LI w' v (leftD n)) ∧ Below w.heap.size w w' := by
  by_cases c : mayP n = true
  · have hD : leftD n = leftL n.toNat := by unfold leftD; rw [if_pos c]
    rw [hD]
    obtain ⟨k, rfl, hk1, hk8⟩ := mayP_nat c
    rw [Int.toNat_natCast]
    clear c hD
    have c1 : ¬ (k : Int) < 1 := by omega
    have c2 : ¬ 8 < (k : Int) := by omega
    go_enter Try.func17, Try.ntmps17
    go_wp2
    go_loopw [3, 4] (fun s3 s4 wr => ∃ (i : Nat), s4 = .int .i64 ((i : Int) + 1) ∧ i + 1 ≤ k ∧ Hid (OwnI wr w.heap.size s3 (leftL (i + 1)) ∧ Below w.heap.size w wr)) (fun _ s4 _ => k - (intOf s4).toNat)
    case atStart => exact ⟨0, rfl, hk1, own_one rfl (Nat.le_refl _), (Below.refl _ _).alloc (Nat.le_refl _) _⟩
    case round =>
      obtain ⟨i, rfl, hi, HR⟩ := hrel
      by_cases hlt : i + 1 < k
      · have hii : (i : Int) + 1 < (k : Int) := by omega
        have hsz := Lib.hid HR.out.2.size
        have hlen : Hid ((leftL (i + 1)).length + 2 ≤ 1000) := by unfold Hid; rw [leftL_len]; omega
        have HB := Lib.hid (fun e (he : u3.ownBlock = some e) => HR.out.1.base e he)
        go_wp2_with (at_builtin; go_must (refine wpList_append_I _ rfl _ _ rfl w.heap.size _ _ [_, _] rfl (HR.out.1.below ((Below.refl _ _).alloc (Nat.le_refl _) _) (Nat.le_refl _)) _ _ _ rfl (li_two (by simp)) hlen.out (by have := hsz.out; simp; omega) ?_; intro v9 w3 hown9 hg9))
        have hBf : Below w.heap.size w w3 := (HR.out.2.alloc hsz.out _).grown hg9 (by have := hsz.out; simp; omega) HB.out
        go_roundw
        case rel => exact ⟨i + 1, by go_num, by omega, by rw [leftL_step]; exact hown9, hBf⟩
        case measure => simp [intOf]; omega
      · have hii : ¬ (i : Int) + 1 < (k : Int) := by omega
        have HO := Lib.hid HR.out.1.li
        obtain rfl : i + 1 = k := by omega
        go_wp2
        go_ret
        exact ⟨⟨_, rfl, HO.out⟩, HR.out.2⟩
  · have hD : leftD n = [] := by unfold leftD; rw [if_neg c]
    rw [hD]
    have c' : n < 1 ∨ 8 < n := by
      unfold mayP at c
      simp only [Bool.and_eq_true, decide_eq_true_eq] at c
      omega
    clear c hD
    rcases c' with c1 | c2
    · go_enter Try.func17, Try.ntmps17
      go_wp2
      go_ret
      exact ⟨⟨_, rfl, li_nil _⟩, Below.refl _ _⟩
    · have c1 : ¬ n < 1 := by omega
      go_enter Try.func17, Try.ntmps17
      go_wp2
      go_ret
      exact ⟨⟨_, rfl, li_nil _⟩, Below.refl _ _⟩
theorem evenF_len : ∀ (f from' n : Nat), 1 ≤ (evenF f from' n).length ∧ (evenF f from' n).length + 1 ≤ 2 ^ (f + 1)
  | 0, from', n => by unfold evenF; simp
  | f + 1, from', n => by
    have h1 := evenF_len f from' ((n + 1) / 2)
    have h2 := evenF_len f (from' + (n + 1) / 2) (n - (n + 1) / 2)
    have h3 : 2 ^ (f + 1 + 1) = 2 ^ (f + 1) + 2 ^ (f + 1) := by rw [Nat.pow_succ]; omega
    unfold evenF
    split
    · simp only [List.length_singleton]; omega
    · rw [List.length_append, List.length_append, List.length_singleton]
      omega
theorem evenF_one (f from' n : Nat) (h : n ≤ 1) : evenF f from' n = [(from' : Int)] := by
  cases f with
  | zero => rfl
  | succ f => unfold evenF; rw [if_pos h]
theorem own_shape {w : World} {B : Nat} {v : Value} {zs : List Int} (h : OwnI w B v zs) (hl : 0 < zs.length) : ∃ ad cap, v = .slice (some ad) zs.length cap := by
  have hown : w.ownsRow B 3 1 v (zs.map (Value.int .i64)).length (zs.map (Value.int .i64)) := h
  rcases hown.2 with ⟨_, h0⟩ | ⟨g, cap, cur, h1, _⟩
  · rw [List.length_map] at h0; omega
  · rw [List.length_map] at h1
    exact ⟨_, cap, h1⟩
set_option maxRecDepth 100000 in
set_option maxHeartbeats 1000000 in
theorem peven_calls : ∀ (f fr n : Nat) (a b : Int) (w : World), f ≤ 6 → a = (fr : Int) → b = (fr : Int) + (n : Int) → 1 ≤ n → n ≤ 2 ^ f → fr + n ≤ 100 →
    Calls Try.prog 36 #[.int .i64 a, .int .i64 b] w fun e w' => (∃ v, e = .returned v ∧ OwnI w' w.heap.size v (evenF f fr n)) ∧ Below w.heap.size w w' := by
  intro f
  induction f with
  | zero =>
    intro fr n a b w hf ha hb h1 h2 h3
    obtain rfl : n = 1 := by simp at h2; omega
    have hba : b - a = 1 := by omega
    have E := Lib.hid (show [(fr : Int)] = evenF 0 fr 1 from rfl)
    subst ha hb
    clear h2
    go_enter Try.func36, Try.ntmps36
    go_wp2
    go_ret
    exact ⟨⟨_, rfl, by rw [← E.out]; exact own_one rfl (Nat.le_refl _)⟩, (Below.refl _ _).alloc (Nat.le_refl _) _⟩
  | succ f ih =>
    intro fr n a b w hf ha hb h1 h2 h3
    by_cases c : n = 1
    · subst c
      have hba : b - a = 1 := by omega
      have E := Lib.hid (show [(fr : Int)] = evenF (f + 1) fr 1 by rw [evenF_one _ _ _ (Nat.le_refl _)])
      subst ha hb
      clear h2 ih
      go_enter Try.func36, Try.ntmps36
      go_wp2
      go_ret
      exact ⟨⟨_, rfl, by rw [← E.out]; exact own_one rfl (Nat.le_refl _)⟩, (Below.refl _ _).alloc (Nat.le_refl _) _⟩
    · have h2' : n ≤ 2 * 2 ^ f := by rw [Nat.pow_succ] at h2; omega
      have hne : (b - a == 1) = false := beq_eq_false_iff_ne.2 (by omega)
      have E := Lib.hid (show evenF (f + 1) fr n = evenF f fr ((n + 1) / 2) ++ evenF f (fr + (n + 1) / 2) (n - (n + 1) / 2) ++ [-1] by rw [evenF]; rw [if_neg (by omega)])
      have IA := Lib.hid (fun x y (hx : x = (fr : Int)) (hy : y = ((fr + (n + 1) / 2 : Nat) : Int)) w => ih fr ((n + 1) / 2) x y w (by omega) hx (by omega) (by omega) (by omega) (by omega))
      have IB := Lib.hid (fun x y (hx : x = ((fr + (n + 1) / 2 : Nat) : Int)) (hy : y = (fr : Int) + (n : Int)) w => ih (fr + (n + 1) / 2) (n - (n + 1) / 2) x y w (by omega) (by omega) (by omega) (by omega) (by omega) (by omega))
      have L1 := Lib.hid (evenF_len f fr ((n + 1) / 2))
      have L2 := Lib.hid (evenF_len f (fr + (n + 1) / 2) (n - (n + 1) / 2))
      have hpw : Hid (2 ^ (f + 1) ≤ 2 ^ 6 * 2) := Nat.le_trans (Nat.pow_le_pow_right (by decide) (by omega : f + 1 ≤ 7)) (by decide)
      subst ha hb
      clear h2 h2' ih
      generalize evenF f fr ((n + 1) / 2) = l1 at *
      generalize evenF f (fr + (n + 1) / 2) (n - (n + 1) / 2) = l2 at *
      go_enter Try.func36, Try.ntmps36
      go_wp2_with (first
        | (go_at_call_of 36 (Value.int .i64 (fr : Int)); go_must (refine (IA.out _ _ rfl (by omega) _).mono ?_; rintro e w1 ⟨⟨v1, rfl, hv1⟩, hb1⟩; have HV1 := Lib.hid hv1; have HB1 := Lib.hid hb1; clear hv1 hb1))
        | (go_at_call 36; go_must (refine (IB.out _ _ (by omega) rfl _).mono ?_; rintro e w2 ⟨⟨v2, rfl, hv2⟩, hb2⟩; obtain ⟨ad2, cp2, rfl⟩ := own_shape hv2 (by have := L2.out; omega); have HV2 := Lib.hid hv2; have HB2 := Lib.hid hb2; clear hv2 hb2))
        | (at_builtin; refine wpList_append_I _ rfl _ _ rfl w.heap.size v1 l1 l2 rfl (HV1.out.below HB2.out (Nat.le_refl _)) _ _ _ rfl HV2.out.li (by have := L1.out.2; have := L2.out.2; have := hpw.out; omega) (by have := HB1.out.size; have := HB2.out.size; omega) ?_; intro v9 w3 hown9 hg9)
        | (at_builtin; go_must (refine wpList_append_I _ rfl _ _ rfl w.heap.size v9 (l1 ++ l2) [-1] rfl (hown9.below ((Below.refl _ _).alloc (Nat.le_refl _) _) (Nat.le_refl _)) _ _ _ rfl (li_one' rfl) (by rw [List.length_append]; have := L1.out.2; have := L2.out.2; have := hpw.out; simp; omega) (by have := HB1.out.size; have := HB2.out.size; have := hg9.size; simp; omega) ?_; intro v8 w4 hown8 hg8)))
      have hB3 : Below w.heap.size w w3 := (HB1.out.trans (HB2.out.mono HB1.out.size)).grown hg9 (by have := HB1.out.size; have := HB2.out.size; omega) (fun e he => HV1.out.base e he)
      have hB4 : Below w.heap.size w w4 := (hB3.alloc hB3.size _).grown hg8 (by have := hB3.size; simp; omega) (fun e he => hown9.base e he)
      go_ret
      exact ⟨⟨_, rfl, by rw [E.out]; exact hown8⟩, hB4⟩
set_option maxRecDepth 100000 in
set_option maxHeartbeats 1000000 in
theorem rpeven_calls : ∀ (f fr n : Nat) (a b : Int) (w : World), f ≤ 6 → a = (fr : Int) → b = (n : Int) → 1 ≤ n → n ≤ 2 ^ f → fr + n ≤ 100 →
    Calls Try.prog 37 #[.int .i64 a, .int .i64 b] w fun e w' => (∃ v, e = .returned v ∧ OwnI w' w.heap.size v (evenF f fr n)) ∧ Below w.heap.size w w' := by
  intro f
  induction f with
  | zero =>
    intro fr n a b w hf ha hb h1 h2 h3
    obtain rfl : n = 1 := by simp at h2; omega
    have E := Lib.hid (show [(fr : Int)] = evenF 0 fr 1 from rfl)
    subst ha hb
    clear h2
    go_enter Try.func37, Try.ntmps37
    go_wp2
    go_ret
    exact ⟨⟨_, rfl, by rw [← E.out]; exact own_one rfl (Nat.le_refl _)⟩, (Below.refl _ _).alloc (Nat.le_refl _) _⟩
  | succ f ih =>
    intro fr n a b w hf ha hb h1 h2 h3
    by_cases c : n = 1
    · subst c
      subst ha hb
      have E := Lib.hid (show [(fr : Int)] = evenF (f + 1) fr 1 by rw [evenF_one _ _ _ (Nat.le_refl _)])
      clear h2 ih
      go_enter Try.func37, Try.ntmps37
      go_wp2
      go_ret
      exact ⟨⟨_, rfl, by rw [← E.out]; exact own_one rfl (Nat.le_refl _)⟩, (Below.refl _ _).alloc (Nat.le_refl _) _⟩
    · have h2' : n ≤ 2 * 2 ^ f := by rw [Nat.pow_succ] at h2; omega
      have hne : ¬ (n : Int) ≤ 1 := by omega
      have E := Lib.hid (show evenF (f + 1) fr n = evenF f fr ((n + 1) / 2) ++ evenF f (fr + (n + 1) / 2) (n - (n + 1) / 2) ++ [-1] by rw [evenF]; rw [if_neg (by omega)])
      have IA := Lib.hid (fun x y (hx : x = (fr : Int)) (hy : y = (((n + 1) / 2 : Nat) : Int)) w => ih fr ((n + 1) / 2) x y w (by omega) hx hy (by omega) (by omega) (by omega))
      have IB := Lib.hid (fun x y (hx : x = ((fr + (n + 1) / 2 : Nat) : Int)) (hy : y = ((n - (n + 1) / 2 : Nat) : Int)) w => ih (fr + (n + 1) / 2) (n - (n + 1) / 2) x y w (by omega) hx hy (by omega) (by omega) (by omega))
      have L1 := Lib.hid (evenF_len f fr ((n + 1) / 2))
      have L2 := Lib.hid (evenF_len f (fr + (n + 1) / 2) (n - (n + 1) / 2))
      have hpw : Hid (2 ^ (f + 1) ≤ 2 ^ 6 * 2) := Nat.le_trans (Nat.pow_le_pow_right (by decide) (by omega : f + 1 ≤ 7)) (by decide)
      subst ha hb
      clear h2 h2' ih
      generalize evenF f fr ((n + 1) / 2) = l1 at *
      generalize evenF f (fr + (n + 1) / 2) (n - (n + 1) / 2) = l2 at *
      go_enter Try.func37, Try.ntmps37
      go_wp2_with (first
        | (go_at_call_of 37 (Value.int .i64 (fr : Int)); go_must (refine (IA.out _ _ rfl (by omega) _).mono ?_; rintro e w1 ⟨⟨v1, rfl, hv1⟩, hb1⟩; have HV1 := Lib.hid hv1; have HB1 := Lib.hid hb1; clear hv1 hb1))
        | (go_at_call 37; go_must (refine (IB.out _ _ (by omega) (by omega) _).mono ?_; rintro e w2 ⟨⟨v2, rfl, hv2⟩, hb2⟩; obtain ⟨ad2, cp2, rfl⟩ := own_shape hv2 (by have := L2.out; omega); have HV2 := Lib.hid hv2; have HB2 := Lib.hid hb2; clear hv2 hb2))
        | (at_builtin; refine wpList_append_I _ rfl _ _ rfl w.heap.size v1 l1 l2 rfl (HV1.out.below HB2.out (Nat.le_refl _)) _ _ _ rfl HV2.out.li (by have := L1.out.2; have := L2.out.2; have := hpw.out; omega) (by have := HB1.out.size; have := HB2.out.size; omega) ?_; intro v9 w3 hown9 hg9)
        | (at_builtin; go_must (refine wpList_append_I _ rfl _ _ rfl w.heap.size v9 (l1 ++ l2) [-1] rfl (hown9.below ((Below.refl _ _).alloc (Nat.le_refl _) _) (Nat.le_refl _)) _ _ _ rfl (li_one' rfl) (by rw [List.length_append]; have := L1.out.2; have := L2.out.2; have := hpw.out; simp; omega) (by have := HB1.out.size; have := HB2.out.size; have := hg9.size; simp; omega) ?_; intro v8 w4 hown8 hg8)))
      have hB3 : Below w.heap.size w w3 := (HB1.out.trans (HB2.out.mono HB1.out.size)).grown hg9 (by have := HB1.out.size; have := HB2.out.size; omega) (fun e he => HV1.out.base e he)
      have hB4 : Below w.heap.size w w4 := (hB3.alloc hB3.size _).grown hg8 (by have := hB3.size; simp; omega) (fun e he => hown9.base e he)
      go_ret
      exact ⟨⟨_, rfl, by rw [E.out]; exact hown8⟩, hB4⟩
set_option maxRecDepth 100000 in
theorem pEven_calls (n : Int) (w : World) : Calls Try.prog 20 #[.int .i64 n] w fun e w' => (∃ v, e = .returned v ∧ LI w' v (evenD n)) ∧ Below w.heap.size w w' := by
  have HM := Lib.hid (fun w => pmay_calls n w)
  by_cases c : mayP n = true
  · have hD : evenD n = evenF 4 0 n.toNat := by unfold evenD; rw [if_pos c]
    rw [hD]
    rw [c] at HM
    obtain ⟨k, rfl, hk1, hk8⟩ := mayP_nat c
    rw [Int.toNat_natCast]
    have HE := Lib.hid (fun w => peven_calls 4 0 k 0 k w (by decide) rfl (by simp) hk1 (by omega) (by omega))
    clear c hD
    generalize evenF 4 0 k = l at *
    go_enter Try.func20, Try.ntmps20
    go_wp2_with (first | (go_at_call 34; refine (HM.out _).mono ?_; rintro e w1 ⟨rfl, rfl⟩) | (go_at_call 36; refine (HE.out _).mono ?_; rintro e w1 ⟨⟨v, rfl, hv⟩, hb⟩))
    go_ret
    exact ⟨⟨_, rfl, hv.li⟩, hb⟩
  · have hD : evenD n = [] := by unfold evenD; rw [if_neg c]
    rw [hD]
    rw [Bool.eq_false_iff.2 c] at HM
    clear c hD
    go_enter Try.func20, Try.ntmps20
    go_wp2_with (go_at_call 34; refine (HM.out _).mono ?_; rintro e w1 ⟨rfl, rfl⟩)
    go_ret
    exact ⟨⟨_, rfl, li_nil _⟩, Below.refl _ _⟩
theorem mayP_not {n : Int} (c : ¬ mayP n = true) : n < 1 ∨ (¬ n < 1 ∧ 8 < n) := by
  unfold mayP at c
  simp only [Bool.and_eq_true, decide_eq_true_eq] at c
  omega
set_option maxRecDepth 100000 in
theorem rpEven_calls (n : Int) (w : World) : Calls Try.prog 21 #[.int .i64 n] w fun e w' => (∃ v, e = .returned v ∧ LI w' v (evenD n)) ∧ Below w.heap.size w w' := by
  by_cases c : mayP n = true
  · have hD : evenD n = evenF 4 0 n.toNat := by unfold evenD; rw [if_pos c]
    rw [hD]
    obtain ⟨k, rfl, hk1, hk8⟩ := mayP_nat c
    rw [Int.toNat_natCast]
    have HE := Lib.hid (fun w => rpeven_calls 4 0 k 0 k w (by decide) rfl rfl hk1 (by omega) (by omega))
    clear c hD
    have c1 : ¬ (k : Int) < 1 := by omega
    have c2 : ¬ 8 < (k : Int) := by omega
    generalize evenF 4 0 k = l at *
    go_enter Try.func21, Try.ntmps21
    go_wp2_with (go_at_call 37; refine (HE.out _).mono ?_; rintro e w1 ⟨⟨v, rfl, hv⟩, hb⟩)
    go_ret
    exact ⟨⟨_, rfl, hv.li⟩, hb⟩
  · have hD : evenD n = [] := by unfold evenD; rw [if_neg c]
    rw [hD]
    rcases mayP_not c with c1 | ⟨c1, c2⟩
    all_goals
      clear c hD
      go_enter Try.func21, Try.ntmps21
      go_wp2
      go_ret
      exact ⟨⟨_, rfl, li_nil _⟩, Below.refl _ _⟩
end Go.Proofs.Ytgmaljikjkbdlaa
namespace Go.Proofs.Ytgmaljikjkbdlaa
open Go.RowKit Lv Go.Shelf
attribute [local go_sem] Oper.semAt_some

set_option maxRecDepth 100000 in
theorem bmul64_calls (c : Nat) (hc : c ≤ 7) (w : World) : Calls Try.prog 72 #[.int .u64 1, .int .u64 (c : Int)] w fun e w' => e = .returned (.tuple #[.int .u64 0, .int .u64 (c : Int)]) ∧ w = w' := by
  have hcs : c = 0 ∨ c = 1 ∨ c = 2 ∨ c = 3 ∨ c = 4 ∨ c = 5 ∨ c = 6 ∨ c = 7 := by omega
  rcases hcs with rfl | rfl | rfl | rfl | rfl | rfl | rfl | rfl
  all_goals
    go_enter Try.func72, Try.ntmps72
    go_wp2
    go_ret2
    exact ⟨rfl, rfl⟩
set_option maxRecDepth 100000 in
theorem bmul_calls (c : Nat) (hc : c ≤ 7) (w : World) : Calls Try.prog 58 #[.int .u64 1, .int .u64 (c : Int)] w fun e w' => e = .returned (.tuple #[.int .u64 0, .int .u64 (c : Int)]) ∧ w = w' := by
  have HM := Lib.hid (bmul64_calls c hc w)
  go_enter Try.func58, Try.ntmps58
  go_wp2_with (go_at_call 72; refine HM.out.mono ?_; rintro e w1 ⟨rfl, rfl⟩)
  go_ret2
  exact ⟨rfl, rfl⟩
/-- copy of ints into what is one's own: all that fits -/
theorem run_copy_I (w : World) (B g n cap off : Nat) (xs ys : List Int) (hown : OwnI w B (.slice (some ⟨g, 0, none⟩) n cap) xs) (dl dc : Nat) (ad : Addr) (m c : Nat) (hy : LI w (.slice (some ad) m c) ys) (hfit : off + dl = n) :
    ∃ w', (Builtin.copy_ #[22, 22] 3 #[.slice (some ⟨g, off, none⟩) dl dc, .slice (some ad) m c]).run Try.prog w = .ok (.int .i64 ((min m dl : Nat) : Int)) w' ∧ OwnI w' B (.slice (some ⟨g, 0, none⟩) n cap) (splice xs off (ys.take dl)) ∧ Below g w w' := by
  have hm := hy.len.1
  have hnl : xs.length = n := (LI.len hown.li).1
  have ho : w.ownsRow B 3 1 (.slice (some ⟨g, 0, none⟩) n cap) (xs.map (Value.int .i64)).length (xs.map (Value.int .i64)) := hown
  rcases ho.2 with ⟨h, _⟩ | ⟨g', cap', cur, e1, h2, h3, h4, h5, h6, h7⟩
  · simp at h
  · simp only [Value.slice.injEq, Option.some.injEq, Addr.mk.injEq, and_true] at e1
    obtain ⟨rfl, e2, rfl⟩ := e1
    rw [List.length_map] at h4 h7
    have h6' : cur.toList.length = cap := by rw [Array.length_toList]; omega
    rw [Nat.mul_one] at h7
    have hul : ((ys.take dl).map (Value.int .i64)).length = min m dl := by rw [List.length_map, List.length_take, hm]; omega
    have hrun := run_copy_row (P := Try.prog) w 22 22 3 3 g off dl dc ad m c cur 3 ((ys.take dl).map (Value.int .i64)) Try.underlying22 (by kernel_rfl) h3 (hul.trans rfl) (by
      intro j u hu
      have hj : j < min m dl := by rw [← hul]; exact (List.getElem?_eq_some_iff.1 hu).1
      obtain ⟨blk, o2, e3, hc⟩ := Cel.at hy (by omega)
      cases e3
      rw [show (⟨blk, o2, none⟩ : Addr).add j = ⟨blk, o2 + j, none⟩ by unfold Addr.add; by_cases e : j = 0 <;> simp [e]]
      rw [hc j (by omega)]
      rw [← hu, List.map_take, List.getElem?_take_of_lt (by omega)]) (by rw [hul]; omega) (by
      intro u hu
      obtain ⟨z, _, rfl⟩ := List.mem_map.1 hu
      rfl)
    rw [hul] at hrun
    refine ⟨_, hrun, ?_, below_setRow (Below.refl _ _) (Nat.le_refl _) _⟩
    have hls : (splice xs off (ys.take dl)).length = n := by rw [length_splice _ _ _ (by rw [List.length_take, hm, hnl]; omega), hnl]
    have hsp : (splice xs off (ys.take dl)).map (Value.int .i64) = splice (xs.map (Value.int .i64)) off ((ys.take dl).map (Value.int .i64)) := by
      unfold splice
      rw [List.length_map]
      simp only [List.map_append, List.map_take, List.map_drop]
    unfold OwnI OwnC
    rw [List.length_map, hls, hsp]
    refine ⟨?_, .inr ⟨g, cap, _, by rw [← hnl], h2, setRow_heap w g _ _ _ _ h3, by omega, h5, ?_, ?_⟩⟩
    · rw [length_splice _ _ _ (by rw [hul, List.length_map]; omega), List.length_map]; omega
    · simp only [List.size_toArray]
      have := length_splice cur.toList off ((ys.take dl).map (Value.int .i64)) (by rw [h6', hul]; omega)
      unfold splice at this
      rw [hul] at this
      rw [List.append_assoc, this, h6']
      omega
    · rw [Nat.mul_one]
      have := splice_take cur.toList ((ys.take dl).map (Value.int .i64)) off n (by rw [hul]; omega) (by rw [h6']; omega)
      unfold splice at this ⊢
      rw [hul] at this ⊢
      show (cur.toList.take off ++ _ ++ _).take n = _
      rw [List.append_assoc, this, show cur.toList.take n = xs.map (Value.int .i64) by rw [← hnl]; exact h7]
theorem rep_first : ∀ c, c ≤ 7 → splice (List.replicate c (0 : Int)) 0 ([-1].take c) = List.replicate (min 1 c) (-1) ++ List.replicate (c - min 1 c) 0 := by decide
theorem rep_step : ∀ c m, c ≤ 7 → m ≤ c → splice (List.replicate m (-1) ++ List.replicate (c - m) (0 : Int)) m ((List.replicate m (-1)).take (c - m)) = List.replicate (m + min m (c - m)) (-1) ++ List.replicate (c - (m + min m (c - m))) 0 := by
  intro c m hc hm
  have : ∀ c, c ≤ 7 → ∀ m, m ≤ c → splice (List.replicate m (-1) ++ List.replicate (c - m) (0 : Int)) m ((List.replicate m (-1)).take (c - m)) = List.replicate (m + min m (c - m)) (-1) ++ List.replicate (c - (m + min m (c - m))) 0 := by decide
  exact this c hc m hm
set_option maxRecDepth 100000 in
set_option maxHeartbeats 1000000 in
theorem repI_calls (c : Nat) (hc : c ≤ 7) (ad : Addr) (cp : Nat) (w : World) (h : LI w (.slice (some ad) 1 cp) [-1]) :
    Calls Try.prog 35 #[.slice (some ad) 1 cp, .int .i64 (c : Int)] w fun e w' => (∃ ad' cp', e = .returned (.slice (some ad') c cp') ∧ LI w' (.slice (some ad') c cp') (List.replicate c (-1))) ∧ Below w.heap.size w w' := by
  have H := Lib.hid h
  have HM := Lib.hid (fun w => bmul_calls c hc w)
  obtain ⟨i0, hin, hz0, hz1, hz2⟩ := info_parts infoI
  have hmk := fun W => run_make (P := Try.prog) W 22 3 i0 _ Try.underlying22 hin hz0 .i64 .i64 (c : Int) (c : Int) (by omega) (by omega) (by rw [hz2]; omega) (by omega)
  rw [hz1] at hmk
  have HO := Lib.hid (show OwnI (w.alloc (.cells (madeCells #[.int .i64 0] c) 3)) w.heap.size (.slice (some ⟨w.heap.size, 0, none⟩) c c) (List.replicate c 0) from by
    refine ⟨by simp, .inr ⟨w.heap.size, c, madeCells #[.int .i64 0] c, by simp, Nat.le_refl _, World.alloc_heap_new w _, by simp, by unfold maxLen; omega, by rw [size_madeCells]; omega, ?_⟩⟩
    rw [toList_madeCells_one]; simp)
  have hcn : ¬ (c : Int) < 0 := by omega
  have hc2 : ¬ (9223372036854775807 : Int) < (c : Int) := by omega
  clear h
  obtain ⟨w2, hr2, hown2, hb2⟩ := run_copy_I (w.alloc (.cells (madeCells #[.int .i64 0] c) 3)) w.heap.size w.heap.size c c 0 (List.replicate c 0) [-1] HO.out c c ad 1 cp (H.out.below ((Below.refl _ _).alloc (Nat.le_refl _) _)) (by omega)
  go_enter Try.func35, Try.ntmps35
  go_wp2_with (go_at_call 58; refine (HM.out _).mono ?_; rintro e w1 ⟨rfl, rfl⟩)
  clear hr2
  have hsp := rep_first c hc
  rw [hsp] at hown2
  have HB2 := Lib.hid (((Below.refl w.heap.size w).alloc (Nat.le_refl _) (.cells (madeCells #[.int .i64 0] c) 3)).trans hb2)
  have HI2 := Lib.hid hown2
  clear hsp hown2 hb2
  go_loopw [8] (fun s8 wr => ∃ (m : Nat), s8 = .int .i64 (m : Int) ∧ m ≤ c ∧ (1 ≤ c → 1 ≤ m) ∧ Hid (OwnI wr w.heap.size (.slice (some ⟨w.heap.size, 0, none⟩) c c) (List.replicate m (-1) ++ List.replicate (c - m) 0) ∧ Below w.heap.size w wr)) (fun s8 _ => c - (intOf s8).toNat)
  case atStart => exact ⟨min 1 c, by simp, by omega, by omega, HI2.out, HB2.out⟩
  case round =>
    obtain ⟨m, rfl, hm, hm1, HR⟩ := hrel
    by_cases hlt : m < c
    · have hii : (m : Int) < (c : Int) := by omega
      have hm0 : 1 ≤ m := hm1 (by omega)
      have HT := Lib.hid (show LI wr (.slice (some ⟨w.heap.size, 0, none⟩) m c) (List.replicate m (-1)) by
        have := HR.out.1.li.take (i := m) hm
        rw [List.take_append_of_le_length (by simp), List.take_of_length_le (by simp)] at this
        exact this)
      have HS := Lib.hid (rep_step c m hc hm)
      obtain ⟨w3, hr3, hown3, hb3⟩ := run_copy_I wr.drew w.heap.size w.heap.size c c m _ _ (HR.out.1.below ((Below.refl _ _).drew) (Nat.le_refl _)) (c - m) (c - m) _ m c (HT.out.below (Below.refl _ _).drew) (by omega)
      rw [HS.out] at hown3
      go_wp2
      go_region
      go_wp2
      go_roundw
      case rel => exact ⟨m + min m (c - m), by simp, by omega, by omega, hown3, HR.out.2.drew.trans hb3⟩
      case measure => simp [intOf]; omega
    · have hii : ¬ (m : Int) < (c : Int) := by omega
      obtain rfl : m = c := by omega
      have HO2 := Lib.hid HR.out.1.li
      rw [Nat.sub_self, List.replicate_zero, List.append_nil] at HO2
      go_wp2
      go_ret
      exact ⟨⟨_, _, rfl, HO2.out⟩, HR.out.2⟩
theorem rightL_split (n : Nat) : rightL n = (List.range n).map (fun (i : Nat) => (i : Int)) ++ List.replicate (n - 1) (-1) := rfl
theorem range_snoc (i : Nat) : (List.range (i + 1)).map (fun (i : Nat) => (i : Int)) = (List.range i).map (fun (i : Nat) => (i : Int)) ++ [(i : Int)] := by rw [List.range_succ, List.map_append]; rfl
set_option maxRecDepth 100000 in
set_option maxHeartbeats 1000000 in
theorem pright_calls (n : Int) (w : World) : Calls Try.prog 18 #[.int .i64 n] w fun e w' => (∃ v, e = .returned v ∧ LI w' v (rightD n)) ∧ Below w.heap.size w w' := by
  have HM := Lib.hid (fun w => pmay_calls n w)
  by_cases c : mayP n = true
  · have hD : rightD n = rightL n.toNat := by unfold rightD; rw [if_pos c]
    rw [hD]
    rw [c] at HM
    obtain ⟨k, rfl, hk1, hk8⟩ := mayP_nat c
    rw [Int.toNat_natCast]
    have HRP := Lib.hid (fun x (hx : x = ((k - 1 : Nat) : Int)) ad cp w (h : LI w (.slice (some ad) 1 cp) [-1]) => (by subst hx; exact repI_calls (k - 1) (by omega) ad cp w h : Calls Try.prog 35 #[.slice (some ad) 1 cp, .int .i64 x] w fun e w' => (∃ ad' cp', e = .returned (.slice (some ad') (k - 1) cp') ∧ LI w' (.slice (some ad') (k - 1) cp') (List.replicate (k - 1) (-1))) ∧ Below w.heap.size w w'))
    clear c hD
    go_enter Try.func18, Try.ntmps18
    go_wp2_with (go_at_call 34; refine (HM.out _).mono ?_; rintro e w1 ⟨rfl, rfl⟩)
    go_loopw [3, 9] (fun s3 s9 wr => ∃ (i : Nat), s9 = .int .i64 (i : Int) ∧ i ≤ k ∧ Hid (OwnI wr w.heap.size s3 ((List.range i).map (fun (i : Nat) => (i : Int))) ∧ Below w.heap.size w wr)) (fun _ s9 _ => k - (intOf s9).toNat)
    case atStart => exact ⟨0, rfl, Nat.zero_le _, ownI_nil _ _, Below.refl _ _⟩
    case round =>
      obtain ⟨i, rfl, hi, HR⟩ := hrel
      have hsz := Lib.hid HR.out.2.size
      have HB := Lib.hid (fun e (he : u3.ownBlock = some e) => HR.out.1.base e he)
      have hlen : Hid (((List.range i).map (fun (i : Nat) => (i : Int))).length = i) := by unfold Hid; simp
      by_cases hlt : i < k
      · have hii : (i : Int) < (k : Int) := by omega
        go_wp2_with (at_builtin; go_must (refine wpList_append_I _ rfl _ _ rfl w.heap.size _ _ [_] rfl (HR.out.1.below ((Below.refl _ _).alloc (Nat.le_refl _) _) (Nat.le_refl _)) _ _ _ rfl (li_one' (by simp)) (by rw [hlen.out]; simp; omega) (by have := hsz.out; simp; omega) ?_; intro v9 w3 hown9 hg9))
        have hBf : Below w.heap.size w w3 := (HR.out.2.alloc hsz.out _).grown hg9 (by have := hsz.out; simp; omega) HB.out
        go_roundw
        case rel => exact ⟨i + 1, by go_num, by omega, by rw [range_snoc]; exact hown9, hBf⟩
        case measure => simp [intOf]; omega
      · have hii : ¬ (i : Int) < (k : Int) := by omega
        obtain rfl : i = k := by omega
        go_wp2_with (first
          | (go_at_call 35; go_must (refine (HRP.out _ (by omega) _ _ _ (li_one' rfl)).mono ?_; rintro e w2 ⟨⟨ad2, cp2, rfl, hl2⟩, hb2⟩; have HL2 := Lib.hid hl2; have HB2 := Lib.hid hb2; clear hl2 hb2))
          | (at_builtin; go_must (refine wpList_append_I _ rfl _ _ rfl w.heap.size _ _ _ rfl ((HR.out.1.below ((Below.refl _ _).alloc (Nat.le_refl _) _) (Nat.le_refl _)).below HB2.out (Nat.le_refl _)) _ _ _ rfl HL2.out (by rw [hlen.out, List.length_replicate]; omega) (by have := hsz.out; have := HB2.out.size; simp at this; omega) ?_; intro v9 w3 hown9 hg9)))
        have hBf : Below w.heap.size w w3 := ((HR.out.2.alloc hsz.out _).trans (HB2.out.mono (by have := hsz.out; simp; omega))).grown hg9 (by have := hsz.out; have := HB2.out.size; simp at this; omega) HB.out
        go_ret
        exact ⟨⟨_, rfl, hown9.li⟩, hBf⟩
  · have hD : rightD n = [] := by unfold rightD; rw [if_neg c]
    rw [hD]
    rw [Bool.eq_false_iff.2 c] at HM
    clear c hD
    go_enter Try.func18, Try.ntmps18
    go_wp2_with (go_at_call 34; refine (HM.out _).mono ?_; rintro e w1 ⟨rfl, rfl⟩)
    go_ret
    exact ⟨⟨_, rfl, li_nil _⟩, Below.refl _ _⟩
theorem rep_snoc (j : Nat) : List.replicate (j + 1) (-1 : Int) = List.replicate j (-1) ++ [-1] := List.replicate_succ'
set_option maxRecDepth 100000 in
set_option maxHeartbeats 1000000 in
theorem rpright_calls (n : Int) (w : World) : Calls Try.prog 19 #[.int .i64 n] w fun e w' => (∃ v, e = .returned v ∧ LI w' v (rightD n)) ∧ Below w.heap.size w w' := by
  by_cases c : mayP n = true
  · have hD : rightD n = rightL n.toNat := by unfold rightD; rw [if_pos c]
    rw [hD]
    obtain ⟨k, rfl, hk1, hk8⟩ := mayP_nat c
    rw [Int.toNat_natCast]
    have c1 : ¬ (k : Int) < 1 := by omega
    have c2 : ¬ 8 < (k : Int) := by omega
    clear c hD
    go_enter Try.func19, Try.ntmps19
    go_wp2
    go_loopw [3, 4] (fun s3 s4 wr => ∃ (i : Nat), s4 = .int .i64 (i : Int) ∧ i ≤ k ∧ Hid (OwnI wr w.heap.size s3 ((List.range i).map (fun (i : Nat) => (i : Int))) ∧ Below w.heap.size w wr)) (fun _ s4 _ => k - (intOf s4).toNat)
    case atStart => exact ⟨0, rfl, Nat.zero_le _, ownI_nil _ _, Below.refl _ _⟩
    case round =>
      obtain ⟨i, rfl, hi, HR⟩ := hrel
      have hsz := Lib.hid HR.out.2.size
      have HB := Lib.hid (fun e (he : u3.ownBlock = some e) => HR.out.1.base e he)
      have hlen : Hid (((List.range i).map (fun (i : Nat) => (i : Int))).length = i) := by unfold Hid; simp
      by_cases hlt : i < k
      · have hii : (i : Int) < (k : Int) := by omega
        go_wp2_with (at_builtin; go_must (refine wpList_append_I _ rfl _ _ rfl w.heap.size _ _ [_] rfl (HR.out.1.below ((Below.refl _ _).alloc (Nat.le_refl _) _) (Nat.le_refl _)) _ _ _ rfl (li_one' (by simp)) (by rw [hlen.out]; simp; omega) (by have := hsz.out; simp; omega) ?_; intro v9 w3 hown9 hg9))
        have hBf : Below w.heap.size w w3 := (HR.out.2.alloc hsz.out _).grown hg9 (by have := hsz.out; simp; omega) HB.out
        go_roundw
        case rel => exact ⟨i + 1, by go_num, by omega, by rw [range_snoc]; exact hown9, hBf⟩
        case measure => simp [intOf]; omega
      · have hii : ¬ (i : Int) < (k : Int) := by omega
        obtain rfl : i = k := by omega
        have HI := Lib.hid HR.out
        clear HR hsz HB
        go_wp2
        go_loopw [3, 5] (fun s3 s5 wr => ∃ (j : Nat), s5 = .int .i64 ((j : Int) + 1) ∧ j + 1 ≤ i ∧ Hid (OwnI wr w.heap.size s3 ((List.range i).map (fun (i : Nat) => (i : Int)) ++ List.replicate j (-1)) ∧ Below w.heap.size w wr)) (fun _ s5 _ => i - (intOf s5).toNat)
        case atStart => exact ⟨0, rfl, hk1, by rw [List.replicate_zero, List.append_nil]; exact HI.out.1, HI.out.2⟩
        case round =>
          obtain ⟨j, rfl, hj, HR⟩ := hrel
          have hsz := Lib.hid HR.out.2.size
          have HB := Lib.hid (fun e (he : u3.ownBlock = some e) => HR.out.1.base e he)
          have hlen2 : Hid (((List.range i).map (fun (i : Nat) => (i : Int)) ++ List.replicate j (-1)).length = i + j) := by unfold Hid; simp
          by_cases hlt2 : j + 1 < i
          · have hii2 : (j : Int) + 1 < (i : Int) := by omega
            go_wp2_with (at_builtin; go_must (refine wpList_append_I _ rfl _ _ rfl w.heap.size _ _ [_] rfl (HR.out.1.below ((Below.refl _ _).alloc (Nat.le_refl _) _) (Nat.le_refl _)) _ _ _ rfl (li_one' (by simp)) (by rw [hlen2.out]; simp; omega) (by have := hsz.out; simp; omega) ?_; intro v9 w3 hown9 hg9))
            have hBf : Below w.heap.size w w3 := (HR.out.2.alloc hsz.out _).grown hg9 (by have := hsz.out; simp; omega) HB.out
            go_roundw
            case rel => exact ⟨j + 1, by go_num, by omega, by rw [rep_snoc, ← List.append_assoc]; exact hown9, hBf⟩
            case measure => simp [intOf]; omega
          · have hii2 : ¬ (j : Int) + 1 < (i : Int) := by omega
            have HO := Lib.hid HR.out.1.li
            rw [show j = i - 1 by omega] at HO
            obtain rfl : j + 1 = i := by omega
            go_wp2
            go_ret
            exact ⟨⟨_, rfl, HO.out⟩, HR.out.2⟩
  · have hD : rightD n = [] := by unfold rightD; rw [if_neg c]
    rw [hD]
    rcases mayP_not c with c1 | ⟨c1, c2⟩
    all_goals
      clear c hD
      go_enter Try.func19, Try.ntmps19
      go_wp2
      go_ret
      exact ⟨⟨_, rfl, li_nil _⟩, Below.refl _ _⟩
end Go.Proofs.Ytgmaljikjkbdlaa
