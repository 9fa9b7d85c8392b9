/- Solving, plainly; what stands below it (products taken off, a list of numbers, a zero on the diagonal), walked. Below solving, walked: a list of numbers, a zero on the diagonal, a factor's square part. A factor's square part and its last column, walked. solve.Back, walked: rows gone through backward. -/
import Derived.Test.YtnboegeljaplbaaGreatMb
import Derived.Test.YtnboegeljaplbaaGreatMh
import Derived.Deep.CutRange
import Derived.Test.YtnboegeljaplbaaGreatSk
import Derived.Test.YtnboegeljaplbaaGreatRe
import Derived.Deep.OwnRows
import Derived.Stop.RegionWithIn
namespace Go.Proofs.YtnboegeljaplbaaGreat
open Go.RowKit Lv Go.Shelf
open Ieee (double Format Datum Toward)
attribute [local go_sem] run_store_float drewN_alloc drewN_setCell run_addF run_subF run_mulF run_quoF

/-- products taken off, one by one -/
def lessF (s : Option Nat) (a b : Nat → Option Nat) : Nat → Option Nat
  | 0 => s
  | k + 1 => fsub (lessF s a b k) (fmul (a k) (b k))
theorem lessF_congr {s : Option Nat} {a b a' b' : Nat → Option Nat} : ∀ n, (∀ k, k < n → a k = a' k) → (∀ k, k < n → b k = b' k) → lessF s a b n = lessF s a' b' n
  | 0, _, _ => rfl
  | n + 1, h1, h2 => by
    unfold lessF
    rw [lessF_congr n (fun k hk => h1 k (by omega)) (fun k hk => h2 k (by omega)), h1 n (by omega), h2 n (by omega)]
/-- a factor's entry, row i, column k -/
def ent (xs : List (Option Nat)) (c i k : Nat) : Option Nat := (lineP xs c i).getD k none
/-- the last n answers -/
def backT (xs : List (Option Nat)) (c : Nat) : Nat → List (Option Nat)
  | 0 => []
  | n + 1 => fdiv (lessF (ent xs c (c - (n + 1)) c) (fun k => ent xs c (c - (n + 1)) (c - (n + 1) + 1 + k)) (fun k => (backT xs c n).getD k none) n) (ent xs c (c - (n + 1)) (c - (n + 1))) :: backT xs c n
theorem backT_len (xs : List (Option Nat)) (c : Nat) : ∀ n, (backT xs c n).length = n
  | 0 => rfl
  | n + 1 => by unfold backT; rw [List.length_cons, backT_len xs c n]
/-- the first n answers, forward -/
def forwT (xs : List (Option Nat)) (c : Nat) (vs : List (Option Nat)) : Nat → List (Option Nat)
  | 0 => []
  | n + 1 => forwT xs c vs n ++ [fdiv (lessF (vs.getD n none) (fun k => ent xs c k n) (fun k => (forwT xs c vs n).getD k none) n) (ent xs c n n)]
theorem forwT_len (xs : List (Option Nat)) (c : Nat) (vs : List (Option Nat)) : ∀ n, (forwT xs c vs n).length = n
  | 0 => rfl
  | n + 1 => by unfold forwT; rw [List.length_append, forwT_len xs c vs n]; rfl
theorem forwT_get (xs : List (Option Nat)) (c : Nat) (vs : List (Option Nat)) (k : Nat) : ∀ n m, k < n → n ≤ m → (forwT xs c vs m).getD k none = (forwT xs c vs n).getD k none
  | n, 0, h1, h2 => by omega
  | n, m + 1, h1, h2 => by
    by_cases e : n = m + 1
    · rw [e]
    · rw [← forwT_get xs c vs k n m h1 (by omega)]
      have hl := forwT_len xs c vs m
      show (forwT xs c vs m ++ _).getD k none = _
      rw [List.getD_eq_getElem?_getD, List.getElem?_append_left (by omega), List.getD_eq_getElem?_getD]
/-- is there a zero on the diagonal of the square part? -/
def singD (xs : List (Option Nat)) (c : Nat) : Bool := (List.range c).any fun i => zeroF (ent xs c i i)
/-- a list of numbers, or none -/
def answD (ys : List (Option Nat)) : List (Option Nat) × Int := if ys.any (fun x => !numF x) = true then ([], 2) else (ys, 0)
def backD (F : FacD) : List (Option Nat) × Int :=
  if F.ok = false then ([], 1) else if singD F.xs F.cols.toNat = true then ([], 7) else answD (backT F.xs F.cols.toNat F.cols.toNat)
def forwD (F : FacD) (vs : List (Option Nat)) : List (Option Nat) × Int :=
  if F.ok = false ∨ (vs.length : Int) ≠ F.cols then ([], 1) else if singD F.xs F.cols.toNat = true then ([], 7) else answD (forwT F.xs F.cols.toNat vs F.cols.toNat)
/-- what is handed back: a list, and an error's number -/
def LstE (D : List (Option Nat) × Int) (e : Ending) (w : World) : Prop := ∃ (a : Option Addr) (n cap : Nat), e = .returned (.tuple #[.slice a n cap, .int .i64 D.2]) ∧ Row w (.slice a n cap) D.1

/-- is a float no number? -/
def wildW (b : Nat) : Bool := nan b || decide (b % 9223372036854775808 = 9218868437227405312)
def wildF (x : Option Nat) : Bool := !numF x
theorem wildW_F {b : Nat} {x : Option Nat} (h : FW b x) : wildW b = wildF x := by
  obtain ⟨_, h⟩ := h
  unfold wildW wildF numF
  cases x with
  | none => rw [ab_none h]; rfl
  | some c =>
    obtain ⟨rfl, h2⟩ := ab_some h
    rw [h2]
    have := nan_le h2
    dsimp only
    by_cases e : c % 9223372036854775808 = 9218868437227405312
    · rw [decide_eq_true e, decide_eq_false (by omega)]; rfl
    · rw [decide_eq_false e, decide_eq_true (by omega)]; rfl
theorem wild_calls (b : Nat) (hb : W64 b) (w : World) :
    Calls Tryz.prog 88 #[.float .f64 b] w fun e w' => e = .returned (.bool (wildW b)) ∧ w = w' := by
  have E : Hid (wildW b = (nan b || decide (b % 9223372036854775808 = 9218868437227405312))) := rfl
  have I := Lib.hid (isInf_calls b hb)
  have N := Lib.hid (isNaN_calls b hb)
  clear hb
  generalize wildW b = ob at *
  generalize decide (b % 9223372036854775808 = 9218868437227405312) = ib at *
  generalize nan b = nb at *
  go_enter Tryz.func88, Tryz.ntmps88
  go_wp2_with (first | (go_at_call 114; refine (I.out _).mono ?_; rintro e w' ⟨rfl, rfl⟩) | (go_at_call 113; refine (N.out _).mono ?_; rintro e w' ⟨rfl, rfl⟩))
  all_goals
    go_ret
    exact ⟨ret_bool (by rw [E.out]; simp_all), rfl⟩
theorem indexwild_calls (a : Option Addr) (n cap : Nat) (xs : List (Option Nat)) (w : World) (h : Row w (.slice a n cap) xs) :
    Calls Tryz.prog 102 #[.slice a n cap, .func (.func 88) #[] #[]] w fun e w' => (∃ n : Int, e = .returned (.int .i64 n) ∧ (decide (0 ≤ n) = xs.any wildF)) ∧ w = w' := by
  obtain ⟨a', cap', hv, h1, h2, h3⟩ := h
  simp only [Value.slice.injEq] at hv
  obtain ⟨rfl, hn, rfl⟩ := hv
  rw [← hn] at h1 h3
  have HN := Lib.hid hn.symm
  clear hn
  unfold maxLen at h2
  go_enter Tryz.func102, Tryz.ntmps102
  go_wp2
  go_loop [8] (fun i => ∃ k : Nat, k ≤ n ∧ i = .int .i64 (k : Int) ∧ Hid ((xs.take k).any wildF = false)) (fun i => n - (intOf i).toNat)
  case atStart => exact ⟨0, Nat.zero_le _, rfl, rfl⟩
  case round =>
    obtain ⟨k, hk, rfl, hrel⟩ := hrel
    by_cases hlt : k < n
    · rcases h3 with ⟨h0, _⟩ | ⟨blk, off, rfl, hc⟩
      · omega
      · obtain ⟨b, hb, hfw⟩ := hc k hlt
        have hst := Lib.hid (any_step (p := wildF) (by rw [HN.out]; exact hlt) hrel.out)
        have hlf := Lib.hid (wildW_F hfw)
        clear hc
        go_wp2_with (go_at_call 88; refine (wild_calls b hfw.1 _).mono ?_; rintro e w' ⟨rfl, rfl⟩)
        · go_ret
          have hb1 : wildW b = true := by assumption
          exact ⟨⟨k, rfl, by rw [any_of_take (k := k + 1) (by rw [hst.out, ← hlf.out, hb1])]; simp⟩, rfl⟩
        · have hb1 : wildW b = false := by assumption
          go_round
          case rel => exact ⟨k + 1, by omega, by go_num, by show _ = false; rw [hst.out, ← hlf.out, hb1]⟩
          case measure => simp [intOf]; omega
    · obtain rfl : k = n := by omega
      go_wp2
      go_ret
      exact ⟨⟨-1, rfl, by have := hrel.out; rw [List.take_of_length_le (by rw [HN.out]; exact Nat.le_refl _)] at this; rw [this]; rfl⟩, rfl⟩
theorem containswild_calls (a : Option Addr) (n cap : Nat) (xs : List (Option Nat)) (w : World) (h : Row w (.slice a n cap) xs) :
    Calls Tryz.prog 71 #[.slice a n cap, .func (.func 88) #[] #[]] w fun e w' => e = .returned (.bool (xs.any wildF)) ∧ w = w' := by
  have L := Lib.hid (indexwild_calls a n cap xs w h)
  clear h
  go_enter Tryz.func71, Tryz.ntmps71
  go_wp2_with (go_at_call 102; refine L.out.mono ?_; rintro e w' ⟨⟨n, rfl, hn⟩, rfl⟩)
  go_ret
  exact ⟨rfl, rfl⟩
theorem answer_calls (a : Option Addr) (n cap : Nat) (xs : List (Option Nat)) (w : World) (h : Row w (.slice a n cap) xs) :
    Calls Tryz.prog 51 #[.slice a n cap] w fun e w' => LstE (answD xs) e w' ∧ w = w' := by
  have L := Lib.hid (containswild_calls a n cap xs w h)
  have HR := Lib.hid h
  have E : Hid (answD xs = if xs.any wildF = true then ([], 2) else (xs, 0)) := rfl
  clear h
  generalize answD xs = D at *
  cases hw : xs.any wildF
  · rw [hw] at L
    have E2 : Hid (D = (xs, 0)) := by unfold Hid; rw [E.out, if_neg (by rw [hw]; decide)]
    clear hw E
    go_enter Tryz.func51, Tryz.ntmps51
    go_wp2_with (go_at_call 71; refine L.out.mono ?_; rintro e w' ⟨rfl, rfl⟩)
    go_ret2
    exact ⟨by rw [E2.out]; exact ⟨a, n, cap, rfl, HR.out⟩, rfl⟩
  · rw [hw] at L
    have E2 : Hid (D = ([], 2)) := by unfold Hid; rw [E.out, if_pos (by rw [hw])]
    clear hw E
    go_enter Tryz.func51, Tryz.ntmps51
    go_wp2_with (go_at_call 71; refine L.out.mono ?_; rintro e w' ⟨rfl, rfl⟩)
    go_ret2
    exact ⟨by rw [E2.out]; exact ⟨none, 0, 0, rfl, row_nil _⟩, rfl⟩

set_option maxHeartbeats 1000000 in
theorem less_calls (x : Nat) {X : Option Nat} (a b : Option Addr) (n c m d : Nat) (ls ms : List (Option Nat)) (w : World) (hx : FW x X) (ha : Row w (.slice a n c) ls) (hb : Row w (.slice b m d) ms) (hnm : n ≤ m) :
    Calls Tryz.prog 50 #[.float .f64 x, .slice a n c, .slice b m d] w fun e w' => (∃ y, e = .returned (.float .f64 y) ∧ FW y (lessF X (fun k => ls.getD k none) (fun k => ms.getD k none) n)) ∧ Below w.heap.size w w' := by
  have HX := Lib.hid hx
  have HA := Lib.hid ha
  have HB := Lib.hid hb
  have hmax := row_max ha
  clear hx ha hb
  go_enter Tryz.func50, Tryz.ntmps50
  go_wp2
  go_loopw [0, 12] (fun s0 s12 wr => ∃ (k y : Nat), s0 = .float .f64 y ∧ s12 = .int .i64 (k : Int) ∧ k ≤ n ∧ Hid (FW y (lessF X (fun k => ls.getD k none) (fun k => ms.getD k none) k) ∧ Below w.heap.size w wr)) (fun _ s12 _ => n - (intOf s12).toNat)
  case atStart => exact ⟨0, x, rfl, rfl, Nat.zero_le _, HX.out, Below.refl _ _⟩
  case round =>
    obtain ⟨k, y, rfl, rfl, hk, HI⟩ := hrel
    by_cases hlt : k < n
    · have hi : (k : Int) < (n : Int) := by omega
      have RA := Lib.hid (HA.out.below HI.out.2)
      have RB := Lib.hid (HB.out.below HI.out.2)
      obtain ⟨blk, off, rfl, hc⟩ := row_cell RA.out (by omega)
      obtain ⟨blk', off', rfl, hc'⟩ := row_cell RB.out (by omega)
      obtain ⟨p, hp1, hp2⟩ := hc k hlt
      obtain ⟨q, hq1, hq2⟩ := hc' k (by omega)
      have hkm : (k : Int) < (m : Int) := by omega
      have HP := Lib.hid hp2
      have HQ := Lib.hid hq2
      clear hc hc' hp2 hq2
      go_wp2
      go_roundw
      case rel => exact ⟨k + 1, _, rfl, by go_num, by omega, opw_sub _ HI.out.1 (opw_mul _ HP.out HQ.out), below_drewN HI.out.2 _⟩
      case measure => simp [intOf]; omega
    · obtain rfl : k = n := by omega
      go_wp2
      go_ret
      exact ⟨⟨y, rfl, HI.out.1⟩, HI.out.2⟩
end Go.Proofs.YtnboegeljaplbaaGreat
namespace Go.Proofs.YtnboegeljaplbaaGreat
open Go.RowKit Lv Go.Shelf
open Ieee (double Format Datum Toward)
attribute [local go_sem] Oper.semAt_some run_store_float drewN_alloc drewN_setCell

/-- rows of the square part, and the last column, as they are laid down: of the first j rows the slices stand in block qb -/
def SqAt (W : World) (B qb c : Nat) (xs : List (Option Nat)) (j : Nat) : Prop :=
  ∀ i, i < c → (∃ u, W.cell? ⟨qb, i, none⟩ = some u ∧ ∀ x, u ≠ .float .f64 x) ∧ W.frozen? ⟨qb, i, none⟩ = false ∧
    (i < j → ∃ g cap, W.cell? ⟨qb, i, none⟩ = some (.slice (some ⟨g, 0, none⟩) c cap) ∧ c + 1 ≤ cap ∧ cap ≤ maxLen ∧ B ≤ g ∧ g < W.heap.size ∧ ∀ k, k ≤ c → ∃ b, W.cell? ⟨g, k, none⟩ = some (.float .f64 b) ∧ FW b (ent xs c i k))
theorem SqAt.below {W W' : World} {B qb c j : Nat} {xs : List (Option Nat)} (h : SqAt W B qb c xs j) (hb : Below W.heap.size W W') : SqAt W' B qb c xs j := by
  intro i hi
  obtain ⟨⟨u, u1, u2⟩, f, r⟩ := h i hi
  refine ⟨⟨u, (hb.cell (p := ⟨qb, i, none⟩) (cell_lt u1)).trans u1, u2⟩, (hb.frozen (p := ⟨qb, i, none⟩) (cell_lt u1)).trans f, fun hij => ?_⟩
  obtain ⟨g, cap, r1, r2, r3, r4, r5, r6⟩ := r hij
  refine ⟨g, cap, (hb.cell (p := ⟨qb, i, none⟩) (cell_lt r1)).trans r1, r2, r3, r4, Nat.lt_of_lt_of_le r5 hb.size, fun k hk => ?_⟩
  obtain ⟨b, b1, b2⟩ := r6 k hk
  exact ⟨b, (hb.cell (p := ⟨g, k, none⟩) r5).trans b1, b2⟩
/-- a store into another block below the rows -/
theorem SqAt.set {W : World} {B qb c j b o : Nat} {xs : List (Option Nat)} {v : Value} (h : SqAt W B qb c xs j) (hq : b ≠ qb) (hg : b < B) : SqAt (W.setCell ⟨b, o, none⟩ v) B qb c xs j := by
  intro i hi
  obtain ⟨⟨u, u1, u2⟩, f, r⟩ := h i hi
  refine ⟨⟨u, cell_set_ne u1 hq, u2⟩, frozen_set f, fun hij => ?_⟩
  obtain ⟨g, cap, r1, r2, r3, r4, r5, r6⟩ := r hij
  refine ⟨g, cap, cell_set_ne r1 hq, r2, r3, r4, by simpa using r5, fun k hk => ?_⟩
  obtain ⟨b', b1, b2⟩ := r6 k hk
  exact ⟨b', cell_set_ne b1 (by omega), b2⟩
/-- the next row is laid down -/
theorem SqAt.next {W : World} {B qb c j g cap : Nat} {xs : List (Option Nat)} (h : SqAt W B qb c xs j) (hj : j < c) (ho : OwnV W B (.slice (some ⟨g, 0, none⟩) (c + 1) cap) (lineP xs c j)) (hl : (lineP xs c j).length = c + 1) (hc1 : c + 1 ≤ cap) (hc2 : cap ≤ maxLen) (hq : qb < B) (hB : B ≤ g) (hg : g < W.heap.size) :
    SqAt (W.setCell ⟨qb, j, none⟩ (.slice (some ⟨g, 0, none⟩) c cap)) B qb c xs (j + 1) := by
  intro i hi
  obtain ⟨⟨u, u1, u2⟩, f, r⟩ := h i hi
  by_cases e : i = j
  · subst e
    have k1 := cell_set_eq (v := .slice (some ⟨g, 0, none⟩) c cap) u1
    refine ⟨⟨_, k1, slice_ne⟩, frozen_set f, fun _ => ⟨g, cap, k1, hc1, hc2, hB, by simpa using hg, fun k hk => ?_⟩⟩
    obtain ⟨b, b1, b2⟩ := ho.cell hl (j := k) (by omega)
    exact ⟨b, cell_set_ne b1 (by omega), b2⟩
  · refine ⟨⟨u, cell_set_off u1 (Ne.symm e), u2⟩, frozen_set f, fun hij => ?_⟩
    obtain ⟨g', cap', r1, r2, r3, r4, r5, r6⟩ := r (by omega)
    refine ⟨g', cap', cell_set_off r1 (Ne.symm e), r2, r3, r4, by simpa using r5, fun k hk => ?_⟩
    obtain ⟨b, b1, b2⟩ := r6 k hk
    exact ⟨b, cell_set_ne b1 (by omega), b2⟩

theorem zero_word {b : Nat} {x : Option Nat} (h : FW b x) : (FloatKind.f64.format.order b 0 == some Ordering.eq) = zeroF x := by
  rw [is_zero' b h.1]
  obtain ⟨_, h⟩ := h
  cases x with
  | none =>
    have := nan_lt (ab_none h)
    exact decide_eq_false (by omega)
  | some c => obtain ⟨rfl, _⟩ := ab_some h; rfl
theorem any_range {p : Nat → Bool} {n : Nat} (k : Nat) (hk : k < n) (h : p k = true) : (List.range n).any p = true := List.any_eq_true.2 ⟨k, List.mem_range.2 hk, h⟩
theorem any_range_no {p : Nat → Bool} {n : Nat} (h : ∀ k, k < n → p k = false) : (List.range n).any p = false := by
  rw [List.any_eq_false]
  intro k hk
  rw [h k (List.mem_range.1 hk)]
  decide

set_option maxRecDepth 100000 in
theorem singular_calls (B qb c : Nat) (xs : List (Option Nat)) (w : World) (hc : c ≤ 6) (h : SqAt w B qb c xs c) :
    Calls Tryz.prog 48 #[.slice (some ⟨qb, 0, none⟩) c c] w fun e w' => e = .returned (.bool (singD xs c)) ∧ w = w' := by
  have HS := Lib.hid h
  have E : Hid (singD xs c = (List.range c).any fun i => zeroF (ent xs c i i)) := rfl
  clear h
  generalize singD xs c = sg at *
  go_enter Tryz.func48, Tryz.ntmps48
  go_wp2
  go_loop [7] (fun i => ∃ k : Nat, k ≤ c ∧ i = .int .i64 (k : Int) ∧ Hid (∀ i, i < k → zeroF (ent xs c i i) = false)) (fun i => c - (intOf i).toNat)
  case atStart => exact ⟨0, Nat.zero_le _, rfl, fun i hi => absurd hi (Nat.not_lt_zero i)⟩
  case round =>
    obtain ⟨k, hk, rfl, hrel⟩ := hrel
    by_cases hlt : k < c
    · have hi : (k : Int) < (c : Int) := by omega
      obtain ⟨_, _, r⟩ := HS.out k hlt
      obtain ⟨g, cap, r1, r2, r3, r4, r5, r6⟩ := r hlt
      obtain ⟨b, b1, b2⟩ := r6 k (by omega)
      have hz := zero_word b2
      cases hzz : zeroF (ent xs c k k)
      · rw [hzz] at hz
        have HZ := Lib.hid hzz
        clear hzz r r6 b2
        go_wp2
        go_round
        case rel => exact ⟨k + 1, by omega, by go_num, fun i hi => by
          by_cases e : i = k
          · rw [e]; exact HZ.out
          · exact hrel.out i (by omega)⟩
        case measure => simp [intOf]; omega
      · rw [hzz] at hz
        have HZ := Lib.hid hzz
        clear hzz r r6 b2
        go_wp2
        go_ret
        exact ⟨ret_bool (by rw [E.out, any_range k hlt HZ.out]), rfl⟩
    · obtain rfl : k = c := by omega
      go_wp2
      go_ret
      exact ⟨ret_bool (by rw [E.out, any_range_no hrel.out]), rfl⟩

end Go.Proofs.YtnboegeljaplbaaGreat
namespace Go.Proofs.YtnboegeljaplbaaGreat
open Go.RowKit Lv Go.Shelf
open Ieee (double Format Datum Toward)
attribute [local go_sem] Oper.semAt_some run_store_float drewN_alloc drewN_setCell

theorem made_sq {c i : Nat} (h : i < c) : (madeCells #[.slice none 0 0] c)[i]? = some (Value.slice none 0 0) := by
  rw [← Array.getElem?_toList, toList_madeCells_one, List.getElem?_replicate, if_pos h]
/-- both slices, made -/
def SqNew (W0 : World) (c : Nat) (s s' : Value) (W : World) : Prop :=
  ∃ qb xb : Nat, s = .slice (some ⟨qb, 0, none⟩) c c ∧ s' = .slice (some ⟨xb, 0, none⟩) c c ∧ qb ≠ xb ∧ W0.heap.size ≤ qb ∧ W0.heap.size ≤ xb ∧ qb < W.heap.size ∧ xb < W.heap.size ∧ W.heap.size = W0.heap.size + 2 ∧
    (∀ i, i < c → W.cell? ⟨qb, i, none⟩ = some (.slice none 0 0) ∧ W.frozen? ⟨qb, i, none⟩ = false) ∧ OwnV W W0.heap.size (.slice (some ⟨xb, 0, none⟩) c c) (List.replicate c (some 0)) ∧ Below W0.heap.size W0 W
theorem sqNew_a {W : World} {c N : Nat} (hN : W.heap.size = N) (t : TypeId) (h1 : 1 ≤ c) (h6 : c ≤ 6) : SqNew W c (.slice (some ⟨N, 0, none⟩) c c) (.slice (some ⟨N + 1, 0, none⟩) c c) (((W.alloc (.cells (madeCells #[.slice none 0 0] c) t)).alloc (.cells (madeCells #[.float .f64 0] c) 42)).drew) := by
  subst hN
  obtain ⟨k, rfl⟩ : ∃ k, c = k + 1 := ⟨c - 1, by omega⟩
  refine ⟨W.heap.size, W.heap.size + 1, rfl, rfl, by omega, Nat.le_refl _, by omega, by first | (simp; done) | (simp; omega), by first | (simp; done) | (simp; omega), by simp, fun i hi => ?_, ?_, (((Below.refl W.heap.size W).alloc (Nat.le_refl _) _).alloc (by simp) _).drew⟩
  · have hm := made_sq hi
    constructor
    · simp [go_sem, hm]
    · simp [go_sem]
  · have := own_made (W.alloc (.cells (madeCells #[.slice none 0 0] (k + 1)) t)) W.heap.size k (by simp) (by omega)
    have h2 := this.below (Below.refl _ _).drew (Nat.le_refl _)
    simpa using h2
theorem sqNew_b {W : World} {c N : Nat} (hN : W.heap.size = N) (t : TypeId) (h1 : 1 ≤ c) (h6 : c ≤ 6) : SqNew W c (.slice (some ⟨N + 1, 0, none⟩) c c) (.slice (some ⟨N, 0, none⟩) c c) (((W.alloc (.cells (madeCells #[.float .f64 0] c) 42)).alloc (.cells (madeCells #[.slice none 0 0] c) t)).drew) := by
  subst hN
  obtain ⟨k, rfl⟩ : ∃ k, c = k + 1 := ⟨c - 1, by omega⟩
  refine ⟨W.heap.size + 1, W.heap.size, rfl, rfl, by omega, by omega, Nat.le_refl _, by first | (simp; done) | (simp; omega), by first | (simp; done) | (simp; omega), by simp, fun i hi => ?_, ?_, (((Below.refl W.heap.size W).alloc (Nat.le_refl _) _).alloc (by simp) _).drew⟩
  · have hm := made_sq hi
    constructor
    · simp [go_sem, hm]
    · simp [go_sem]
  · have := own_made W W.heap.size k (Nat.le_refl _) (by omega)
    exact (this.below ((Below.refl _ _).alloc (Nat.le_refl _) _) (Nat.le_refl _)).below (Below.refl _ _).drew (Nat.le_refl _)
/-- what stands at the head of the loop over rows -/
structure SqInv (w : World) (qb xb c : Nat) (rws trn : Int) (xs : List (Option Nat)) (a : Option Addr) (n cap : Nat) (W : World) (j : Nat) (L : List (Option Nat)) : Prop where
  c1 : Cells4 W w.heap.size (.int .i64 c) (.slice a n cap) (.int .i64 rws) (.int .i64 trn)
  rows : SqAt W (w.heap.size + 3) qb c xs j
  own : OwnV W w.heap.size (.slice (some ⟨xb, 0, none⟩) c c) L
  len : L.length = c
  last : ∀ i, i < j → L.getD i none = ent xs c i c
  below : Below w.heap.size w W
  size : w.heap.size + 3 ≤ W.heap.size
/-- one row more: both orders of the stores -/
theorem SqInv.step {w W W' : World} {qb xb c n cap j g gcap x : Nat} {rws trn : Int} {xs L : List (Option Nat)} {a : Option Addr} (h : SqInv w qb xb c rws trn xs a n cap W j L) (hb : Below W.heap.size W W') (hj : j < c) (hq : w.heap.size < qb) (hx : w.heap.size < xb) (hqx : qb ≠ xb)
    (hq2 : qb < w.heap.size + 3) (hx2 : xb < w.heap.size + 3) (ho : OwnV W' W.heap.size (.slice (some ⟨g, 0, none⟩) (c + 1) gcap) (lineP xs c j)) (hl : (lineP xs c j).length = c + 1) (hc1 : c + 1 ≤ gcap) (hc2 : gcap ≤ maxLen) (hg : w.heap.size + 3 ≤ g) (hg2 : g < W'.heap.size) (hf : FW x (ent xs c j c)) :
    SqInv w qb xb c rws trn xs a n cap ((W'.setCell ⟨qb, j, none⟩ (.slice (some ⟨g, 0, none⟩) c gcap)).setCell ⟨xb, j, none⟩ (.float .f64 x)).drew (j + 1) (L.set j (ent xs c j c)) ∧
    SqInv w qb xb c rws trn xs a n cap ((W'.setCell ⟨xb, j, none⟩ (.float .f64 x)).setCell ⟨qb, j, none⟩ (.slice (some ⟨g, 0, none⟩) c gcap)).drew (j + 1) (L.set j (ent xs c j c)) := by
  have hlen : (L.set j (ent xs c j c)).length = c := by rw [List.length_set]; exact h.len
  have hlast : ∀ i, i < j + 1 → (L.set j (ent xs c j c)).getD i none = ent xs c i c := fun i hi => by
    rw [getD_set]
    by_cases e : i = j
    · rw [if_pos ⟨e, by rw [h.len]; omega⟩, e]
    · rw [if_neg (fun k => e k.1), h.last i (by omega)]
  have own := h.own.below hb (Nat.le_refl _)
  have hs := hb.size
  have hsz := h.size
  have dr : ∀ W : World, Below W.heap.size W W.drew := fun W => (Below.refl _ _).drew
  have hbl := h.below.trans (hb.mono h.below.size)
  constructor
  · refine ⟨(((h.c1.below hb).set (by omega)).set (by omega)).below (dr _), (((h.rows.below hb).next hj (ho.mono (by omega)) hl hc1 hc2 hq2 hg hg2).set (by omega) hx2).below (dr _), ((own.setOther (by omega)).set h.len j hf).below (dr _) (Nat.le_refl _), hlen, hlast, ((hbl.setCell (p := ⟨qb, j, none⟩) (show w.heap.size ≤ qb by omega) _).setCell (p := ⟨xb, j, none⟩) (show w.heap.size ≤ xb by omega) _).drew, ?_⟩
    simp
    omega
  · refine ⟨(((h.c1.below hb).set (by omega)).set (by omega)).below (dr _), (((h.rows.below hb).set (by omega) hx2).next hj ((ho.setOther (by omega)).mono (by omega)) hl hc1 hc2 hq2 hg (by simpa using hg2)).below (dr _), ((own.set h.len j hf).setOther (by omega)).below (dr _) (Nat.le_refl _), hlen, hlast, ((hbl.setCell (p := ⟨xb, j, none⟩) (show w.heap.size ≤ xb by omega) _).setCell (p := ⟨qb, j, none⟩) (show w.heap.size ≤ qb by omega) _).drew, ?_⟩
    simp
    omega
/-- what square hands back -/
def SqPost (w : World) (c : Nat) (xs : List (Option Nat)) (e : Ending) (w' : World) : Prop :=
  ∃ (qb xb : Nat) (L : List (Option Nat)), e = .returned (.tuple #[.slice (some ⟨qb, 0, none⟩) c c, .slice (some ⟨xb, 0, none⟩) c c]) ∧ SqAt w' (w.heap.size + 3) qb c xs c ∧ qb ≠ xb ∧ w.heap.size ≤ qb ∧ w.heap.size ≤ xb ∧ xb < w.heap.size + 3 ∧ qb < w.heap.size + 3 ∧
    OwnV w' w.heap.size (.slice (some ⟨xb, 0, none⟩) c c) L ∧ L.length = c ∧ (∀ i, i < c → L.getD i none = ent xs c i c) ∧ w.heap.size + 3 ≤ w'.heap.size

set_option maxRecDepth 100000 in
set_option maxHeartbeats 4000000 in
theorem square_calls (c : Nat) (rws trn : Int) (a : Option Addr) (n cap : Nat) (xs : List (Option Nat)) (w : World) (h : Row w (.slice a n cap) xs) (hok : checkP (c : Int) xs rws trn = true) :
    Calls Tryz.prog 47 #[.agg #[.int .i64 (c : Int), .slice a n cap, .int .i64 rws, .int .i64 trn]] w fun e w' => SqPost w c xs e w' ∧ Below w.heap.size w w' := by
  have hB := (Below.refl w.heap.size w).alloc (Nat.le_refl _) (.cells #[.int .i64 (c : Int), .slice a n cap, .int .i64 rws, .int .i64 trn] 28)
  have HB := Lib.hid hB
  have HC := Lib.hid (Cells4.new w (.int .i64 (c : Int)) (.slice a n cap) (.int .i64 rws) (.int .i64 trn) 28)
  have HR := Lib.hid h
  obtain ⟨hc1, hc6⟩ := checkP_cols hok
  have h1 : 1 ≤ c := by omega
  have h6 : c ≤ 6 := by omega
  have hxl := checkP_len hok
  have LC := Lib.hid (fun j (hj : j ≤ c) W (hW : Row W (.slice a n cap) xs) => line_calls c j rws trn a n cap xs W hW hok hj)
  have LL := Lib.hid (fun j (hj : j ≤ c) => lineP_len h1 h6 hxl hj)
  have hmk := run_make_row' (P := Tryz.prog) 87 26 (.slice none 0 0) 24 (by kernel_rfl) (by kernel_rfl) rfl .i64 .i64 c (by omega) (by omega)
  have hmk2 := run_make_row' (P := Tryz.prog) 26 42 (.float .f64 0) 8 (by kernel_rfl) (by kernel_rfl) rfl .i64 .i64 c (by omega) (by omega)
  clear h hok hB hxl
  go_enter Tryz.func47, Tryz.ntmps47
  go_upto_region 1 with (fail)
  obtain ⟨W0, hW0⟩ : ∃ x, x = w.alloc (.cells #[.int .i64 (c : Int), .slice a n cap, .int .i64 rws, .int .i64 trn] 28) := ⟨_, rfl⟩
  have hs0 : W0.heap.size = w.heap.size + 1 := by rw [hW0]; simp
  rw [← hW0] at HB HC
  rw [← hW0]
  clear hW0
  go_cut [4, 5] from 8 to 13 (fun s4 s5 wx => SqNew W0 c s4 s5 wx)
  case first =>
    rename_i J K' hJ hK'
    obtain ⟨c0, _, _, _, _, _, _, _⟩ := HC.out
    -- A1
    go_region
    all_goals
      refine hK' _ _ (Met.intro (hJ _ _ ?_))
      (repeat apply Exists.intro)
      refine ⟨?_, rfl⟩
      first | exact sqNew_a hs0 _ h1 h6 | exact sqNew_b hs0 _ h1 h6
    -- B1
  case rest =>
    obtain ⟨qb, xb, rfl, rfl, hqx, hq0, hx0, hq1, hx1, hsz, hcq, hown, hbn⟩ := hcut
    obtain ⟨W1, rfl⟩ : ∃ x, x = wc := ⟨_, rfl⟩
    have I0 : SqInv w qb xb c rws trn xs a n cap W1 0 (List.replicate c (some 0)) :=
      ⟨HC.out.below hbn, fun i hi => ⟨⟨_, (hcq i hi).1, slice_ne⟩, (hcq i hi).2, fun h => absurd h (Nat.not_lt_zero _)⟩, hown.mono (by omega), by rw [List.length_replicate], fun i hi => absurd hi (Nat.not_lt_zero i), HB.out.trans (hbn.mono (by omega)), by omega⟩
    have HI0 := Lib.hid I0
    clear hcq hown hbn I0 hmk hmk2
    go_wp2
    go_loopw [16] (fun s16 W => ∃ (j : Nat) (L : List (Option Nat)), s16 = .int .i64 (j : Int) ∧ j ≤ c ∧ SqInv w qb xb c rws trn xs a n cap W j L) (fun s16 _ => c - (intOf s16).toNat)
    case atStart => exact ⟨0, _, rfl, Nat.zero_le _, HI0.out⟩
    case round =>
      obtain ⟨j, L, rfl, hj, I⟩ := hrel
      have HI := Lib.hid I
      obtain ⟨c0, c1, c2, c3, _, _, _, _⟩ := I.c1
      clear I
      by_cases hjc : j < c
      · have hji : (j : Int) < (c : Int) := by omega
        go_wp2_with (go_at_call 73; go_must (refine (LC.out j (by omega) _ (HR.out.below HI.out.below)).mono ?_; rintro e wL ⟨⟨v, rfl, hownL⟩, hbL⟩; obtain ⟨g, gcap, hv, hg1, hg2, hg3, hg4⟩ := hownL.shape (by rw [LL.out j (by omega)]; omega); rw [LL.out j (by omega)] at hv hg3; subst hv; have HOL := Lib.hid hownL; have HBL := Lib.hid hbL; clear hownL hbL))
        have hgs := HI.out.size
        have hs2 := HBL.out.size
        obtain ⟨x, hx, hfx⟩ := HOL.out.cell (LL.out j (by omega)) (j := c) (by omega)
        have FX := Lib.hid hfx
        obtain ⟨⟨u, u1, u2⟩, uf, _⟩ := (HI.out.rows.below HBL.out) j hjc
        obtain ⟨y, hy, hfy⟩ := (HI.out.own.below HBL.out (Nat.le_refl _)).cell HI.out.len hjc
        have yf := (HI.out.own.below HBL.out (Nat.le_refl _)).frozen HI.out.len j
        have HC1 := Lib.hid (HI.out.c1.below HBL.out)
        clear c0 c1 c2 c3 hfx hfy
        obtain ⟨c0, c1, c2, c3, _, _, _, _⟩ := HC1.out
        have hq2 : qb < w.heap.size + 3 := by omega
        have hx2 : xb < w.heap.size + 3 := by omega
        have n1 : g ≠ qb := by omega
        have n2 : g ≠ xb := by omega
        have n3 : w.heap.size ≠ qb := by omega
        have n4 : w.heap.size ≠ xb := by omega
        have n5 : qb ≠ w.heap.size := by omega
        have n6 : xb ≠ w.heap.size := by omega
        have n7 : qb ≠ g := by omega
        have n8 : xb ≠ g := by omega
        -- A2
        go_region
        all_goals
          go_wp2
          go_roundw
          case rel => first
            | exact ⟨j + 1, _, by go_num, by omega, (HI.out.step HBL.out hjc (by omega) (by omega) hqx hq2 hx2 HOL.out (LL.out j (by omega)) hg3 hg4 (by omega) hg2 FX.out).1⟩
            | exact ⟨j + 1, _, by go_num, by omega, (HI.out.step HBL.out hjc (by omega) (by omega) hqx hq2 hx2 HOL.out (LL.out j (by omega)) hg3 hg4 (by omega) hg2 FX.out).2⟩
          case measure => simp [intOf]; omega
        -- B2
      · have hji : ¬ (j : Int) < (c : Int) := by omega
        obtain rfl : j = c := by omega
        go_wp2
        go_ret2
        exact ⟨⟨qb, xb, L, rfl, HI.out.rows, hqx, by omega, by omega, by omega, by omega, HI.out.own, HI.out.len, HI.out.last, HI.out.size⟩, HI.out.below⟩
end Go.Proofs.YtnboegeljaplbaaGreat
namespace Go.Proofs.YtnboegeljaplbaaGreat
open Go.RowKit Lv Go.Shelf
open Ieee (double Format Datum Toward)
attribute [local go_sem] Oper.semAt_some run_store_float drewN_alloc drewN_setCell run_addF run_subF run_mulF run_quoF

/-- a row's number, of c rows -/
abbrev RowIx (c : Nat) := { i : Nat // i < c }
/-- the rows from the last one on, k of them -/
def downs (c k : Nat) : List (RowIx c) := (List.range k).filterMap fun i => if h : c - 1 - i < c then some ⟨c - 1 - i, h⟩ else none
theorem downs_succ (c k : Nat) (h : k < c) : downs c (k + 1) = downs c k ++ [⟨c - 1 - k, by omega⟩] := by
  unfold downs; rw [List.range_succ, List.filterMap_append]
  have : c - 1 - k < c := by omega
  simp [this]
theorem downs_length (c k : Nat) (h : k ≤ c) : (downs c k).length = k := by
  induction k with
  | zero => rfl
  | succ k ih => rw [downs_succ c k (by omega), List.length_append, ih (by omega)]; rfl
/-- what a round keeps: the slice's variable, and the rows -/
def KpB (Bf qb : Nat) (A B : World) : Prop := ∀ (p : Addr) (v : Value), p.block = Bf ∨ p.block = qb → A.cell? p = some v → B.cell? p = some v

set_option maxRecDepth 100000 in
set_option maxHeartbeats 2000000 in
theorem backwd1_in (n : Nat) (l Bf qb c : Nat) (G CP : Nat → Nat) (h1 : 1 ≤ c) (h6 : c ≤ 6) (J Jx : List (RowIx c) → World → Prop)
    (hY : ∀ pre x W, J pre W → pre.length < c → YieldAt Fence.wide (n - 1) Tryz.prog l #[.int .i64 (x.1 : Int), .slice (some ⟨G x.1, 0, none⟩) c (CP x.1)] W fun e W' =>
      (e = .returned (.bool true) ∧ J (pre ++ [x]) W' ∧ KpB Bf qb W W') ∨ (e = .returned (.bool false) ∧ Jx (pre ++ [x]) W'))
    (W : World) (hB0 : W.cell? ⟨Bf, 0, none⟩ = some (.slice (some ⟨qb, 0, none⟩) c c)) (hrows : ∀ i, i < c → W.cell? ⟨qb, i, none⟩ = some (.slice (some ⟨G i, 0, none⟩) c (CP i))) (h0 : J [] W) (hn : 1 ≤ n) :
    CallsIn Fence.wide n Tryz.prog 94 #[.func (.yield l) #[] #[], .pointer (some ⟨Bf, 0, none⟩)] W fun e W' => (∃ v, e = .returned v) ∧
      ((∃ ys, ys = downs c c ∧ J ys W') ∨ (∃ pre, (∃ k, k ≤ c ∧ pre = downs c k) ∧ Jx pre W')) := by
  have HB0 := Lib.hid hB0
  have HRW := Lib.hid hrows
  clear hrows
  refine callsIn_of_wp Tryz.func94 rfl trivial ?_ rfl
  simp only [Tryz.ntmps94, List.size_toArray, List.length_cons, List.length_nil, Nat.reduceAdd, Nat.reduceSub, Array.replicate_succ, Array.replicate_zero, List.push_toArray, List.append_toArray, List.nil_append, List.cons_append]
  gi_wp2
  gi_loopw [3] (fun s wr => ∃ k : Nat, k ≤ c ∧ s = .int .i64 ((c : Int) - 1 - k) ∧ J (downs c k) wr ∧ Hid (KpB Bf qb W wr))
    (fun s _ => (intOf s + 1).toNat)
  case atStart => exact ⟨0, by omega, by simp, h0, fun _ _ _ h => h⟩
  case round =>
    obtain ⟨k, hk, rfl, hJs, hKp⟩ := hrel
    by_cases hlt : k < c
    · obtain ⟨fn, tmps, assign, body, hy, hR⟩ := hY _ ⟨c - 1 - k, by omega⟩ _ hJs (by rw [downs_length c k hk]; omega)
      dsimp only at hy
      have q0 := hKp.out ⟨Bf, 0, none⟩ _ (.inl rfl) HB0.out
      have q1 := hKp.out ⟨qb, c - 1 - k, none⟩ _ (.inr rfl) (HRW.out (c - 1 - k) (by omega))
      have hsx : downs c (k + 1) = downs c k ++ [⟨c - 1 - k, by omega⟩] := downs_succ c k hlt
      have HSX := Lib.hid hsx
      have hii : (c : Int) - 1 - (k : Int) = ((c - 1 - k : Nat) : Int) := by omega
      have hle : ((c - 1 - k : Nat) : Int) < (c : Int) := by omega
      have hKP := Lib.hid hKp.out
      rw [hii]
      clear hB0 hKp hii hsx
      gi_wp2
      refine hR.mono ?_
      rintro e W3 (⟨rfl, hJ3, hK3⟩ | ⟨rfl, hJx3⟩)
      · gi_wp2
        go_roundw
        case rel =>
          refine ⟨k + 1, by omega, ?_, by rw [HSX.out]; exact hJ3, fun p v hp hv => hK3 p v hp (hKP.out p v hp hv)⟩
          congr 1
          omega
        case measure => first | (simp [intOf]; done) | (simp [intOf]; omega)
      · gi_wp2
        refine bodyPost_ret (results_none rfl _ _ _) rfl ?_
        exact ⟨⟨_, rfl⟩, .inr ⟨_, ⟨k + 1, by omega, HSX.out.symm⟩, hJx3⟩⟩
    · obtain rfl : k = c := by omega
      gi_wp2
      go_end0
      exact ⟨⟨_, rfl⟩, .inl ⟨_, rfl, hJs⟩⟩
theorem backwd_stops (n : Nat) (Bf qb c : Nat) (G CP : Nat → Nat) (h1 : 1 ≤ c) (h6 : c ≤ 6) (hn : 1 ≤ n)
    (w : World) (hB : Bf < w.heap.size) (hq : qb < w.heap.size) (hB0 : w.cell? ⟨Bf, 0, none⟩ = some (.slice (some ⟨qb, 0, none⟩) c c)) (hrows : ∀ i, i < c → w.cell? ⟨qb, i, none⟩ = some (.slice (some ⟨G i, 0, none⟩) c (CP i))) :
    SeqStopsK Fence.wide n Tryz.prog 94 #[.pointer (some ⟨Bf, 0, none⟩)] (fun x : RowIx c => #[.int .i64 (x.1 : Int), .slice (some ⟨G x.1, 0, none⟩) c (CP x.1)]) (KpB Bf qb) (fun ys => ys = downs c c) (fun pre => ∃ k, k ≤ c ∧ pre = downs c k) c w :=
  fun l J Jx W hW _ _ hY h0 => backwd1_in n l Bf qb c G CP h1 h6 J Jx hY W ((hW.cell (p := ⟨Bf, 0, none⟩) hB).trans hB0) (fun i hi => (hW.cell (p := ⟨qb, i, none⟩) hq).trans (hrows i hi)) h0 hn
theorem backwd_calls (a : Option Addr) (n cap : Nat) (w : World) :
    Calls Tryz.prog 49 #[.slice a n cap] w fun e w' => e = .returned (.func (.func 94) #[] #[.pointer (some ⟨w.heap.size, 0, none⟩)]) ∧ w' = w.alloc (.cells #[.slice a n cap] 87) := by
  go_enter Tryz.func49, Tryz.ntmps49
  go_wp2
  go_ret
  exact ⟨rfl, rfl⟩
/-- the law of a range of two variables, in slots q and q' -/
theorem wpIn_range2 {α : Type} {P : Program} {n : Nat} {g : Operand} {p p' : Tmp} (q q' : Tmp) {assign body : Code} {Q : Exit → Act → World → Prop} {a : Act} {w : World}
    (h1 : 1 ≤ n) {gf : Nat} {lb : Array Value} (hg : a.eval g = .func (.func gf) #[] lb) (eg : ∀ args w, (callFunc gf args).run P w = .ok (.enter gf args) w)
    {e1 e2 : α → Value} {Kp : World → World → Prop} {S Sp : List α → Prop} {N : Nat} (hseq : SeqStopsK Fence.wide (n - 1) P gf lb (fun x => #[e1 x, e2 x]) Kp S Sp N w)
    (hKt : ∀ {A B C : World}, Kp A B → Kp B C → Kp A C) (hKb : ∀ (W : World) (l : Nat) (o o' : Obj), w.heap.size ≤ l → W.heap[l]? = some o → o.isCells = false → o.isWalk = false → Kp W (W.putObj l o'))
    (I : List α → World → Prop) (Ix : Code → List α → World → Prop) (hI : OwnFrom w.heap.size I) (hIx : ∀ c, OwnFrom w.heap.size (Ix c)) (h0 : I [] w)
    (hassign : ∀ (l : Nat) (x : α) (W : World) (K : Act → World → Prop), K { tmps := (((a.tmps.setIfInBounds p (e1 x)).setIfInBounds p' (e2 x)).setIfInBounds q (e1 x)).setIfInBounds q' (e2 x), defers := [] } W →
      assign.wpIn (Fence.wide.inRound l) (n - 1 - 1) P (Exit.then K (fun _ _ _ => False)) { tmps := (a.tmps.setIfInBounds p (e1 x)).setIfInBounds p' (e2 x), defers := [] } W)
    (hbody : ∀ (l : Nat) (pre : List α) (x : α) (W : World), I pre W → pre.length < N → body.wpIn (Fence.wide.inRound l) (n - 1 - 1) P (ownPostK Kp I Ix (pre ++ [x]) W) { tmps := (((a.tmps.setIfInBounds p (e1 x)).setIfInBounds p' (e2 x)).setIfInBounds q (e1 x)).setIfInBounds q' (e2 x), defers := [] } W)
    (hdone : ∀ (D : Nat) (xs : List α) (W : World), w.heap.size ≤ D → S xs → I xs W → W.heap[D]? = some (.deferred (some [])) → Q .normal { a with defers := { target := .collected D, args := #[] } :: a.defers } W)
    (hstop : ∀ (D : Nat) (c : Code) (pre : List α) (W : World), w.heap.size ≤ D → Sp pre → Ix c pre W → W.heap[D]? = some (.deferred (some [])) → c.wpIn Fence.wide n P Q { a with defers := { target := .collected D, args := #[] } :: a.defers } W) :
    (Code.rangeFunc g #[p, p'] assign body).wpIn Fence.wide n P Q a w :=
  wpIn_rangeFunc_ownF rfl h1 hg trivial eg hseq (fun h k => hKt h k) hKb (Below.refl _ _) (fun _ => rfl) I Ix hI hIx h0
    (fun x => { tmps := (((a.tmps.setIfInBounds p (e1 x)).setIfInBounds p' (e2 x)).setIfInBounds q (e1 x)).setIfInBounds q' (e2 x), defers := [] }) (fun l x W K h => by
      have e : (#[p, p'].zip #[e1 x, e2 x]).foldl (fun t (y : Tmp × Value) => t.setIfInBounds y.1 y.2) a.tmps = (a.tmps.setIfInBounds p (e1 x)).setIfInBounds p' (e2 x) := by simp
      have := hassign l x W K h
      rw [← e] at this
      exact this) hbody hdone hstop
end Go.Proofs.YtnboegeljaplbaaGreat
