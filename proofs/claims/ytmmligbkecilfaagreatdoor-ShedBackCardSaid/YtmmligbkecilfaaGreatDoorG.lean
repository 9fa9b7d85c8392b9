/- Going through a triangle's rows: the iterator's contract. Whether a factor may be: tri.Check. -/
import Derived.RangeFuncNested
import Derived.RangeFuncBound
import Derived.RangeFuncCalls
import Derived.RangeFuncLeaves
import Derived.RangeFuncFrom
import Derived.Shelf.Abstract
import Derived.Shelf.RegionOpen
import Derived.OwnWalkIn
import Derived.TacticsInMore
import Derived.LoopNIn
import Derived.LoopIn
import Derived.Test.YtmmligbkecilfaaGreatDoorD
namespace Go.Proofs.YtmmligbkecilfaaGreatDoor
open Go.RowKit Lv Go.Shelf
attribute [local go_sem] Oper.semAt_some

/-- where row i begins in a packed triangle of c columns and one more -/
def offs (c : Nat) : Nat → Nat
  | 0 => 0
  | i + 1 => offs c i + (c + 1 - i)

theorem offs_le (c i : Nat) (h1 : 1 ≤ c) (h6 : c ≤ 6) (hi : i ≤ c + 1) : offs c i + (c + 1 - i) ≤ (c + 1) * (c + 2) / 2 := by
  have : ∀ c, c < 7 → ∀ i, i < 8 → 1 ≤ c → i ≤ c + 1 → offs c i + (c + 1 - i) ≤ (c + 1) * (c + 2) / 2 := by decide
  exact this c (by omega) i (by omega) h1 hi
theorem offs_end (c : Nat) (h1 : 1 ≤ c) (h6 : c ≤ 6) : offs c (c + 1) = (c + 1) * (c + 2) / 2 := by
  have : ∀ c, c < 7 → 1 ≤ c → offs c (c + 1) = (c + 1) * (c + 2) / 2 := by decide
  exact this c (by omega) h1

/-- a row's number -/
abbrev RowNo (c : Nat) := { i : Nat // i ≤ c }
/-- what is handed to the loop for a row -/
def encRow (blk off cap c : Nat) (x : RowNo c) : Value := .slice (some ⟨blk, off + offs c x.1, none⟩) (c + 1 - x.1) (cap - offs c x.1)
/-- all rows' numbers, up to one -/
def allRows (c k : Nat) : List (RowNo c) := (List.range k).filterMap fun i => if h : i ≤ c then some ⟨i, h⟩ else none
theorem allRows_succ (c k : Nat) (h : k ≤ c) : allRows c (k + 1) = allRows c k ++ [⟨k, h⟩] := by
  unfold allRows; rw [List.range_succ, List.filterMap_append]; simp [h]
theorem allRows_length (c k : Nat) (h : k ≤ c + 1) : (allRows c k).length = k := by
  induction k with
  | zero => rfl
  | succ k ih => rw [allRows_succ c k (by omega), List.length_append, ih (by omega)]; rfl

set_option maxRecDepth 100000 in
set_option maxHeartbeats 2000000 in
theorem rows1_in (n : Nat) (l Bf : Nat) (blk off len cap c : Nat) (h1 : 1 ≤ c) (h6 : c ≤ 6) (hlen : len = (c + 1) * (c + 2) / 2) (hcap : len ≤ cap) (hcm : cap ≤ maxLen)
    (J Jx : List (RowNo c) → World → Prop)
    (hY : ∀ pre x W, J pre W → pre.length < c + 1 → YieldAt Fence.wide (n - 1) Tryz.prog l #[encRow blk off cap c x] W fun e W' =>
      (e = .returned (.bool true) ∧ J (pre ++ [x]) W' ∧ True) ∨ (e = .returned (.bool false) ∧ Jx (pre ++ [x]) W'))
    (W : World) (hB0 : W.cell? ⟨Bf, 0, none⟩ = some (.int .i64 (c : Int))) (hB1 : W.cell? ⟨Bf, 1, none⟩ = some (.slice (some ⟨blk, off, none⟩) len cap)) (h0 : J [] W) (hn : 1 ≤ n) :
    CallsIn Fence.wide n Tryz.prog 77 #[.func (.yield l) #[] #[], .pointer (some ⟨Bf, 0, none⟩)] W fun e W' => (∃ v, e = .returned v) ∧
      ((∃ ys, ys = allRows c (c + 1) ∧ J ys W') ∨ (∃ pre, (∃ k, k ≤ c + 1 ∧ pre = allRows c k) ∧ Jx pre W')) := by
  unfold maxLen at hcm
  have HL := Lib.hid hlen
  clear hlen
  refine callsIn_of_wp Tryz.func77 rfl trivial ?_ rfl
  simp only [Tryz.ntmps77, List.size_toArray, List.length_cons, List.length_nil, Nat.reduceAdd, Nat.reduceSub, Array.replicate_succ, Array.replicate_zero, List.push_toArray, List.append_toArray, List.nil_append, List.cons_append]
  gi_wp2
  gi_loopw [3, 4] (fun r m wr => ∃ k : Nat, k ≤ c + 1 ∧ m = .int .i64 ((c + 1 - k : Nat) : Int) ∧ (k ≤ c → r = .slice (some ⟨blk, off + offs c k, none⟩) (len - offs c k) (cap - offs c k)) ∧ J (allRows c k) wr)
    (fun _ m _ => (intOf m).toNat)
  case atStart => exact ⟨0, by omega, by simp, fun _ => by simp [offs], h0⟩
  case round =>
    obtain ⟨k, hk, rfl, hr, hJs⟩ := hrel
    by_cases hlt : k ≤ c
    · obtain rfl := hr hlt
      obtain ⟨fn, tmps, assign, body, hy, hR⟩ := hY _ ⟨k, hlt⟩ _ hJs (by rw [allRows_length c k hk]; omega)
      unfold encRow at hy
      dsimp only at hy
      have ho := offs_le c k h1 h6 hk
      rw [← HL.out] at ho
      have hoff := Lib.hid (show offs c (k + 1) = offs c k + (c + 1 - k) from rfl)
      clear hr
      gi_wp2
      refine hR.mono ?_
      rintro e W3 (⟨rfl, hJ3, _⟩ | ⟨rfl, hJx3⟩)
      · gi_wp2
        go_roundw
        case rel =>
          refine ⟨k + 1, by omega, ?_, fun hk1 => ?_, by rw [allRows_succ c k hlt]; exact hJ3⟩
          · congr 1
            omega
          · have ho2 := offs_le c (k + 1) h1 h6 (by omega)
            rw [← HL.out, hoff.out] at ho2
            rw [hoff.out, if_neg (by omega), Nat.add_assoc]
            congr 1 <;> omega
        case measure => simp [intOf]; omega
      · gi_wp2
        refine bodyPost_ret (results_none rfl _ _ _) rfl ?_
        exact ⟨⟨_, rfl⟩, .inr ⟨_, ⟨k + 1, by omega, (allRows_succ c k hlt).symm⟩, hJx3⟩⟩
    · obtain rfl : k = c + 1 := by omega
      gi_wp2
      go_end0
      exact ⟨⟨_, rfl⟩, .inl ⟨_, rfl, hJs⟩⟩

theorem rows_stops (n : Nat) (Bf : Nat) (blk off len cap c : Nat) (h1 : 1 ≤ c) (h6 : c ≤ 6) (hlen : len = (c + 1) * (c + 2) / 2) (hcap : len ≤ cap) (hcm : cap ≤ maxLen) (hn : 1 ≤ n)
    (w : World) (hB : Bf < w.heap.size) (hB0 : w.cell? ⟨Bf, 0, none⟩ = some (.int .i64 (c : Int))) (hB1 : w.cell? ⟨Bf, 1, none⟩ = some (.slice (some ⟨blk, off, none⟩) len cap)) :
    SeqStopsK Fence.wide n Tryz.prog 77 #[.pointer (some ⟨Bf, 0, none⟩)] (fun x => #[encRow blk off cap c x]) (fun _ _ => True) (fun ys => ys = allRows c (c + 1)) (fun pre => ∃ k, k ≤ c + 1 ∧ pre = allRows c k) (c + 1) w :=
  fun l J Jx W hW _ _ hY h0 => rows1_in n l Bf blk off len cap c h1 h6 hlen hcap hcm J Jx hY W ((hW.cell (p := ⟨Bf, 0, none⟩) hB).trans hB0) ((hW.cell (p := ⟨Bf, 1, none⟩) hB).trans hB1) h0 hn

theorem rows_calls (cols rws trn : Int) (v : Value) (w : World) :
    Calls Tryz.prog 54 #[.agg #[.int .i64 cols, v, .int .i64 rws, .int .i64 trn]] w fun e w' => e = .returned (.func (.func 77) #[] #[.pointer (some ⟨w.heap.size, 0, none⟩)]) ∧ w' = w.alloc (.cells #[.int .i64 cols, v, .int .i64 rws, .int .i64 trn] 24) := by
  go_enter Tryz.func54, Tryz.ntmps54
  go_wp2
  go_ret
  exact ⟨rfl, rfl⟩

/-- the law of a range over rows, the loop's variable in slot q -/
theorem wpIn_rangeRow {α : Type} {P : Program} {n : Nat} {g : Operand} {p : Tmp} (q : Tmp) {assign body : Code} {Q : Exit → Act → World → Prop} {a : Act} {w : World}
    (h1 : 1 ≤ n) {gf : Nat} {lb : Array Value} (hg : a.eval g = .func (.func gf) #[] lb) (eg : ∀ args w, (callFunc gf args).run P w = .ok (.enter gf args) w)
    {encs : α → Value} {S Sp : List α → Prop} {N : Nat} (hseq : SeqStopsK Fence.wide (n - 1) P gf lb (fun x => #[encs x]) (fun _ _ => True) S Sp N w)
    (I : List α → World → Prop) (Ix : Code → List α → World → Prop) (hI : OwnFrom w.heap.size I) (hIx : ∀ c, OwnFrom w.heap.size (Ix c)) (h0 : I [] w)
    (hassign : ∀ (l : Nat) (x : α) (W : World) (K : Act → World → Prop), K { tmps := (a.tmps.setIfInBounds p (encs x)).setIfInBounds q (encs x), defers := [] } W →
      assign.wpIn (Fence.wide.inRound l) (n - 1 - 1) P (Exit.then K (fun _ _ _ => False)) { tmps := a.tmps.setIfInBounds p (encs x), defers := [] } W)
    (hbody : ∀ (l : Nat) (pre : List α) (x : α) (W : World), I pre W → pre.length < N → body.wpIn (Fence.wide.inRound l) (n - 1 - 1) P (ownPostK (fun _ _ => True) I Ix (pre ++ [x]) W) { tmps := (a.tmps.setIfInBounds p (encs x)).setIfInBounds q (encs x), defers := [] } W)
    (hdone : ∀ (D : Nat) (xs : List α) (W : World), w.heap.size ≤ D → S xs → I xs W → W.heap[D]? = some (.deferred (some [])) → Q .normal { a with defers := { target := .collected D, args := #[] } :: a.defers } W)
    (hstop : ∀ (D : Nat) (c : Code) (pre : List α) (W : World), w.heap.size ≤ D → Sp pre → Ix c pre W → W.heap[D]? = some (.deferred (some [])) → c.wpIn Fence.wide n P Q { a with defers := { target := .collected D, args := #[] } :: a.defers } W) :
    (Code.rangeFunc g #[p] assign body).wpIn Fence.wide n P Q a w :=
  wpIn_rangeFunc_ownF rfl h1 hg trivial eg hseq (fun _ _ => trivial) (fun _ _ _ _ _ _ _ _ => trivial) (Below.refl _ _) (fun _ => rfl) I Ix hI hIx h0
    (fun x => { tmps := (a.tmps.setIfInBounds p (encs x)).setIfInBounds q (encs x), defers := [] }) (fun l x W K h => by
      have e : (#[p].zip #[encs x]).foldl (fun t (y : Tmp × Value) => t.setIfInBounds y.1 y.2) a.tmps = a.tmps.setIfInBounds p (encs x) := by simp
      have := hassign l x W K h
      rw [← e] at this
      exact this) hbody hdone hstop
end Go.Proofs.YtmmligbkecilfaaGreatDoor
namespace Go.Proofs.YtmmligbkecilfaaGreatDoor
open Go.RowKit Lv Go.Shelf
attribute [local go_sem] Oper.semAt_some

theorem size_out (c : Int) (w : World) (h : ¬ (1 ≤ c ∧ c ≤ 6)) :
    Calls Tryz.prog 53 #[.int .i64 c] w fun e w' => e = .returned (.int .i64 0) ∧ w = w' := by
  by_cases h1 : c < 1
  · clear h
    go_enter Tryz.func53, Tryz.ntmps53
    go_wp2
    go_ret
    exact ⟨rfl, rfl⟩
  · have h2 : 6 < c := by omega
    clear h
    go_enter Tryz.func53, Tryz.ntmps53
    go_wp2
    go_ret
    exact ⟨rfl, rfl⟩

/-- how many entries a triangle has -/
def tsz (c : Nat) : Nat := (c + 1) * (c + 2) / 2
theorem tsz_bounds {c : Nat} (h1 : 1 ≤ c) (h6 : c ≤ 6) : 3 ≤ tsz c ∧ tsz c ≤ 28 := by
  have : ∀ c, c < 7 → 1 ≤ c → 3 ≤ tsz c ∧ tsz c ≤ 28 := by decide
  exact this c (by omega) h1
theorem tsz_int {c : Nat} (h1 : 1 ≤ c) (h6 : c ≤ 6) : wrap64 ((wrap64 (((c : Int) + 1) * ((c : Int) + 2))).tdiv 2) = (tsz c : Int) := by
  have : ∀ c : Nat, c < 7 → 1 ≤ c → wrap64 ((wrap64 (((c : Int) + 1) * ((c : Int) + 2))).tdiv 2) = (tsz c : Int) := by decide +kernel
  exact this c (by omega) h1

theorem size_in (c : Nat) (w : World) (h1 : 1 ≤ c) (h6 : c ≤ 6) :
    Calls Tryz.prog 53 #[.int .i64 (c : Int)] w fun e w' => e = .returned (.int .i64 (tsz c : Int)) ∧ w = w' := by
  have T := Lib.hid (tsz_int h1 h6)
  have a1 : (1 : Int) ≤ (c : Int) := by omega
  have a6 : (c : Int) ≤ 6 := by omega
  clear h1 h6
  go_enter Tryz.func53, Tryz.ntmps53
  go_wp2
  go_ret
  exact ⟨ret_int T.out, rfl⟩

/-- has a float a sign? -/
def sgnF (x : Option Nat) : Bool := match x with | none => false | some b => decide (9223372036854775808 ≤ b)
/-- a row of a triangle, as it is stored -/
def seg (xs : List (Option Nat)) (c i : Nat) : List (Option Nat) := (xs.drop (offs c i)).take (c + 1 - i)
/-- is a row bad? -/
def badS (s : List (Option Nat)) : Bool := sgnF (s.getD 0 none) || s.any largeF

theorem bad_word {b : Nat} {s : List (Option Nat)} (h : FW b (s.getD 0 none)) (hl : 0 < s.length) : (decide (9223372036854775808 ≤ b) || s.any largeF) = badS s := by
  unfold badS
  obtain ⟨_, h⟩ := h
  cases hx : s.getD 0 none with
  | some c =>
    rw [hx] at h
    obtain ⟨rfl, _⟩ := ab_some h
    rfl
  | none =>
    have : s.any largeF = true := by
      rw [List.any_eq_true]
      refine ⟨none, ?_, rfl⟩
      rw [← hx, List.getD_eq_getElem?_getD, List.getElem?_eq_getElem hl]
      exact List.getElem_mem hl
    rw [this, Bool.or_true, Bool.or_true]

/-- a factor may be -/
def checkP (cols : Int) (xs : List (Option Nat)) (rws trn : Int) : Bool :=
  decide (1 ≤ cols) && decide (cols ≤ 6) && decide (xs.length = tsz cols.toNat) && decide (0 ≤ rws) && decide (rws ≤ 200) && decide (0 ≤ trn) && decide (trn ≤ 4096) &&
    !(List.range (cols.toNat + 1)).any fun i => badS (seg xs cols.toNat i)

theorem seg_length {xs : List (Option Nat)} {c i : Nat} (h1 : 1 ≤ c) (h6 : c ≤ 6) (hl : xs.length = tsz c) (hi : i ≤ c) : (seg xs c i).length = c + 1 - i := by
  have := offs_le c i h1 h6 (by omega)
  unfold seg
  rw [List.length_take, List.length_drop, hl]
  unfold tsz
  omega

/-- a part of what is stored reads as that part -/
theorem row_seg {w : World} {blk off cap c : Nat} {xs : List (Option Nat)} (h1 : 1 ≤ c) (h6 : c ≤ 6) (hl : xs.length = tsz c) (hcap : xs.length ≤ cap) (hcm : cap ≤ maxLen)
    (hc : ∀ i, i < xs.length → ∃ b, w.cell? ⟨blk, off + i, none⟩ = some (.float .f64 b) ∧ FW b (xs.getD i none)) {i : Nat} (hi : i ≤ c) :
    Row w (.slice (some ⟨blk, off + offs c i, none⟩) (seg xs c i).length (cap - offs c i)) (seg xs c i) := by
  have ho := offs_le c i h1 h6 (by omega)
  have hs := seg_length h1 h6 hl hi
  have ht : xs.length = (c + 1) * (c + 2) / 2 := hl
  refine ⟨_, _, rfl, by omega, by omega, .inr ⟨blk, off + offs c i, rfl, fun j hj => ?_⟩⟩
  obtain ⟨b, hb1, hb2⟩ := hc (offs c i + j) (by omega)
  refine ⟨b, by rw [Nat.add_assoc]; exact hb1, ?_⟩
  have : (seg xs c i).getD j none = xs.getD (offs c i + j) none := by
    unfold seg
    rw [List.getD_eq_getElem?_getD, List.getD_eq_getElem?_getD, List.getElem?_take_of_lt (by omega), List.getElem?_drop]
  rw [this]; exact hb2

theorem check_cols (cols rws trn : Int) (a : Option Addr) (n cap : Nat) (w : World) (h : ¬ (1 ≤ cols ∧ cols ≤ 6)) :
    Calls Tryz.prog 29 #[.agg #[.int .i64 cols, .slice a n cap, .int .i64 rws, .int .i64 trn]] w fun e w' => e = .returned (.bool false) ∧ Below w.heap.size w w' := by
  have S := Lib.hid (fun w => size_out cols w h)
  clear h
  go_enter Tryz.func29, Tryz.ntmps29
  go_wp2_with (go_at_call 53; refine (S.out _).mono ?_; rintro e w' ⟨rfl, rfl⟩)
  exact bodyPost_ret (v := .bool false) (by simp [results, Tryz.results29, go_sem]) rfl ⟨rfl, ((Below.refl _ _).alloc (Nat.le_refl _) _).alloc (by simp) _⟩

theorem check_early (c : Nat) (rws trn : Int) (a : Option Addr) (n cap : Nat) (w : World) (h1 : 1 ≤ c) (h6 : c ≤ 6)
    (h : n ≠ tsz c ∨ (n = tsz c ∧ (rws < 0 ∨ (0 ≤ rws ∧ (200 < rws ∨ (rws ≤ 200 ∧ (trn < 0 ∨ (0 ≤ trn ∧ 4096 < trn)))))))) :
    Calls Tryz.prog 29 #[.agg #[.int .i64 (c : Int), .slice a n cap, .int .i64 rws, .int .i64 trn]] w fun e w' => e = .returned (.bool false) ∧ Below w.heap.size w w' := by
  have S := Lib.hid (fun w => size_in c w h1 h6)
  have hb := tsz_bounds h1 h6
  generalize tsz c = t at *
  have hz : ((t : Int) == 0) = false := by simp; omega
  clear h1 h6
  rcases h with h | ⟨h, h2⟩
  · have hne : ((n : Int) != (t : Int)) = true := by simp; omega
    clear h hb
    go_enter Tryz.func29, Tryz.ntmps29
    go_wp2_with (go_at_call 53; refine (S.out _).mono ?_; rintro e w' ⟨rfl, rfl⟩)
    exact bodyPost_ret (v := .bool false) (by simp [results, Tryz.results29, go_sem]) rfl ⟨rfl, ((Below.refl _ _).alloc (Nat.le_refl _) _).alloc (by simp) _⟩
  · subst h
    have hne : ((n : Int) != (n : Int)) = false := by simp
    clear hb
    rcases h2 with h | ⟨h0, h | ⟨h3, h | ⟨h4, h⟩⟩⟩
    all_goals
      go_enter Tryz.func29, Tryz.ntmps29
      go_wp2_with (go_at_call 53; refine (S.out _).mono ?_; rintro e w' ⟨rfl, rfl⟩)
      exact bodyPost_ret (v := .bool false) (by simp [results, Tryz.results29, go_sem]) rfl ⟨rfl, ((Below.refl _ _).alloc (Nat.le_refl _) _).alloc (by simp) _⟩

theorem any_rows {c : Nat} (p : Nat → Bool) : ∀ k, k ≤ c + 1 → (allRows c k).any (fun x => p x.1) = (List.range k).any p
  | 0, _ => rfl
  | k + 1, h => by rw [allRows_succ c k (by omega), List.any_append, any_rows p k (by omega), List.range_succ, List.any_append]; rfl
theorem any_rows_le {c k : Nat} (p : Nat → Bool) (hk : k ≤ c + 1) (h : (allRows c k).any (fun x => p x.1) = true) : (List.range (c + 1)).any p = true := by
  rw [any_rows p k hk, List.any_eq_true] at h
  obtain ⟨i, hi, hp⟩ := h
  rw [List.any_eq_true]
  exact ⟨i, by rw [List.mem_range] at hi ⊢; omega, hp⟩

set_option maxRecDepth 100000 in
set_option maxHeartbeats 2000000 in
theorem check_rows (c : Nat) (rws trn : Int) (blk off cap : Nat) (xs : List (Option Nat)) (w : World) (h1 : 1 ≤ c) (h6 : c ≤ 6) (hl : xs.length = tsz c) (hcap : xs.length ≤ cap) (hcm : cap ≤ maxLen)
    (r0 : 0 ≤ rws) (r1 : rws ≤ 200) (t0 : 0 ≤ trn) (t1 : trn ≤ 4096)
    (hc : ∀ i, i < xs.length → ∃ b, w.cell? ⟨blk, off + i, none⟩ = some (.float .f64 b) ∧ FW b (xs.getD i none)) :
    Calls Tryz.prog 29 #[.agg #[.int .i64 (c : Int), .slice (some ⟨blk, off, none⟩) xs.length cap, .int .i64 rws, .int .i64 trn]] w fun e w' =>
      e = .returned (.bool (!(List.range (c + 1)).any fun i => badS (seg xs c i))) ∧ Below w.heap.size w w' := by
  have S := Lib.hid (fun w => size_in c w h1 h6)
  have hb := tsz_bounds h1 h6
  have hz : ((tsz c : Int) == 0) = false := by simp; omega
  have hne : ((tsz c : Int) != (tsz c : Int)) = false := by simp
  have hblk : blk < w.heap.size := by
    obtain ⟨b, hb1, _⟩ := hc 0 (by omega)
    exact cell_lt hb1
  have HC := Lib.hid hc
  have HL := Lib.hid hl
  rw [hl]
  have H1 := Lib.hid h1
  have H6 := Lib.hid h6
  clear hc hl h1 h6 hb
  refine (callsIn_wide (n := 6)).1 ?_
  refine callsIn_of_wp_marks Tryz.func29 rfl trivial ?_ rfl
  simp only [Tryz.ntmps29, List.size_toArray, List.length_cons, List.length_nil, Nat.reduceAdd, Nat.reduceSub, Array.replicate_succ, Array.replicate_zero, List.push_toArray, List.append_toArray, List.nil_append, List.cons_append]
  gi_wp2_with (first | (refine ⟨trivial, ?_⟩; gi_at_call 53; refine (callsIn_wide.2 (S.out _)).mono ?_; rintro e w' ⟨rfl, rfl⟩) | (refine ⟨trivial, ?_⟩; gi_at_call 54; refine (callsIn_wide.2 (rows_calls _ _ _ _ _)).mono ?_; rintro e w' ⟨rfl, rfl⟩))
  have hbel := ((((Below.refl w.heap.size w).alloc (Nat.le_refl _) (.cells #[.int .i64 (c : Int), .slice (some ⟨blk, off, none⟩) (tsz c) cap, .int .i64 rws, .int .i64 trn] 24)).alloc (by simp) (.cells #[.bool false] 4)).alloc (by simp; omega) (.cells #[.int .i64 (c : Int), .slice (some ⟨blk, off, none⟩) (tsz c) cap, .int .i64 rws, .int .i64 trn] 24))
  have hs1 : ∀ (W : World) (o : Obj), (W.alloc o).heap.size = W.heap.size + 1 := fun W o => World.size_alloc ..
  generalize hW0 : (((w.alloc (.cells #[.int .i64 (c : Int), .slice (some ⟨blk, off, none⟩) (tsz c) cap, .int .i64 rws, .int .i64 trn] 24)).alloc (.cells #[.bool false] 4)).alloc (.cells #[.int .i64 (c : Int), .slice (some ⟨blk, off, none⟩) (tsz c) cap, .int .i64 rws, .int .i64 trn] 24)) = W0 at *
  have z0 : W0.heap.size = w.heap.size + 3 := by rw [← hW0]; simp
  have q0 : W0.cell? ⟨w.heap.size + 1 + 1, 0, none⟩ = some (.int .i64 (c : Int)) := by rw [← hW0]; simp [go_sem]
  have q1 : W0.cell? ⟨w.heap.size + 1 + 1, 1, none⟩ = some (.slice (some ⟨blk, off, none⟩) (tsz c) cap) := by rw [← hW0]; simp [go_sem]
  have q2 : W0.cell? ⟨w.heap.size + 1, 0, none⟩ = some (.bool false) := by rw [← hW0]; simp [go_sem]
  have q3 : W0.frozen? ⟨w.heap.size + 1, 0, none⟩ = false := by rw [← hW0]; simp [go_sem]
  clear hW0 hs1
  refine wpIn_rangeRow (encs := encRow blk off cap c) 4 (by decide) rfl (enters_of Tryz.func77 (by kernel_rfl) rfl)
    (rows_stops 5 (w.heap.size + 1 + 1) blk off (tsz c) cap c H1.out H6.out rfl (by have := HL.out; omega) hcm (by decide) W0 (by omega) q0 q1)
    (fun pre W => ((W.cell? ⟨w.heap.size + 1, 0, none⟩ = some (.bool false) ∧ W.frozen? ⟨w.heap.size + 1, 0, none⟩ = false) ∧ pre.any (fun x => badS (seg xs c x.1)) = false) ∧ Below w.heap.size w W)
    (fun cd pre W => ((W.cell? ⟨w.heap.size + 1, 0, none⟩ = some (.bool false) ∧ W.frozen? ⟨w.heap.size + 1, 0, none⟩ = false) ∧ cd = .ret ∧ pre.any (fun x => badS (seg xs c x.1)) = true) ∧ Below w.heap.size w W)
    (OwnFrom.and (Own.from (fun s A B row hs hg hr => ⟨⟨cell_kept hs.1.1 hg hr, (frozen_kept hs.1.1 hg hr).trans hs.1.2⟩, hs.2⟩) _) (ownFrom_below (Nat.le_refl _) (by omega)))
    (fun cd => OwnFrom.and (Own.from (fun s A B row hs hg hr => ⟨⟨cell_kept hs.1.1 hg hr, (frozen_kept hs.1.1 hg hr).trans hs.1.2⟩, hs.2⟩) _) (ownFrom_below (Nat.le_refl _) (by omega)))
    ⟨⟨⟨q2, q3⟩, rfl⟩, hbel⟩ ?assign ?body ?done ?stop
  case assign =>
    intro l x W K hK
    gi_wp2
    exact hK
  case body =>
    rintro l pre ⟨i, hi⟩ W ⟨⟨⟨hq2, hq3⟩, hpre⟩, hB⟩ hlt
    have hsl := seg_length H1.out H6.out HL.out hi
    have hrow := row_seg H1.out H6.out HL.out (by have := HL.out; omega) hcm HC.out hi
    have hrW := hrow.below hB
    obtain ⟨b, hb, hfw⟩ := HC.out (offs c i) (by have := offs_le c i H1.out H6.out (by omega); have := HL.out; unfold tsz at this; omega)
    have hbW : W.cell? ⟨blk, off + offs c i, none⟩ = some (.float .f64 b) := (hB.cell (p := ⟨blk, off + offs c i, none⟩) hblk).trans hb
    have hfw0 : FW b ((seg xs c i).getD 0 none) := by
      have : (seg xs c i).getD 0 none = xs.getD (offs c i) none := by
        unfold seg
        rw [List.getD_eq_getElem?_getD, List.getD_eq_getElem?_getD, List.getElem?_take_of_lt (by omega), List.getElem?_drop, Nat.add_zero]
      rw [this]; exact hfw
    have hbad := Lib.hid (bad_word hfw0 (by rw [hsl]; omega))
    rw [hsl] at hrW
    have hp0 : (0 : Int) < ((c + 1 - i : Nat) : Int) := by omega
    have HP := Lib.hid hpre
    have HS := Lib.hid hsl
    clear hpre hsl hrow hb
    unfold encRow
    dsimp only
    gi_wp2_with (first | (refine ⟨trivial, ?_⟩; gi_at_call 55; refine (CallsIn.inRound l (callsIn_wide.2 (signbit_calls b hfw.1 _))).mono ?_; rintro e w' ⟨rfl, rfl⟩) | (refine ⟨trivial, ?_⟩; gi_at_call 30; refine (CallsIn.inRound l (callsIn_wide.2 (containslarge_calls _ _ _ (seg xs c i) _ hrW))).mono ?_; rintro e w' ⟨rfl, rfl⟩) | (refine ⟨trivial, ?_⟩; (with_reducible show _)))
    · have hd : 9223372036854775808 ≤ b ∨ (seg xs c i).any largeF = true := by assumption
      have hbb : badS (seg xs c i) = true := by rw [← hbad.out]; simpa using hd
      exact ⟨KeepsOthers.setCell _ _ _, ⟨⟨World.cell?_setCell_same' _ _ _ (by rw [hq2]; rfl), by rw [World.frozen?_setCell]; exact hq3⟩, rfl, by rw [List.any_append]; simp [hbb]⟩, hB.setCell (p := ⟨w.heap.size + 1, 0, none⟩) (by simp) _⟩
    · have hd : ¬9223372036854775808 ≤ b ∧ (seg xs c i).any largeF = false := by assumption
      have hbb : badS (seg xs c i) = false := by rw [← hbad.out]; simpa using hd
      exact ⟨KeepsOthers.refl _, trivial, ⟨⟨hq2, hq3⟩, by rw [List.any_append, HP.out]; simp [hbb]⟩, hB⟩
    · have hd : ¬b < 9223372036854775808 := by assumption
      have hbb : badS (seg xs c i) = true := by
        rw [← hbad.out]
        have : decide (9223372036854775808 ≤ b) = true := by simp; omega
        rw [this]; rfl
      exact ⟨KeepsOthers.setCell _ _ _, ⟨⟨World.cell?_setCell_same' _ _ _ (by rw [hq2]; rfl), by rw [World.frozen?_setCell]; exact hq3⟩, rfl, by rw [List.any_append]; simp [hbb]⟩, hB.setCell (p := ⟨w.heap.size + 1, 0, none⟩) (by simp) _⟩
  case done =>
    rintro D ys W hD rfl ⟨⟨⟨hq2, hq3⟩, hpre⟩, hB⟩ hK
    have HP := Lib.hid hpre
    clear hpre
    gi_wp2
    have hK2 := (KeepsOthers.setCell W ⟨w.heap.size + 1, 0, none⟩ (.bool true)).same D _ hK rfl
    refine ⟨by simp, .inl ⟨_, _, rfl, run_takeDeferred hK2, ?_⟩⟩
    have hc2 : (W.setCell ⟨w.heap.size + 1, 0, none⟩ (.bool true)).cell? ⟨w.heap.size + 1, 0, none⟩ = some (.bool true) := World.cell?_setCell_same' _ _ _ (by rw [hq2]; rfl)
    have hqq := cell_kept hc2 (grownBy_putObj' _ D (.deferred none)) (fun r e => by cases e; exact ⟨_, hK2, rfl⟩)
    refine ⟨.bool true, by simp [results, Tryz.results29, go_sem, hqq], ?_, ?_⟩
    · have := HP.out
      rw [any_rows (fun i => badS (seg xs c i)) (c + 1) (Nat.le_refl _)] at this
      rw [this]; rfl
    · exact (hB.setCell (p := ⟨w.heap.size + 1, 0, none⟩) (by simp) _).trans (belowK_b (w := w) (Nat.le_refl _) _ D _ _ (by omega) hK2 rfl rfl)
  case stop =>
    rintro D cd pre W hD ⟨k, hk, rfl⟩ ⟨⟨⟨hq2, hq3⟩, rfl, hpre⟩, hB⟩ hK
    have HP := Lib.hid hpre
    clear hpre
    gi_wp2
    refine ⟨by simp, .inl ⟨_, _, rfl, run_takeDeferred hK, ?_⟩⟩
    have hqq := cell_kept hq2 (grownBy_putObj' _ D (.deferred none)) (fun r e => by cases e; exact ⟨_, hK, rfl⟩)
    refine ⟨.bool false, by simp [results, Tryz.results29, go_sem, hqq], ?_, ?_⟩
    · rw [any_rows_le (fun i => badS (seg xs c i)) hk HP.out]; rfl
    · exact hB.trans (belowK_b (w := w) (Nat.le_refl _) W D _ _ (by omega) hK rfl rfl)

/-- whether a factor may be, told of any -/
theorem check_calls (cols rws trn : Int) (a : Option Addr) (n cap : Nat) (xs : List (Option Nat)) (w : World) (h : Row w (.slice a n cap) xs) :
    Calls Tryz.prog 29 #[.agg #[.int .i64 cols, .slice a n cap, .int .i64 rws, .int .i64 trn]] w fun e w' => e = .returned (.bool (checkP cols xs rws trn)) ∧ Below w.heap.size w w' := by
  obtain ⟨a', cap', hv, h1, h2, h3⟩ := h
  simp only [Value.slice.injEq] at hv
  obtain ⟨rfl, rfl, rfl⟩ := hv
  by_cases hc : 1 ≤ cols ∧ cols ≤ 6
  · obtain ⟨c, rfl⟩ := Int.eq_ofNat_of_zero_le (show 0 ≤ cols by omega)
    obtain ⟨c1, c6⟩ := hc
    by_cases hl : xs.length = tsz c ∧ 0 ≤ rws ∧ rws ≤ 200 ∧ 0 ≤ trn ∧ trn ≤ 4096
    · obtain ⟨hl, r0, r1, t0, t1⟩ := hl
      have hb := tsz_bounds (c := c) (by omega) (by omega)
      rcases h3 with ⟨h3, _⟩ | ⟨blk, off, rfl, hcell⟩
      · omega
      · refine (check_rows c rws trn blk off cap xs w (by omega) (by omega) hl h1 h2 r0 r1 t0 t1 hcell).mono ?_
        rintro e w' ⟨rfl, hB⟩
        refine ⟨ret_bool ?_, hB⟩
        unfold checkP
        simp [c1, c6, hl, r0, r1, t0, t1]
    · refine (check_early c rws trn a xs.length cap w (by omega) (by omega) (by omega)).mono ?_
      rintro e w' ⟨rfl, hB⟩
      refine ⟨ret_bool ?_, hB⟩
      unfold checkP
      symm
      rw [Bool.eq_false_iff]
      intro hh
      simp at hh
      omega
  · refine (check_cols cols rws trn a xs.length cap w hc).mono ?_
    rintro e w' ⟨rfl, hB⟩
    refine ⟨ret_bool ?_, hB⟩
    unfold checkP
    symm
    rw [Bool.eq_false_iff]
    intro hh
    simp at hh
    omega
end Go.Proofs.YtmmligbkecilfaaGreatDoor
