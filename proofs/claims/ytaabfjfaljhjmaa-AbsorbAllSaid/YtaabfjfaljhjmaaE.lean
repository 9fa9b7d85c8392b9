/- Going through a triangle's rows: the iterator's contract. -/
import Derived.RangeFuncNested
import Derived.RangeFuncBound
import Derived.RangeFuncCalls
import Derived.RangeFuncLeaves
import Derived.RangeFuncFrom
import Derived.Shelf.Abstract
import Derived.Shelf.RegionOpen
import Derived.OwnWalkIn
import Derived.TacticsInMore
import Derived.LoopNIn
import Derived.LoopIn
import Derived.Test.YtaabfjfaljhjmaaD
namespace Go.Proofs.Ytaabfjfaljhjmaa
open Go.RowKit Lv Go.Shelf
attribute [local go_sem] Oper.semAt_some

/-- where row i begins in a packed triangle of c columns and one more -/
def offs (c : Nat) : Nat → Nat
  | 0 => 0
  | i + 1 => offs c i + (c + 1 - i)

theorem offs_le (c i : Nat) (h1 : 1 ≤ c) (h6 : c ≤ 6) (hi : i ≤ c + 1) : offs c i + (c + 1 - i) ≤ (c + 1) * (c + 2) / 2 := by
  have : ∀ c, c < 7 → ∀ i, i < 8 → 1 ≤ c → i ≤ c + 1 → offs c i + (c + 1 - i) ≤ (c + 1) * (c + 2) / 2 := by decide
  exact this c (by omega) i (by omega) h1 hi
theorem offs_end (c : Nat) (h1 : 1 ≤ c) (h6 : c ≤ 6) : offs c (c + 1) = (c + 1) * (c + 2) / 2 := by
  have : ∀ c, c < 7 → 1 ≤ c → offs c (c + 1) = (c + 1) * (c + 2) / 2 := by decide
  exact this c (by omega) h1

/-- a row's number -/
abbrev RowNo (c : Nat) := { i : Nat // i ≤ c }
/-- what is handed to the loop for a row -/
def encRow (blk off cap c : Nat) (x : RowNo c) : Value := .slice (some ⟨blk, off + offs c x.1, none⟩) (c + 1 - x.1) (cap - offs c x.1)
/-- all rows' numbers, up to one -/
def allRows (c k : Nat) : List (RowNo c) := (List.range k).filterMap fun i => if h : i ≤ c then some ⟨i, h⟩ else none
theorem allRows_succ (c k : Nat) (h : k ≤ c) : allRows c (k + 1) = allRows c k ++ [⟨k, h⟩] := by
  unfold allRows; rw [List.range_succ, List.filterMap_append]; simp [h]
theorem allRows_length (c k : Nat) (h : k ≤ c + 1) : (allRows c k).length = k := by
  induction k with
  | zero => rfl
  | succ k ih => rw [allRows_succ c k (by omega), List.length_append, ih (by omega)]; rfl

set_option maxRecDepth 100000 in
set_option maxHeartbeats 2000000 in
theorem rows1_in (n : Nat) (l Bf : Nat) (blk off len cap c : Nat) (h1 : 1 ≤ c) (h6 : c ≤ 6) (hlen : len = (c + 1) * (c + 2) / 2) (hcap : len ≤ cap) (hcm : cap ≤ maxLen)
    (J Jx : List (RowNo c) → World → Prop)
    (hY : ∀ pre x W, J pre W → pre.length < c + 1 → YieldAt Fence.wide (n - 1) Try.prog l #[encRow blk off cap c x] W fun e W' =>
      (e = .returned (.bool true) ∧ J (pre ++ [x]) W' ∧ True) ∨ (e = .returned (.bool false) ∧ Jx (pre ++ [x]) W'))
    (W : World) (hB0 : W.cell? ⟨Bf, 0, none⟩ = some (.int .i64 (c : Int))) (hB1 : W.cell? ⟨Bf, 1, none⟩ = some (.slice (some ⟨blk, off, none⟩) len cap)) (h0 : J [] W) (hn : 1 ≤ n) :
    CallsIn Fence.wide n Try.prog 68 #[.func (.yield l) #[] #[], .pointer (some ⟨Bf, 0, none⟩)] W fun e W' => (∃ v, e = .returned v) ∧
      ((∃ ys, ys = allRows c (c + 1) ∧ J ys W') ∨ (∃ pre, (∃ k, k ≤ c + 1 ∧ pre = allRows c k) ∧ Jx pre W')) := by
  unfold maxLen at hcm
  have HL := Lib.hid hlen
  clear hlen
  refine callsIn_of_wp Try.func68 rfl trivial ?_ rfl
  simp only [Try.ntmps68, List.size_toArray, List.length_cons, List.length_nil, Nat.reduceAdd, Nat.reduceSub, Array.replicate_succ, Array.replicate_zero, List.push_toArray, List.append_toArray, List.nil_append, List.cons_append]
  gi_wp2
  gi_loopw [3, 4] (fun r m wr => ∃ k : Nat, k ≤ c + 1 ∧ m = .int .i64 ((c + 1 - k : Nat) : Int) ∧ (k ≤ c → r = .slice (some ⟨blk, off + offs c k, none⟩) (len - offs c k) (cap - offs c k)) ∧ J (allRows c k) wr)
    (fun _ m _ => (intOf m).toNat)
  case atStart => exact ⟨0, by omega, by simp, fun _ => by simp [offs], h0⟩
  case round =>
    obtain ⟨k, hk, rfl, hr, hJs⟩ := hrel
    by_cases hlt : k ≤ c
    · obtain rfl := hr hlt
      obtain ⟨fn, tmps, assign, body, hy, hR⟩ := hY _ ⟨k, hlt⟩ _ hJs (by rw [allRows_length c k hk]; omega)
      unfold encRow at hy
      dsimp only at hy
      have ho := offs_le c k h1 h6 hk
      rw [← HL.out] at ho
      have hoff := Lib.hid (show offs c (k + 1) = offs c k + (c + 1 - k) from rfl)
      clear hr
      gi_wp2
      refine hR.mono ?_
      rintro e W3 (⟨rfl, hJ3, _⟩ | ⟨rfl, hJx3⟩)
      · gi_wp2
        go_roundw
        case rel =>
          refine ⟨k + 1, by omega, ?_, fun hk1 => ?_, by rw [allRows_succ c k hlt]; exact hJ3⟩
          · congr 1
            omega
          · have ho2 := offs_le c (k + 1) h1 h6 (by omega)
            rw [← HL.out, hoff.out] at ho2
            rw [hoff.out, if_neg (by omega), Nat.add_assoc]
            congr 1 <;> omega
        case measure => simp [intOf]; omega
      · gi_wp2
        refine bodyPost_ret (results_none rfl _ _ _) rfl ?_
        exact ⟨⟨_, rfl⟩, .inr ⟨_, ⟨k + 1, by omega, (allRows_succ c k hlt).symm⟩, hJx3⟩⟩
    · obtain rfl : k = c + 1 := by omega
      gi_wp2
      go_end0
      exact ⟨⟨_, rfl⟩, .inl ⟨_, rfl, hJs⟩⟩

theorem rows_stops (n : Nat) (Bf : Nat) (blk off len cap c : Nat) (h1 : 1 ≤ c) (h6 : c ≤ 6) (hlen : len = (c + 1) * (c + 2) / 2) (hcap : len ≤ cap) (hcm : cap ≤ maxLen) (hn : 1 ≤ n)
    (w : World) (hB : Bf < w.heap.size) (hB0 : w.cell? ⟨Bf, 0, none⟩ = some (.int .i64 (c : Int))) (hB1 : w.cell? ⟨Bf, 1, none⟩ = some (.slice (some ⟨blk, off, none⟩) len cap)) :
    SeqStopsK Fence.wide n Try.prog 68 #[.pointer (some ⟨Bf, 0, none⟩)] (fun x => #[encRow blk off cap c x]) (fun _ _ => True) (fun ys => ys = allRows c (c + 1)) (fun pre => ∃ k, k ≤ c + 1 ∧ pre = allRows c k) (c + 1) w :=
  fun l J Jx W hW _ _ hY h0 => rows1_in n l Bf blk off len cap c h1 h6 hlen hcap hcm J Jx hY W ((hW.cell (p := ⟨Bf, 0, none⟩) hB).trans hB0) ((hW.cell (p := ⟨Bf, 1, none⟩) hB).trans hB1) h0 hn

theorem rows_calls (cols rws trn : Int) (v : Value) (w : World) :
    Calls Try.prog 47 #[.agg #[.int .i64 cols, v, .int .i64 rws, .int .i64 trn]] w fun e w' => e = .returned (.func (.func 68) #[] #[.pointer (some ⟨w.heap.size, 0, none⟩)]) ∧ w' = w.alloc (.cells #[.int .i64 cols, v, .int .i64 rws, .int .i64 trn] 24) := by
  go_enter Try.func47, Try.ntmps47
  go_wp2
  go_ret
  exact ⟨rfl, rfl⟩

/-- the law of a range over rows, the loop's variable in slot q -/
theorem wpIn_rangeRow {α : Type} {P : Program} {n : Nat} {g : Operand} {p : Tmp} (q : Tmp) {assign body : Code} {Q : Exit → Act → World → Prop} {a : Act} {w : World}
    (h1 : 1 ≤ n) {gf : Nat} {lb : Array Value} (hg : a.eval g = .func (.func gf) #[] lb) (eg : ∀ args w, (callFunc gf args).run P w = .ok (.enter gf args) w)
    {encs : α → Value} {S Sp : List α → Prop} {N : Nat} (hseq : SeqStopsK Fence.wide (n - 1) P gf lb (fun x => #[encs x]) (fun _ _ => True) S Sp N w)
    (I : List α → World → Prop) (Ix : Code → List α → World → Prop) (hI : OwnFrom w.heap.size I) (hIx : ∀ c, OwnFrom w.heap.size (Ix c)) (h0 : I [] w)
    (hassign : ∀ (l : Nat) (x : α) (W : World) (K : Act → World → Prop), K { tmps := (a.tmps.setIfInBounds p (encs x)).setIfInBounds q (encs x), defers := [] } W →
      assign.wpIn (Fence.wide.inRound l) (n - 1 - 1) P (Exit.then K (fun _ _ _ => False)) { tmps := a.tmps.setIfInBounds p (encs x), defers := [] } W)
    (hbody : ∀ (l : Nat) (pre : List α) (x : α) (W : World), I pre W → pre.length < N → body.wpIn (Fence.wide.inRound l) (n - 1 - 1) P (ownPostK (fun _ _ => True) I Ix (pre ++ [x]) W) { tmps := (a.tmps.setIfInBounds p (encs x)).setIfInBounds q (encs x), defers := [] } W)
    (hdone : ∀ (D : Nat) (xs : List α) (W : World), w.heap.size ≤ D → S xs → I xs W → W.heap[D]? = some (.deferred (some [])) → Q .normal { a with defers := { target := .collected D, args := #[] } :: a.defers } W)
    (hstop : ∀ (D : Nat) (c : Code) (pre : List α) (W : World), w.heap.size ≤ D → Sp pre → Ix c pre W → W.heap[D]? = some (.deferred (some [])) → c.wpIn Fence.wide n P Q { a with defers := { target := .collected D, args := #[] } :: a.defers } W) :
    (Code.rangeFunc g #[p] assign body).wpIn Fence.wide n P Q a w :=
  wpIn_rangeFunc_ownF rfl h1 hg trivial eg hseq (fun _ _ => trivial) (fun _ _ _ _ _ _ _ _ => trivial) (Below.refl _ _) (fun _ => rfl) I Ix hI hIx h0
    (fun x => { tmps := (a.tmps.setIfInBounds p (encs x)).setIfInBounds q (encs x), defers := [] }) (fun l x W K h => by
      have e : (#[p].zip #[encs x]).foldl (fun t (y : Tmp × Value) => t.setIfInBounds y.1 y.2) a.tmps = a.tmps.setIfInBounds p (encs x) := by simp
      have := hassign l x W K h
      rw [← e] at this
      exact this) hbody hdone hstop
end Go.Proofs.Ytaabfjfaljhjmaa
