/- solve.Back, walked: rows gone through backward. -/
import Derived.Test.YtfohknalldelfaaVc
import Derived.Stop.RegionWithIn
import Derived.Deep.CutRange
namespace Go.Proofs.Ytfohknalldelfaa
open Go.RowKit Lv Go.Shelf
open Ieee (double Format Datum Toward)
attribute [local go_sem] Oper.semAt_some run_store_float drewN_alloc drewN_setCell run_addF run_subF run_mulF run_quoF

/-- a row's number, of c rows -/
abbrev RowIx (c : Nat) := { i : Nat // i < c }
/-- the rows from the last one on, k of them -/
def downs (c k : Nat) : List (RowIx c) := (List.range k).filterMap fun i => if h : c - 1 - i < c then some ⟨c - 1 - i, h⟩ else none
theorem downs_succ (c k : Nat) (h : k < c) : downs c (k + 1) = downs c k ++ [⟨c - 1 - k, by omega⟩] := by
  unfold downs; rw [List.range_succ, List.filterMap_append]
  have : c - 1 - k < c := by omega
  simp [this]
theorem downs_length (c k : Nat) (h : k ≤ c) : (downs c k).length = k := by
  induction k with
  | zero => rfl
  | succ k ih => rw [downs_succ c k (by omega), List.length_append, ih (by omega)]; rfl
/-- what a round keeps: the slice's variable, and the rows -/
def KpB (Bf qb : Nat) (A B : World) : Prop := ∀ (p : Addr) (v : Value), p.block = Bf ∨ p.block = qb → A.cell? p = some v → B.cell? p = some v

set_option maxRecDepth 100000 in
set_option maxHeartbeats 2000000 in
theorem backwd1_in (n : Nat) (l Bf qb c : Nat) (G CP : Nat → Nat) (h1 : 1 ≤ c) (h6 : c ≤ 6) (J Jx : List (RowIx c) → World → Prop)
    (hY : ∀ pre x W, J pre W → pre.length < c → YieldAt Fence.wide (n - 1) Try.prog l #[.int .i64 (x.1 : Int), .slice (some ⟨G x.1, 0, none⟩) c (CP x.1)] W fun e W' =>
      (e = .returned (.bool true) ∧ J (pre ++ [x]) W' ∧ KpB Bf qb W W') ∨ (e = .returned (.bool false) ∧ Jx (pre ++ [x]) W'))
    (W : World) (hB0 : W.cell? ⟨Bf, 0, none⟩ = some (.slice (some ⟨qb, 0, none⟩) c c)) (hrows : ∀ i, i < c → W.cell? ⟨qb, i, none⟩ = some (.slice (some ⟨G i, 0, none⟩) c (CP i))) (h0 : J [] W) (hn : 1 ≤ n) :
    CallsIn Fence.wide n Try.prog 42 #[.func (.yield l) #[] #[], .pointer (some ⟨Bf, 0, none⟩)] W fun e W' => (∃ v, e = .returned v) ∧
      ((∃ ys, ys = downs c c ∧ J ys W') ∨ (∃ pre, (∃ k, k ≤ c ∧ pre = downs c k) ∧ Jx pre W')) := by
  have HB0 := Lib.hid hB0
  have HRW := Lib.hid hrows
  clear hrows
  refine callsIn_of_wp Try.func42 rfl trivial ?_ rfl
  simp only [Try.ntmps42, List.size_toArray, List.length_cons, List.length_nil, Nat.reduceAdd, Nat.reduceSub, Array.replicate_succ, Array.replicate_zero, List.push_toArray, List.append_toArray, List.nil_append, List.cons_append]
  gi_wp2
  gi_loopw [3] (fun s wr => ∃ k : Nat, k ≤ c ∧ s = .int .i64 ((c : Int) - 1 - k) ∧ J (downs c k) wr ∧ Hid (KpB Bf qb W wr))
    (fun s _ => (intOf s + 1).toNat)
  case atStart => exact ⟨0, by omega, by simp, h0, fun _ _ _ h => h⟩
  case round =>
    obtain ⟨k, hk, rfl, hJs, hKp⟩ := hrel
    by_cases hlt : k < c
    · obtain ⟨fn, tmps, assign, body, hy, hR⟩ := hY _ ⟨c - 1 - k, by omega⟩ _ hJs (by rw [downs_length c k hk]; omega)
      dsimp only at hy
      have q0 := hKp.out ⟨Bf, 0, none⟩ _ (.inl rfl) HB0.out
      have q1 := hKp.out ⟨qb, c - 1 - k, none⟩ _ (.inr rfl) (HRW.out (c - 1 - k) (by omega))
      have hsx : downs c (k + 1) = downs c k ++ [⟨c - 1 - k, by omega⟩] := downs_succ c k hlt
      have HSX := Lib.hid hsx
      have hii : (c : Int) - 1 - (k : Int) = ((c - 1 - k : Nat) : Int) := by omega
      have hle : ((c - 1 - k : Nat) : Int) < (c : Int) := by omega
      have hKP := Lib.hid hKp.out
      rw [hii]
      clear hB0 hKp hii hsx
      gi_wp2
      refine hR.mono ?_
      rintro e W3 (⟨rfl, hJ3, hK3⟩ | ⟨rfl, hJx3⟩)
      · gi_wp2
        go_roundw
        case rel =>
          refine ⟨k + 1, by omega, ?_, by rw [HSX.out]; exact hJ3, fun p v hp hv => hK3 p v hp (hKP.out p v hp hv)⟩
          congr 1
          omega
        case measure => first | (simp [intOf]; done) | (simp [intOf]; omega)
      · gi_wp2
        refine bodyPost_ret (results_none rfl _ _ _) rfl ?_
        exact ⟨⟨_, rfl⟩, .inr ⟨_, ⟨k + 1, by omega, HSX.out.symm⟩, hJx3⟩⟩
    · obtain rfl : k = c := by omega
      gi_wp2
      go_end0
      exact ⟨⟨_, rfl⟩, .inl ⟨_, rfl, hJs⟩⟩
theorem backwd_stops (n : Nat) (Bf qb c : Nat) (G CP : Nat → Nat) (h1 : 1 ≤ c) (h6 : c ≤ 6) (hn : 1 ≤ n)
    (w : World) (hB : Bf < w.heap.size) (hq : qb < w.heap.size) (hB0 : w.cell? ⟨Bf, 0, none⟩ = some (.slice (some ⟨qb, 0, none⟩) c c)) (hrows : ∀ i, i < c → w.cell? ⟨qb, i, none⟩ = some (.slice (some ⟨G i, 0, none⟩) c (CP i))) :
    SeqStopsK Fence.wide n Try.prog 42 #[.pointer (some ⟨Bf, 0, none⟩)] (fun x : RowIx c => #[.int .i64 (x.1 : Int), .slice (some ⟨G x.1, 0, none⟩) c (CP x.1)]) (KpB Bf qb) (fun ys => ys = downs c c) (fun pre => ∃ k, k ≤ c ∧ pre = downs c k) c w :=
  fun l J Jx W hW _ _ hY h0 => backwd1_in n l Bf qb c G CP h1 h6 J Jx hY W ((hW.cell (p := ⟨Bf, 0, none⟩) hB).trans hB0) (fun i hi => (hW.cell (p := ⟨qb, i, none⟩) hq).trans (hrows i hi)) h0 hn
theorem backwd_calls (a : Option Addr) (n cap : Nat) (w : World) :
    Calls Try.prog 21 #[.slice a n cap] w fun e w' => e = .returned (.func (.func 42) #[] #[.pointer (some ⟨w.heap.size, 0, none⟩)]) ∧ w' = w.alloc (.cells #[.slice a n cap] 38) := by
  go_enter Try.func21, Try.ntmps21
  go_wp2
  go_ret
  exact ⟨rfl, rfl⟩
/-- the law of a range of two variables, in slots q and q' -/
theorem wpIn_range2 {α : Type} {P : Program} {n : Nat} {g : Operand} {p p' : Tmp} (q q' : Tmp) {assign body : Code} {Q : Exit → Act → World → Prop} {a : Act} {w : World}
    (h1 : 1 ≤ n) {gf : Nat} {lb : Array Value} (hg : a.eval g = .func (.func gf) #[] lb) (eg : ∀ args w, (callFunc gf args).run P w = .ok (.enter gf args) w)
    {e1 e2 : α → Value} {Kp : World → World → Prop} {S Sp : List α → Prop} {N : Nat} (hseq : SeqStopsK Fence.wide (n - 1) P gf lb (fun x => #[e1 x, e2 x]) Kp S Sp N w)
    (hKt : ∀ {A B C : World}, Kp A B → Kp B C → Kp A C) (hKb : ∀ (W : World) (l : Nat) (o o' : Obj), w.heap.size ≤ l → W.heap[l]? = some o → o.isCells = false → o.isWalk = false → Kp W (W.putObj l o'))
    (I : List α → World → Prop) (Ix : Code → List α → World → Prop) (hI : OwnFrom w.heap.size I) (hIx : ∀ c, OwnFrom w.heap.size (Ix c)) (h0 : I [] w)
    (hassign : ∀ (l : Nat) (x : α) (W : World) (K : Act → World → Prop), K { tmps := (((a.tmps.setIfInBounds p (e1 x)).setIfInBounds p' (e2 x)).setIfInBounds q (e1 x)).setIfInBounds q' (e2 x), defers := [] } W →
      assign.wpIn (Fence.wide.inRound l) (n - 1 - 1) P (Exit.then K (fun _ _ _ => False)) { tmps := (a.tmps.setIfInBounds p (e1 x)).setIfInBounds p' (e2 x), defers := [] } W)
    (hbody : ∀ (l : Nat) (pre : List α) (x : α) (W : World), I pre W → pre.length < N → body.wpIn (Fence.wide.inRound l) (n - 1 - 1) P (ownPostK Kp I Ix (pre ++ [x]) W) { tmps := (((a.tmps.setIfInBounds p (e1 x)).setIfInBounds p' (e2 x)).setIfInBounds q (e1 x)).setIfInBounds q' (e2 x), defers := [] } W)
    (hdone : ∀ (D : Nat) (xs : List α) (W : World), w.heap.size ≤ D → S xs → I xs W → W.heap[D]? = some (.deferred (some [])) → Q .normal { a with defers := { target := .collected D, args := #[] } :: a.defers } W)
    (hstop : ∀ (D : Nat) (c : Code) (pre : List α) (W : World), w.heap.size ≤ D → Sp pre → Ix c pre W → W.heap[D]? = some (.deferred (some [])) → c.wpIn Fence.wide n P Q { a with defers := { target := .collected D, args := #[] } :: a.defers } W) :
    (Code.rangeFunc g #[p, p'] assign body).wpIn Fence.wide n P Q a w :=
  wpIn_rangeFunc_ownF rfl h1 hg trivial eg hseq (fun h k => hKt h k) hKb (Below.refl _ _) (fun _ => rfl) I Ix hI hIx h0
    (fun x => { tmps := (((a.tmps.setIfInBounds p (e1 x)).setIfInBounds p' (e2 x)).setIfInBounds q (e1 x)).setIfInBounds q' (e2 x), defers := [] }) (fun l x W K h => by
      have e : (#[p, p'].zip #[e1 x, e2 x]).foldl (fun t (y : Tmp × Value) => t.setIfInBounds y.1 y.2) a.tmps = (a.tmps.setIfInBounds p (e1 x)).setIfInBounds p' (e2 x) := by simp
      have := hassign l x W K h
      rw [← e] at this
      exact this) hbody hdone hstop
end Go.Proofs.Ytfohknalldelfaa
