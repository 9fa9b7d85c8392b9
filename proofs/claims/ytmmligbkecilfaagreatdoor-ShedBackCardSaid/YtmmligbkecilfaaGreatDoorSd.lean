/- Two factors with the same data are the same to the references' eyes. Which floats are In, of lists; a row's entries. A row's entries, of a row that has some; what is refused of a row ahead of counting. A row absorbed, plainly; what is refused of it, walked: Early, Row. -/
import Derived.Test.YtmmligbkecilfaaGreatDoorV
import Derived.Test.YtmmligbkecilfaaGreatDoorRe
import Derived.Deep.RegionHeld3
import Derived.Deep.AppendLies
namespace Go.Proofs.YtmmligbkecilfaaGreatDoor
open Go.RowKit Lv Go.Shelf
open Ieee (double Format Datum Toward)
attribute [local go_sem] Oper.semAt_some run_bits

theorem row_cell {w : World} {a : Option Addr} {n cap : Nat} {xs : List (Option Nat)} (h : Row w (.slice a n cap) xs) (hn : 0 < n) : ∃ blk off, a = some ⟨blk, off, none⟩ ∧ ∀ i, i < n → ∃ b, w.cell? ⟨blk, off + i, none⟩ = some (.float .f64 b) ∧ FW b (xs.getD i none) := by
  obtain ⟨a', cap', hv, h1, h2, h3⟩ := h
  simp only [Value.slice.injEq] at hv
  obtain ⟨rfl, rfl, rfl⟩ := hv
  rcases h3 with ⟨h3, _⟩ | h3
  · omega
  · exact h3
theorem row_max {w : World} {a : Option Addr} {n cap : Nat} {xs : List (Option Nat)} (h : Row w (.slice a n cap) xs) : n ≤ 9223372036854775807 := by
  obtain ⟨a', cap', hv, h1, h2, h3⟩ := h
  simp only [Value.slice.injEq] at hv
  obtain ⟨rfl, rfl, rfl⟩ := hv
  unfold maxLen at h2
  omega

end Go.Proofs.YtmmligbkecilfaaGreatDoor
namespace Go.Proofs.YtmmligbkecilfaaGreatDoor
open Go.RowKit Lv Go.Shelf
open Ieee (double Format Datum Toward)
attribute [local go_sem] Oper.semAt_some

/-- is a float not In? -/
def outW (b : Nat) : Bool := !inW b
def outF (x : Option Nat) : Bool := match x with | none => true | some b => !inW b
theorem outW_F {b : Nat} {x : Option Nat} (h : FW b x) : outW b = outF x := by
  obtain ⟨_, h⟩ := h
  cases x with
  | some c => obtain ⟨rfl, h2⟩ := ab_some h; rfl
  | none =>
    have hn := nan_lt (ab_none h)
    have h2 : pw 400 ≤ 9218868437227405312 := by decide
    unfold outW inW outF
    rw [decide_eq_false (p := b % 9223372036854775808 = 0) (by omega), decide_eq_false (p := b % 9223372036854775808 ≤ pw 400) (by omega)]
    simp

theorem out_calls (b : Nat) (hb : W64 b) (w : World) :
    Calls Tryz.prog 31 #[.float .f64 b] w fun e w' => e = .returned (.bool (outW b)) ∧ w = w' := by
  have E : Hid (outW b = !inW b) := rfl
  have I := Lib.hid (in_calls b hb)
  clear hb
  generalize outW b = ob at *
  generalize inW b = ib at *
  go_enter Tryz.func31, Tryz.ntmps31
  go_wp2_with (first | (go_at_call 58; refine (I.out _).mono ?_; rintro e w' ⟨rfl, rfl⟩))
  go_ret
  exact ⟨ret_bool E.out.symm, rfl⟩

theorem indexout_calls (a : Option Addr) (n cap : Nat) (xs : List (Option Nat)) (w : World) (h : Row w (.slice a n cap) xs) :
    Calls Tryz.prog 57 #[.slice a n cap, .func (.func 31) #[] #[]] w fun e w' => (∃ n : Int, e = .returned (.int .i64 n) ∧ (decide (0 ≤ n) = xs.any outF)) ∧ w = w' := by
  obtain ⟨a', cap', hv, h1, h2, h3⟩ := h
  simp only [Value.slice.injEq] at hv
  obtain ⟨rfl, hn, rfl⟩ := hv
  rw [← hn] at h1 h3
  have HN := Lib.hid hn.symm
  clear hn
  unfold maxLen at h2
  go_enter Tryz.func57, Tryz.ntmps57
  go_wp2
  go_loop [8] (fun i => ∃ k : Nat, k ≤ n ∧ i = .int .i64 (k : Int) ∧ Hid ((xs.take k).any outF = false)) (fun i => n - (intOf i).toNat)
  case atStart => exact ⟨0, Nat.zero_le _, rfl, rfl⟩
  case round =>
    obtain ⟨k, hk, rfl, hrel⟩ := hrel
    by_cases hlt : k < n
    · rcases h3 with ⟨h0, _⟩ | ⟨blk, off, rfl, hc⟩
      · omega
      · obtain ⟨b, hb, hfw⟩ := hc k hlt
        have hst := Lib.hid (any_step (p := outF) (by rw [HN.out]; exact hlt) hrel.out)
        have hlf := Lib.hid (outW_F hfw)
        clear hc
        go_wp2_with (go_at_call 31; refine (out_calls b hfw.1 _).mono ?_; rintro e w' ⟨rfl, rfl⟩)
        · go_ret
          have hb1 : outW b = true := by assumption
          exact ⟨⟨k, rfl, by rw [any_of_take (k := k + 1) (by rw [hst.out, ← hlf.out, hb1])]; simp⟩, rfl⟩
        · have hb1 : outW b = false := by assumption
          go_round
          case rel => exact ⟨k + 1, by omega, by go_num, by show _ = false; rw [hst.out, ← hlf.out, hb1]⟩
          case measure => simp [intOf]; omega
    · obtain rfl : k = n := by omega
      go_wp2
      go_ret
      exact ⟨⟨-1, rfl, by have := hrel.out; rw [List.take_of_length_le (by rw [HN.out]; exact Nat.le_refl _)] at this; rw [this]; rfl⟩, rfl⟩

theorem containsout_calls (a : Option Addr) (n cap : Nat) (xs : List (Option Nat)) (w : World) (h : Row w (.slice a n cap) xs) :
    Calls Tryz.prog 30 #[.slice a n cap, .func (.func 31) #[] #[]] w fun e w' => e = .returned (.bool (xs.any outF)) ∧ w = w' := by
  have L := Lib.hid (indexout_calls a n cap xs w h)
  clear h
  go_enter Tryz.func30, Tryz.ntmps30
  go_wp2_with (go_at_call 57; refine L.out.mono ?_; rintro e w' ⟨⟨n, rfl, hn⟩, rfl⟩)
  go_ret
  exact ⟨rfl, rfl⟩

/-- append of floats to what is one's own, as a step of a region that draws its order -/
theorem step_append_F {ops : Array Oper} {o : Oper} {a : Act} {w : World} {K : Act → World → Prop} {Q : Exit → Act → World → Prop} {E : Prop}
    (hg : o.guard = none) (s x : Operand) (hop : o.op = Op.call { callee := Callee.builtin Builtin.append, args := #[s, x], argTypes := #[22, 22] })
    (B : Nat) (v : Value) (xs ys : List (Option Nat)) (hs : a.eval s = v) (hown : OwnV w B v xs) (ad : Addr) (m c : Nat) (hx : a.eval x = .slice (some ad) m c) (hy : Row w (.slice (some ad) m c) ys)
    (b1 : xs.length + ys.length ≤ 1000) (hm : ys.length = m) (b3 : B ≤ w.heap.size)
    (hK : ∀ v' w', OwnV w' B v' (xs ++ ys) → w.grownBy w' v.ownBlock → K (a.put o.dst v') w') :
    if Region.wanted o (yielded ops a.tmps) = true then Oper.wp Tryz.prog o a w K Q else E := by
  have hw : Region.wanted o (yielded ops a.tmps) = true := by simp [Region.wanted, hg]
  rw [if_pos hw]
  obtain ⟨i0, hin, hz0, hz1, hz2⟩ := info_parts infoF
  obtain ⟨vs, ho, hv⟩ := hown
  obtain ⟨us, hu, hul, huc⟩ := hy.vals
  obtain ⟨v', w', hrun, r1, r2, _⟩ := run_append_own (P := Tryz.prog) w B 22 o.type 25 i0 (.float .f64 0) 1 8 Tryz.underlying22 hin hz0 hz1 hz2 rfl (by decide) v xs.length vs ho ad m c us (by omega) huc hu.one (by unfold maxLen; omega) (by omega) b3
  unfold Oper.wp
  simp [execOp, hop, resolve, invoke, builtin, hs, hx, hrun, Result.andThen]
  refine hK v' w' ⟨vs ++ us, ?_, hv.append hu⟩ r2
  rw [List.length_append, hm]; exact r1
end Go.Proofs.YtmmligbkecilfaaGreatDoor
namespace Go.Proofs.YtmmligbkecilfaaGreatDoor
open Go.RowKit Lv Go.Shelf
open Ieee (double Format Datum Toward)
attribute [local go_sem] run_store_float drewN_alloc drewN_setCell

theorem row_one (w : World) (y : Nat) {Y : Option Nat} (hy : FW y Y) : Row (w.alloc (.cells #[.float .f64 y] 25)) (.slice (some ⟨w.heap.size, 0, none⟩) 1 1) [Y] := by
  refine ⟨_, _, rfl, Nat.le_refl _, by unfold maxLen; omega, .inr ⟨w.heap.size, 0, rfl, fun i hi => ?_⟩⟩
  obtain rfl : i = 0 := by simp at hi; omega
  exact ⟨y, by simp [go_sem], hy⟩

end Go.Proofs.YtmmligbkecilfaaGreatDoor
namespace Go.Proofs.YtmmligbkecilfaaGreatDoor
open Go.RowKit Lv Go.Shelf
open Ieee (double Format Datum Toward)
attribute [local go_sem] run_store_float drewN_alloc drewN_setCell

/-- what is wrong ahead of counting -/
def earlyD (F : FacD) (ls : List (Option Nat)) (Y : Option Nat) : Int :=
  if F.ok = false then 1 else if (ls.length : Int) ≠ F.cols then 3 else if (ls.any outF || outF Y) = true then 2 else 0
/-- is there no room? -/
def fullD (F : FacD) : Bool := decide (F.rws = 200) || decide (4096 < F.trn + (F.cols + 1))
/-- a row absorbed -/
def rowD (F : FacD) (ls : List (Option Nat)) (Y : Option Nat) : FacD × Int :=
  if earlyD F ls Y ≠ 0 then (fac0, earlyD F ls Y)
  else if fullD F = true then (fac0, 6)
  else if (lineD F (ls ++ [Y]) 0).2 = false then (fac0, 2)
  else (⟨(lineD F (ls ++ [Y]) 0).1.cols, (lineD F (ls ++ [Y]) 0).1.xs, F.rws + 1, F.trn + (F.cols + 1)⟩, 0)

theorem Row.form {w : World} {v : Value} {xs : List (Option Nat)} (h : Row w v xs) : ∃ a n cap, v = .slice a n cap := by
  obtain ⟨a, cap, hv, _⟩ := h
  exact ⟨a, _, cap, hv⟩
theorem ok_cols {F : FacD} (h : F.ok = true) : 1 ≤ F.cols ∧ F.cols ≤ 6 := checkP_cols h
theorem ok_rows {F : FacD} (h : F.ok = true) : 0 ≤ F.rws ∧ F.rws ≤ 200 ∧ 0 ≤ F.trn ∧ F.trn ≤ 4096 := by
  unfold FacD.ok checkP at h
  simp at h
  omega

theorem early_zero {F : FacD} {ls : List (Option Nat)} {Y : Option Nat} (h : earlyD F ls Y = 0) : F.ok = true ∧ (ls.length : Int) = F.cols ∧ ls.any outF = false ∧ outF Y = false := by
  unfold earlyD at h
  by_cases h1 : F.ok = false
  · rw [if_pos h1] at h; cases h
  · rw [if_neg h1] at h
    by_cases h2 : (ls.length : Int) ≠ F.cols
    · rw [if_pos h2] at h; cases h
    · rw [if_neg h2] at h
      cases h3 : (ls.any outF || outF Y) with
      | true => rw [h3, if_pos rfl] at h; cases h
      | false =>
        rw [Bool.or_eq_false_iff] at h3
        exact ⟨by simpa using h1, by simpa using h2, h3.1, h3.2⟩
theorem rowD_line {F : FacD} {ls : List (Option Nat)} {Y : Option Nat} (h : earlyD F ls Y = 0) (hf : fullD F = false) : rowD F ls Y = if (lineD F (ls ++ [Y]) 0).2 = false then (fac0, 2)
  else (⟨(lineD F (ls ++ [Y]) 0).1.cols, (lineD F (ls ++ [Y]) 0).1.xs, F.rws + 1, F.trn + (F.cols + 1)⟩, 0) := by unfold rowD; rw [h, if_neg (by decide), if_neg (by rw [hf]; decide)]

end Go.Proofs.YtmmligbkecilfaaGreatDoor
