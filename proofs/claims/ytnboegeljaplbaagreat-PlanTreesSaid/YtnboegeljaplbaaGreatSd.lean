/- Two factors with the same data are the same to the references' eyes. Which floats are In, of lists; a row's entries. A row's entries, of a row that has some; what is refused of a row ahead of counting. A row absorbed, plainly; what is refused of it, walked: Early, Row. -/
import Derived.Test.YtnboegeljaplbaaGreatV
import Derived.Test.YtnboegeljaplbaaGreatRe
import Derived.Deep.RegionHeld3
import Derived.Deep.AppendLies
namespace Go.Proofs.YtnboegeljaplbaaGreat
open Go.RowKit Lv Go.Shelf
open Ieee (double Format Datum Toward)
attribute [local go_sem] Oper.semAt_some run_bits

theorem rsame1_calls (x y : Nat) (w : World) {X : Option Nat} (hx : FW x X) (hy : FW y X) :
    Calls Tryz.prog 52 #[.float .f64 x, .float .f64 y] w fun e w' => e = .returned (.bool true) ∧ w = w' := by
  obtain ⟨p, q, r, e1⟩ := splV_kind x
  obtain ⟨p2, q2, r2, e2⟩ := splV_kind y
  have S1 := Lib.hid (rSplit_calls x hx.1)
  have S2 := Lib.hid (rSplit_calls y hy.1)
  rw [e1] at S1
  rw [e2] at S2
  clear e1 e2
  cases X with
  | none =>
    have k1 : kindW x = 3 := by unfold kindW; rw [ab_none hx.2, if_pos rfl]
    have k2 : kindW y = 3 := by unfold kindW; rw [ab_none hy.2, if_pos rfl]
    rw [k1] at S1
    rw [k2] at S2
    clear hx hy k1 k2
    go_enter Tryz.func52, Tryz.ntmps52
    go_wp2_with (first | (go_at_call_of 74 (Value.float .f64 x); refine (S1.out _).mono ?_; rintro e w' ⟨rfl, rfl⟩) | (go_at_call_of 74 (Value.float .f64 y); refine (S2.out _).mono ?_; rintro e w' ⟨rfl, rfl⟩))
    go_ret
    exact ⟨rfl, rfl⟩
  | some b =>
    obtain ⟨rfl, _⟩ := ab_some hx.2
    obtain ⟨rfl, _⟩ := ab_some hy.2
    clear hx hy S2
    generalize kindW b = kb at *
    cases hk : decide (kb = 3)
    · have h3 : (kb == 3) = false := by simpa using hk
      clear hk
      go_enter Tryz.func52, Tryz.ntmps52
      go_wp2_with (first | (go_at_call 74; refine (S1.out _).mono ?_; rintro e w' ⟨rfl, rfl⟩))
      go_ret
      exact ⟨by simp, rfl⟩
    · have h3 : (kb == 3) = true := by simpa using hk
      clear hk
      go_enter Tryz.func52, Tryz.ntmps52
      go_wp2_with (first | (go_at_call 74; refine (S1.out _).mono ?_; rintro e w' ⟨rfl, rfl⟩))
      go_ret
      exact ⟨rfl, rfl⟩

theorem row_cell {w : World} {a : Option Addr} {n cap : Nat} {xs : List (Option Nat)} (h : Row w (.slice a n cap) xs) (hn : 0 < n) : ∃ blk off, a = some ⟨blk, off, none⟩ ∧ ∀ i, i < n → ∃ b, w.cell? ⟨blk, off + i, none⟩ = some (.float .f64 b) ∧ FW b (xs.getD i none) := by
  obtain ⟨a', cap', hv, h1, h2, h3⟩ := h
  simp only [Value.slice.injEq] at hv
  obtain ⟨rfl, rfl, rfl⟩ := hv
  rcases h3 with ⟨h3, _⟩ | h3
  · omega
  · exact h3
theorem row_max {w : World} {a : Option Addr} {n cap : Nat} {xs : List (Option Nat)} (h : Row w (.slice a n cap) xs) : n ≤ 9223372036854775807 := by
  obtain ⟨a', cap', hv, h1, h2, h3⟩ := h
  simp only [Value.slice.injEq] at hv
  obtain ⟨rfl, rfl, rfl⟩ := hv
  unfold maxLen at h2
  omega

set_option maxRecDepth 100000 in
theorem rall1_calls (a b : Option Addr) (n c d : Nat) (xs : List (Option Nat)) (w : World) (h : Row w (.slice a n c) xs) (h' : Row w (.slice b n d) xs) :
    Calls Tryz.prog 17 #[.slice a n c, .slice b n d] w fun e w' => e = .returned (.bool true) ∧ Below w.heap.size w w' := by
  have hm := row_max h
  have H := Lib.hid (And.intro h h')
  have hne : ((n : Int) != (n : Int)) = false := by simp
  have hB := Lib.hid (Below.refl w.heap.size w)
  clear h h'
  go_enter Tryz.func17, Tryz.ntmps17
  go_wp2
  go_loopw [5] (fun s wr => ∃ k : Nat, s = .int .i64 (k : Int) ∧ k ≤ n ∧ Hid (Row wr (.slice a n c) xs ∧ Row wr (.slice b n d) xs ∧ Below w.heap.size w wr)) (fun s _ => n - (intOf s).toNat)
  case atStart => exact ⟨0, rfl, Nat.zero_le _, H.out.1, H.out.2, Below.refl _ _⟩
  case round =>
    obtain ⟨k, rfl, hk, HR⟩ := hrel
    by_cases hlt : k < n
    · obtain ⟨blk, off, rfl, hc⟩ := row_cell HR.out.1 (by omega)
      obtain ⟨blk', off', rfl, hc'⟩ := row_cell HR.out.2.1 (by omega)
      obtain ⟨x, hx1, hx2⟩ := hc k hlt
      obtain ⟨y, hy1, hy2⟩ := hc' k hlt
      have HF := Lib.hid (And.intro hx2 hy2)
      have hi : (k : Int) < (n : Int) := by omega
      clear hx2 hy2 hc hc'
      go_wp2
      go_quiet ((go_at_call 52; exact Calls.quiet_of_same (quiet_same (rsame1_calls _ _ _ HF.out.1 HF.out.2))))
      go_wp2
      go_roundw
      case rel => exact ⟨k + 1, by go_num, by omega, HR.out.1.below (below_drewN (Below.refl _ _) _), HR.out.2.1.below (below_drewN (Below.refl _ _) _), below_drewN HR.out.2.2 _⟩
      case measure => simp [intOf]; omega
    · have hi : ¬ (k : Int) < (n : Int) := by omega
      go_wp2
      go_ret
      exact ⟨rfl, HR.out.2.2⟩

theorem rsame7_calls (F : FacD) (a b : Option Addr) (n m c d : Nat) (w : World) (h : Row w (.slice a n c) F.xs) (h' : Row w (.slice b m d) F.xs) :
    Calls Tryz.prog 18 #[.agg #[.int .i64 F.cols, .slice a n c, .int .i64 F.rws, .int .i64 F.trn], .agg #[.int .i64 F.cols, .slice b m d, .int .i64 F.rws, .int .i64 F.trn]] w fun e w' => e = .returned (.bool true) ∧ Below w.heap.size w w' := by
  obtain ⟨cols, xs, rws, trn⟩ := F
  dsimp only at h h' ⊢
  have hb := ((Below.refl w.heap.size w).alloc (Nat.le_refl _) (.cells #[.int .i64 cols, .slice a n c, .int .i64 rws, .int .i64 trn] 28)).alloc (by simp) (.cells #[.int .i64 cols, .slice b m d, .int .i64 rws, .int .i64 trn] 28)
  obtain rfl : n = m := by rw [← h.len, ← h'.len]
  have A := Lib.hid (rall1_calls a b n c d xs _ (h.below hb) (h'.below hb))
  have e1 : (cols == cols) = true := by simp
  have e2 : (rws == rws) = true := by simp
  have e3 : (trn == trn) = true := by simp
  clear h h'
  go_enter Tryz.func18, Tryz.ntmps18
  go_wp2_with (first | (go_at_call 17; refine A.out.mono ?_; rintro e w1 ⟨rfl, hb1⟩))
  go_ret
  exact ⟨rfl, hb.trans (hb1.mono (by simp; omega))⟩
end Go.Proofs.YtnboegeljaplbaaGreat
namespace Go.Proofs.YtnboegeljaplbaaGreat
open Go.RowKit Lv Go.Shelf
open Ieee (double Format Datum Toward)
attribute [local go_sem] Oper.semAt_some

/-- is a float not In? -/
def outW (b : Nat) : Bool := !inW b
def outF (x : Option Nat) : Bool := match x with | none => true | some b => !inW b
theorem outW_F {b : Nat} {x : Option Nat} (h : FW b x) : outW b = outF x := by
  obtain ⟨_, h⟩ := h
  cases x with
  | some c => obtain ⟨rfl, h2⟩ := ab_some h; rfl
  | none =>
    have hn := nan_lt (ab_none h)
    have h2 : pw 400 ≤ 9218868437227405312 := by decide
    unfold outW inW outF
    rw [decide_eq_false (p := b % 9223372036854775808 = 0) (by omega), decide_eq_false (p := b % 9223372036854775808 ≤ pw 400) (by omega)]
    simp

theorem out_calls (b : Nat) (hb : W64 b) (w : World) :
    Calls Tryz.prog 44 #[.float .f64 b] w fun e w' => e = .returned (.bool (outW b)) ∧ w = w' := by
  have E : Hid (outW b = !inW b) := rfl
  have I := Lib.hid (in_calls b hb)
  clear hb
  generalize outW b = ob at *
  generalize inW b = ib at *
  go_enter Tryz.func44, Tryz.ntmps44
  go_wp2_with (first | (go_at_call 89; refine (I.out _).mono ?_; rintro e w' ⟨rfl, rfl⟩))
  go_ret
  exact ⟨ret_bool E.out.symm, rfl⟩

theorem indexout_calls (a : Option Addr) (n cap : Nat) (xs : List (Option Nat)) (w : World) (h : Row w (.slice a n cap) xs) :
    Calls Tryz.prog 102 #[.slice a n cap, .func (.func 44) #[] #[]] w fun e w' => (∃ n : Int, e = .returned (.int .i64 n) ∧ (decide (0 ≤ n) = xs.any outF)) ∧ w = w' := by
  obtain ⟨a', cap', hv, h1, h2, h3⟩ := h
  simp only [Value.slice.injEq] at hv
  obtain ⟨rfl, hn, rfl⟩ := hv
  rw [← hn] at h1 h3
  have HN := Lib.hid hn.symm
  clear hn
  unfold maxLen at h2
  go_enter Tryz.func102, Tryz.ntmps102
  go_wp2
  go_loop [8] (fun i => ∃ k : Nat, k ≤ n ∧ i = .int .i64 (k : Int) ∧ Hid ((xs.take k).any outF = false)) (fun i => n - (intOf i).toNat)
  case atStart => exact ⟨0, Nat.zero_le _, rfl, rfl⟩
  case round =>
    obtain ⟨k, hk, rfl, hrel⟩ := hrel
    by_cases hlt : k < n
    · rcases h3 with ⟨h0, _⟩ | ⟨blk, off, rfl, hc⟩
      · omega
      · obtain ⟨b, hb, hfw⟩ := hc k hlt
        have hst := Lib.hid (any_step (p := outF) (by rw [HN.out]; exact hlt) hrel.out)
        have hlf := Lib.hid (outW_F hfw)
        clear hc
        go_wp2_with (go_at_call 44; refine (out_calls b hfw.1 _).mono ?_; rintro e w' ⟨rfl, rfl⟩)
        · go_ret
          have hb1 : outW b = true := by assumption
          exact ⟨⟨k, rfl, by rw [any_of_take (k := k + 1) (by rw [hst.out, ← hlf.out, hb1])]; simp⟩, rfl⟩
        · have hb1 : outW b = false := by assumption
          go_round
          case rel => exact ⟨k + 1, by omega, by go_num, by show _ = false; rw [hst.out, ← hlf.out, hb1]⟩
          case measure => simp [intOf]; omega
    · obtain rfl : k = n := by omega
      go_wp2
      go_ret
      exact ⟨⟨-1, rfl, by have := hrel.out; rw [List.take_of_length_le (by rw [HN.out]; exact Nat.le_refl _)] at this; rw [this]; rfl⟩, rfl⟩

theorem containsout_calls (a : Option Addr) (n cap : Nat) (xs : List (Option Nat)) (w : World) (h : Row w (.slice a n cap) xs) :
    Calls Tryz.prog 71 #[.slice a n cap, .func (.func 44) #[] #[]] w fun e w' => e = .returned (.bool (xs.any outF)) ∧ w = w' := by
  have L := Lib.hid (indexout_calls a n cap xs w h)
  clear h
  go_enter Tryz.func71, Tryz.ntmps71
  go_wp2_with (go_at_call 102; refine L.out.mono ?_; rintro e w' ⟨⟨n, rfl, hn⟩, rfl⟩)
  go_ret
  exact ⟨rfl, rfl⟩

/-- append of floats to what is one's own, as a step of a region that draws its order -/
theorem step_append_F {ops : Array Oper} {o : Oper} {a : Act} {w : World} {K : Act → World → Prop} {Q : Exit → Act → World → Prop} {E : Prop}
    (hg : o.guard = none) (s x : Operand) (hop : o.op = Op.call { callee := Callee.builtin Builtin.append, args := #[s, x], argTypes := #[26, 26] })
    (B : Nat) (v : Value) (xs ys : List (Option Nat)) (hs : a.eval s = v) (hown : OwnV w B v xs) (ad : Addr) (m c : Nat) (hx : a.eval x = .slice (some ad) m c) (hy : Row w (.slice (some ad) m c) ys)
    (b1 : xs.length + ys.length ≤ 1000) (hm : ys.length = m) (b3 : B ≤ w.heap.size)
    (hK : ∀ v' w', OwnV w' B v' (xs ++ ys) → w.grownBy w' v.ownBlock → K (a.put o.dst v') w') :
    if Region.wanted o (yielded ops a.tmps) = true then Oper.wp Tryz.prog o a w K Q else E := by
  have hw : Region.wanted o (yielded ops a.tmps) = true := by simp [Region.wanted, hg]
  rw [if_pos hw]
  obtain ⟨i0, hin, hz0, hz1, hz2⟩ := info_parts infoF
  obtain ⟨vs, ho, hv⟩ := hown
  obtain ⟨us, hu, hul, huc⟩ := hy.vals
  obtain ⟨v', w', hrun, r1, r2, _⟩ := run_append_own (P := Tryz.prog) w B 26 o.type 42 i0 (.float .f64 0) 1 8 Tryz.underlying26 hin hz0 hz1 hz2 rfl (by decide) v xs.length vs ho ad m c us (by omega) huc hu.one (by unfold maxLen; omega) (by omega) b3
  unfold Oper.wp
  simp [execOp, hop, resolve, invoke, builtin, hs, hx, hrun, Result.andThen]
  refine hK v' w' ⟨vs ++ us, ?_, hv.append hu⟩ r2
  rw [List.length_append, hm]; exact r1
end Go.Proofs.YtnboegeljaplbaaGreat
namespace Go.Proofs.YtnboegeljaplbaaGreat
open Go.RowKit Lv Go.Shelf
open Ieee (double Format Datum Toward)
attribute [local go_sem] run_store_float drewN_alloc drewN_setCell

theorem row_one (w : World) (y : Nat) {Y : Option Nat} (hy : FW y Y) : Row (w.alloc (.cells #[.float .f64 y] 42)) (.slice (some ⟨w.heap.size, 0, none⟩) 1 1) [Y] := by
  refine ⟨_, _, rfl, Nat.le_refl _, by unfold maxLen; omega, .inr ⟨w.heap.size, 0, rfl, fun i hi => ?_⟩⟩
  obtain rfl : i = 0 := by simp at hi; omega
  exact ⟨y, by simp [go_sem], hy⟩

end Go.Proofs.YtnboegeljaplbaaGreat
namespace Go.Proofs.YtnboegeljaplbaaGreat
open Go.RowKit Lv Go.Shelf
open Ieee (double Format Datum Toward)
attribute [local go_sem] run_store_float drewN_alloc drewN_setCell

/-- what is wrong ahead of counting -/
def earlyD (F : FacD) (ls : List (Option Nat)) (Y : Option Nat) : Int :=
  if F.ok = false then 1 else if (ls.length : Int) ≠ F.cols then 3 else if (ls.any outF || outF Y) = true then 2 else 0
/-- is there no room? -/
def fullD (F : FacD) : Bool := decide (F.rws = 200) || decide (4096 < F.trn + (F.cols + 1))
/-- a row absorbed -/
def rowD (F : FacD) (ls : List (Option Nat)) (Y : Option Nat) : FacD × Int :=
  if earlyD F ls Y ≠ 0 then (fac0, earlyD F ls Y)
  else if fullD F = true then (fac0, 6)
  else if (lineD F (ls ++ [Y]) 0).2 = false then (fac0, 2)
  else (⟨(lineD F (ls ++ [Y]) 0).1.cols, (lineD F (ls ++ [Y]) 0).1.xs, F.rws + 1, F.trn + (F.cols + 1)⟩, 0)

theorem Row.form {w : World} {v : Value} {xs : List (Option Nat)} (h : Row w v xs) : ∃ a n cap, v = .slice a n cap := by
  obtain ⟨a, cap, hv, _⟩ := h
  exact ⟨a, _, cap, hv⟩
theorem ok_cols {F : FacD} (h : F.ok = true) : 1 ≤ F.cols ∧ F.cols ≤ 6 := checkP_cols h
theorem ok_rows {F : FacD} (h : F.ok = true) : 0 ≤ F.rws ∧ F.rws ≤ 200 ∧ 0 ≤ F.trn ∧ F.trn ≤ 4096 := by
  unfold FacD.ok checkP at h
  simp at h
  omega

theorem early_zero {F : FacD} {ls : List (Option Nat)} {Y : Option Nat} (h : earlyD F ls Y = 0) : F.ok = true ∧ (ls.length : Int) = F.cols ∧ ls.any outF = false ∧ outF Y = false := by
  unfold earlyD at h
  by_cases h1 : F.ok = false
  · rw [if_pos h1] at h; cases h
  · rw [if_neg h1] at h
    by_cases h2 : (ls.length : Int) ≠ F.cols
    · rw [if_pos h2] at h; cases h
    · rw [if_neg h2] at h
      cases h3 : (ls.any outF || outF Y) with
      | true => rw [h3, if_pos rfl] at h; cases h
      | false =>
        rw [Bool.or_eq_false_iff] at h3
        exact ⟨by simpa using h1, by simpa using h2, h3.1, h3.2⟩
theorem rowD_line {F : FacD} {ls : List (Option Nat)} {Y : Option Nat} (h : earlyD F ls Y = 0) (hf : fullD F = false) : rowD F ls Y = if (lineD F (ls ++ [Y]) 0).2 = false then (fac0, 2)
  else (⟨(lineD F (ls ++ [Y]) 0).1.cols, (lineD F (ls ++ [Y]) 0).1.xs, F.rws + 1, F.trn + (F.cols + 1)⟩, 0) := by unfold rowD; rw [h, if_neg (by decide), if_neg (by rw [hf]; decide)]

end Go.Proofs.YtnboegeljaplbaaGreat
