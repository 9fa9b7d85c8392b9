/- Which floats are In, of lists; a row's entries. -/
import Derived.Test.YtaabfjfaljhjmaaSa
import Derived.Deep.RegionHeld3
import Derived.Deep.AppendLies
namespace Go.Proofs.Ytaabfjfaljhjmaa
open Go.RowKit Lv Go.Shelf
open Ieee (double Format Datum Toward)
attribute [local go_sem] Oper.semAt_some

/-- is a float not In? -/
def outW (b : Nat) : Bool := !inW b
def outF (x : Option Nat) : Bool := match x with | none => true | some b => !inW b
theorem outW_F {b : Nat} {x : Option Nat} (h : FW b x) : outW b = outF x := by
  obtain ⟨_, h⟩ := h
  cases x with
  | some c => obtain ⟨rfl, h2⟩ := ab_some h; rfl
  | none =>
    have hn := nan_lt (ab_none h)
    have h2 : pw 400 ≤ 9218868437227405312 := by decide
    unfold outW inW outF
    rw [decide_eq_false (p := b % 9223372036854775808 = 0) (by omega), decide_eq_false (p := b % 9223372036854775808 ≤ pw 400) (by omega)]
    simp

theorem out_calls (b : Nat) (hb : W64 b) (w : World) :
    Calls Try.prog 60 #[.float .f64 b] w fun e w' => e = .returned (.bool (outW b)) ∧ w = w' := by
  have E : Hid (outW b = !inW b) := rfl
  have I := Lib.hid (in_calls b hb)
  clear hb
  generalize outW b = ob at *
  generalize inW b = ib at *
  go_enter Try.func60, Try.ntmps60
  go_wp2_with (first | (go_at_call 81; refine (I.out _).mono ?_; rintro e w' ⟨rfl, rfl⟩))
  go_ret
  exact ⟨ret_bool E.out.symm, rfl⟩

theorem indexout_calls (a : Option Addr) (n cap : Nat) (xs : List (Option Nat)) (w : World) (h : Row w (.slice a n cap) xs) :
    Calls Try.prog 69 #[.slice a n cap, .func (.func 60) #[] #[]] w fun e w' => (∃ n : Int, e = .returned (.int .i64 n) ∧ (decide (0 ≤ n) = xs.any outF)) ∧ w = w' := by
  obtain ⟨a', cap', hv, h1, h2, h3⟩ := h
  simp only [Value.slice.injEq] at hv
  obtain ⟨rfl, hn, rfl⟩ := hv
  rw [← hn] at h1 h3
  have HN := Lib.hid hn.symm
  clear hn
  unfold maxLen at h2
  go_enter Try.func69, Try.ntmps69
  go_wp2
  go_loop [8] (fun i => ∃ k : Nat, k ≤ n ∧ i = .int .i64 (k : Int) ∧ Hid ((xs.take k).any outF = false)) (fun i => n - (intOf i).toNat)
  case atStart => exact ⟨0, Nat.zero_le _, rfl, rfl⟩
  case round =>
    obtain ⟨k, hk, rfl, hrel⟩ := hrel
    by_cases hlt : k < n
    · rcases h3 with ⟨h0, _⟩ | ⟨blk, off, rfl, hc⟩
      · omega
      · obtain ⟨b, hb, hfw⟩ := hc k hlt
        have hst := Lib.hid (any_step (p := outF) (by rw [HN.out]; exact hlt) hrel.out)
        have hlf := Lib.hid (outW_F hfw)
        clear hc
        go_wp2_with (go_at_call 60; refine (out_calls b hfw.1 _).mono ?_; rintro e w' ⟨rfl, rfl⟩)
        · go_ret
          have hb1 : outW b = true := by assumption
          exact ⟨⟨k, rfl, by rw [any_of_take (k := k + 1) (by rw [hst.out, ← hlf.out, hb1])]; simp⟩, rfl⟩
        · have hb1 : outW b = false := by assumption
          go_round
          case rel => exact ⟨k + 1, by omega, by go_num, by show _ = false; rw [hst.out, ← hlf.out, hb1]⟩
          case measure => simp [intOf]; omega
    · obtain rfl : k = n := by omega
      go_wp2
      go_ret
      exact ⟨⟨-1, rfl, by have := hrel.out; rw [List.take_of_length_le (by rw [HN.out]; exact Nat.le_refl _)] at this; rw [this]; rfl⟩, rfl⟩

theorem containsout_calls (a : Option Addr) (n cap : Nat) (xs : List (Option Nat)) (w : World) (h : Row w (.slice a n cap) xs) :
    Calls Try.prog 49 #[.slice a n cap, .func (.func 60) #[] #[]] w fun e w' => e = .returned (.bool (xs.any outF)) ∧ w = w' := by
  have L := Lib.hid (indexout_calls a n cap xs w h)
  clear h
  go_enter Try.func49, Try.ntmps49
  go_wp2_with (go_at_call 69; refine L.out.mono ?_; rintro e w' ⟨⟨n, rfl, hn⟩, rfl⟩)
  go_ret
  exact ⟨rfl, rfl⟩

theorem rall5_calls (a : Option Addr) (n cap : Nat) (xs : List (Option Nat)) (w : World) (h : Row w (.slice a n cap) xs) :
    Calls Try.prog 38 #[.slice a n cap] w fun e w' => e = .returned (.bool (!xs.any outF)) ∧ w = w' := by
  obtain ⟨res, hres⟩ : ∃ res : Bool, res = !xs.any outF := ⟨_, rfl⟩
  rw [← hres]
  have HRES := Lib.hid hres
  have HL := Lib.hid h.len
  have hm := row_max h
  have H := Lib.hid h
  clear hres h
  go_enter Try.func38, Try.ntmps38
  go_wp2
  go_loop [3] (fun i => ∃ k : Nat, k ≤ n ∧ i = .int .i64 (k : Int) ∧ Hid ((xs.take k).any outF = false)) (fun i => n - (intOf i).toNat)
  case atStart => exact ⟨0, Nat.zero_le _, rfl, rfl⟩
  case round =>
    obtain ⟨k, hk, rfl, hrel⟩ := hrel
    by_cases hlt : k < n
    · obtain ⟨blk, off, rfl, hc⟩ := row_cell H.out (by omega)
      obtain ⟨b, hb, hfw⟩ := hc k hlt
      have hst := Lib.hid (any_step (p := outF) (by rw [HL.out]; exact hlt) hrel.out)
      have hlf := Lib.hid (outW_F hfw)
      have I := Lib.hid (rIn_calls b hfw.1)
      clear hc hfw
      cases hi : inW b
      · have HR : Hid (res = false) := by
          unfold Hid
          rw [HRES.out, any_of_take (k := k + 1) (by rw [hst.out, ← hlf.out]; unfold outW; rw [hi]; rfl)]
          rfl
        rw [hi] at I
        clear hi
        go_wp2_with (go_at_call 62; refine (I.out _).mono ?_; rintro e w' ⟨rfl, rfl⟩)
        go_ret
        exact ⟨ret_bool HR.out.symm, rfl⟩
      · have hs2 : Hid ((xs.take (k + 1)).any outF = false) := by
          unfold Hid
          rw [hst.out, ← hlf.out]; unfold outW; rw [hi]; rfl
        rw [hi] at I
        clear hi
        go_wp2_with (go_at_call 62; refine (I.out _).mono ?_; rintro e w' ⟨rfl, rfl⟩)
        go_round
        case rel => exact ⟨k + 1, by omega, by go_num, hs2⟩
        case measure => simp [intOf]; omega
    · obtain rfl : k = n := by omega
      have HR : Hid (res = true) := by
        unfold Hid
        have := hrel.out
        rw [List.take_of_length_le (by rw [HL.out]; exact Nat.le_refl _)] at this
        rw [HRES.out, this]; rfl
      go_wp2
      go_ret
      exact ⟨ret_bool HR.out.symm, rfl⟩

/-- append of floats to what is one's own, as a step of a region that draws its order -/
theorem step_append_F {ops : Array Oper} {o : Oper} {a : Act} {w : World} {K : Act → World → Prop} {Q : Exit → Act → World → Prop} {E : Prop}
    (hg : o.guard = none) (s x : Operand) (hop : o.op = Op.call { callee := Callee.builtin Builtin.append, args := #[s, x], argTypes := #[22, 22] })
    (B : Nat) (v : Value) (xs ys : List (Option Nat)) (hs : a.eval s = v) (hown : OwnV w B v xs) (ad : Addr) (m c : Nat) (hx : a.eval x = .slice (some ad) m c) (hy : Row w (.slice (some ad) m c) ys)
    (b1 : xs.length + ys.length ≤ 1000) (hm : ys.length = m) (b3 : B ≤ w.heap.size)
    (hK : ∀ v' w', OwnV w' B v' (xs ++ ys) → w.grownBy w' v.ownBlock → K (a.put o.dst v') w') :
    if Region.wanted o (yielded ops a.tmps) = true then Oper.wp Try.prog o a w K Q else E := by
  have hw : Region.wanted o (yielded ops a.tmps) = true := by simp [Region.wanted, hg]
  rw [if_pos hw]
  obtain ⟨i0, hin, hz0, hz1, hz2⟩ := info_parts infoF
  obtain ⟨vs, ho, hv⟩ := hown
  obtain ⟨us, hu, hul, huc⟩ := hy.vals
  obtain ⟨v', w', hrun, r1, r2, _⟩ := run_append_own (P := Try.prog) w B 22 o.type 37 i0 (.float .f64 0) 1 8 Try.underlying22 hin hz0 hz1 hz2 rfl (by decide) v xs.length vs ho ad m c us (by omega) huc hu.one (by unfold maxLen; omega) (by omega) b3
  unfold Oper.wp
  simp [execOp, hop, resolve, invoke, builtin, hs, hx, hrun, Result.andThen]
  refine hK v' w' ⟨vs ++ us, ?_, hv.append hu⟩ r2
  rw [List.length_append, hm]; exact r1
end Go.Proofs.Ytaabfjfaljhjmaa
