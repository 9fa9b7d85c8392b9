/- Two factors with the same data are the same to the references' eyes. -/
import Derived.Test.YtaabfjfaljhjmaaV
import Derived.Test.YtaabfjfaljhjmaaRe
namespace Go.Proofs.Ytaabfjfaljhjmaa
open Go.RowKit Lv Go.Shelf
open Ieee (double Format Datum Toward)
attribute [local go_sem] Oper.semAt_some run_bits

theorem rsame1_calls (x y : Nat) (w : World) {X : Option Nat} (hx : FW x X) (hy : FW y X) :
    Calls Try.prog 37 #[.float .f64 x, .float .f64 y] w fun e w' => e = .returned (.bool true) ∧ w = w' := by
  obtain ⟨p, q, r, e1⟩ := splV_kind x
  obtain ⟨p2, q2, r2, e2⟩ := splV_kind y
  have S1 := Lib.hid (rSplit_calls x hx.1)
  have S2 := Lib.hid (rSplit_calls y hy.1)
  rw [e1] at S1
  rw [e2] at S2
  clear e1 e2
  cases X with
  | none =>
    have k1 : kindW x = 3 := by unfold kindW; rw [ab_none hx.2, if_pos rfl]
    have k2 : kindW y = 3 := by unfold kindW; rw [ab_none hy.2, if_pos rfl]
    rw [k1] at S1
    rw [k2] at S2
    clear hx hy k1 k2
    go_enter Try.func37, Try.ntmps37
    go_wp2_with (first | (go_at_call_of 61 (Value.float .f64 x); refine (S1.out _).mono ?_; rintro e w' ⟨rfl, rfl⟩) | (go_at_call_of 61 (Value.float .f64 y); refine (S2.out _).mono ?_; rintro e w' ⟨rfl, rfl⟩))
    go_ret
    exact ⟨rfl, rfl⟩
  | some b =>
    obtain ⟨rfl, _⟩ := ab_some hx.2
    obtain ⟨rfl, _⟩ := ab_some hy.2
    clear hx hy S2
    generalize kindW b = kb at *
    cases hk : decide (kb = 3)
    · have h3 : (kb == 3) = false := by simpa using hk
      clear hk
      go_enter Try.func37, Try.ntmps37
      go_wp2_with (first | (go_at_call 61; refine (S1.out _).mono ?_; rintro e w' ⟨rfl, rfl⟩))
      go_ret
      exact ⟨by simp, rfl⟩
    · have h3 : (kb == 3) = true := by simpa using hk
      clear hk
      go_enter Try.func37, Try.ntmps37
      go_wp2_with (first | (go_at_call 61; refine (S1.out _).mono ?_; rintro e w' ⟨rfl, rfl⟩))
      go_ret
      exact ⟨rfl, rfl⟩

theorem row_cell {w : World} {a : Option Addr} {n cap : Nat} {xs : List (Option Nat)} (h : Row w (.slice a n cap) xs) (hn : 0 < n) : ∃ blk off, a = some ⟨blk, off, none⟩ ∧ ∀ i, i < n → ∃ b, w.cell? ⟨blk, off + i, none⟩ = some (.float .f64 b) ∧ FW b (xs.getD i none) := by
  obtain ⟨a', cap', hv, h1, h2, h3⟩ := h
  simp only [Value.slice.injEq] at hv
  obtain ⟨rfl, rfl, rfl⟩ := hv
  rcases h3 with ⟨h3, _⟩ | h3
  · omega
  · exact h3
theorem row_max {w : World} {a : Option Addr} {n cap : Nat} {xs : List (Option Nat)} (h : Row w (.slice a n cap) xs) : n ≤ 9223372036854775807 := by
  obtain ⟨a', cap', hv, h1, h2, h3⟩ := h
  simp only [Value.slice.injEq] at hv
  obtain ⟨rfl, rfl, rfl⟩ := hv
  unfold maxLen at h2
  omega

set_option maxRecDepth 100000 in
theorem rall1_calls (a b : Option Addr) (n c d : Nat) (xs : List (Option Nat)) (w : World) (h : Row w (.slice a n c) xs) (h' : Row w (.slice b n d) xs) :
    Calls Try.prog 43 #[.slice a n c, .slice b n d] w fun e w' => e = .returned (.bool true) ∧ Below w.heap.size w w' := by
  have hm := row_max h
  have H := Lib.hid (And.intro h h')
  have hne : ((n : Int) != (n : Int)) = false := by simp
  have hB := Lib.hid (Below.refl w.heap.size w)
  clear h h'
  go_enter Try.func43, Try.ntmps43
  go_wp2
  go_loopw [5] (fun s wr => ∃ k : Nat, s = .int .i64 (k : Int) ∧ k ≤ n ∧ Hid (Row wr (.slice a n c) xs ∧ Row wr (.slice b n d) xs ∧ Below w.heap.size w wr)) (fun s _ => n - (intOf s).toNat)
  case atStart => exact ⟨0, rfl, Nat.zero_le _, H.out.1, H.out.2, Below.refl _ _⟩
  case round =>
    obtain ⟨k, rfl, hk, HR⟩ := hrel
    by_cases hlt : k < n
    · obtain ⟨blk, off, rfl, hc⟩ := row_cell HR.out.1 (by omega)
      obtain ⟨blk', off', rfl, hc'⟩ := row_cell HR.out.2.1 (by omega)
      obtain ⟨x, hx1, hx2⟩ := hc k hlt
      obtain ⟨y, hy1, hy2⟩ := hc' k hlt
      have HF := Lib.hid (And.intro hx2 hy2)
      have hi : (k : Int) < (n : Int) := by omega
      clear hx2 hy2 hc hc'
      go_wp2
      go_quiet ((go_at_call 37; exact Calls.quiet_of_same (quiet_same (rsame1_calls _ _ _ HF.out.1 HF.out.2))))
      go_wp2
      go_roundw
      case rel => exact ⟨k + 1, by go_num, by omega, HR.out.1.below (below_drewN (Below.refl _ _) _), HR.out.2.1.below (below_drewN (Below.refl _ _) _), below_drewN HR.out.2.2 _⟩
      case measure => simp [intOf]; omega
    · have hi : ¬ (k : Int) < (n : Int) := by omega
      go_wp2
      go_ret
      exact ⟨rfl, HR.out.2.2⟩

theorem rsame7_calls (F : FacD) (a b : Option Addr) (n m c d : Nat) (w : World) (h : Row w (.slice a n c) F.xs) (h' : Row w (.slice b m d) F.xs) :
    Calls Try.prog 16 #[.agg #[.int .i64 F.cols, .slice a n c, .int .i64 F.rws, .int .i64 F.trn], .agg #[.int .i64 F.cols, .slice b m d, .int .i64 F.rws, .int .i64 F.trn]] w fun e w' => e = .returned (.bool true) ∧ Below w.heap.size w w' := by
  obtain ⟨cols, xs, rws, trn⟩ := F
  dsimp only at h h' ⊢
  have hb := ((Below.refl w.heap.size w).alloc (Nat.le_refl _) (.cells #[.int .i64 cols, .slice a n c, .int .i64 rws, .int .i64 trn] 24)).alloc (by simp) (.cells #[.int .i64 cols, .slice b m d, .int .i64 rws, .int .i64 trn] 24)
  obtain rfl : n = m := by rw [← h.len, ← h'.len]
  have A := Lib.hid (rall1_calls a b n c d xs _ (h.below hb) (h'.below hb))
  have e1 : (cols == cols) = true := by simp
  have e2 : (rws == rws) = true := by simp
  have e3 : (trn == trn) = true := by simp
  clear h h'
  go_enter Try.func16, Try.ntmps16
  go_wp2_with (first | (go_at_call 43; refine A.out.mono ?_; rintro e w1 ⟨rfl, hb1⟩))
  go_ret
  exact ⟨rfl, hb.trans (hb1.mono (by simp; omega))⟩
end Go.Proofs.Ytaabfjfaljhjmaa
