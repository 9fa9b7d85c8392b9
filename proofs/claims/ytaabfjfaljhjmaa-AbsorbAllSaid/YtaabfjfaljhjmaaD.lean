/- Slices of floats in memory; what the library's ContainsFunc tells of one. -/
import Derived.Test.YtaabfjfaljhjmaaC
namespace Go.Proofs.Ytaabfjfaljhjmaa
open Go.RowKit Lv
open Ieee (double Format Datum)

/-- a word that stands for a float -/
def FW (b : Nat) (x : Option Nat) : Prop := W64 b ∧ ab b = x

/-- a slice value that reads as floats -/
def Row (w : World) (v : Value) (xs : List (Option Nat)) : Prop :=
  ∃ (a : Option Addr) (cap : Nat), v = .slice a xs.length cap ∧ xs.length ≤ cap ∧ cap ≤ maxLen ∧
    ((xs.length = 0 ∧ (a.isNone = true → cap = 0)) ∨ ∃ blk off, a = some ⟨blk, off, none⟩ ∧ ∀ i, i < xs.length → ∃ b, w.cell? ⟨blk, off + i, none⟩ = some (.float .f64 b) ∧ FW b (xs.getD i none))

theorem cell_lt {w : World} {a : Addr} {v : Value} (h : w.cell? a = some v) : a.block < w.heap.size := by
  by_cases hc : a.block < w.heap.size
  · exact hc
  · exfalso
    unfold World.cell? at h
    rw [Array.getElem?_eq_none (by omega)] at h
    simp at h

theorem Row.below {w w' : World} {v : Value} {xs : List (Option Nat)} (h : Row w v xs) (hb : Below w.heap.size w w') : Row w' v xs := by
  obtain ⟨a, cap, rfl, h1, h2, h3⟩ := h
  refine ⟨a, cap, rfl, h1, h2, ?_⟩
  rcases h3 with h3 | ⟨blk, off, rfl, hc⟩
  · exact .inl h3
  · refine .inr ⟨blk, off, rfl, fun i hi => ?_⟩
    obtain ⟨b, hb1, hb2⟩ := hc i hi
    exact ⟨b, (hb.cell (p := ⟨blk, off + i, none⟩) (cell_lt hb1)).trans hb1, hb2⟩

/-- is a float too large, or no number? -/
def largeW (b : Nat) : Bool := nan b || decide (pw 420 < b % 9223372036854775808)
def largeF (x : Option Nat) : Bool := match x with | none => true | some b => decide (pw 420 < b % 9223372036854775808)
theorem largeW_F {b : Nat} {x : Option Nat} (h : FW b x) : largeW b = largeF x := by
  obtain ⟨_, h⟩ := h
  unfold largeW
  cases x with
  | none => rw [ab_none h]; rfl
  | some c => obtain ⟨rfl, h2⟩ := ab_some h; rw [h2]; rfl

theorem large_calls (b : Nat) (hb : W64 b) (w : World) :
    Calls Try.prog 50 #[.float .f64 b] w fun e w' => e = .returned (.bool (largeW b)) ∧ w = w' := by
  have h2 := abs_le b (pw 420) (by decide)
  have E : Hid (largeW b = !(!nan b && decide (b % 9223372036854775808 ≤ pw 420))) := by
    unfold largeW Hid
    cases nan b
    · simp only [Bool.false_or, Bool.not_false, Bool.true_and, ← decide_not]
      congr 1
      apply propext
      omega
    · rfl
  go_enter Try.func50, Try.ntmps50
  go_wp2_with (first | (go_at_call 65; refine (abs_calls _ hb _).mono ?_; rintro e w' ⟨rfl, rfl⟩) | (go_at_call 70; refine (pow_calls _ (by decide) (by decide) _).mono ?_; rintro e w' ⟨rfl, rfl⟩))
  go_ret
  exact ⟨ret_bool (by rw [E.out, ← h2, Bool.not_or]; rfl), rfl⟩

theorem any_step {p : Option Nat → Bool} {xs : List (Option Nat)} {k : Nat} (hk : k < xs.length) (h : (xs.take k).any p = false) :
    (xs.take (k + 1)).any p = p (xs.getD k none) := by
  rw [List.take_succ_eq_append_getElem hk, List.any_append, h, Bool.false_or]
  simp [List.getD_eq_getElem?_getD, hk]
theorem any_of_take {p : Option Nat → Bool} {xs : List (Option Nat)} {k : Nat} (h : (xs.take k).any p = true) : xs.any p = true := by
  rw [List.any_eq_true] at h ⊢
  obtain ⟨x, hx, hp⟩ := h
  exact ⟨x, List.mem_of_mem_take hx, hp⟩

theorem indexlarge_calls (a : Option Addr) (n cap : Nat) (xs : List (Option Nat)) (w : World) (h : Row w (.slice a n cap) xs) :
    Calls Try.prog 69 #[.slice a n cap, .func (.func 50) #[] #[]] w fun e w' => (∃ n : Int, e = .returned (.int .i64 n) ∧ (decide (0 ≤ n) = xs.any largeF)) ∧ w = w' := by
  obtain ⟨a', cap', hv, h1, h2, h3⟩ := h
  simp only [Value.slice.injEq] at hv
  obtain ⟨rfl, hn, rfl⟩ := hv
  rw [← hn] at h1 h3
  have HN := Lib.hid hn.symm
  clear hn
  unfold maxLen at h2
  go_enter Try.func69, Try.ntmps69
  go_wp2
  go_loop [8] (fun i => ∃ k : Nat, k ≤ n ∧ i = .int .i64 (k : Int) ∧ Hid ((xs.take k).any largeF = false)) (fun i => n - (intOf i).toNat)
  case atStart => exact ⟨0, Nat.zero_le _, rfl, rfl⟩
  case round =>
    obtain ⟨k, hk, rfl, hrel⟩ := hrel
    by_cases hlt : k < n
    · rcases h3 with ⟨h0, _⟩ | ⟨blk, off, rfl, hc⟩
      · omega
      · obtain ⟨b, hb, hfw⟩ := hc k hlt
        have hst := Lib.hid (any_step (p := largeF) (by rw [HN.out]; exact hlt) hrel.out)
        have hlf := Lib.hid (largeW_F hfw)
        clear hc
        go_wp2_with (go_at_call 50; refine (large_calls b hfw.1 _).mono ?_; rintro e w' ⟨rfl, rfl⟩)
        · go_ret
          have hb1 : largeW b = true := by assumption
          exact ⟨⟨k, rfl, by rw [any_of_take (k := k + 1) (by rw [hst.out, ← hlf.out, hb1])]; simp⟩, rfl⟩
        · have hb1 : largeW b = false := by assumption
          go_round
          case rel => exact ⟨k + 1, by omega, by go_num, by show _ = false; rw [hst.out, ← hlf.out, hb1]⟩
          case measure => simp [intOf]; omega
    · obtain rfl : k = n := by omega
      go_wp2
      go_ret
      exact ⟨⟨-1, rfl, by have := hrel.out; rw [List.take_of_length_le (by rw [HN.out]; exact Nat.le_refl _)] at this; rw [this]; rfl⟩, rfl⟩

theorem containslarge_calls (a : Option Addr) (n cap : Nat) (xs : List (Option Nat)) (w : World) (h : Row w (.slice a n cap) xs) :
    Calls Try.prog 49 #[.slice a n cap, .func (.func 50) #[] #[]] w fun e w' => e = .returned (.bool (xs.any largeF)) ∧ w = w' := by
  have L := Lib.hid (indexlarge_calls a n cap xs w h)
  clear h
  go_enter Try.func49, Try.ntmps49
  go_wp2_with (go_at_call 69; refine L.out.mono ?_; rintro e w' ⟨⟨n, rfl, hn⟩, rfl⟩)
  go_ret
  exact ⟨rfl, rfl⟩
end Go.Proofs.Ytaabfjfaljhjmaa
