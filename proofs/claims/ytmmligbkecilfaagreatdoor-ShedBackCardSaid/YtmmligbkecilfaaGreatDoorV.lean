/- The reference's triangles: Size, At, Check. The reference's Check comes to what the program's does. -/
import Derived.Test.YtmmligbkecilfaaGreatDoorT
import Derived.Test.YtmmligbkecilfaaGreatDoorJ
import Derived.Deep.QuietTactic
import Derived.BigQuiet
namespace Go.Proofs.YtmmligbkecilfaaGreatDoor
open Go.RowKit Lv Go.Shelf
open Ieee (double Format Datum Toward)
attribute [local go_sem] Oper.semAt_some

theorem rsize_out (c : Int) (w : World) (h : ¬ (1 ≤ c ∧ c ≤ 6)) :
    Calls Tryz.prog 20 #[.int .i64 c] w fun e w' => e = .returned (.int .i64 0) ∧ w = w' := by
  by_cases h1 : c < 1
  · clear h
    go_enter Tryz.func20, Tryz.ntmps20
    go_wp2
    go_ret
    exact ⟨rfl, rfl⟩
  · have h2 : 6 < c := by omega
    clear h
    go_enter Tryz.func20, Tryz.ntmps20
    go_wp2
    go_ret
    exact ⟨rfl, rfl⟩
theorem rsize_in (c : Nat) (w : World) (h1 : 1 ≤ c) (h6 : c ≤ 6) :
    Calls Tryz.prog 20 #[.int .i64 (c : Int)] w fun e w' => e = .returned (.int .i64 (tsz c : Int)) ∧ w = w' := by
  have T := Lib.hid (tsz_int h1 h6)
  have a1 : (1 : Int) ≤ (c : Int) := by omega
  have a6 : (c : Int) ≤ 6 := by omega
  clear h1 h6
  go_enter Tryz.func20, Tryz.ntmps20
  go_wp2
  go_ret
  exact ⟨ret_int T.out, rfl⟩

theorem offs_step (c r : Nat) (h6 : c ≤ 6) (hr : r ≤ c) : (offs c r : Int) + c + 1 - r = (offs c (r + 1) : Int) ∧ offs c r ≤ 28 := by
  have : ∀ c : Nat, c < 7 → ∀ r : Nat, r < 7 → r ≤ c → (offs c r : Int) + c + 1 - r = (offs c (r + 1) : Int) ∧ offs c r ≤ 28 := by decide +kernel
  exact this c (by omega) r (by omega) hr

theorem rat_in (c i j : Nat) (w : World) (h1 : 1 ≤ c) (h6 : c ≤ 6) (hij : i ≤ j) (hj : j ≤ c) :
    Calls Tryz.prog 25 #[.int .i64 (c : Int), .int .i64 (i : Int), .int .i64 (j : Int)] w fun e w' => e = .returned (.tuple #[.int .i64 ((offs c i + (j - i) : Nat) : Int), .bool true]) ∧ w = w' := by
  have S := Lib.hid (fun w => rsize_in c w h1 h6)
  have hb := tsz_bounds h1 h6
  have hz : ((tsz c : Int) == 0) = false := by simp; omega
  have a1 : ¬ (j : Int) < (i : Int) := by omega
  have a2 : ¬ (c : Int) < (j : Int) := by omega
  have a6 : (c : Int) ≤ 6 := by omega
  clear hb
  go_enter Tryz.func25, Tryz.ntmps25
  go_wp2_with (go_at_call 20; refine (S.out _).mono ?_; rintro e w' ⟨rfl, rfl⟩)
  go_loop [8, 9] (fun s8 s9 => ∃ (r : Nat) (o : Int), s8 = .int .i64 o ∧ s9 = .int .i64 (r : Int) ∧ Hid (o = (offs c r : Int)) ∧ r ≤ i) (fun _ s9 => i - (intOf s9).toNat)
  case atStart => exact ⟨0, _, rfl, rfl, rfl, Nat.zero_le _⟩
  case round =>
    obtain ⟨r, o, rfl, rfl, ho, hr⟩ := hrel
    have hos := offs_step c r h6 (by omega)
    rw [← ho.out] at hos
    have ho2 : 0 ≤ o ∧ o ≤ 28 := by have := ho.out; omega
    obtain ⟨ho2, ho3⟩ := ho2
    by_cases hlt : r < i
    · have hst := Lib.hid hos.1
      clear hos
      have hrc : (r : Int) ≤ 6 := by omega
      go_wp2
      go_round
      case rel => exact ⟨r + 1, _, rfl, by go_num, hst.out, by omega⟩
      case measure => simp [intOf]; omega
    · obtain rfl : r = i := by omega
      clear hos
      have hji : (j : Int) ≤ 6 := by omega
      go_wp2
      go_ret2
      exact ⟨by
        have e : o + (j : Int) - (r : Int) = ((offs c r + (j - r) : Nat) : Int) := by have := ho.out; omega
        exact congrArg (fun z => Ending.returned (.tuple #[.int .i64 z, .bool true])) e, rfl⟩
end Go.Proofs.YtmmligbkecilfaaGreatDoor
namespace Go.Proofs.YtmmligbkecilfaaGreatDoor
open Go.RowKit Lv Go.Shelf
open Ieee (double Format Datum Toward)
attribute [local go_sem] Oper.semAt_some

theorem quiet_same {f : Nat} {args : Array Value} {v : Value} {w : World} (h : Calls Tryz.prog f args w fun e w' => e = .returned v ∧ w = w') : Calls Tryz.prog f args w fun e w' => e = .returned v ∧ w' = w := h.mono fun _ _ ⟨a, b⟩ => ⟨a, b.symm⟩

theorem rcheck_cols (cols rws trn : Int) (a : Option Addr) (n cap : Nat) (w : World) (h : ¬ (1 ≤ cols ∧ cols ≤ 6)) :
    Calls Tryz.prog 17 #[.agg #[.int .i64 cols, .slice a n cap, .int .i64 rws, .int .i64 trn]] w fun e w' => e = .returned (.bool false) ∧ Below w.heap.size w w' := by
  have S := Lib.hid (fun w => rsize_out cols w h)
  clear h
  go_enter Tryz.func17, Tryz.ntmps17
  go_wp2
  go_quiet (first | (go_at_call 20; refine Calls.quiet_of_same (quiet_same (S.out _))))
  go_wp2
  go_ret
  exact ⟨rfl, below_drewN ((Below.refl _ _).alloc (Nat.le_refl _) _) _⟩

theorem rcheck_early (c : Nat) (rws trn : Int) (a : Option Addr) (n cap : Nat) (w : World) (h1 : 1 ≤ c) (h6 : c ≤ 6)
    (h : n ≠ tsz c ∨ (n = tsz c ∧ (rws < 0 ∨ (0 ≤ rws ∧ (200 < rws ∨ (rws ≤ 200 ∧ (trn < 0 ∨ (0 ≤ trn ∧ 4096 < trn)))))))) :
    Calls Tryz.prog 17 #[.agg #[.int .i64 (c : Int), .slice a n cap, .int .i64 rws, .int .i64 trn]] w fun e w' => e = .returned (.bool false) ∧ Below w.heap.size w w' := by
  have S := Lib.hid (fun w => rsize_in c w h1 h6)
  have hb := tsz_bounds h1 h6
  generalize tsz c = t at *
  have hz : ((t : Int) == 0) = false := by simp; omega
  clear h1 h6
  rcases h with h | ⟨h, h2⟩
  · have hne : ((n : Int) != (t : Int)) = true := by simp; omega
    clear h hb
    go_enter Tryz.func17, Tryz.ntmps17
    go_wp2
    go_quiet (first | (go_at_call 20; refine Calls.quiet_of_same (quiet_same (S.out _))))
    go_wp2
    go_ret
    exact ⟨rfl, below_drewN ((Below.refl _ _).alloc (Nat.le_refl _) _) _⟩
  · subst h
    have hne : ((n : Int) != (n : Int)) = false := by simp
    clear hb
    rcases h2 with h | ⟨h0, h | ⟨h3, h | ⟨h4, h⟩⟩⟩
    · have d1 : decide (rws < 0) = true := decide_eq_true h
      go_enter Tryz.func17, Tryz.ntmps17
      go_wp2
      go_quiet (first | (go_at_call 20; refine Calls.quiet_of_same (quiet_same (S.out _))))
      go_wp2
      go_ret
      exact ⟨rfl, below_drewN ((Below.refl _ _).alloc (Nat.le_refl _) _) _⟩
    · have d1 : decide (rws < 0) = false := decide_eq_false (by omega)
      have d2 : decide (200 < rws) = true := decide_eq_true h
      go_enter Tryz.func17, Tryz.ntmps17
      go_wp2
      go_quiet (first | (go_at_call 20; refine Calls.quiet_of_same (quiet_same (S.out _))))
      go_wp2
      go_ret
      exact ⟨rfl, below_drewN ((Below.refl _ _).alloc (Nat.le_refl _) _) _⟩
    · have d1 : decide (rws < 0) = false := decide_eq_false (by omega)
      have d2 : decide (200 < rws) = false := decide_eq_false (by omega)
      have d3 : decide (trn < 0) = true := decide_eq_true h
      go_enter Tryz.func17, Tryz.ntmps17
      go_wp2
      go_quiet (first | (go_at_call 20; refine Calls.quiet_of_same (quiet_same (S.out _))))
      go_wp2
      go_ret
      exact ⟨rfl, below_drewN ((Below.refl _ _).alloc (Nat.le_refl _) _) _⟩
    · have d1 : decide (rws < 0) = false := decide_eq_false (by omega)
      have d2 : decide (200 < rws) = false := decide_eq_false (by omega)
      have d3 : decide (trn < 0) = false := decide_eq_false (by omega)
      have d4 : decide (4096 < trn) = true := decide_eq_true h
      go_enter Tryz.func17, Tryz.ntmps17
      go_wp2
      go_quiet (first | (go_at_call 20; refine Calls.quiet_of_same (quiet_same (S.out _))))
      go_wp2
      go_ret
      exact ⟨rfl, below_drewN ((Below.refl _ _).alloc (Nat.le_refl _) _) _⟩

theorem splV_neg (b : Nat) : ∃ q r, splV b = .tuple #[.bool (negW b && !nan b), .int .u64 q, .int .i64 r, .int .i64 (kindW b)] := by
  unfold splV
  split
  · rename_i h
    have hn : nan b = false := by
      unfold kindW at h
      cases hh : nan b with
      | false => rfl
      | true => rw [hh] at h; simp at h
    exact ⟨_, _, by rw [h, hn, Bool.not_false, Bool.and_true]⟩
  · exact ⟨_, _, rfl⟩
theorem neg_F {b : Nat} {x : Option Nat} (h : FW b x) : (negW b && !nan b) = sgnF x := by
  obtain ⟨_, h⟩ := h
  cases x with
  | none => rw [ab_none h]; simp [sgnF]
  | some c => obtain ⟨rfl, h2⟩ := ab_some h; rw [h2]; simp [sgnF, negW]
theorem large_kind {b : Nat} {x : Option Nat} (h : FW b x) (hk : 1 < kindW b) : largeF x = true := by
  rw [← largeW_F h]
  unfold largeW
  unfold kindW at hk
  cases hn : nan b with
  | true => rfl
  | false =>
    rw [hn] at hk
    simp only [Bool.false_eq_true, if_false] at hk
    split at hk
    · have : pw 420 < 9218868437227405312 := by decide
      rw [decide_eq_true (by omega), Bool.or_true]
    · split at hk <;> omega
theorem large_num {b : Nat} {x : Option Nat} (h : FW b x) (hk : ¬ 1 < kindW b) : (double.order (b % 9223372036854775808) (pw 420) == some .gt) = largeF x := by
  rw [← largeW_F h, abs_gt b (pw 420) (by decide)]
  unfold largeW
  have hn : nan b = false := by
    unfold kindW at hk
    cases hh : nan b with
    | false => rfl
    | true => rw [hh] at hk; simp at hk
  rw [hn]
  simp

set_option maxRecDepth 100000 in
set_option maxHeartbeats 1000000 in
theorem rcheck_rows (c : Nat) (rws trn : Int) (blk off cap : Nat) (xs : List (Option Nat)) (w : World) (h1 : 1 ≤ c) (h6 : c ≤ 6) (hl : xs.length = tsz c) (_ : cap ≤ maxLen)
    (r0 : 0 ≤ rws) (r1 : rws ≤ 200) (t0 : 0 ≤ trn) (t1 : trn ≤ 4096)
    (hc : ∀ i, i < xs.length → ∃ b, w.cell? ⟨blk, off + i, none⟩ = some (.float .f64 b) ∧ FW b (xs.getD i none)) :
    Calls Tryz.prog 17 #[.agg #[.int .i64 (c : Int), .slice (some ⟨blk, off, none⟩) xs.length cap, .int .i64 rws, .int .i64 trn]] w fun e w' =>
      e = .returned (.bool (!(xs.any largeF || (List.range (c + 1)).any fun i => sgnF (xs.getD (offs c i) none)))) ∧ Below w.heap.size w w' := by
  obtain ⟨res, hres⟩ : ∃ res : Bool, res = (!(xs.any largeF || (List.range (c + 1)).any fun i => sgnF (xs.getD (offs c i) none))) := ⟨_, rfl⟩
  rw [← hres]
  have HRES := Lib.hid hres
  clear hres
  have S := Lib.hid (fun w => rsize_in c w h1 h6)
  have hb := tsz_bounds h1 h6
  have HL := Lib.hid hl
  have hz : ((tsz c : Int) == 0) = false := by simp; omega
  have hne : ((xs.length : Int) != (tsz c : Int)) = false := by simp [hl]
  have d1 : decide (rws < 0) = false := decide_eq_false (by omega)
  have d2 : decide (200 < rws) = false := decide_eq_false (by omega)
  have d3 : decide (trn < 0) = false := decide_eq_false (by omega)
  have d4 : decide (4096 < trn) = false := decide_eq_false (by omega)
  have HC := Lib.hid hc
  have hlen : xs.length ≤ 28 := by omega
  clear hl hc hb
  go_enter Tryz.func17, Tryz.ntmps17
  go_wp2
  go_quiet (first | (go_at_call 20; refine Calls.quiet_of_same (quiet_same (S.out _))))
  have hB := below_drewN ((Below.refl w.heap.size w).alloc (Nat.le_refl _) (.cells #[.int .i64 (c : Int), .slice (some ⟨blk, off, none⟩) xs.length cap, .int .i64 rws, .int .i64 trn] 24)) nq
  have p0 : ((w.alloc (.cells #[.int .i64 (c : Int), .slice (some ⟨blk, off, none⟩) xs.length cap, .int .i64 rws, .int .i64 trn] 24)).drewN nq).cell? ⟨w.heap.size, 0, none⟩ = some (.int .i64 (c : Int)) := by simp [go_sem]
  have p1 : ((w.alloc (.cells #[.int .i64 (c : Int), .slice (some ⟨blk, off, none⟩) xs.length cap, .int .i64 rws, .int .i64 trn] 24)).drewN nq).cell? ⟨w.heap.size, 1, none⟩ = some (.slice (some ⟨blk, off, none⟩) xs.length cap) := by simp [go_sem]
  have HC' : Hid (∀ i, i < xs.length → ∃ b, ((w.alloc (.cells #[.int .i64 (c : Int), .slice (some ⟨blk, off, none⟩) xs.length cap, .int .i64 rws, .int .i64 trn] 24)).drewN nq).cell? ⟨blk, off + i, none⟩ = some (.float .f64 b) ∧ FW b (xs.getD i none)) := by
    intro i hi
    obtain ⟨b, hb1, hb2⟩ := HC.out i hi
    exact ⟨b, (hB.cell (p := ⟨blk, off + i, none⟩) (cell_lt hb1)).trans hb1, hb2⟩
  generalize ((w.alloc (.cells #[.int .i64 (c : Int), .slice (some ⟨blk, off, none⟩) xs.length cap, .int .i64 rws, .int .i64 trn] 24)).drewN nq) = W at *
  clear HC S hz hne d1 d2 d3 d4
  have P := Lib.hid (rPow_calls 420 (by decide) (by decide))
  go_wp2
  go_loop [3] (fun s3 => ∃ k : Nat, s3 = .int .i64 (k : Int) ∧ k ≤ xs.length ∧ Hid ((xs.take k).any largeF = false)) (fun s3 => xs.length - (intOf s3).toNat)
  case atStart => exact ⟨0, rfl, Nat.zero_le _, rfl⟩
  case round =>
    obtain ⟨k, rfl, hk, ha⟩ := hrel
    by_cases hlt : k < xs.length
    · obtain ⟨b, hb1, hb2⟩ := HC'.out k hlt
      have hst := Lib.hid (any_step (p := largeF) hlt ha.out)
      obtain ⟨q, r, eS⟩ := splV_neg b
      have S := rSplit_calls b hb2.1
      rw [eS] at S
      have SS := Lib.hid S
      have hw64 := hb2.1
      have FB := Lib.hid hb2
      clear S eS hb2
      by_cases hkd : 1 < kindW b
      · have hlg := large_kind FB.out hkd
        have HR : Hid (res = false) := by
          unfold Hid
          rw [HRES.out, any_of_take (k := k + 1) (by rw [hst.out]; exact hlg)]
          rfl
        clear hlg
        generalize kindW b = kb at *
        go_wp2_with (first | (go_at_call 37; refine (SS.out _).mono ?_; rintro e w' ⟨rfl, rfl⟩))
        go_ret
        exact ⟨ret_bool HR.out.symm, hB⟩
      · have hln := large_num FB.out hkd
        have hln' : (FloatKind.f64.format.order (b % 9223372036854775808) (pw 420) == some Ordering.gt) = largeF (xs.getD k none) := hln
        clear hln
        cases hlv : largeF (xs.getD k none)
        · rw [hlv] at hln'
          have hlv' := Lib.hid hlv
          clear hlv
          generalize kindW b = kb at *
          go_wp2_with (first | (go_at_call 37; refine (SS.out _).mono ?_; rintro e w' ⟨rfl, rfl⟩) | (go_at_call 38; refine (abs_calls _ hw64 _).mono ?_; rintro e w' ⟨rfl, rfl⟩) | (go_at_call 39; refine (P.out _).mono ?_; rintro e w' ⟨rfl, rfl⟩))
          go_round
          case rel => exact ⟨k + 1, by go_num, by omega, by unfold Hid; rw [hst.out]; exact hlv'.out⟩
          case measure => simp [intOf]; omega
        · have HR : Hid (res = false) := by
            unfold Hid
            rw [HRES.out, any_of_take (k := k + 1) (by rw [hst.out]; exact hlv)]
            rfl
          rw [hlv] at hln'
          clear hlv
          generalize kindW b = kb at *
          go_wp2_with (first | (go_at_call 37; refine (SS.out _).mono ?_; rintro e w' ⟨rfl, rfl⟩) | (go_at_call 38; refine (abs_calls _ hw64 _).mono ?_; rintro e w' ⟨rfl, rfl⟩) | (go_at_call 39; refine (P.out _).mono ?_; rintro e w' ⟨rfl, rfl⟩))
          go_ret
          exact ⟨ret_bool HR.out.symm, hB⟩
    · obtain rfl : k = xs.length := by omega
      have HA : Hid (xs.any largeF = false) := by have := ha.out; rw [List.take_length] at this; exact this
      clear ha
      go_wp2
      have hoff : ∀ i, i ≤ c → offs c i < xs.length := fun i hi => by
        have := offs_le c i h1 h6 (by omega)
        have e := HL.out
        unfold tsz at e
        omega
      have HOF := Lib.hid hoff
      clear hoff hk hlt
      go_loop [8] (fun s8 => ∃ k : Nat, s8 = .int .i64 (k : Int) ∧ k ≤ c + 1 ∧ Hid (((List.range k).any fun i => sgnF (xs.getD (offs c i) none)) = false)) (fun s8 => c + 1 - (intOf s8).toNat)
      case atStart => exact ⟨0, rfl, Nat.zero_le _, rfl⟩
      case round =>
        obtain ⟨k, rfl, hk, ha⟩ := hrel
        by_cases hlt : k ≤ c
        · obtain ⟨b, hb1, hb2⟩ := HC'.out (offs c k) (HOF.out k hlt)
          have hofl : ((offs c k : Nat) : Int) < (xs.length : Int) := by have := HOF.out k hlt; omega
          have A := rat_in c k k
          obtain ⟨q, r, eS⟩ := splV_neg b
          have S := rSplit_calls b hb2.1
          rw [eS, neg_F hb2] at S
          have SS := Lib.hid S
          have AA := Lib.hid (fun w => rat_in c k k w h1 h6 (Nat.le_refl _) hlt)
          rw [Nat.sub_self, Nat.add_zero] at AA
          have hle : (k : Int) ≤ (c : Int) := by omega
          clear S eS hb2 A
          cases hs : sgnF (xs.getD (offs c k) none)
          · rw [hs] at SS
            have HX : Hid (((List.range (k + 1)).any fun i => sgnF (xs.getD (offs c i) none)) = false) := by
              unfold Hid
              rw [List.range_succ, List.any_append, ha.out]
              simp only [List.any_cons, List.any_nil, Bool.false_or, Bool.or_false]
              exact hs
            clear hs
            generalize offs c k = o at *
            go_wp2_with (first | (go_at_call 25; refine (AA.out _).mono ?_; rintro e w' ⟨rfl, rfl⟩) | (go_at_call 37; refine (SS.out _).mono ?_; rintro e w' ⟨rfl, rfl⟩))
            go_round
            case rel => exact ⟨k + 1, by go_num, by omega, HX⟩
            case measure => simp [intOf]; omega
          · rw [hs] at SS
            have HR : Hid (res = false) := by
              unfold Hid
              have : ((List.range (c + 1)).any fun i => sgnF (xs.getD (offs c i) none)) = true := List.any_eq_true.2 ⟨k, List.mem_range.2 (by omega), hs⟩
              rw [HRES.out, this, Bool.or_true]
              rfl
            clear hs
            generalize offs c k = o at *
            go_wp2_with (first | (go_at_call 25; refine (AA.out _).mono ?_; rintro e w' ⟨rfl, rfl⟩) | (go_at_call 37; refine (SS.out _).mono ?_; rintro e w' ⟨rfl, rfl⟩))
            go_ret
            exact ⟨ret_bool HR.out.symm, hB⟩
        · obtain rfl : k = c + 1 := by omega
          have hle : ¬ ((c + 1 : Nat) : Int) ≤ (c : Int) := by omega
          go_wp2
          go_ret
          exact ⟨ret_bool (by rw [HRES.out, HA.out, ha.out]; rfl), hB⟩
end Go.Proofs.YtmmligbkecilfaaGreatDoor
