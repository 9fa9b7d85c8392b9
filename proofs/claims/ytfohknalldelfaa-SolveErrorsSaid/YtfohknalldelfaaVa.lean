/- Solving, plainly; what stands below it (products taken off, a list of numbers, a zero on the diagonal), walked. -/
import Derived.Test.YtfohknalldelfaaMb
import Derived.Test.YtfohknalldelfaaMd
import Derived.Deep.CutRange
namespace Go.Proofs.Ytfohknalldelfaa
open Go.RowKit Lv Go.Shelf
open Ieee (double Format Datum Toward)
attribute [local go_sem] run_store_float drewN_alloc drewN_setCell run_addF run_subF run_mulF run_quoF

/-- products taken off, one by one -/
def lessF (s : Option Nat) (a b : Nat → Option Nat) : Nat → Option Nat
  | 0 => s
  | k + 1 => fsub (lessF s a b k) (fmul (a k) (b k))
theorem lessF_congr {s : Option Nat} {a b a' b' : Nat → Option Nat} : ∀ n, (∀ k, k < n → a k = a' k) → (∀ k, k < n → b k = b' k) → lessF s a b n = lessF s a' b' n
  | 0, _, _ => rfl
  | n + 1, h1, h2 => by
    unfold lessF
    rw [lessF_congr n (fun k hk => h1 k (by omega)) (fun k hk => h2 k (by omega)), h1 n (by omega), h2 n (by omega)]
/-- a factor's entry, row i, column k -/
def ent (xs : List (Option Nat)) (c i k : Nat) : Option Nat := (lineP xs c i).getD k none
/-- the last n answers -/
def backT (xs : List (Option Nat)) (c : Nat) : Nat → List (Option Nat)
  | 0 => []
  | n + 1 => fdiv (lessF (ent xs c (c - (n + 1)) c) (fun k => ent xs c (c - (n + 1)) (c - (n + 1) + 1 + k)) (fun k => (backT xs c n).getD k none) n) (ent xs c (c - (n + 1)) (c - (n + 1))) :: backT xs c n
theorem backT_len (xs : List (Option Nat)) (c : Nat) : ∀ n, (backT xs c n).length = n
  | 0 => rfl
  | n + 1 => by unfold backT; rw [List.length_cons, backT_len xs c n]
/-- the first n answers, forward -/
def forwT (xs : List (Option Nat)) (c : Nat) (vs : List (Option Nat)) : Nat → List (Option Nat)
  | 0 => []
  | n + 1 => forwT xs c vs n ++ [fdiv (lessF (vs.getD n none) (fun k => ent xs c k n) (fun k => (forwT xs c vs n).getD k none) n) (ent xs c n n)]
theorem forwT_len (xs : List (Option Nat)) (c : Nat) (vs : List (Option Nat)) : ∀ n, (forwT xs c vs n).length = n
  | 0 => rfl
  | n + 1 => by unfold forwT; rw [List.length_append, forwT_len xs c vs n]; rfl
theorem forwT_get (xs : List (Option Nat)) (c : Nat) (vs : List (Option Nat)) (k : Nat) : ∀ n m, k < n → n ≤ m → (forwT xs c vs m).getD k none = (forwT xs c vs n).getD k none
  | n, 0, h1, h2 => by omega
  | n, m + 1, h1, h2 => by
    by_cases e : n = m + 1
    · rw [e]
    · rw [← forwT_get xs c vs k n m h1 (by omega)]
      have hl := forwT_len xs c vs m
      show (forwT xs c vs m ++ _).getD k none = _
      rw [List.getD_eq_getElem?_getD, List.getElem?_append_left (by omega), List.getD_eq_getElem?_getD]
/-- is there a zero on the diagonal of the square part? -/
def singD (xs : List (Option Nat)) (c : Nat) : Bool := (List.range c).any fun i => zeroF (ent xs c i i)
/-- a list of numbers, or none -/
def answD (ys : List (Option Nat)) : List (Option Nat) × Int := if ys.any (fun x => !numF x) = true then ([], 2) else (ys, 0)
def backD (F : FacD) : List (Option Nat) × Int :=
  if F.ok = false then ([], 1) else if singD F.xs F.cols.toNat = true then ([], 7) else answD (backT F.xs F.cols.toNat F.cols.toNat)
def forwD (F : FacD) (vs : List (Option Nat)) : List (Option Nat) × Int :=
  if F.ok = false ∨ (vs.length : Int) ≠ F.cols then ([], 1) else if singD F.xs F.cols.toNat = true then ([], 7) else answD (forwT F.xs F.cols.toNat vs F.cols.toNat)
/-- what is handed back: a list, and an error's number -/
def LstE (D : List (Option Nat) × Int) (e : Ending) (w : World) : Prop := ∃ (a : Option Addr) (n cap : Nat), e = .returned (.tuple #[.slice a n cap, .int .i64 D.2]) ∧ Row w (.slice a n cap) D.1

/-- is a float no number? -/
def wildW (b : Nat) : Bool := nan b || decide (b % 9223372036854775808 = 9218868437227405312)
def wildF (x : Option Nat) : Bool := !numF x
theorem wildW_F {b : Nat} {x : Option Nat} (h : FW b x) : wildW b = wildF x := by
  obtain ⟨_, h⟩ := h
  unfold wildW wildF numF
  cases x with
  | none => rw [ab_none h]; rfl
  | some c =>
    obtain ⟨rfl, h2⟩ := ab_some h
    rw [h2]
    have := nan_le h2
    dsimp only
    by_cases e : c % 9223372036854775808 = 9218868437227405312
    · rw [decide_eq_true e, decide_eq_false (by omega)]; rfl
    · rw [decide_eq_false e, decide_eq_true (by omega)]; rfl
theorem wild_calls (b : Nat) (hb : W64 b) (w : World) :
    Calls Try.prog 30 #[.float .f64 b] w fun e w' => e = .returned (.bool (wildW b)) ∧ w = w' := by
  have E : Hid (wildW b = (nan b || decide (b % 9223372036854775808 = 9218868437227405312))) := rfl
  have I := Lib.hid (isInf_calls b hb)
  have N := Lib.hid (isNaN_calls b hb)
  clear hb
  generalize wildW b = ob at *
  generalize decide (b % 9223372036854775808 = 9218868437227405312) = ib at *
  generalize nan b = nb at *
  go_enter Try.func30, Try.ntmps30
  go_wp2_with (first | (go_at_call 17; refine (I.out _).mono ?_; rintro e w' ⟨rfl, rfl⟩) | (go_at_call 16; refine (N.out _).mono ?_; rintro e w' ⟨rfl, rfl⟩))
  all_goals
    go_ret
    exact ⟨ret_bool (by rw [E.out]; simp_all), rfl⟩
theorem indexwild_calls (a : Option Addr) (n cap : Nat) (xs : List (Option Nat)) (w : World) (h : Row w (.slice a n cap) xs) :
    Calls Try.prog 51 #[.slice a n cap, .func (.func 30) #[] #[]] w fun e w' => (∃ n : Int, e = .returned (.int .i64 n) ∧ (decide (0 ≤ n) = xs.any wildF)) ∧ w = w' := by
  obtain ⟨a', cap', hv, h1, h2, h3⟩ := h
  simp only [Value.slice.injEq] at hv
  obtain ⟨rfl, hn, rfl⟩ := hv
  rw [← hn] at h1 h3
  have HN := Lib.hid hn.symm
  clear hn
  unfold maxLen at h2
  go_enter Try.func51, Try.ntmps51
  go_wp2
  go_loop [8] (fun i => ∃ k : Nat, k ≤ n ∧ i = .int .i64 (k : Int) ∧ Hid ((xs.take k).any wildF = false)) (fun i => n - (intOf i).toNat)
  case atStart => exact ⟨0, Nat.zero_le _, rfl, rfl⟩
  case round =>
    obtain ⟨k, hk, rfl, hrel⟩ := hrel
    by_cases hlt : k < n
    · rcases h3 with ⟨h0, _⟩ | ⟨blk, off, rfl, hc⟩
      · omega
      · obtain ⟨b, hb, hfw⟩ := hc k hlt
        have hst := Lib.hid (any_step (p := wildF) (by rw [HN.out]; exact hlt) hrel.out)
        have hlf := Lib.hid (wildW_F hfw)
        clear hc
        go_wp2_with (go_at_call 30; refine (wild_calls b hfw.1 _).mono ?_; rintro e w' ⟨rfl, rfl⟩)
        · go_ret
          have hb1 : wildW b = true := by assumption
          exact ⟨⟨k, rfl, by rw [any_of_take (k := k + 1) (by rw [hst.out, ← hlf.out, hb1])]; simp⟩, rfl⟩
        · have hb1 : wildW b = false := by assumption
          go_round
          case rel => exact ⟨k + 1, by omega, by go_num, by show _ = false; rw [hst.out, ← hlf.out, hb1]⟩
          case measure => simp [intOf]; omega
    · obtain rfl : k = n := by omega
      go_wp2
      go_ret
      exact ⟨⟨-1, rfl, by have := hrel.out; rw [List.take_of_length_le (by rw [HN.out]; exact Nat.le_refl _)] at this; rw [this]; rfl⟩, rfl⟩
theorem containswild_calls (a : Option Addr) (n cap : Nat) (xs : List (Option Nat)) (w : World) (h : Row w (.slice a n cap) xs) :
    Calls Try.prog 39 #[.slice a n cap, .func (.func 30) #[] #[]] w fun e w' => e = .returned (.bool (xs.any wildF)) ∧ w = w' := by
  have L := Lib.hid (indexwild_calls a n cap xs w h)
  clear h
  go_enter Try.func39, Try.ntmps39
  go_wp2_with (go_at_call 51; refine L.out.mono ?_; rintro e w' ⟨⟨n, rfl, hn⟩, rfl⟩)
  go_ret
  exact ⟨rfl, rfl⟩
theorem answer_calls (a : Option Addr) (n cap : Nat) (xs : List (Option Nat)) (w : World) (h : Row w (.slice a n cap) xs) :
    Calls Try.prog 23 #[.slice a n cap] w fun e w' => LstE (answD xs) e w' ∧ w = w' := by
  have L := Lib.hid (containswild_calls a n cap xs w h)
  have HR := Lib.hid h
  have E : Hid (answD xs = if xs.any wildF = true then ([], 2) else (xs, 0)) := rfl
  clear h
  generalize answD xs = D at *
  cases hw : xs.any wildF
  · rw [hw] at L
    have E2 : Hid (D = (xs, 0)) := by unfold Hid; rw [E.out, if_neg (by rw [hw]; decide)]
    clear hw E
    go_enter Try.func23, Try.ntmps23
    go_wp2_with (go_at_call 39; refine L.out.mono ?_; rintro e w' ⟨rfl, rfl⟩)
    go_ret2
    exact ⟨by rw [E2.out]; exact ⟨a, n, cap, rfl, HR.out⟩, rfl⟩
  · rw [hw] at L
    have E2 : Hid (D = ([], 2)) := by unfold Hid; rw [E.out, if_pos (by rw [hw])]
    clear hw E
    go_enter Try.func23, Try.ntmps23
    go_wp2_with (go_at_call 39; refine L.out.mono ?_; rintro e w' ⟨rfl, rfl⟩)
    go_ret2
    exact ⟨by rw [E2.out]; exact ⟨none, 0, 0, rfl, row_nil _⟩, rfl⟩

set_option maxHeartbeats 1000000 in
theorem less_calls (x : Nat) {X : Option Nat} (a b : Option Addr) (n c m d : Nat) (ls ms : List (Option Nat)) (w : World) (hx : FW x X) (ha : Row w (.slice a n c) ls) (hb : Row w (.slice b m d) ms) (hnm : n ≤ m) :
    Calls Try.prog 22 #[.float .f64 x, .slice a n c, .slice b m d] w fun e w' => (∃ y, e = .returned (.float .f64 y) ∧ FW y (lessF X (fun k => ls.getD k none) (fun k => ms.getD k none) n)) ∧ Below w.heap.size w w' := by
  have HX := Lib.hid hx
  have HA := Lib.hid ha
  have HB := Lib.hid hb
  have hmax := row_max ha
  clear hx ha hb
  go_enter Try.func22, Try.ntmps22
  go_wp2
  go_loopw [0, 12] (fun s0 s12 wr => ∃ (k y : Nat), s0 = .float .f64 y ∧ s12 = .int .i64 (k : Int) ∧ k ≤ n ∧ Hid (FW y (lessF X (fun k => ls.getD k none) (fun k => ms.getD k none) k) ∧ Below w.heap.size w wr)) (fun _ s12 _ => n - (intOf s12).toNat)
  case atStart => exact ⟨0, x, rfl, rfl, Nat.zero_le _, HX.out, Below.refl _ _⟩
  case round =>
    obtain ⟨k, y, rfl, rfl, hk, HI⟩ := hrel
    by_cases hlt : k < n
    · have hi : (k : Int) < (n : Int) := by omega
      have RA := Lib.hid (HA.out.below HI.out.2)
      have RB := Lib.hid (HB.out.below HI.out.2)
      obtain ⟨blk, off, rfl, hc⟩ := row_cell RA.out (by omega)
      obtain ⟨blk', off', rfl, hc'⟩ := row_cell RB.out (by omega)
      obtain ⟨p, hp1, hp2⟩ := hc k hlt
      obtain ⟨q, hq1, hq2⟩ := hc' k (by omega)
      have hkm : (k : Int) < (m : Int) := by omega
      have HP := Lib.hid hp2
      have HQ := Lib.hid hq2
      clear hc hc' hp2 hq2
      go_wp2
      go_roundw
      case rel => exact ⟨k + 1, _, rfl, by go_num, by omega, opw_sub _ HI.out.1 (opw_mul _ HP.out HQ.out), below_drewN HI.out.2 _⟩
      case measure => simp [intOf]; omega
    · obtain rfl : k = n := by omega
      go_wp2
      go_ret
      exact ⟨⟨y, rfl, HI.out.1⟩, HI.out.2⟩
end Go.Proofs.Ytfohknalldelfaa
