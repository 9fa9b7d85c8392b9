/- A row taken out, plainly; what the program and the reference refuse of it, walked. A row taken out: both Rows, walked. -/
import Derived.Test.YtfohknalldelfaaDoorTh
import Derived.Test.YtfohknalldelfaaDoorSh
namespace Go.Proofs.YtfohknalldelfaaDoor
open Go.RowKit Lv Go.Shelf
open Ieee (double Format Datum Toward)
attribute [local go_sem] Oper.semAt_some run_store_float drewN_alloc drewN_setCell

theorem sout_calls (b : Nat) (hb : W64 b) (w : World) :
    Calls Tryd.prog 56 #[.float .f64 b] w fun e w' => e = .returned (.bool (outW b)) ∧ w = w' := by
  have E : Hid (outW b = !inW b) := rfl
  have I := Lib.hid (in_calls b hb)
  clear hb
  generalize outW b = ob at *
  generalize inW b = ib at *
  go_enter Tryd.func56, Tryd.ntmps56
  go_wp2_with (first | (go_at_call 62; refine (I.out _).mono ?_; rintro e w' ⟨rfl, rfl⟩))
  go_ret
  exact ⟨ret_bool E.out.symm, rfl⟩

theorem indexsout_calls (a : Option Addr) (n cap : Nat) (xs : List (Option Nat)) (w : World) (h : Row w (.slice a n cap) xs) :
    Calls Tryd.prog 59 #[.slice a n cap, .func (.func 56) #[] #[]] w fun e w' => (∃ n : Int, e = .returned (.int .i64 n) ∧ (decide (0 ≤ n) = xs.any outF)) ∧ w = w' := by
  obtain ⟨a', cap', hv, h1, h2, h3⟩ := h
  simp only [Value.slice.injEq] at hv
  obtain ⟨rfl, hn, rfl⟩ := hv
  rw [← hn] at h1 h3
  have HN := Lib.hid hn.symm
  clear hn
  unfold maxLen at h2
  go_enter Tryd.func59, Tryd.ntmps59
  go_wp2
  go_loop [8] (fun i => ∃ k : Nat, k ≤ n ∧ i = .int .i64 (k : Int) ∧ Hid ((xs.take k).any outF = false)) (fun i => n - (intOf i).toNat)
  case atStart => exact ⟨0, Nat.zero_le _, rfl, rfl⟩
  case round =>
    obtain ⟨k, hk, rfl, hrel⟩ := hrel
    by_cases hlt : k < n
    · rcases h3 with ⟨h0, _⟩ | ⟨blk, off, rfl, hc⟩
      · omega
      · obtain ⟨b, hb, hfw⟩ := hc k hlt
        have hst := Lib.hid (any_step (p := outF) (by rw [HN.out]; exact hlt) hrel.out)
        have hlf := Lib.hid (outW_F hfw)
        clear hc
        go_wp2_with (go_at_call 56; refine (sout_calls b hfw.1 _).mono ?_; rintro e w' ⟨rfl, rfl⟩)
        · go_ret
          have hb1 : outW b = true := by assumption
          exact ⟨⟨k, rfl, by rw [any_of_take (k := k + 1) (by rw [hst.out, ← hlf.out, hb1])]; simp⟩, rfl⟩
        · have hb1 : outW b = false := by assumption
          go_round
          case rel => exact ⟨k + 1, by omega, by go_num, by show _ = false; rw [hst.out, ← hlf.out, hb1]⟩
          case measure => simp [intOf]; omega
    · obtain rfl : k = n := by omega
      go_wp2
      go_ret
      exact ⟨⟨-1, rfl, by have := hrel.out; rw [List.take_of_length_le (by rw [HN.out]; exact Nat.le_refl _)] at this; rw [this]; rfl⟩, rfl⟩

theorem containssout_calls (a : Option Addr) (n cap : Nat) (xs : List (Option Nat)) (w : World) (h : Row w (.slice a n cap) xs) :
    Calls Tryd.prog 38 #[.slice a n cap, .func (.func 56) #[] #[]] w fun e w' => e = .returned (.bool (xs.any outF)) ∧ w = w' := by
  have L := Lib.hid (indexsout_calls a n cap xs w h)
  clear h
  go_enter Tryd.func38, Tryd.ntmps38
  go_wp2_with (go_at_call 59; refine L.out.mono ?_; rintro e w' ⟨⟨n, rfl, hn⟩, rfl⟩)
  go_ret
  exact ⟨rfl, rfl⟩

/-- what is wrong ahead of counting, and what leaves no room -/
def sEarlyD (F : FacD) (ls : List (Option Nat)) (Y : Option Nat) : Int :=
  if earlyD F ls Y ≠ 0 then earlyD F ls Y else if F.rws = 0 then 5 else if 4096 < F.trn + F.cols + 1 then 6 else 0
/-- a row taken out -/
def sRowD (F : FacD) (ls : List (Option Nat)) (Y : Option Nat) : FacD × Int :=
  if sEarlyD F ls Y ≠ 0 then (fac0, sEarlyD F ls Y)
  else if (shedD F (ls ++ [Y])).2 ≠ 0 then (fac0, (shedD F (ls ++ [Y])).2)
  else (⟨(shedD F (ls ++ [Y])).1.cols, (shedD F (ls ++ [Y])).1.xs, F.rws - 1, F.trn + (F.cols + 1)⟩, 0)
theorem sEarly_zero {F : FacD} {ls : List (Option Nat)} {Y : Option Nat} (h : sEarlyD F ls Y = 0) : earlyD F ls Y = 0 ∧ F.rws ≠ 0 ∧ ¬ 4096 < F.trn + F.cols + 1 := by
  unfold sEarlyD at h
  by_cases h1 : earlyD F ls Y = 0
  · rw [if_neg (by simpa using h1)] at h
    by_cases h2 : F.rws = 0
    · rw [if_pos h2] at h; cases h
    · rw [if_neg h2] at h
      by_cases h3 : 4096 < F.trn + F.cols + 1
      · rw [if_pos h3] at h; cases h
      · exact ⟨h1, h2, h3⟩
  · rw [if_pos h1] at h; exact absurd h h1
theorem shedD_keeps {F : FacD} {ls : List (Option Nat)} (h : (shedD F ls).2 = 0) : (shedD F ls).1.ok = true ∧ (shedD F ls).1.cols = F.cols ∧ (shedD F ls).1.rws = F.rws ∧ (shedD F ls).1.trn = F.trn ∧ F.ok = true := by
  unfold shedD at h ⊢
  by_cases hc : F.ok = true ∧ (ls.length : Int) = F.cols + 1
  · rw [if_pos hc] at h ⊢
    cases hT : sfrom F.cols.toNat (F.cols.toNat + 1) 0 (F.xs, ls) with
    | none => rw [hT] at h; cases h
    | some ys =>
      rw [hT] at h
      dsimp only at h ⊢
      cases hk : checkP F.cols ys F.rws F.trn
      · rw [hk] at h; cases h
      · rw [if_pos rfl]
        exact ⟨hk, rfl, rfl, rfl, hc.1⟩
  · rw [if_neg hc] at h
    cases h
theorem shedD_codes (F : FacD) (ls : List (Option Nat)) : 0 ≤ (shedD F ls).2 ∧ (shedD F ls).2 ≤ 8 := by
  unfold shedD
  split
  · split
    · exact ⟨by decide, by decide⟩
    · split
      · exact ⟨Int.le_refl 0, (by decide : (0 : Int) ≤ 8)⟩
      · exact ⟨by decide, by decide⟩
  · exact ⟨by decide, by decide⟩

set_option maxRecDepth 100000 in
set_option maxHeartbeats 2000000 in
theorem sEarly_calls (F : FacD) (a b : Option Addr) (n cap m d y : Nat) (ls : List (Option Nat)) {Y : Option Nat} (w : World) (h : Row w (.slice a n cap) F.xs) (hl : Row w (.slice b m d) ls) (hy : FW y Y) :
    Calls Tryd.prog 32 #[.agg #[.int .i64 F.cols, .slice a n cap, .int .i64 F.rws, .int .i64 F.trn], .agg #[.slice b m d, .float .f64 y]] w fun e w' => e = .returned (.int .i64 (sEarlyD F ls Y)) ∧ Below w.heap.size w w' := by
  have hB := ((Below.refl w.heap.size w).alloc (Nat.le_refl _) (.cells #[.int .i64 F.cols, .slice a n cap, .int .i64 F.rws, .int .i64 F.trn] 24)).alloc (by simp) (.cells #[.slice b m d, .float .f64 y] 33)
  have L := check_calls F.cols F.rws F.trn a n cap F.xs _ (h.below hB)
  have hm := hl.len
  by_cases h1 : F.ok = false
  · have e : sEarlyD F ls Y = 1 := by unfold sEarlyD earlyD; rw [if_pos h1]; rfl
    rw [show checkP F.cols F.xs F.rws F.trn = false from h1] at L
    have LH := Lib.hid L
    rw [e]
    obtain ⟨cols, xs, rws, trn⟩ := F
    clear h1 e L h hl hy hm
    go_enter Tryd.func32, Tryd.ntmps32
    go_wp2_with (first | (go_at_call 18; refine LH.out.mono ?_; rintro e w1 ⟨rfl, hb⟩))
    go_ret
    exact ⟨rfl, hB.trans (hb.mono (by simp; omega))⟩
  · have hok : F.ok = true := by simpa using h1
    rw [show checkP F.cols F.xs F.rws F.trn = true from hok] at L
    have LH := Lib.hid L
    obtain ⟨hc1, hc6⟩ := ok_cols hok
    obtain ⟨r0, r1, t0, t1⟩ := ok_rows hok
    have E0 : earlyD F ls Y = if (ls.length : Int) ≠ F.cols then 3 else if (ls.any outF || outF Y) = true then 2 else 0 := by
      unfold earlyD; rw [if_neg h1]
    by_cases h2 : (ls.length : Int) ≠ F.cols
    · have e : sEarlyD F ls Y = 3 := by unfold sEarlyD; rw [E0, if_pos h2]; rfl
      rw [e]
      rw [hm] at h2
      have hne : ((m : Int) != F.cols) = true := by simpa using h2
      obtain ⟨cols, xs, rws, trn⟩ := F
      clear h1 e E0 L h hl hy hm h2 hok
      dsimp only at *
      go_enter Tryd.func32, Tryd.ntmps32
      go_wp2_with (first | (go_at_call 18; refine LH.out.mono ?_; rintro e w1 ⟨rfl, hb⟩; obtain ⟨hq, hf⟩ := bcell hb; have hz := hb.size; simp at hz; have hz1 : w.heap.size < w1.heap.size := (by omega); have hz2 : w.heap.size + 1 < w1.heap.size := (by omega)))
      go_ret
      exact ⟨rfl, hB.trans (hb.mono (by simp; omega))⟩
    · have e : earlyD F ls Y = if (ls.any outF || outF Y) = true then 2 else 0 := by rw [E0, if_neg h2]
      have hmc : (m : Int) = F.cols := by rw [← hm]; simpa using h2
      have hne : ((m : Int) != F.cols) = false := by simpa using hmc
      have CO := Lib.hid (fun W => sout_calls y hy.1 W)
      rw [outW_F hy] at CO
      have CF : ∀ W, Below w.heap.size w W → Calls Tryd.prog 38 #[.slice b m d, .func (.func 56) #[] #[]] W fun e w' => e = .returned (.bool (ls.any outF)) ∧ W = w' := fun W hW => containssout_calls b m d ls W (hl.below hW)
      have HB := Lib.hid hB
      have E1 : Hid (sEarlyD F ls Y = if (ls.any outF || outF Y) = true then 2 else if F.rws = 0 then 5 else if 4096 < F.trn + F.cols + 1 then 6 else 0) := by
        unfold Hid sEarlyD
        rw [e]
        cases (ls.any outF || outF Y) <;> rfl
      generalize sEarlyD F ls Y = res at *
      generalize ls.any outF = u at *
      generalize outF Y = v at *
      obtain ⟨cols, xs, rws, trn⟩ := F
      have CF := Lib.hid CF
      clear h1 e E0 L h hl hy hm h2 hok hmc hB
      dsimp only at *
      have hB := HB
      clear HB
      cases u
      · cases v
        · by_cases hr : rws = 0
          · have hr2 : (rws == 0) = true := by simpa using hr
            have HR : Hid (res = 5) := by unfold Hid; rw [E1.out, if_neg (by decide), if_pos hr]
            clear E1 hr
            go_enter Tryd.func32, Tryd.ntmps32
            go_wp2_with (first | (go_at_call 18; refine LH.out.mono ?_; rintro e w1 ⟨rfl, hb⟩; obtain ⟨hq, hf⟩ := bcell hb; have hz := hb.size; simp at hz; have hz1 : w.heap.size < w1.heap.size := (by omega); have hz2 : w.heap.size + 1 < w1.heap.size := (by omega); have hC := Lib.hid (hB.out.trans (hb.mono (by simp; omega)))) | (go_at_call 38; refine (CF.out _ hC.out).mono ?_; rintro e w2 ⟨rfl, rfl⟩) | (go_at_call 56; refine (CO.out _).mono ?_; rintro e w3 ⟨rfl, rfl⟩))
            go_ret
            exact ⟨by rw [HR.out]; rfl, hC.out⟩
          · have hr2 : (rws == 0) = false := by simpa using hr
            by_cases ht : 4096 < trn + cols + 1
            · have HR : Hid (res = 6) := by unfold Hid; rw [E1.out, if_neg (by decide), if_neg hr, if_pos ht]
              clear E1
              go_enter Tryd.func32, Tryd.ntmps32
              go_wp2_with (first | (go_at_call 18; refine LH.out.mono ?_; rintro e w1 ⟨rfl, hb⟩; obtain ⟨hq, hf⟩ := bcell hb; have hz := hb.size; simp at hz; have hz1 : w.heap.size < w1.heap.size := (by omega); have hz2 : w.heap.size + 1 < w1.heap.size := (by omega); have hC := Lib.hid (hB.out.trans (hb.mono (by simp; omega)))) | (go_at_call 38; refine (CF.out _ hC.out).mono ?_; rintro e w2 ⟨rfl, rfl⟩) | (go_at_call 56; refine (CO.out _).mono ?_; rintro e w3 ⟨rfl, rfl⟩))
              go_ret
              exact ⟨by rw [HR.out]; rfl, hC.out⟩
            · have HR : Hid (res = 0) := by unfold Hid; rw [E1.out, if_neg (by decide), if_neg hr, if_neg ht]
              clear E1
              go_enter Tryd.func32, Tryd.ntmps32
              go_wp2_with (first | (go_at_call 18; refine LH.out.mono ?_; rintro e w1 ⟨rfl, hb⟩; obtain ⟨hq, hf⟩ := bcell hb; have hz := hb.size; simp at hz; have hz1 : w.heap.size < w1.heap.size := (by omega); have hz2 : w.heap.size + 1 < w1.heap.size := (by omega); have hC := Lib.hid (hB.out.trans (hb.mono (by simp; omega)))) | (go_at_call 38; refine (CF.out _ hC.out).mono ?_; rintro e w2 ⟨rfl, rfl⟩) | (go_at_call 56; refine (CO.out _).mono ?_; rintro e w3 ⟨rfl, rfl⟩))
              go_ret
              exact ⟨by rw [HR.out]; rfl, hC.out⟩
        · have HR : Hid (res = 2) := by unfold Hid; rw [E1.out, if_pos (by decide)]
          clear E1
          go_enter Tryd.func32, Tryd.ntmps32
          go_wp2_with (first | (go_at_call 18; refine LH.out.mono ?_; rintro e w1 ⟨rfl, hb⟩; obtain ⟨hq, hf⟩ := bcell hb; have hz := hb.size; simp at hz; have hz1 : w.heap.size < w1.heap.size := (by omega); have hz2 : w.heap.size + 1 < w1.heap.size := (by omega); have hC := Lib.hid (hB.out.trans (hb.mono (by simp; omega)))) | (go_at_call 38; refine (CF.out _ hC.out).mono ?_; rintro e w2 ⟨rfl, rfl⟩) | (go_at_call 56; refine (CO.out _).mono ?_; rintro e w3 ⟨rfl, rfl⟩))
          go_ret
          exact ⟨by rw [HR.out]; rfl, hC.out⟩
      · have HR : Hid (res = 2) := by unfold Hid; rw [E1.out, if_pos (by simp)]
        clear E1
        go_enter Tryd.func32, Tryd.ntmps32
        go_wp2_with (first | (go_at_call 18; refine LH.out.mono ?_; rintro e w1 ⟨rfl, hb⟩; obtain ⟨hq, hf⟩ := bcell hb; have hz := hb.size; simp at hz; have hz1 : w.heap.size < w1.heap.size := (by omega); have hz2 : w.heap.size + 1 < w1.heap.size := (by omega); have hC := Lib.hid (hB.out.trans (hb.mono (by simp; omega)))) | (go_at_call 38; refine (CF.out _ hC.out).mono ?_; rintro e w2 ⟨rfl, rfl⟩) | (go_at_call 56; refine (CO.out _).mono ?_; rintro e w3 ⟨rfl, rfl⟩))
        go_ret
        exact ⟨by rw [HR.out]; rfl, hC.out⟩
end Go.Proofs.YtfohknalldelfaaDoor
namespace Go.Proofs.YtfohknalldelfaaDoor
open Go.RowKit Lv Go.Shelf
open Ieee (double Format Datum Toward)
attribute [local go_sem] Oper.semAt_some run_store_float drewN_alloc drewN_setCell

theorem allocS {w W : World} (h : Below w.heap.size w W) (o : Obj) : Below w.heap.size w (W.alloc o) := h.alloc h.size o
theorem setS {w W : World} {b o : Nat} (h : Below w.heap.size w W) (hb : w.heap.size ≤ b) (v : Value) : Below w.heap.size w (W.setCell ⟨b, o, none⟩ v) := h.setCell (p := ⟨b, o, none⟩) hb v
theorem sizeS {w W : World} (h : Below w.heap.size w W) : w.heap.size ≤ W.heap.size := h.size
theorem thenS {w W W' : World} (h : Below w.heap.size w W) (h' : Below W.heap.size W W') : Below w.heap.size w W' := h.trans (h'.mono h.size)
theorem grownS {w W W' : World} {v : Value} {xs : List (Option Nat)} (h : Below w.heap.size w W) (ho : OwnV W w.heap.size v xs) (hg : W.grownBy W' v.ownBlock) : Below w.heap.size w W' := h.grown hg h.size (fun k e => ho.base k e)
theorem ownA {W : World} {B : Nat} {v : Value} {xs : List (Option Nat)} (h : OwnV W B v xs) (o : Obj) : OwnV (W.alloc o) B v xs := h.below ((Below.refl _ _).alloc (Nat.le_refl _) o) (Nat.le_refl _)
theorem rowDr {W : World} {v : Value} {xs : List (Option Nat)} (h : Row W v xs) : Row W.drew v xs := h.below (Below.refl _ _).drew
theorem celD {W : World} {b : Nat} {u0 u1 u2 u3 : Value} (h : Cells4 W b u0 u1 u2 u3) : Cells4 W.drew b u0 u1 u2 u3 := h.below (Below.refl _ _).drew
theorem row_one' {w : World} {y k : Nat} {Y : Option Nat} (hy : FW y Y) (hk : k = w.heap.size) : Row (w.alloc (.cells #[.float .f64 y] 31)) (.slice (some ⟨k, 0, none⟩) 1 1) [Y] := by subst hk; exact row_one w y hy
theorem cel_new' {w : World} {k : Nat} {u0 u1 u2 u3 : Value} {t : TypeId} (hk : k = w.heap.size) : Cells4 (w.alloc (.cells #[u0, u1, u2, u3] t)) k u0 u1 u2 u3 := by subst hk; exact Cells4.new w u0 u1 u2 u3 t
theorem six_keep {w W : World} {b c : Nat} {v0 v1 v2 v3 u0 u1 : Value} (e0 : w.cell? ⟨b, 0, none⟩ = some v0) (e1 : w.cell? ⟨b, 1, none⟩ = some v1) (e2 : w.cell? ⟨b, 2, none⟩ = some v2) (e3 : w.cell? ⟨b, 3, none⟩ = some v3) (e4 : w.cell? ⟨c, 0, none⟩ = some u0) (e5 : w.cell? ⟨c, 1, none⟩ = some u1) (h : Below w.heap.size w W) :
    W.cell? ⟨b, 0, none⟩ = some v0 ∧ W.cell? ⟨b, 1, none⟩ = some v1 ∧ W.cell? ⟨b, 2, none⟩ = some v2 ∧ W.cell? ⟨b, 3, none⟩ = some v3 ∧ W.cell? ⟨c, 0, none⟩ = some u0 ∧ W.cell? ⟨c, 1, none⟩ = some u1 :=
  ⟨(h.cell (p := ⟨b, 0, none⟩) (cell_lt e0)).trans e0, (h.cell (p := ⟨b, 1, none⟩) (cell_lt e1)).trans e1, (h.cell (p := ⟨b, 2, none⟩) (cell_lt e2)).trans e2, (h.cell (p := ⟨b, 3, none⟩) (cell_lt e3)).trans e3, (h.cell (p := ⟨c, 0, none⟩) (cell_lt e4)).trans e4, (h.cell (p := ⟨c, 1, none⟩) (cell_lt e5)).trans e5⟩
theorem hidI {p : Prop} (h : p) : Hid p := h
theorem fact1 {p q : Prop} (h : p) (k : Hid p → q) : q := k h
/-- behind the statement that calls Line -/
def SRowCut (w : World) (b7 b4 : Nat) (F G : FacD) (a : Option Addr) (n cap : Nat) (s8 : Value) (ge : Int) (W : World) : Prop :=
  ∃ ga gn gcp, s8 = .int .i64 ge ∧ Cells4 W b7 (.int .i64 G.cols) (.slice ga gn gcp) (.int .i64 G.rws) (.int .i64 G.trn) ∧ Row W (.slice ga gn gcp) G.xs ∧ Cells4 W b4 (.int .i64 0) (.slice none 0 0) (.int .i64 0) (.int .i64 0) ∧
    Cells4 W w.heap.size (.int .i64 F.cols) (.slice a n cap) (.int .i64 F.rws) (.int .i64 F.trn) ∧ b4 < b7 ∧ Below w.heap.size w W

theorem sRowD_early {F : FacD} {ls : List (Option Nat)} {Y : Option Nat} (h : sEarlyD F ls Y ≠ 0) : sRowD F ls Y = (fac0, sEarlyD F ls Y) := by unfold sRowD; rw [if_pos h]
theorem sRowD_line {F : FacD} {ls : List (Option Nat)} {Y : Option Nat} (h : sEarlyD F ls Y = 0) : sRowD F ls Y = if (shedD F (ls ++ [Y])).2 ≠ 0 then (fac0, (shedD F (ls ++ [Y])).2)
  else (⟨(shedD F (ls ++ [Y])).1.cols, (shedD F (ls ++ [Y])).1.xs, F.rws - 1, F.trn + (F.cols + 1)⟩, 0) := by unfold sRowD; rw [h, if_neg (by decide)]

set_option maxRecDepth 100000 in
/-- what the program refuses -/
theorem srow_no (F : FacD) (a b : Option Addr) (n cap m d y : Nat) (ls : List (Option Nat)) {Y : Option Nat} (w : World) (h : Row w (.slice a n cap) F.xs) (hl : Row w (.slice b m d) ls) (hy : FW y Y) (hno : sEarlyD F ls Y ≠ 0) :
    Calls Tryd.prog 13 #[.agg #[.int .i64 F.cols, .slice a n cap, .int .i64 F.rws, .int .i64 F.trn], .agg #[.slice b m d, .float .f64 y]] w fun e w' => FacE (sRowD F ls Y) e w' ∧ Below w.heap.size w w' := by
  have hB := (((Below.refl w.heap.size w).alloc (Nat.le_refl _) (.cells #[.int .i64 F.cols, .slice a n cap, .int .i64 F.rws, .int .i64 F.trn] 24)).alloc (by simp) (.cells #[.slice b m d, .float .f64 y] 33)).alloc (by simp; omega) (.cells #[.int .i64 0, .slice none 0 0, .int .i64 0, .int .i64 0] 24)
  have L := sEarly_calls F a b n cap m d y ls _ (h.below hB) (hl.below hB) hy
  rw [sRowD_early hno]
  have hne : (sEarlyD F ls Y != 0) = true := by simpa using hno
  have LH := Lib.hid L
  have HB := Lib.hid hB
  clear L
  generalize sEarlyD F ls Y = x at *
  obtain ⟨cols, xs, rws, trn⟩ := F
  dsimp only at *
  clear h hl hy hno hB
  have hB := HB
  clear HB
  go_enter Tryd.func13, Tryd.ntmps13
  go_wp2_with (first | (go_at_call 32; refine LH.out.mono ?_; rintro e w1 ⟨rfl, hb⟩; obtain ⟨hq, hf⟩ := bcell hb; have hz := hb.size; simp at hz; have hz1 : w.heap.size < w1.heap.size := (by omega); have hz2 : w.heap.size + 1 < w1.heap.size := (by omega); have hz3 : w.heap.size + 1 + 1 < w1.heap.size := (by omega); have hC := Lib.hid (hB.out.trans (hb.mono (by simp; omega)))))
  exact bodyPost_ret (v := .tuple #[facZ, .int .i64 x]) (by simp [results, Tryd.results13, go_sem, hq, facZ]) rfl ⟨facE_no _ rfl, below_put4 hC.out (by omega) _ _ _ _⟩

set_option maxRecDepth 100000 in
set_option maxHeartbeats 4000000 in
theorem srow_yes (F : FacD) (a b : Option Addr) (n cap m d y : Nat) (ls : List (Option Nat)) {Y : Option Nat} (w : World) (a0 a1 a2 : Addr) (LD : Laid w a0 a1 a2) (h : Row w (.slice a n cap) F.xs) (hl : Row w (.slice b m d) ls) (hy : FW y Y) (he : sEarlyD F ls Y = 0) :
    Calls Tryd.prog 13 #[.agg #[.int .i64 F.cols, .slice a n cap, .int .i64 F.rws, .int .i64 F.trn], .agg #[.slice b m d, .float .f64 y]] w fun e w' => FacE (sRowD F ls Y) e w' ∧ Below w.heap.size w w' := by
  obtain ⟨he1, hr0, ht⟩ := sEarly_zero he
  obtain ⟨hok, hmc0, ho1, ho2⟩ := early_zero he1
  rw [sRowD_line he]
  have hB := (((Below.refl w.heap.size w).alloc (Nat.le_refl _) (.cells #[.int .i64 F.cols, .slice a n cap, .int .i64 F.rws, .int .i64 F.trn] 24)).alloc (by simp) (.cells #[.slice b m d, .float .f64 y] 33)).alloc (by simp; omega) (.cells #[.int .i64 0, .slice none 0 0, .int .i64 0, .int .i64 0] 24)
  have L := sEarly_calls F a b n cap m d y ls _ (h.below hB) (hl.below hB) hy
  have hm := hl.len
  rw [he] at L
  have LH := Lib.hid L
  obtain ⟨hc1, hc6⟩ := ok_cols hok
  have hmc : (m : Int) = F.cols := by rw [← hm]; exact hmc0
  obtain ⟨r0, r1, t0, t1⟩ := ok_rows hok
  have HB := Lib.hid hB
  have h0 : 0 < m := by omega
  have h9 : m ≤ 900 := by omega
  have HL := Lib.hid hl
  have HR := Lib.hid h
  have HY := Lib.hid hy
  have HM := Lib.hid hm
  have HLD := Lib.hid LD
  have hlk : (shedD F (ls ++ [Y])).2 = 0 → (shedD F (ls ++ [Y])).1.rws = F.rws ∧ (shedD F (ls ++ [Y])).1.trn = F.trn := fun hh => ⟨(shedD_keeps hh).2.2.1, (shedD_keeps hh).2.2.2.1⟩
  have LK := Lib.hid hlk
  have hcd := shedD_codes F (ls ++ [Y])
  have AL := Lib.hid (fun a b n cap m d w a0 a1 a2 => sLine_calls F a b n cap m d (ls ++ [Y]) w a0 a1 a2)
  obtain ⟨lb, lo, rfl, hlb, _⟩ := hl.shape h0
  generalize shedD F (ls ++ [Y]) = G at *
  obtain ⟨cols, xs, rws, trn⟩ := F
  obtain ⟨⟨gc, gx, gr, gt⟩, ge⟩ := G
  dsimp only at *
  clear he he1 hok hmc0 ho1 ho2 hB L hm hmc h hl hy hlk LD
  have hB := HB
  clear HB
  go_enter Tryd.func13, Tryd.ntmps13
  go_wp2_with (first | (go_at_call 32; refine LH.out.mono ?_; rintro e w1 ⟨rfl, hb⟩; obtain ⟨hq, hf⟩ := bcell hb; have hz := hb.size; simp at hz; have hz1 : w.heap.size < w1.heap.size := (by omega); have hz2 : w.heap.size + 1 < w1.heap.size := (by omega); have hz3 : w.heap.size + 1 + 1 < w1.heap.size := (by omega); have hC := Lib.hid (hB.out.trans (hb.mono (by simp; omega)))))
  have C2 : Cells4 w1 w.heap.size (.int .i64 cols) (.slice a n cap) (.int .i64 rws) (.int .i64 trn) := (((Cells4.new w (.int .i64 cols) (.slice a n cap) (.int .i64 rws) (.int .i64 trn) 24).alloc (.cells #[.slice (some ⟨lb, lo, none⟩) m d, .float .f64 y] 33)).alloc (.cells #[.int .i64 0, .slice none 0 0, .int .i64 0, .int .i64 0] 24)).below hb
  have HC2 := Lib.hid C2
  obtain ⟨e20, e21, e22, e23, f20, f21, f22, f23⟩ := C2
  have e30 : w1.cell? ⟨w.heap.size + 1, 0, none⟩ = some (.slice (some ⟨lb, lo, none⟩) m d) := (hq _ _ (by simp)).trans (by simp [go_sem])
  have e31 : w1.cell? ⟨w.heap.size + 1, 1, none⟩ = some (.float .f64 y) := (hq _ _ (by simp)).trans (by simp [go_sem])
  have C4 : Cells4 w1 (w.heap.size + 1 + 1) (.int .i64 0) (.slice none 0 0) (.int .i64 0) (.int .i64 0) := by
    have := (Cells4.new ((w.alloc (.cells #[.int .i64 cols, .slice a n cap, .int .i64 rws, .int .i64 trn] 24)).alloc (.cells #[.slice (some ⟨lb, lo, none⟩) m d, .float .f64 y] 33)) (.int .i64 0) (.slice none 0 0) (.int .i64 0) (.int .i64 0) 24).below hb
    simpa using this
  have HC4 := Lib.hid C4
  have HR1 := Lib.hid (HR.out.below hC.out)
  have HL1 := Lib.hid (HL.out.below hC.out)
  have LD1 := Lib.hid (HLD.out.below hC.out)
  clear hq hf hb C4 f20 f21 f22 f23
  go_cut [7, 8] from 16 to 27 (fun s7 s8 wx => ∃ b7 : Nat, s7 = .pointer (some ⟨b7, 0, none⟩) ∧ SRowCut w b7 (w.heap.size + 1 + 1) ⟨cols, xs, rws, trn⟩ ⟨gc, gx, gr, gt⟩ a n cap s8 ge wx)
  case first =>
    -- A8
    rename_i J K' hJ hK'
    go_region_held3 (fun w' => w'.cell? ⟨w.heap.size, 0, none⟩ = some (.int .i64 cols) ∧ w'.cell? ⟨w.heap.size, 1, none⟩ = some (.slice a n cap) ∧ w'.cell? ⟨w.heap.size, 2, none⟩ = some (.int .i64 rws) ∧ w'.cell? ⟨w.heap.size, 3, none⟩ = some (.int .i64 trn) ∧ w'.cell? ⟨w.heap.size + 1, 0, none⟩ = some (.slice (some ⟨lb, lo, none⟩) m d) ∧ w'.cell? ⟨w.heap.size + 1, 1, none⟩ = some (.float .f64 y))
      (first
        | with_reducible exact six_keep e20 e21 e22 e23 e30 e31 (by solve | (repeat' (first | ((with_reducible refine Hid.out ?_); with_reducible assumption) | with_reducible exact Below.refl _ _ | with_reducible refine Below.drew ?_ | with_reducible refine allocS ?_ _ | with_reducible refine setS ?_ ?_ _ | with_reducible exact Nat.le_refl _ | omega | with_reducible refine sizeS ?_)))
        | go_keep)
      (first
        | (go_at_call 33; go_must (refine (clone_calls _ m d ls _ (HL1.out.below (by solve | (repeat' (first | ((with_reducible refine Hid.out ?_); with_reducible assumption) | with_reducible exact Below.refl _ _ | with_reducible refine Below.drew ?_ | with_reducible refine allocS ?_ _ | with_reducible refine setS ?_ ?_ _ | with_reducible exact Nat.le_refl _ | omega | with_reducible refine sizeS ?_)))) (by rw [HM.out]; exact h9)).mono ?_; rintro e wC ⟨vC, rfl, hownC, hbC⟩; obtain ⟨gC, cC, rfl, k1, k2, k3, k4⟩ := hownC.shape (by rw [HM.out]; exact h0); rw [HM.out] at hownC; have BC : Hid (Below w1.heap.size w1 wC) := hidI (thenS (by solve | (repeat' (first | ((with_reducible refine Hid.out ?_); with_reducible assumption) | with_reducible exact Below.refl _ _ | with_reducible refine Below.drew ?_ | with_reducible refine allocS ?_ _ | with_reducible refine setS ?_ ?_ _ | with_reducible exact Nat.le_refl _ | omega | with_reducible refine sizeS ?_))) hbC); have HO : Hid (OwnV wC w1.heap.size (.slice (some ⟨gC, 0, none⟩) m cC) ls) := hidI (hownC.mono (by simp <;> omega)); simp at k1; have kS := BC.out.size; (first | (refine fact1 (p := Row wC (.slice (some ⟨w1.heap.size, 0, none⟩) 1 1) [Y]) (Row.below ?_ hbC) ?_; (focus (solve | (repeat' (first | ((with_reducible refine Hid.out ?_); with_reducible assumption) | ((with_reducible refine row_one' HY.out ?_); (first | rfl | (simp; done) | (simp; omega))) | with_reducible refine rowDr ?_ | with_reducible refine Row.alloc ?_ _)))); intro RY) | (refine fact1 (p := Row wC (.slice (some ⟨w1.heap.size + 1, 0, none⟩) 1 1) [Y]) (Row.below ?_ hbC) ?_; (focus (solve | (repeat' (first | ((with_reducible refine Hid.out ?_); with_reducible assumption) | ((with_reducible refine row_one' HY.out ?_); (first | rfl | (simp; done) | (simp; omega))) | with_reducible refine rowDr ?_ | with_reducible refine Row.alloc ?_ _)))); intro RY) | skip); (first | (refine fact1 (p := Cells4 wC w1.heap.size (.int .i64 0) (.slice none 0 0) (.int .i64 0) (.int .i64 0)) (Cells4.below ?_ hbC) ?_; (focus (solve | (repeat' (first | ((with_reducible refine Hid.out ?_); with_reducible assumption) | ((with_reducible refine cel_new' ?_); (first | rfl | (simp; done) | (simp; omega))) | with_reducible refine celD ?_ | with_reducible refine Cells4.alloc ?_ _)))); intro ZC) | (refine fact1 (p := Cells4 wC (w1.heap.size + 1) (.int .i64 0) (.slice none 0 0) (.int .i64 0) (.int .i64 0)) (Cells4.below ?_ hbC) ?_; (focus (solve | (repeat' (first | ((with_reducible refine Hid.out ?_); with_reducible assumption) | ((with_reducible refine cel_new' ?_); (first | rfl | (simp; done) | (simp; omega))) | with_reducible refine celD ?_ | with_reducible refine Cells4.alloc ?_ _)))); intro ZC) | skip); clear hownC hbC))
        | (refine step_append_F rfl (.tmp 20) (.tmp 23) rfl w1.heap.size (.slice (some ⟨gC, 0, none⟩) m cC) ls [Y] rfl (by solve | (repeat' (first | ((with_reducible refine Hid.out ?_); with_reducible assumption) | with_reducible refine ownA ?_ _ | omega | (simp; omega)))) _ 1 1 rfl (by solve | (repeat' (first | ((with_reducible refine Hid.out ?_); with_reducible assumption) | ((with_reducible refine row_one' HY.out ?_); (first | rfl | (simp; done) | (simp; omega))) | with_reducible refine rowDr ?_ | with_reducible refine Row.alloc ?_ _))) (by rw [HM.out]; simp; omega) rfl (by solve | (repeat' (first | ((with_reducible refine Hid.out ?_); with_reducible assumption) | with_reducible exact Below.refl _ _ | with_reducible refine Below.drew ?_ | with_reducible refine allocS ?_ _ | with_reducible refine setS ?_ ?_ _ | with_reducible exact Nat.le_refl _ | omega | with_reducible refine sizeS ?_))) ?_; go_must (intro vA wA hownA hgA; have BA : Hid (Below w1.heap.size w1 wA) := hidI (grownS (xs := ls) (by solve | (repeat' (first | ((with_reducible refine Hid.out ?_); with_reducible assumption) | with_reducible exact Below.refl _ _ | with_reducible refine Below.drew ?_ | with_reducible refine allocS ?_ _ | with_reducible refine setS ?_ ?_ _ | with_reducible exact Nat.le_refl _ | omega | with_reducible refine sizeS ?_))) (by solve | (repeat' (first | ((with_reducible refine Hid.out ?_); with_reducible assumption) | with_reducible refine ownA ?_ _ | omega | (simp; omega)))) hgA); obtain ⟨oa, on, oc, hvA⟩ := hownA.row.form; subst hvA; have RA := Lib.hid hownA.row; have kA := BA.out.size; (first | (refine fact1 (p := Cells4 wA w1.heap.size (.int .i64 0) (.slice none 0 0) (.int .i64 0) (.int .i64 0)) (Cells4.grown ?_ hgA (ne_blk ?_)) ?_; (focus (solve | (repeat' (first | ((with_reducible refine Hid.out ?_); with_reducible assumption) | ((with_reducible refine cel_new' ?_); (first | rfl | (simp; done) | (simp; omega))) | with_reducible refine celD ?_ | with_reducible refine Cells4.alloc ?_ _)))); (focus omega); intro ZA) | (refine fact1 (p := Cells4 wA (w1.heap.size + 1) (.int .i64 0) (.slice none 0 0) (.int .i64 0) (.int .i64 0)) (Cells4.grown ?_ hgA (ne_blk ?_)) ?_; (focus (solve | (repeat' (first | ((with_reducible refine Hid.out ?_); with_reducible assumption) | ((with_reducible refine cel_new' ?_); (first | rfl | (simp; done) | (simp; omega))) | with_reducible refine celD ?_ | with_reducible refine Cells4.alloc ?_ _)))); (focus omega); intro ZA) | (refine fact1 (p := Cells4 wA wC.heap.size (.int .i64 0) (.slice none 0 0) (.int .i64 0) (.int .i64 0)) (Cells4.grown ?_ hgA (ne_blk ?_)) ?_; (focus (solve | (repeat' (first | ((with_reducible refine Hid.out ?_); with_reducible assumption) | ((with_reducible refine cel_new' ?_); (first | rfl | (simp; done) | (simp; omega))) | with_reducible refine celD ?_ | with_reducible refine Cells4.alloc ?_ _)))); (focus omega); intro ZA) | (refine fact1 (p := Cells4 wA (wC.heap.size + 1) (.int .i64 0) (.slice none 0 0) (.int .i64 0) (.int .i64 0)) (Cells4.grown ?_ hgA (ne_blk ?_)) ?_; (focus (solve | (repeat' (first | ((with_reducible refine Hid.out ?_); with_reducible assumption) | ((with_reducible refine cel_new' ?_); (first | rfl | (simp; done) | (simp; omega))) | with_reducible refine celD ?_ | with_reducible refine Cells4.alloc ?_ _)))); (focus omega); intro ZA) | skip); clear hownA hgA))
        | (go_at_call 10; go_must (refine (AL.out _ _ _ _ _ _ _ a0 a1 a2 (LD1.out.below (by solve | (repeat' (first | ((with_reducible refine Hid.out ?_); with_reducible assumption) | with_reducible exact Below.refl _ _ | with_reducible refine Below.drew ?_ | with_reducible refine allocS ?_ _ | with_reducible refine setS ?_ ?_ _ | with_reducible exact Nat.le_refl _ | omega | with_reducible refine sizeS ?_)))) (HR1.out.below (by solve | (repeat' (first | ((with_reducible refine Hid.out ?_); with_reducible assumption) | with_reducible exact Below.refl _ _ | with_reducible refine Below.drew ?_ | with_reducible refine allocS ?_ _ | with_reducible refine setS ?_ ?_ _ | with_reducible exact Nat.le_refl _ | omega | with_reducible refine sizeS ?_)))) (by solve | (repeat' (first | ((with_reducible refine Hid.out ?_); with_reducible assumption) | ((with_reducible refine row_one' HY.out ?_); (first | rfl | (simp; done) | (simp; omega))) | with_reducible refine rowDr ?_ | with_reducible refine Row.alloc ?_ _)))).mono ?_; rintro e wL ⟨⟨ga, gn, gcp, rfl, hrowL⟩, hbL⟩; have BL : Hid (Below w1.heap.size w1 wL) := hidI (thenS (by solve | (repeat' (first | ((with_reducible refine Hid.out ?_); with_reducible assumption) | with_reducible exact Below.refl _ _ | with_reducible refine Below.drew ?_ | with_reducible refine allocS ?_ _ | with_reducible refine setS ?_ ?_ _ | with_reducible exact Nat.le_refl _ | omega | with_reducible refine sizeS ?_))) hbL); have RL := Lib.hid hrowL; have kL := BL.out.size; (first | (refine fact1 (p := Cells4 wL w1.heap.size (.int .i64 0) (.slice none 0 0) (.int .i64 0) (.int .i64 0)) (Cells4.below ?_ hbL) ?_; (focus (solve | (repeat' (first | ((with_reducible refine Hid.out ?_); with_reducible assumption) | ((with_reducible refine cel_new' ?_); (first | rfl | (simp; done) | (simp; omega))) | with_reducible refine celD ?_ | with_reducible refine Cells4.alloc ?_ _)))); intro ZL; obtain ⟨y0, y1, y2, y3, yf0, yf1, yf2, yf3⟩ := ZL.out) | (refine fact1 (p := Cells4 wL (w1.heap.size + 1) (.int .i64 0) (.slice none 0 0) (.int .i64 0) (.int .i64 0)) (Cells4.below ?_ hbL) ?_; (focus (solve | (repeat' (first | ((with_reducible refine Hid.out ?_); with_reducible assumption) | ((with_reducible refine cel_new' ?_); (first | rfl | (simp; done) | (simp; omega))) | with_reducible refine celD ?_ | with_reducible refine Cells4.alloc ?_ _)))); intro ZL; obtain ⟨y0, y1, y2, y3, yf0, yf1, yf2, yf3⟩ := ZL.out) | (refine fact1 (p := Cells4 wL wC.heap.size (.int .i64 0) (.slice none 0 0) (.int .i64 0) (.int .i64 0)) (Cells4.below ?_ hbL) ?_; (focus (solve | (repeat' (first | ((with_reducible refine Hid.out ?_); with_reducible assumption) | ((with_reducible refine cel_new' ?_); (first | rfl | (simp; done) | (simp; omega))) | with_reducible refine celD ?_ | with_reducible refine Cells4.alloc ?_ _)))); intro ZL; obtain ⟨y0, y1, y2, y3, yf0, yf1, yf2, yf3⟩ := ZL.out) | (refine fact1 (p := Cells4 wL (wC.heap.size + 1) (.int .i64 0) (.slice none 0 0) (.int .i64 0) (.int .i64 0)) (Cells4.below ?_ hbL) ?_; (focus (solve | (repeat' (first | ((with_reducible refine Hid.out ?_); with_reducible assumption) | ((with_reducible refine cel_new' ?_); (first | rfl | (simp; done) | (simp; omega))) | with_reducible refine celD ?_ | with_reducible refine Cells4.alloc ?_ _)))); intro ZL; obtain ⟨y0, y1, y2, y3, yf0, yf1, yf2, yf3⟩ := ZL.out) | (refine fact1 (p := Cells4 wL wA.heap.size (.int .i64 0) (.slice none 0 0) (.int .i64 0) (.int .i64 0)) (Cells4.below ?_ hbL) ?_; (focus (solve | (repeat' (first | ((with_reducible refine Hid.out ?_); with_reducible assumption) | ((with_reducible refine cel_new' ?_); (first | rfl | (simp; done) | (simp; omega))) | with_reducible refine celD ?_ | with_reducible refine Cells4.alloc ?_ _)))); intro ZL; obtain ⟨y0, y1, y2, y3, yf0, yf1, yf2, yf3⟩ := ZL.out) | skip); clear hrowL hbL)))
    all_goals
      refine hK' _ _ (Met.intro (hJ _ _ ?_))
      (repeat apply Exists.intro)
      refine ⟨?_, rfl⟩
      have D4 := HC4.out.below BL.out
      have D2 := HC2.out.below BL.out
      have hBL := hC.out.trans (BL.out.mono (Nat.le_of_lt hz1))
      (first
        | (refine ⟨wL.heap.size, rfl, ?_⟩; unfold SRowCut; with_reducible exact ⟨ga, gn, gcp, rfl, Cells4.new wL _ _ _ _ _, RL.out.alloc _, D4.alloc _, D2.alloc _, by omega, hBL.alloc (by omega) _⟩)
        | (refine ⟨_, rfl, ?_⟩; unfold SRowCut; with_reducible exact ⟨ga, gn, gcp, rfl, ZL.out.put _ _ _ _, RL.out.put4 ZL.out slice_ne _ _ _ _, D4.put_other (by omega) _ _ _ _, D2.put_other (by omega) _ _ _ _, by omega, below_put4 hBL (by omega) _ _ _ _⟩))
    -- B8
  case rest =>
    obtain ⟨b7, rfl, ga, gn, gcp, rfl, D7, RL, D4, D2, hb47, BL⟩ := hcut
    have HD7 := Lib.hid D7
    have HD4 := Lib.hid D4
    have HD2 := Lib.hid D2
    have HRL := Lib.hid RL
    obtain ⟨k0, k1, k2, k3, l0, l1, l2, l3⟩ := D7
    obtain ⟨m0, m1, m2, m3, n0, n1, n2, n3⟩ := D4
    obtain ⟨i0, i1, i2, i3, j0, j1, j2, j3⟩ := D2
    clear RL e20 e21 e22 e23 e30 e31
    dsimp only at *
    by_cases hge : ge = 0
    · subst hge
      obtain ⟨rfl, rfl⟩ := LK.out rfl
      have a0 := cell_set_eq (v := .int .i64 (gr - 1)) k2
      have a1 := cell_set_off (o := 2) (v := .int .i64 (gr - 1)) k3 (by decide)
      have a2 := cell_set_off (o := 2) (v := .int .i64 (gr - 1)) k0 (by decide)
      have a3 := cell_set_off (o := 2) (v := .int .i64 (gr - 1)) k1 (by decide)
      have hb7 : b7 ≠ w.heap.size := by omega
      have hb7l : w.heap.size ≤ b7 := by omega
      have q0 := cell_set_ne (b := b7) (o := 2) (v := .int .i64 (gr - 1)) i0 hb7
      have q3 := cell_set_ne (b := b7) (o := 2) (v := .int .i64 (gr - 1)) i3 hb7
      go_wp2
      have E2 : Cells4 ((wc.setCell ⟨b7, 2, none⟩ (.int .i64 (gr - 1))).setCell ⟨b7, 3, none⟩ (.int .i64 (gt + (cols + 1)))) b7 (.int .i64 gc) (.slice ga gn gcp) (.int .i64 (gr - 1)) (.int .i64 (gt + (cols + 1))) :=
        ⟨cell_set_off a2 (by decide), cell_set_off a3 (by decide), cell_set_off a0 (by decide), cell_set_eq a1, frozen_set (frozen_set l0), frozen_set (frozen_set l1), frozen_set (frozen_set l2), frozen_set (frozen_set l3)⟩
      have E4 := (HD4.out.set (b' := b7) (o := 2) (v := .int .i64 (gr - 1)) (by omega)).set (b' := b7) (o := 3) (v := .int .i64 (gt + (cols + 1))) (by omega)
      have RE : Row ((wc.setCell ⟨b7, 2, none⟩ (.int .i64 (gr - 1))).setCell ⟨b7, 3, none⟩ (.int .i64 (gt + (cols + 1)))) (.slice ga gn gcp) gx :=
        (HRL.out.setAt HD7.out.c2 (fun _ e => by cases e) _).setAt a1 (fun _ e => by cases e) _
      have P4 := E4.put (.int .i64 gc) (.slice ga gn gcp) (.int .i64 (gr - 1)) (.int .i64 (gt + (cols + 1)))
      refine bodyPost_ret (v := .tuple #[.agg #[.int .i64 gc, .slice ga gn gcp, .int .i64 (gr - 1), .int .i64 (gt + (cols + 1))], .int .i64 0]) (by simp [results, Tryd.results13, go_sem, P4.c0, P4.c1, P4.c2, P4.c3]) rfl ⟨⟨ga, gn, gcp, rfl, RE.put4 E4 (fun _ e => by cases e) _ _ _ _⟩, ?_⟩
      exact below_put4 ((BL.setCell (p := ⟨b7, 2, none⟩) hb7l _).setCell (p := ⟨b7, 3, none⟩) hb7l _) (by omega) _ _ _ _
    · have hgb : (ge != 0) = true := by simpa using hge
      have HGE := Lib.hid hge
      clear hge
      go_wp2
      exact bodyPost_ret (v := .tuple #[facZ, .int .i64 ge]) (by simp [results, Tryd.results13, go_sem, facZ, (HD4.out.put (.int .i64 0) (.slice none 0 0) (.int .i64 0) (.int .i64 0)).c0, (HD4.out.put (.int .i64 0) (.slice none 0 0) (.int .i64 0) (.int .i64 0)).c1, (HD4.out.put (.int .i64 0) (.slice none 0 0) (.int .i64 0) (.int .i64 0)).c2, (HD4.out.put (.int .i64 0) (.slice none 0 0) (.int .i64 0) (.int .i64 0)).c3]) rfl ⟨facE_no _ rfl, below_put4 BL (by omega) _ _ _ _⟩
theorem srow_calls (F : FacD) (a b : Option Addr) (n cap m d y : Nat) (ls : List (Option Nat)) {Y : Option Nat} (w : World) (a0 a1 a2 : Addr) (LD : Laid w a0 a1 a2) (h : Row w (.slice a n cap) F.xs) (hl : Row w (.slice b m d) ls) (hy : FW y Y) :
    Calls Tryd.prog 13 #[.agg #[.int .i64 F.cols, .slice a n cap, .int .i64 F.rws, .int .i64 F.trn], .agg #[.slice b m d, .float .f64 y]] w fun e w' => FacE (sRowD F ls Y) e w' ∧ Below w.heap.size w w' := by
  by_cases he : sEarlyD F ls Y = 0
  · exact srow_yes F a b n cap m d y ls w a0 a1 a2 LD h hl hy he
  · exact srow_no F a b n cap m d y ls w h hl hy he
end Go.Proofs.YtfohknalldelfaaDoor
