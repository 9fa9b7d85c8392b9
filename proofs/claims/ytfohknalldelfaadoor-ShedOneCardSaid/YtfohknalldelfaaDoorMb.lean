/- The reference's Get and Line of layer 7, of a factor that may be. Two factors merged, plainly; the size of a triangle, of any number of columns; what a merge costs. -/
import Derived.Test.YtfohknalldelfaaDoorSd
import Derived.Test.YtfohknalldelfaaDoorRe
import Derived.LoopTactic
import Derived.Test.YtfohknalldelfaaDoorSi
namespace Go.Proofs.YtfohknalldelfaaDoor
open Go.RowKit Lv Go.Shelf
open Ieee (double Format Datum Toward)
attribute [local go_sem] Oper.semAt_some run_store_float drewN_alloc drewN_setCell

theorem own_base {w : World} {B : Nat} {v : Value} {xs : List (Option Nat)} (h : OwnV w B v xs) (k : Nat) (e : v.ownBlock = some k) : B ≤ k := by
  obtain ⟨vs, hown, hv⟩ := h
  rcases hown.2 with ⟨rfl, h0⟩ | ⟨g, cap, cur, rfl, h2, _⟩
  · simp [Value.ownBlock] at e
  · simp [Value.ownBlock] at e
    omega
theorem rat_out (c i j : Nat) (w : World) (h1 : 1 ≤ c) (h6 : c ≤ 6) (hij : j < i) :
    Calls Tryd.prog 28 #[.int .i64 (c : Int), .int .i64 (i : Int), .int .i64 (j : Int)] w fun e w' => e = .returned (.tuple #[.int .i64 0, .bool false]) ∧ w = w' := by
  have S := Lib.hid (fun w => rsize_in c w h1 h6)
  have hb := tsz_bounds h1 h6
  have hz : ((tsz c : Int) == 0) = false := by simp; omega
  have a1 : (j : Int) < (i : Int) := by omega
  clear hb
  go_enter Tryd.func28, Tryd.ntmps28
  go_wp2_with (go_at_call 49; refine (S.out _).mono ?_; rintro e w' ⟨rfl, rfl⟩)
  go_ret2
  exact ⟨rfl, rfl⟩

end Go.Proofs.YtfohknalldelfaaDoor
namespace Go.Proofs.YtfohknalldelfaaDoor
open Go.RowKit Lv Go.Shelf
open Ieee (double Format Datum Toward)

/-- a triangle's size, of any number of columns -/
def sizeI (c : Int) : Int := if 1 ≤ c ∧ c ≤ 6 then (tsz c.toNat : Int) else 0
theorem sizeI_in {c : Int} (h1 : 1 ≤ c) (h6 : c ≤ 6) : 3 ≤ sizeI c ∧ sizeI c ≤ 28 := by
  have := tsz_bounds (c := c.toNat) (by omega) (by omega)
  unfold sizeI
  rw [if_pos ⟨h1, h6⟩]
  omega
theorem sizeI_calls (c : Int) (w : World) : Calls Tryd.prog 35 #[.int .i64 c] w fun e w' => e = .returned (.int .i64 (sizeI c)) ∧ w = w' := by
  unfold sizeI
  by_cases h : 1 ≤ c ∧ c ≤ 6
  · rw [if_pos h]
    obtain ⟨n, rfl⟩ := Int.eq_ofNat_of_zero_le (show 0 ≤ c by omega)
    exact size_in n w (by omega) (by omega)
  · rw [if_neg h]
    exact size_out c w h
theorem rsizeI_calls (c : Int) (w : World) : Calls Tryd.prog 49 #[.int .i64 c] w fun e w' => e = .returned (.int .i64 (sizeI c)) ∧ w = w' := by
  unfold sizeI
  by_cases h : 1 ≤ c ∧ c ≤ 6
  · rw [if_pos h]
    obtain ⟨n, rfl⟩ := Int.eq_ofNat_of_zero_le (show 0 ≤ c by omega)
    exact rsize_in n w (by omega) (by omega)
  · rw [if_neg h]
    exact rsize_out c w h
/-- n rows of bx rotated into a factor, from i on -/
def twoLoop (c : Nat) (bx : List (Option Nat)) : Nat → Nat → FacD → FacD × Bool
  | 0, _, G => (G, true)
  | n + 1, i, G => if (lineD G (lineP bx c i) i).2 = false then (fac0, false) else twoLoop c bx n (i + 1) (lineD G (lineP bx c i) i).1
/-- what is wrong ahead of merging -/
def twoEarly (A B : FacD) : Int :=
  if A.ok = false ∨ B.ok = false then 1 else if A.cols ≠ B.cols then 3 else if 200 < A.rws + B.rws ∨ 4096 < max A.trn B.trn + sizeI A.cols then 6 else 0
def twoD (A B : FacD) : FacD × Int :=
  if twoEarly A B ≠ 0 then (fac0, twoEarly A B)
  else if (twoLoop A.cols.toNat B.xs (A.cols.toNat + 1) 0 A).2 = false then (fac0, 2)
  else (⟨A.cols, (twoLoop A.cols.toNat B.xs (A.cols.toNat + 1) 0 A).1.xs, A.rws + B.rws, max A.trn B.trn + sizeI A.cols⟩, 0)

theorem two_step {c i n : Nat} {bx gx : List (Option Nat)} {rws trn : Int} {R : FacD × Bool} (h : twoLoop c bx (n + 1) i ⟨c, gx, rws, trn⟩ = R) :
    ((lineD ⟨c, gx, rws, trn⟩ (lineP bx c i) i).2 = false ∧ R = (fac0, false)) ∨ (∃ gy, lineD ⟨c, gx, rws, trn⟩ (lineP bx c i) i = (⟨c, gy, rws, trn⟩, true) ∧ twoLoop c bx n (i + 1) ⟨c, gy, rws, trn⟩ = R) := by
  unfold twoLoop at h
  cases h2 : (lineD ⟨c, gx, rws, trn⟩ (lineP bx c i) i).2 with
  | false => rw [if_pos h2] at h; exact .inl ⟨rfl, h.symm⟩
  | true =>
    rw [if_neg (by rw [h2]; decide)] at h
    obtain ⟨_, e1, e2, e3, _⟩ := lineD_ok h2
    dsimp only at e1 e2 e3
    generalize lineD ⟨c, gx, rws, trn⟩ (lineP bx c i) i = G at *
    obtain ⟨⟨a1, a2, a3, a4⟩, a5⟩ := G
    dsimp only at *
    subst e1 e2 e3 h2
    exact .inr ⟨a2, rfl, h⟩
theorem twoD_early {A B : FacD} {x : Int} (h : twoEarly A B = x) (hx : x ≠ 0) : twoD A B = (fac0, x) := by unfold twoD; rw [h, if_pos hx]
theorem twoD_loop {A B : FacD} (h : twoEarly A B = 0) {R : FacD × Bool} (hR : twoLoop A.cols.toNat B.xs (A.cols.toNat + 1) 0 A = R) :
    twoD A B = if R.2 = false then (fac0, 2) else (⟨A.cols, R.1.xs, A.rws + B.rws, max A.trn B.trn + sizeI A.cols⟩, 0) := by
  unfold twoD
  rw [h, if_neg (by decide), hR]
theorem two_zero {A B : FacD} (h : twoEarly A B = 0) : A.ok = true ∧ B.ok = true ∧ A.cols = B.cols ∧ A.rws + B.rws ≤ 200 ∧ max A.trn B.trn + sizeI A.cols ≤ 4096 := by
  unfold twoEarly at h
  by_cases h1 : A.ok = false ∨ B.ok = false
  · rw [if_pos h1] at h; cases h
  · rw [if_neg h1] at h
    by_cases h2 : A.cols ≠ B.cols
    · rw [if_pos h2] at h; cases h
    · rw [if_neg h2] at h
      by_cases h3 : 200 < A.rws + B.rws ∨ 4096 < max A.trn B.trn + sizeI A.cols
      · rw [if_pos h3] at h; cases h
      · refine ⟨?_, ?_, by omega, by omega, by omega⟩
        · cases hh : A.ok with
          | true => rfl
          | false => exact absurd (.inl hh) h1
        · cases hh : B.ok with
          | true => rfl
          | false => exact absurd (.inr hh) h1
end Go.Proofs.YtfohknalldelfaaDoor
