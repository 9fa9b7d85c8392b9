/- The reference's Get and Line of layer 7, of a factor that may be. Two factors merged, plainly; the size of a triangle, of any number of columns; what a merge costs. -/
import Derived.Test.YtfohknalldelfaaSd
import Derived.Test.YtfohknalldelfaaRe
import Derived.LoopTactic
import Derived.Test.YtfohknalldelfaaSi
namespace Go.Proofs.Ytfohknalldelfaa
open Go.RowKit Lv Go.Shelf
open Ieee (double Format Datum Toward)
attribute [local go_sem] Oper.semAt_some run_store_float drewN_alloc drewN_setCell

theorem own_base {w : World} {B : Nat} {v : Value} {xs : List (Option Nat)} (h : OwnV w B v xs) (k : Nat) (e : v.ownBlock = some k) : B ≤ k := by
  obtain ⟨vs, hown, hv⟩ := h
  rcases hown.2 with ⟨rfl, h0⟩ | ⟨g, cap, cur, rfl, h2, _⟩
  · simp [Value.ownBlock] at e
  · simp [Value.ownBlock] at e
    omega
theorem rat_out (c i j : Nat) (w : World) (h1 : 1 ≤ c) (h6 : c ≤ 6) (hij : j < i) :
    Calls Try.prog 35 #[.int .i64 (c : Int), .int .i64 (i : Int), .int .i64 (j : Int)] w fun e w' => e = .returned (.tuple #[.int .i64 0, .bool false]) ∧ w = w' := by
  have S := Lib.hid (fun w => rsize_in c w h1 h6)
  have hb := tsz_bounds h1 h6
  have hz : ((tsz c : Int) == 0) = false := by simp; omega
  have a1 : (j : Int) < (i : Int) := by omega
  clear hb
  go_enter Try.func35, Try.ntmps35
  go_wp2_with (go_at_call 31; refine (S.out _).mono ?_; rintro e w' ⟨rfl, rfl⟩)
  go_ret2
  exact ⟨rfl, rfl⟩

set_option maxRecDepth 100000 in
theorem rget_calls (c i j : Nat) (rws trn : Int) (a : Option Addr) (n cap : Nat) (xs : List (Option Nat)) (w : World) (h : Row w (.slice a n cap) xs) (hok : checkP (c : Int) xs rws trn = true) (hi : i ≤ c) (hj : j ≤ c) :
    Calls Try.prog 24 #[.agg #[.int .i64 (c : Int), .slice a n cap, .int .i64 rws, .int .i64 trn], .int .i64 (i : Int), .int .i64 (j : Int)] w fun e w' => (∃ b, e = .returned (.float .f64 b) ∧ FW b ((lineP xs c i).getD j none)) ∧ Below w.heap.size w w' := by
  have hB := (Below.refl w.heap.size w).alloc (Nat.le_refl _) (.cells #[.int .i64 (c : Int), .slice a n cap, .int .i64 rws, .int .i64 trn] 24)
  have L := rcheck_calls (c : Int) rws trn a n cap xs _ (h.below hB)
  rw [hok] at L
  have LH := Lib.hid L
  obtain ⟨hc1, hc6⟩ := checkP_cols hok
  have h1 : 1 ≤ c := by omega
  have h6 : c ≤ 6 := by omega
  have hxl := checkP_len hok
  have E := getD_lineP (xs := xs) hi j (by omega)
  by_cases hij : j < i
  · rw [if_pos hij] at E
    rw [E]
    have RA := Lib.hid (fun w => rat_out c i j w h1 h6 hij)
    clear L hok h E hxl
    go_enter Try.func24, Try.ntmps24
    go_wp2_with (first | (go_at_call 35; refine (RA.out _).mono ?_; rintro e w' ⟨rfl, rfl⟩) | (go_at_call 14; refine LH.out.mono ?_; rintro e w1 ⟨rfl, hb⟩; obtain ⟨hq, hf⟩ := bcell hb))
    go_ret
    exact ⟨⟨0, rfl, fw_zero⟩, hB.trans (hb.mono (by simp))⟩
  · rw [if_neg hij] at E
    rw [E]
    have RA := Lib.hid (fun w => rat_in c i j w h1 h6 (by omega) hj)
    have hs := offs_le c i h1 h6 (by omega)
    have hn := h.len
    have hlt : offs c i + (j - i) < n := by unfold tsz at hxl; omega
    obtain ⟨blk, off, rfl, hc⟩ := row_cell h (by omega)
    obtain ⟨x, hx, hfx⟩ := hc _ hlt
    have hfw := Lib.hid hfx
    have hblk := cell_lt hx
    have hlti : ((offs c i + (j - i) : Nat) : Int) < (n : Int) := by omega
    clear L hok h E hxl hc hfx hs hn hij
    generalize offs c i + (j - i) = o at *
    go_enter Try.func24, Try.ntmps24
    go_wp2_with (first | (go_at_call 35; refine (RA.out _).mono ?_; rintro e w' ⟨rfl, rfl⟩) | (go_at_call 14; refine LH.out.mono ?_; rintro e w1 ⟨rfl, hb⟩; have q0 := (hb.cell (p := ⟨w.heap.size, 1, none⟩) (by simp)).trans (show _ = some (.slice (some ⟨blk, off, none⟩) n cap) by simp [go_sem]); have q1 := (hb.cell (p := ⟨blk, off + o, none⟩) (by simp; omega)).trans ((hB.cell (p := ⟨blk, off + o, none⟩) hblk).trans hx)))
    go_ret
    exact ⟨⟨x, rfl, hfw.out⟩, hB.trans (hb.mono (by simp))⟩

end Go.Proofs.Ytfohknalldelfaa
namespace Go.Proofs.Ytfohknalldelfaa
open Go.RowKit Lv Go.Shelf
open Ieee (double Format Datum Toward)

/-- a triangle's size, of any number of columns -/
def sizeI (c : Int) : Int := if 1 ≤ c ∧ c ≤ 6 then (tsz c.toNat : Int) else 0
theorem sizeI_in {c : Int} (h1 : 1 ≤ c) (h6 : c ≤ 6) : 3 ≤ sizeI c ∧ sizeI c ≤ 28 := by
  have := tsz_bounds (c := c.toNat) (by omega) (by omega)
  unfold sizeI
  rw [if_pos ⟨h1, h6⟩]
  omega
theorem sizeI_calls (c : Int) (w : World) : Calls Try.prog 36 #[.int .i64 c] w fun e w' => e = .returned (.int .i64 (sizeI c)) ∧ w = w' := by
  unfold sizeI
  by_cases h : 1 ≤ c ∧ c ≤ 6
  · rw [if_pos h]
    obtain ⟨n, rfl⟩ := Int.eq_ofNat_of_zero_le (show 0 ≤ c by omega)
    exact size_in n w (by omega) (by omega)
  · rw [if_neg h]
    exact size_out c w h
theorem rsizeI_calls (c : Int) (w : World) : Calls Try.prog 31 #[.int .i64 c] w fun e w' => e = .returned (.int .i64 (sizeI c)) ∧ w = w' := by
  unfold sizeI
  by_cases h : 1 ≤ c ∧ c ≤ 6
  · rw [if_pos h]
    obtain ⟨n, rfl⟩ := Int.eq_ofNat_of_zero_le (show 0 ≤ c by omega)
    exact rsize_in n w (by omega) (by omega)
  · rw [if_neg h]
    exact rsize_out c w h
/-- n rows of bx rotated into a factor, from i on -/
def twoLoop (c : Nat) (bx : List (Option Nat)) : Nat → Nat → FacD → FacD × Bool
  | 0, _, G => (G, true)
  | n + 1, i, G => if (lineD G (lineP bx c i) i).2 = false then (fac0, false) else twoLoop c bx n (i + 1) (lineD G (lineP bx c i) i).1
/-- what is wrong ahead of merging -/
def twoEarly (A B : FacD) : Int :=
  if A.ok = false ∨ B.ok = false then 1 else if A.cols ≠ B.cols then 3 else if 200 < A.rws + B.rws ∨ 4096 < max A.trn B.trn + sizeI A.cols then 6 else 0
def twoD (A B : FacD) : FacD × Int :=
  if twoEarly A B ≠ 0 then (fac0, twoEarly A B)
  else if (twoLoop A.cols.toNat B.xs (A.cols.toNat + 1) 0 A).2 = false then (fac0, 2)
  else (⟨A.cols, (twoLoop A.cols.toNat B.xs (A.cols.toNat + 1) 0 A).1.xs, A.rws + B.rws, max A.trn B.trn + sizeI A.cols⟩, 0)

theorem two_step {c i n : Nat} {bx gx : List (Option Nat)} {rws trn : Int} {R : FacD × Bool} (h : twoLoop c bx (n + 1) i ⟨c, gx, rws, trn⟩ = R) :
    ((lineD ⟨c, gx, rws, trn⟩ (lineP bx c i) i).2 = false ∧ R = (fac0, false)) ∨ (∃ gy, lineD ⟨c, gx, rws, trn⟩ (lineP bx c i) i = (⟨c, gy, rws, trn⟩, true) ∧ twoLoop c bx n (i + 1) ⟨c, gy, rws, trn⟩ = R) := by
  unfold twoLoop at h
  cases h2 : (lineD ⟨c, gx, rws, trn⟩ (lineP bx c i) i).2 with
  | false => rw [if_pos h2] at h; exact .inl ⟨rfl, h.symm⟩
  | true =>
    rw [if_neg (by rw [h2]; decide)] at h
    obtain ⟨_, e1, e2, e3, _⟩ := lineD_ok h2
    dsimp only at e1 e2 e3
    generalize lineD ⟨c, gx, rws, trn⟩ (lineP bx c i) i = G at *
    obtain ⟨⟨a1, a2, a3, a4⟩, a5⟩ := G
    dsimp only at *
    subst e1 e2 e3 h2
    exact .inr ⟨a2, rfl, h⟩
theorem twoD_early {A B : FacD} {x : Int} (h : twoEarly A B = x) (hx : x ≠ 0) : twoD A B = (fac0, x) := by unfold twoD; rw [h, if_pos hx]
theorem twoD_loop {A B : FacD} (h : twoEarly A B = 0) {R : FacD × Bool} (hR : twoLoop A.cols.toNat B.xs (A.cols.toNat + 1) 0 A = R) :
    twoD A B = if R.2 = false then (fac0, 2) else (⟨A.cols, R.1.xs, A.rws + B.rws, max A.trn B.trn + sizeI A.cols⟩, 0) := by
  unfold twoD
  rw [h, if_neg (by decide), hR]
theorem two_zero {A B : FacD} (h : twoEarly A B = 0) : A.ok = true ∧ B.ok = true ∧ A.cols = B.cols ∧ A.rws + B.rws ≤ 200 ∧ max A.trn B.trn + sizeI A.cols ≤ 4096 := by
  unfold twoEarly at h
  by_cases h1 : A.ok = false ∨ B.ok = false
  · rw [if_pos h1] at h; cases h
  · rw [if_neg h1] at h
    by_cases h2 : A.cols ≠ B.cols
    · rw [if_pos h2] at h; cases h
    · rw [if_neg h2] at h
      by_cases h3 : 200 < A.rws + B.rws ∨ 4096 < max A.trn B.trn + sizeI A.cols
      · rw [if_pos h3] at h; cases h
      · refine ⟨?_, ?_, by omega, by omega, by omega⟩
        · cases hh : A.ok with
          | true => rfl
          | false => exact absurd (.inl hh) h1
        · cases hh : B.ok with
          | true => rfl
          | false => exact absurd (.inr hh) h1
end Go.Proofs.Ytfohknalldelfaa
