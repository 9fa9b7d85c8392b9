/- The reference's Get and Line of layer 7, of a factor that may be. Two factors merged, plainly; the size of a triangle, of any number of columns; what a merge costs. -/
import Derived.Test.YtmmligbkecilfaaGreatDoorSd
import Derived.Test.YtmmligbkecilfaaGreatDoorRe
import Derived.LoopTactic
import Derived.Test.YtmmligbkecilfaaGreatDoorSi
namespace Go.Proofs.YtmmligbkecilfaaGreatDoor
open Go.RowKit Lv Go.Shelf
open Ieee (double Format Datum Toward)
attribute [local go_sem] Oper.semAt_some run_store_float drewN_alloc drewN_setCell

theorem own_base {w : World} {B : Nat} {v : Value} {xs : List (Option Nat)} (h : OwnV w B v xs) (k : Nat) (e : v.ownBlock = some k) : B ≤ k := by
  obtain ⟨vs, hown, hv⟩ := h
  rcases hown.2 with ⟨rfl, h0⟩ | ⟨g, cap, cur, rfl, h2, _⟩
  · simp [Value.ownBlock] at e
  · simp [Value.ownBlock] at e
    omega
theorem rat_out (c i j : Nat) (w : World) (h1 : 1 ≤ c) (h6 : c ≤ 6) (hij : j < i) :
    Calls Tryz.prog 25 #[.int .i64 (c : Int), .int .i64 (i : Int), .int .i64 (j : Int)] w fun e w' => e = .returned (.tuple #[.int .i64 0, .bool false]) ∧ w = w' := by
  have S := Lib.hid (fun w => rsize_in c w h1 h6)
  have hb := tsz_bounds h1 h6
  have hz : ((tsz c : Int) == 0) = false := by simp; omega
  have a1 : (j : Int) < (i : Int) := by omega
  clear hb
  go_enter Tryz.func25, Tryz.ntmps25
  go_wp2_with (go_at_call 20; refine (S.out _).mono ?_; rintro e w' ⟨rfl, rfl⟩)
  go_ret2
  exact ⟨rfl, rfl⟩

set_option maxRecDepth 100000 in
theorem rget_calls (c i j : Nat) (rws trn : Int) (a : Option Addr) (n cap : Nat) (xs : List (Option Nat)) (w : World) (h : Row w (.slice a n cap) xs) (hok : checkP (c : Int) xs rws trn = true) (hi : i ≤ c) (hj : j ≤ c) :
    Calls Tryz.prog 71 #[.agg #[.int .i64 (c : Int), .slice a n cap, .int .i64 rws, .int .i64 trn], .int .i64 (i : Int), .int .i64 (j : Int)] w fun e w' => (∃ b, e = .returned (.float .f64 b) ∧ FW b ((lineP xs c i).getD j none)) ∧ Below w.heap.size w w' := by
  have hB := (Below.refl w.heap.size w).alloc (Nat.le_refl _) (.cells #[.int .i64 (c : Int), .slice a n cap, .int .i64 rws, .int .i64 trn] 24)
  have L := rcheck_calls (c : Int) rws trn a n cap xs _ (h.below hB)
  rw [hok] at L
  have LH := Lib.hid L
  obtain ⟨hc1, hc6⟩ := checkP_cols hok
  have h1 : 1 ≤ c := by omega
  have h6 : c ≤ 6 := by omega
  have hxl := checkP_len hok
  have E := getD_lineP (xs := xs) hi j (by omega)
  by_cases hij : j < i
  · rw [if_pos hij] at E
    rw [E]
    have RA := Lib.hid (fun w => rat_out c i j w h1 h6 hij)
    clear L hok h E hxl
    go_enter Tryz.func71, Tryz.ntmps71
    go_wp2_with (first | (go_at_call 25; refine (RA.out _).mono ?_; rintro e w' ⟨rfl, rfl⟩) | (go_at_call 17; refine LH.out.mono ?_; rintro e w1 ⟨rfl, hb⟩; obtain ⟨hq, hf⟩ := bcell hb))
    go_ret
    exact ⟨⟨0, rfl, fw_zero⟩, hB.trans (hb.mono (by simp))⟩
  · rw [if_neg hij] at E
    rw [E]
    have RA := Lib.hid (fun w => rat_in c i j w h1 h6 (by omega) hj)
    have hs := offs_le c i h1 h6 (by omega)
    have hn := h.len
    have hlt : offs c i + (j - i) < n := by unfold tsz at hxl; omega
    obtain ⟨blk, off, rfl, hc⟩ := row_cell h (by omega)
    obtain ⟨x, hx, hfx⟩ := hc _ hlt
    have hfw := Lib.hid hfx
    have hblk := cell_lt hx
    have hlti : ((offs c i + (j - i) : Nat) : Int) < (n : Int) := by omega
    clear L hok h E hxl hc hfx hs hn hij
    generalize offs c i + (j - i) = o at *
    go_enter Tryz.func71, Tryz.ntmps71
    go_wp2_with (first | (go_at_call 25; refine (RA.out _).mono ?_; rintro e w' ⟨rfl, rfl⟩) | (go_at_call 17; refine LH.out.mono ?_; rintro e w1 ⟨rfl, hb⟩; have q0 := (hb.cell (p := ⟨w.heap.size, 1, none⟩) (by simp)).trans (show _ = some (.slice (some ⟨blk, off, none⟩) n cap) by simp [go_sem]); have q1 := (hb.cell (p := ⟨blk, off + o, none⟩) (by simp; omega)).trans ((hB.cell (p := ⟨blk, off + o, none⟩) hblk).trans hx)))
    go_ret
    exact ⟨⟨x, rfl, hfw.out⟩, hB.trans (hb.mono (by simp))⟩

set_option maxRecDepth 100000 in
set_option maxHeartbeats 1000000 in
theorem rline7_calls (c i : Nat) (rws trn : Int) (a : Option Addr) (n cap : Nat) (xs : List (Option Nat)) (w : World) (h : Row w (.slice a n cap) xs) (hok : checkP (c : Int) xs rws trn = true) (hi : i ≤ c) :
    Calls Tryz.prog 41 #[.agg #[.int .i64 (c : Int), .slice a n cap, .int .i64 rws, .int .i64 trn], .int .i64 (i : Int)] w fun e w' => (∃ v, e = .returned v ∧ OwnV w' w.heap.size v (lineP xs c i)) ∧ Below w.heap.size w w' := by
  have hB := (Below.refl w.heap.size w).alloc (Nat.le_refl _) (.cells #[.int .i64 (c : Int), .slice a n cap, .int .i64 rws, .int .i64 trn] 24)
  have L := rcheck_calls (c : Int) rws trn a n cap xs _ (h.below hB)
  rw [hok] at L
  have LH := Lib.hid L
  obtain ⟨hc1, hc6⟩ := checkP_cols hok
  have h1 : 1 ≤ c := by omega
  have h6 : c ≤ 6 := by omega
  have hxl := checkP_len hok
  have hll := Lib.hid (lineP_len h1 h6 hxl hi)
  have G := Lib.hid (fun j (hj : j ≤ c) W (hW : Row W (.slice a n cap) xs) => rget_calls c i j rws trn a n cap xs W hW hok hi hj)
  have HR := Lib.hid h
  have hii : ¬ (c : Int) < (i : Int) := by omega
  have hi0 : ¬ (i : Int) < 0 := by omega
  have hii2 : decide (c < i) = false := decide_eq_false (by omega)
  have hi0' : decide ((i : Int) < 0) = false := decide_eq_false hi0
  have HB := Lib.hid hB
  clear L hok h hxl hB
  generalize lineP xs c i = l at *
  go_enter Tryz.func41, Tryz.ntmps41
  go_wp2_with (go_at_call 17; refine LH.out.mono ?_; rintro e w1 ⟨rfl, hb⟩; obtain ⟨hq, hf⟩ := bcell hb; have hz := hb.size; simp at hz; have hz1 : w.heap.size < w1.heap.size := (by omega))
  have C2 : Cells4 w1 w.heap.size (.int .i64 (c : Int)) (.slice a n cap) (.int .i64 rws) (.int .i64 trn) := (Cells4.new w (.int .i64 (c : Int)) (.slice a n cap) (.int .i64 rws) (.int .i64 trn) 24).below hb
  have hC := HB.out.trans (hb.mono (by simp))
  clear hq hf hb
  go_loopw [5, 6] (fun s5 s6 wr => ∃ j : Nat, s6 = .int .i64 (j : Int) ∧ j ≤ c + 1 ∧ Hid (OwnV wr (w.heap.size + 1) s5 (l.take j) ∧ Cells4 wr w.heap.size (.int .i64 (c : Int)) (.slice a n cap) (.int .i64 rws) (.int .i64 trn) ∧ Below w.heap.size w wr)) (fun _ s6 _ => c + 1 - (intOf s6).toNat)
  case atStart => exact ⟨0, rfl, Nat.zero_le _, ownV_nil _ _, C2, hC⟩
  case round =>
    obtain ⟨j, rfl, hj, HI⟩ := hrel
    obtain ⟨c0, c1, c2, c3, _, _, _, _⟩ := HI.out.2.1
    have hlt := HI.out.2.1.lt
    by_cases hjc : j ≤ c
    · have hji : (j : Int) ≤ (c : Int) := by omega
      have htk := Lib.hid (show l.take (j + 1) = l.take j ++ [l.getD j none] by
        rw [List.take_succ_eq_append_getElem (by rw [hll.out]; omega), List.getD_eq_getElem?_getD, List.getElem?_eq_getElem (by rw [hll.out]; omega)]; rfl)
      have hlen : Hid ((l.take j).length = j) := by unfold Hid; rw [List.length_take, hll.out]; omega
      have hB1 := Lib.hid HI.out.2.2
      have hsz := Lib.hid HI.out.2.2.size
      go_wp2_with (first
        | (go_at_call 71; go_must (refine (G.out j hjc _ (HR.out.below hB1.out)).mono ?_; rintro e w2 ⟨⟨x, rfl, hfx⟩, hb2⟩; have HX := Lib.hid hfx; have HB2 := Lib.hid hb2; clear hfx hb2))
        | (at_builtin; go_must (refine wpList_append_F _ rfl _ _ rfl (w.heap.size + 1) _ (l.take j) [l.getD j none] rfl ((HI.out.1.below HB2.out (Nat.le_refl _)).below ((Below.refl _ _).alloc (Nat.le_refl _) (.cells #[.float .f64 x] 25)) (Nat.le_refl _)) _ _ _ rfl (row_one w2 x HX.out) (by rw [hlen.out]; simp; omega) rfl (by have := hsz.out; have := HB2.out.size; simp; omega) ?_; intro v9 w3 hown9 hg9)))
      have hBe : Below w.heap.size w w3 := ((HI.out.2.2.trans (HB2.out.mono hsz.out)).alloc (by have := hsz.out; have := HB2.out.size; omega) (.cells #[.float .f64 x] 25)).grown hg9 (by have := hsz.out; have := HB2.out.size; simp; omega) (fun k e => by
        have := own_base HI.out.1 k e
        omega)
      have hCe : Cells4 w3 w.heap.size (.int .i64 (c : Int)) (.slice a n cap) (.int .i64 rws) (.int .i64 trn) := by
        refine ((HI.out.2.1.below HB2.out).alloc _).grown hg9 ?_
        intro e
        have := own_base HI.out.1 _ e.symm
        omega
      rw [← htk.out] at hown9
      go_roundw
      case rel => exact ⟨j + 1, by go_num, by omega, hown9, hCe, hBe⟩
      case measure => simp [intOf]; omega
    · obtain rfl : j = c + 1 := by omega
      have hji : ¬ ((c + 1 : Nat) : Int) ≤ (c : Int) := by omega
      have hji' : ¬ (c : Int) + 1 ≤ (c : Int) := by omega
      go_wp2
      go_ret
      exact ⟨⟨u5, rfl, by have := HI.out.1; rw [List.take_of_length_le (by rw [hll.out]; exact Nat.le_refl _)] at this; exact this.mono (Nat.le_succ _)⟩, HI.out.2.2⟩
end Go.Proofs.YtmmligbkecilfaaGreatDoor
namespace Go.Proofs.YtmmligbkecilfaaGreatDoor
open Go.RowKit Lv Go.Shelf
open Ieee (double Format Datum Toward)

/-- a triangle's size, of any number of columns -/
def sizeI (c : Int) : Int := if 1 ≤ c ∧ c ≤ 6 then (tsz c.toNat : Int) else 0
theorem sizeI_in {c : Int} (h1 : 1 ≤ c) (h6 : c ≤ 6) : 3 ≤ sizeI c ∧ sizeI c ≤ 28 := by
  have := tsz_bounds (c := c.toNat) (by omega) (by omega)
  unfold sizeI
  rw [if_pos ⟨h1, h6⟩]
  omega
theorem sizeI_calls (c : Int) (w : World) : Calls Tryz.prog 53 #[.int .i64 c] w fun e w' => e = .returned (.int .i64 (sizeI c)) ∧ w = w' := by
  unfold sizeI
  by_cases h : 1 ≤ c ∧ c ≤ 6
  · rw [if_pos h]
    obtain ⟨n, rfl⟩ := Int.eq_ofNat_of_zero_le (show 0 ≤ c by omega)
    exact size_in n w (by omega) (by omega)
  · rw [if_neg h]
    exact size_out c w h
theorem rsizeI_calls (c : Int) (w : World) : Calls Tryz.prog 20 #[.int .i64 c] w fun e w' => e = .returned (.int .i64 (sizeI c)) ∧ w = w' := by
  unfold sizeI
  by_cases h : 1 ≤ c ∧ c ≤ 6
  · rw [if_pos h]
    obtain ⟨n, rfl⟩ := Int.eq_ofNat_of_zero_le (show 0 ≤ c by omega)
    exact rsize_in n w (by omega) (by omega)
  · rw [if_neg h]
    exact rsize_out c w h
/-- n rows of bx rotated into a factor, from i on -/
def twoLoop (c : Nat) (bx : List (Option Nat)) : Nat → Nat → FacD → FacD × Bool
  | 0, _, G => (G, true)
  | n + 1, i, G => if (lineD G (lineP bx c i) i).2 = false then (fac0, false) else twoLoop c bx n (i + 1) (lineD G (lineP bx c i) i).1
/-- what is wrong ahead of merging -/
def twoEarly (A B : FacD) : Int :=
  if A.ok = false ∨ B.ok = false then 1 else if A.cols ≠ B.cols then 3 else if 200 < A.rws + B.rws ∨ 4096 < max A.trn B.trn + sizeI A.cols then 6 else 0
def twoD (A B : FacD) : FacD × Int :=
  if twoEarly A B ≠ 0 then (fac0, twoEarly A B)
  else if (twoLoop A.cols.toNat B.xs (A.cols.toNat + 1) 0 A).2 = false then (fac0, 2)
  else (⟨A.cols, (twoLoop A.cols.toNat B.xs (A.cols.toNat + 1) 0 A).1.xs, A.rws + B.rws, max A.trn B.trn + sizeI A.cols⟩, 0)

theorem two_step {c i n : Nat} {bx gx : List (Option Nat)} {rws trn : Int} {R : FacD × Bool} (h : twoLoop c bx (n + 1) i ⟨c, gx, rws, trn⟩ = R) :
    ((lineD ⟨c, gx, rws, trn⟩ (lineP bx c i) i).2 = false ∧ R = (fac0, false)) ∨ (∃ gy, lineD ⟨c, gx, rws, trn⟩ (lineP bx c i) i = (⟨c, gy, rws, trn⟩, true) ∧ twoLoop c bx n (i + 1) ⟨c, gy, rws, trn⟩ = R) := by
  unfold twoLoop at h
  cases h2 : (lineD ⟨c, gx, rws, trn⟩ (lineP bx c i) i).2 with
  | false => rw [if_pos h2] at h; exact .inl ⟨rfl, h.symm⟩
  | true =>
    rw [if_neg (by rw [h2]; decide)] at h
    obtain ⟨_, e1, e2, e3, _⟩ := lineD_ok h2
    dsimp only at e1 e2 e3
    generalize lineD ⟨c, gx, rws, trn⟩ (lineP bx c i) i = G at *
    obtain ⟨⟨a1, a2, a3, a4⟩, a5⟩ := G
    dsimp only at *
    subst e1 e2 e3 h2
    exact .inr ⟨a2, rfl, h⟩
theorem twoD_early {A B : FacD} {x : Int} (h : twoEarly A B = x) (hx : x ≠ 0) : twoD A B = (fac0, x) := by unfold twoD; rw [h, if_pos hx]
theorem twoD_loop {A B : FacD} (h : twoEarly A B = 0) {R : FacD × Bool} (hR : twoLoop A.cols.toNat B.xs (A.cols.toNat + 1) 0 A = R) :
    twoD A B = if R.2 = false then (fac0, 2) else (⟨A.cols, R.1.xs, A.rws + B.rws, max A.trn B.trn + sizeI A.cols⟩, 0) := by
  unfold twoD
  rw [h, if_neg (by decide), hR]
theorem two_zero {A B : FacD} (h : twoEarly A B = 0) : A.ok = true ∧ B.ok = true ∧ A.cols = B.cols ∧ A.rws + B.rws ≤ 200 ∧ max A.trn B.trn + sizeI A.cols ≤ 4096 := by
  unfold twoEarly at h
  by_cases h1 : A.ok = false ∨ B.ok = false
  · rw [if_pos h1] at h; cases h
  · rw [if_neg h1] at h
    by_cases h2 : A.cols ≠ B.cols
    · rw [if_pos h2] at h; cases h
    · rw [if_neg h2] at h
      by_cases h3 : 200 < A.rws + B.rws ∨ 4096 < max A.trn B.trn + sizeI A.cols
      · rw [if_pos h3] at h; cases h
      · refine ⟨?_, ?_, by omega, by omega, by omega⟩
        · cases hh : A.ok with
          | true => rfl
          | false => exact absurd (.inl hh) h1
        · cases hh : B.ok with
          | true => rfl
          | false => exact absurd (.inr hh) h1
end Go.Proofs.YtmmligbkecilfaaGreatDoor
