/- Two factors merged: the reference's loop over the rows. -/
import Derived.Test.YtgmaljikjkbdlaaMe
import Derived.Deep.RegionHeld3
import Derived.LoopTactic
import Derived.BigQuiet
import Derived.Deep.QuietTactic
import Derived.IntWalk
namespace Go.Proofs.Ytgmaljikjkbdlaa
open Go.RowKit Lv Go.Shelf
open Ieee (double Format Datum Toward)
attribute [local go_sem high] run_maxI

attribute [local go_sem] Oper.semAt_some run_store_float drewN_alloc drewN_setCell

/-- where two factors stand, and the one that is being made -/
structure RTwoAt (w W : World) (g : Nat) (A B G : FacD) (a : Option Addr) (n c : Nat) (b : Option Addr) (m d : Nat) (p : Option Addr) (pn pc : Nat) : Prop where
  t : TwoAt w W A B a n c b m d
  cg : Cells4 W g (.int .i64 G.cols) (.slice p pn pc) (.int .i64 G.rws) (.int .i64 G.trn)
  rg : Row W (.slice p pn pc) G.xs
  lt : w.heap.size + 1 + 1 < g
theorem RTwoAt.keep {w W W' : World} {g : Nat} {A B G : FacD} {a : Option Addr} {n c : Nat} {b : Option Addr} {m d : Nat} {p : Option Addr} {pn pc : Nat} (h : RTwoAt w W g A B G a n c b m d p pn pc) (hb : Below W.heap.size W W') : RTwoAt w W' g A B G a n c b m d p pn pc :=
  ⟨h.t.keep hb, h.cg.below hb, h.rg.below hb, h.lt⟩
theorem RTwoAt.put {w W : World} {g : Nat} {A B G G' : FacD} {a : Option Addr} {n c : Nat} {b : Option Addr} {m d : Nat} {p : Option Addr} {pn pc : Nat} {q : Option Addr} {qn qc : Nat} (h : RTwoAt w W g A B G a n c b m d p pn pc) (hq : Row W (.slice q qn qc) G'.xs) :
    RTwoAt w ((((W.setCell ⟨g, 0, none⟩ (.int .i64 G'.cols)).setCell ⟨g, 1, none⟩ (.slice q qn qc)).setCell ⟨g, 2, none⟩ (.int .i64 G'.rws)).setCell ⟨g, 3, none⟩ (.int .i64 G'.trn)) g A B G' a n c b m d q qn qc := by
  have := h.lt
  exact ⟨⟨h.t.ca.put_other (by omega) _ _ _ _, h.t.cb.put_other (by omega) _ _ _ _, h.t.cz.put_other (by omega) _ _ _ _, h.t.ra.put4 h.cg slice_ne _ _ _ _, h.t.rb.put4 h.cg slice_ne _ _ _ _, below_put4 h.t.below (by omega) _ _ _ _⟩, h.cg.put _ _ _ _, hq.put4 h.cg slice_ne _ _ _ _, this⟩
/-- behind the statement that rotates a row in -/
def RTwoCut (wr : World) (r : FacD × Bool) (s9 s10 : Value) (W : World) : Prop :=
  ∃ (b9 : Nat) (ga : Option Addr) (gn gcp : Nat), s9 = .pointer (some ⟨b9, 0, none⟩) ∧ s10 = .bool r.2 ∧ Cells4 W b9 (.int .i64 r.1.cols) (.slice ga gn gcp) (.int .i64 r.1.rws) (.int .i64 r.1.trn) ∧ Row W (.slice ga gn gcp) r.1.xs ∧ Below wr.heap.size wr W ∧ wr.heap.size ≤ b9

set_option maxRecDepth 100000 in
set_option maxHeartbeats 4000000 in
theorem rtwo_yes (c : Nat) (ax bx : List (Option Nat)) (ar atn br bt : Int) (a b : Option Addr) (n ac m d : Nat) (w : World) (h : Row w (.slice a n ac) ax) (h' : Row w (.slice b m d) bx) (hno : twoEarly ⟨c, ax, ar, atn⟩ ⟨c, bx, br, bt⟩ = 0) (R : FacD × Bool) (hR : twoLoop c bx (c + 1) 0 ⟨c, ax, ar, atn⟩ = R) :
    Calls Try.prog 42 #[.agg #[.int .i64 (c : Int), .slice a n ac, .int .i64 ar, .int .i64 atn], .agg #[.int .i64 (c : Int), .slice b m d, .int .i64 br, .int .i64 bt]] w fun e w' => FacE (if R.2 = false then (fac0, 2) else (⟨c, R.1.xs, ar + br, max atn bt + sizeI c⟩, 0)) e w' ∧ Below w.heap.size w w' := by
  obtain ⟨hA, hB, _, hr, ht⟩ := two_zero hno
  dsimp only at hr ht
  obtain ⟨hc1, hc6⟩ := ok_cols hA
  dsimp only at hc1 hc6
  obtain ⟨p0, p1, p2, p3⟩ := ok_rows hA
  obtain ⟨q0, q1, q2, q3⟩ := ok_rows hB
  dsimp only at p0 p1 p2 p3 q0 q1 q2 q3
  obtain ⟨y3, y28⟩ := sizeI_in hc1 hc6
  have CA : ∀ W, Row W (.slice a n ac) ax → Calls Try.prog 28 #[.agg #[.int .i64 (c : Int), .slice a n ac, .int .i64 ar, .int .i64 atn]] W fun e w' => e = .returned (.bool true) ∧ Below W.heap.size W w' := fun W hW => by have := rcheck_calls (c : Int) ar atn a n ac ax W hW; rw [show checkP (c : Int) ax ar atn = true from hA] at this; exact this
  have CB : ∀ W, Row W (.slice b m d) bx → Calls Try.prog 28 #[.agg #[.int .i64 (c : Int), .slice b m d, .int .i64 br, .int .i64 bt]] W fun e w' => e = .returned (.bool true) ∧ Below W.heap.size W w' := fun W hW => by have := rcheck_calls (c : Int) br bt b m d bx W hW; rw [show checkP (c : Int) bx br bt = true from hB] at this; exact this
  have CA := Lib.hid CA
  have CB := Lib.hid CB
  have CS := Lib.hid (fun w => rcost_calls (c : Int) w)
  have HRR := Lib.hid hR
  have HBok := Lib.hid (show checkP (c : Int) bx br bt = true from hB)
  have hmx : 0 ≤ max atn bt ∧ max atn bt ≤ 4096 := by omega
  obtain ⟨hm0, hm1⟩ := hmx
  have hr' : ¬ 200 < ar + br := by omega
  have ht' : ¬ 4096 < max atn bt + sizeI (c : Int) := by omega
  clear hA hB hno hR
  generalize sizeI (c : Int) = sz at *
  have T := TwoAt.start w ⟨c, ax, ar, atn⟩ ⟨c, bx, br, bt⟩ a n ac b m d h h'
  dsimp only at T
  go_enter Try.func42, Try.ntmps42
  go_wp2_with fail
  generalize (((w.alloc (.cells #[.int .i64 (c : Int), .slice a n ac, .int .i64 ar, .int .i64 atn] 36)).alloc (.cells #[.int .i64 (c : Int), .slice b m d, .int .i64 br, .int .i64 bt] 36)).alloc (.cells #[.int .i64 0, .slice none 0 0, .int .i64 0, .int .i64 0] 36)) = W at *
  have HT := Lib.hid T
  clear T h h'
  obtain ⟨a0, a1, a2, a3, _, _, _, _⟩ := HT.out.ca
  obtain ⟨b0, b1, b2, b3, _, _, _, _⟩ := HT.out.cb
  obtain ⟨z0, z1, z2, z3, zf0, zf1, zf2, zf3⟩ := HT.out.cz
  have hsz := HT.out.cz.lt
  go_wp2_with (first | (go_at_call_of 28 (Value.agg #[.int .i64 (c : Int), .slice a n ac, .int .i64 ar, .int .i64 atn]); go_must (refine (CA.out _ HT.out.ra).mono ?_; rintro e w1 ⟨rfl, hb1⟩; have HT1 := Lib.hid (HT.out.keep hb1); clear a0 a1 a2 a3 b0 b1 b2 b3 z0 z1 z2 z3 zf0 zf1 zf2 zf3; obtain ⟨a0, a1, a2, a3, _, _, _, _⟩ := HT1.out.ca; obtain ⟨b0, b1, b2, b3, _, _, _, _⟩ := HT1.out.cb; obtain ⟨z0, z1, z2, z3, zf0, zf1, zf2, zf3⟩ := HT1.out.cz; clear hb1)) | (go_at_call 28; go_must (refine (CB.out _ HT1.out.rb).mono ?_; rintro e w2 ⟨rfl, hb2⟩; have HT2 := Lib.hid (HT1.out.keep hb2); clear a0 a1 a2 a3 b0 b1 b2 b3 z0 z1 z2 z3 zf0 zf1 zf2 zf3; obtain ⟨a0, a1, a2, a3, _, _, _, _⟩ := HT2.out.ca; obtain ⟨b0, b1, b2, b3, _, _, _, _⟩ := HT2.out.cb; obtain ⟨z0, z1, z2, z3, zf0, zf1, zf2, zf3⟩ := HT2.out.cz; clear hb2)))
  have HW := Lib.hid (show IntKind.i64.wrap (max atn bt + sz) = max atn bt + sz from IntWalk.i64_in _ (by omega))
  go_cut [6] from 26 to 34 (fun s6 wx => s6 = .int .i64 (max atn bt + sz) ∧ Below w2.heap.size w2 wx)
  case first =>
    rename_i J K' hJ hK'
    go_quiet ((go_at_call 50; exact Calls.quiet_of_same (quiet_same (CS.out _))))
    refine hK' _ _ (Met.intro (hJ _ _ ?_))
    (repeat apply Exists.intro)
    exact ⟨⟨by first | rfl | rw [HW.out], below_drewN (Below.refl _ _) _⟩, rfl⟩
  case rest =>
  obtain ⟨rfl, hbc⟩ := hcut
  obtain ⟨W5, rfl⟩ : ∃ x, x = wc := ⟨_, rfl⟩
  have HT3 := Lib.hid (HT2.out.keep hbc)
  clear a0 a1 a2 a3 b0 b1 b2 b3 z0 z1 z2 z3 zf0 zf1 zf2 zf3 CA CB HT1 HT hbc
  obtain ⟨a0, a1, a2, a3, _, _, _, _⟩ := HT3.out.ca
  obtain ⟨b0, b1, b2, b3, _, _, _, _⟩ := HT3.out.cb
  go_wp2
  have hlw := HT3.out.cz.lt
  have IN : RTwoAt w (W5.alloc (.cells #[.int .i64 (c : Int), .slice a n ac, .int .i64 ar, .int .i64 atn] 36)) W5.heap.size ⟨c, ax, ar, atn⟩ ⟨c, bx, br, bt⟩ ⟨c, ax, ar, atn⟩ a n ac b m d a n ac :=
    ⟨HT3.out.keep ((Below.refl _ _).alloc (Nat.le_refl _) _), Cells4.new W5 _ _ _ _ _, HT3.out.ra.alloc _, by omega⟩
  clear a0 a1 a2 a3 b0 b1 b2 b3
  go_loopw [8] (fun s8 wr => ∃ (i : Nat) (gx : List (Option Nat)) (ga : Option Addr) (gn gcp : Nat), s8 = .int .i64 (i : Int) ∧ i ≤ c + 1 ∧ Hid (twoLoop c bx (c + 1 - i) i ⟨c, gx, ar, atn⟩ = R ∧ RTwoAt w wr W5.heap.size ⟨c, ax, ar, atn⟩ ⟨c, bx, br, bt⟩ ⟨c, gx, ar, atn⟩ a n ac b m d ga gn gcp)) (fun s8 _ => c + 1 - (intOf s8).toNat)
  case atStart => exact ⟨0, ax, a, n, ac, rfl, Nat.zero_le _, HRR.out, IN⟩
  case round =>
    obtain ⟨i, gx, ga, gn, gcp, rfl, hi, HI⟩ := hrel
    have TI := HI.out.2
    obtain ⟨g0, g1, g2, g3, gf0, gf1, gf2, gf3⟩ := TI.cg
    obtain ⟨a0, a1, a2, a3, _, _, _, _⟩ := TI.t.ca
    obtain ⟨b0, b1, b2, b3, _, _, _, _⟩ := TI.t.cb
    obtain ⟨z0, z1, z2, z3, zf0, zf1, zf2, zf3⟩ := TI.t.cz
    dsimp only at a0 a1 a2 a3 b0 b1 b2 b3 g0 g1 g2 g3
    have hlz := TI.t.cz.lt
    have hlg := TI.cg.lt
    have hltg := TI.lt
    have hla : w.heap.size < wr.heap.size := by omega
    have hlb : w.heap.size + 1 < wr.heap.size := by omega
    clear TI
    by_cases hic : i ≤ c
    · have hii : (i : Int) ≤ (c : Int) := by omega
      have eL := HI.out.1
      rw [show c + 1 - i = (c - i) + 1 by omega] at eL
      have ST := two_step eL
      have LN := Lib.hid (fun W (hW : Row W (.slice b m d) bx) => rline7_calls c i br bt b m d bx W hW HBok.out hic)
      have AL := Lib.hid (fun a b n cap m d w => rALine_calls ⟨c, gx, ar, atn⟩ i a b n cap m d (lineP bx c i) w)
      clear eL
      generalize lineD ⟨c, gx, ar, atn⟩ (lineP bx c i) i = r at *
      go_wp2
      go_cut [8, 9, 10] from 47 to 65 (fun s8 s9 s10 wx => s8 = .int .i64 (i : Int) ∧ RTwoCut wr r s9 s10 wx)
      case first =>
        rename_i J K' hJ hK'
        have bA : Below wr.heap.size wr wr.drew := (Below.refl _ _).drew
        have bB : Below wr.heap.size wr (wr.alloc (.cells #[.int .i64 0, .slice none 0 0, .int .i64 0, .int .i64 0] 36)).drew := ((Below.refl wr.heap.size wr).alloc (Nat.le_refl _) _).drew
        have zB : Cells4 (wr.alloc (.cells #[.int .i64 0, .slice none 0 0, .int .i64 0, .int .i64 0] 36)).drew wr.heap.size (.int .i64 0) (.slice none 0 0) (.int .i64 0) (.int .i64 0) := (Cells4.new wr _ _ _ _ 36).below ((Below.refl _ _).drew)
        have HbA := Lib.hid bA
        have HbB := Lib.hid bB
        have HzB := Lib.hid zB
        clear ST bA bB zB a0 a1 a2 a3 z0 z1 z2 z3 zf0 zf1 zf2 zf3 gf0 gf1 gf2 gf3
        go_region_held3 (fun w' => w'.cell? ⟨W5.heap.size, 0, none⟩ = some (.int .i64 (c : Int)) ∧ w'.cell? ⟨W5.heap.size, 1, none⟩ = some (.slice ga gn gcp) ∧ w'.cell? ⟨W5.heap.size, 2, none⟩ = some (.int .i64 ar) ∧ w'.cell? ⟨W5.heap.size, 3, none⟩ = some (.int .i64 atn) ∧ w'.cell? ⟨w.heap.size + 1, 0, none⟩ = some (.int .i64 (c : Int)) ∧ w'.cell? ⟨w.heap.size + 1, 1, none⟩ = some (.slice b m d) ∧ w'.cell? ⟨w.heap.size + 1, 2, none⟩ = some (.int .i64 br) ∧ w'.cell? ⟨w.heap.size + 1, 3, none⟩ = some (.int .i64 bt))
          (first
            | with_reducible exact ⟨((BL.out).cell (p := ⟨W5.heap.size, 0, none⟩) hlg).trans g0, ((BL.out).cell (p := ⟨W5.heap.size, 1, none⟩) hlg).trans g1, ((BL.out).cell (p := ⟨W5.heap.size, 2, none⟩) hlg).trans g2, ((BL.out).cell (p := ⟨W5.heap.size, 3, none⟩) hlg).trans g3, ((BL.out).cell (p := ⟨w.heap.size + 1, 0, none⟩) hlb).trans b0, ((BL.out).cell (p := ⟨w.heap.size + 1, 1, none⟩) hlb).trans b1, ((BL.out).cell (p := ⟨w.heap.size + 1, 2, none⟩) hlb).trans b2, ((BL.out).cell (p := ⟨w.heap.size + 1, 3, none⟩) hlb).trans b3⟩
            | with_reducible exact ⟨((BC.out).cell (p := ⟨W5.heap.size, 0, none⟩) hlg).trans g0, ((BC.out).cell (p := ⟨W5.heap.size, 1, none⟩) hlg).trans g1, ((BC.out).cell (p := ⟨W5.heap.size, 2, none⟩) hlg).trans g2, ((BC.out).cell (p := ⟨W5.heap.size, 3, none⟩) hlg).trans g3, ((BC.out).cell (p := ⟨w.heap.size + 1, 0, none⟩) hlb).trans b0, ((BC.out).cell (p := ⟨w.heap.size + 1, 1, none⟩) hlb).trans b1, ((BC.out).cell (p := ⟨w.heap.size + 1, 2, none⟩) hlb).trans b2, ((BC.out).cell (p := ⟨w.heap.size + 1, 3, none⟩) hlb).trans b3⟩
            | with_reducible exact ⟨((BL.out.alloc BL.out.size _).cell (p := ⟨W5.heap.size, 0, none⟩) hlg).trans g0, ((BL.out.alloc BL.out.size _).cell (p := ⟨W5.heap.size, 1, none⟩) hlg).trans g1, ((BL.out.alloc BL.out.size _).cell (p := ⟨W5.heap.size, 2, none⟩) hlg).trans g2, ((BL.out.alloc BL.out.size _).cell (p := ⟨W5.heap.size, 3, none⟩) hlg).trans g3, ((BL.out.alloc BL.out.size _).cell (p := ⟨w.heap.size + 1, 0, none⟩) hlb).trans b0, ((BL.out.alloc BL.out.size _).cell (p := ⟨w.heap.size + 1, 1, none⟩) hlb).trans b1, ((BL.out.alloc BL.out.size _).cell (p := ⟨w.heap.size + 1, 2, none⟩) hlb).trans b2, ((BL.out.alloc BL.out.size _).cell (p := ⟨w.heap.size + 1, 3, none⟩) hlb).trans b3⟩
            | with_reducible exact ⟨((BC.out.alloc BC.out.size _).cell (p := ⟨W5.heap.size, 0, none⟩) hlg).trans g0, ((BC.out.alloc BC.out.size _).cell (p := ⟨W5.heap.size, 1, none⟩) hlg).trans g1, ((BC.out.alloc BC.out.size _).cell (p := ⟨W5.heap.size, 2, none⟩) hlg).trans g2, ((BC.out.alloc BC.out.size _).cell (p := ⟨W5.heap.size, 3, none⟩) hlg).trans g3, ((BC.out.alloc BC.out.size _).cell (p := ⟨w.heap.size + 1, 0, none⟩) hlb).trans b0, ((BC.out.alloc BC.out.size _).cell (p := ⟨w.heap.size + 1, 1, none⟩) hlb).trans b1, ((BC.out.alloc BC.out.size _).cell (p := ⟨w.heap.size + 1, 2, none⟩) hlb).trans b2, ((BC.out.alloc BC.out.size _).cell (p := ⟨w.heap.size + 1, 3, none⟩) hlb).trans b3⟩
            | with_reducible exact ⟨((HbB.out).cell (p := ⟨W5.heap.size, 0, none⟩) hlg).trans g0, ((HbB.out).cell (p := ⟨W5.heap.size, 1, none⟩) hlg).trans g1, ((HbB.out).cell (p := ⟨W5.heap.size, 2, none⟩) hlg).trans g2, ((HbB.out).cell (p := ⟨W5.heap.size, 3, none⟩) hlg).trans g3, ((HbB.out).cell (p := ⟨w.heap.size + 1, 0, none⟩) hlb).trans b0, ((HbB.out).cell (p := ⟨w.heap.size + 1, 1, none⟩) hlb).trans b1, ((HbB.out).cell (p := ⟨w.heap.size + 1, 2, none⟩) hlb).trans b2, ((HbB.out).cell (p := ⟨w.heap.size + 1, 3, none⟩) hlb).trans b3⟩
            | with_reducible exact ⟨((HbA.out).cell (p := ⟨W5.heap.size, 0, none⟩) hlg).trans g0, ((HbA.out).cell (p := ⟨W5.heap.size, 1, none⟩) hlg).trans g1, ((HbA.out).cell (p := ⟨W5.heap.size, 2, none⟩) hlg).trans g2, ((HbA.out).cell (p := ⟨W5.heap.size, 3, none⟩) hlg).trans g3, ((HbA.out).cell (p := ⟨w.heap.size + 1, 0, none⟩) hlb).trans b0, ((HbA.out).cell (p := ⟨w.heap.size + 1, 1, none⟩) hlb).trans b1, ((HbA.out).cell (p := ⟨w.heap.size + 1, 2, none⟩) hlb).trans b2, ((HbA.out).cell (p := ⟨w.heap.size + 1, 3, none⟩) hlb).trans b3⟩
            | with_reducible exact ⟨((below_put4 BL.out BC.out.size _ _ _ _).cell (p := ⟨W5.heap.size, 0, none⟩) hlg).trans g0, ((below_put4 BL.out BC.out.size _ _ _ _).cell (p := ⟨W5.heap.size, 1, none⟩) hlg).trans g1, ((below_put4 BL.out BC.out.size _ _ _ _).cell (p := ⟨W5.heap.size, 2, none⟩) hlg).trans g2, ((below_put4 BL.out BC.out.size _ _ _ _).cell (p := ⟨W5.heap.size, 3, none⟩) hlg).trans g3, ((below_put4 BL.out BC.out.size _ _ _ _).cell (p := ⟨w.heap.size + 1, 0, none⟩) hlb).trans b0, ((below_put4 BL.out BC.out.size _ _ _ _).cell (p := ⟨w.heap.size + 1, 1, none⟩) hlb).trans b1, ((below_put4 BL.out BC.out.size _ _ _ _).cell (p := ⟨w.heap.size + 1, 2, none⟩) hlb).trans b2, ((below_put4 BL.out BC.out.size _ _ _ _).cell (p := ⟨w.heap.size + 1, 3, none⟩) hlb).trans b3⟩
            | with_reducible exact ⟨((below_put4 BL.out (Nat.le_refl _) _ _ _ _).cell (p := ⟨W5.heap.size, 0, none⟩) hlg).trans g0, ((below_put4 BL.out (Nat.le_refl _) _ _ _ _).cell (p := ⟨W5.heap.size, 1, none⟩) hlg).trans g1, ((below_put4 BL.out (Nat.le_refl _) _ _ _ _).cell (p := ⟨W5.heap.size, 2, none⟩) hlg).trans g2, ((below_put4 BL.out (Nat.le_refl _) _ _ _ _).cell (p := ⟨W5.heap.size, 3, none⟩) hlg).trans g3, ((below_put4 BL.out (Nat.le_refl _) _ _ _ _).cell (p := ⟨w.heap.size + 1, 0, none⟩) hlb).trans b0, ((below_put4 BL.out (Nat.le_refl _) _ _ _ _).cell (p := ⟨w.heap.size + 1, 1, none⟩) hlb).trans b1, ((below_put4 BL.out (Nat.le_refl _) _ _ _ _).cell (p := ⟨w.heap.size + 1, 2, none⟩) hlb).trans b2, ((below_put4 BL.out (Nat.le_refl _) _ _ _ _).cell (p := ⟨w.heap.size + 1, 3, none⟩) hlb).trans b3⟩
            | go_keep)
          (first
            | (go_at_call 66; go_must (refine (LN.out _ (HI.out.2.t.rb.below (by first | with_reducible exact HbA.out | with_reducible exact HbB.out))).mono ?_; rintro e wC ⟨⟨vC, rfl, hownC⟩, hbC⟩; obtain ⟨oa, on, oc, hvA⟩ := hownC.row.form; subst hvA; have RA := Lib.hid hownC.row; have BC' : Below wr.heap.size wr wC := (by first | with_reducible exact HbA.out.trans (hbC.mono (by simp)) | with_reducible exact HbB.out.trans (hbC.mono (by simp))); have hsz := BC'.size; have hCz0 : W5.heap.size < wC.heap.size := (by omega); have hCz1 : w.heap.size + 1 < wC.heap.size := (by omega); (first | ((with_reducible have zz := HzB.out.below hbC); have ZC := Lib.hid zz; obtain ⟨z0, z1, z2, z3, zf0, zf1, zf2, zf3⟩ := zz) | (have ZN : True := trivial)); have BC := Lib.hid BC'; clear BC' hownC hbC))
            | (go_at_call 65; go_must (refine (AL.out _ _ _ _ _ _ _ (HI.out.2.rg.below (by first | with_reducible exact BC.out | with_reducible exact BC.out.alloc BC.out.size _)) (by first | with_reducible exact RA.out | with_reducible exact RA.out.alloc _)).mono ?_; rintro e wL ⟨⟨pa, pn, pcp, rfl, hrowL⟩, hbL⟩; have BL' : Below wr.heap.size wr wL := (by first | with_reducible exact BC.out.trans (hbL.mono BC.out.size) | with_reducible exact (BC.out.alloc BC.out.size (.cells #[.int .i64 0, .slice none 0 0, .int .i64 0, .int .i64 0] 36)).trans (hbL.mono (by have := BC.out.size; simp; omega))); have hszL := BL'.size; have hLz0 : W5.heap.size < wL.heap.size := (by omega); have hLz1 : w.heap.size + 1 < wL.heap.size := (by omega); (first | ((with_reducible have yy := ZC.out.below hbL); have YL := Lib.hid yy; obtain ⟨y0, y1, y2, y3, yf0, yf1, yf2, yf3⟩ := yy) | ((with_reducible have yy := (Cells4.new wC (.int .i64 0) (.slice none 0 0) (.int .i64 0) (.int .i64 0) 36).below hbL); have YL := Lib.hid yy; obtain ⟨y0, y1, y2, y3, yf0, yf1, yf2, yf3⟩ := yy) | (have YN : True := trivial)); have BL := Lib.hid BL'; have RL := Lib.hid hrowL; clear BL' hrowL hbL)))
        all_goals
          refine hK' _ _ (Met.intro (hJ _ _ ?_))
          (repeat apply Exists.intro)
          refine ⟨?_, rfl⟩
          refine ⟨rfl, ?_⟩
          have hwC := BC.out.size
          have hwL := BL.out.size
          unfold RTwoCut
          (first
            | (refine ⟨wL.heap.size, pa, pn, pcp, rfl, rfl, ?_⟩; with_reducible exact ⟨Cells4.new wL _ _ _ _ _, RL.out.alloc _, BL.out.alloc hwL _, hwL⟩)
            | (refine ⟨wC.heap.size, pa, pn, pcp, rfl, rfl, ?_⟩; with_reducible exact ⟨YL.out.put _ _ _ _, RL.out.put4 YL.out slice_ne _ _ _ _, below_put4 BL.out hwC _ _ _ _, hwC⟩)
            | (refine ⟨wr.heap.size, pa, pn, pcp, rfl, rfl, ?_⟩; with_reducible exact ⟨YL.out.put _ _ _ _, RL.out.put4 YL.out slice_ne _ _ _ _, below_put4 BL.out (Nat.le_refl _) _ _ _ _, Nat.le_refl _⟩))
      case rest =>
        obtain ⟨rfl, b9, pa, pn, pcp, rfl, rfl, D9, RL, BW, hb9⟩ := hcut
        have HT1 := Lib.hid (HI.out.2.keep BW)
        have HD9 := Lib.hid D9
        have HRL := Lib.hid RL
        clear g0 g1 g2 g3 gf0 gf1 gf2 gf3 a0 a1 a2 a3 b0 b1 b2 b3 z0 z1 z2 z3 zf0 zf1 zf2 zf3 RL
        obtain ⟨g0, g1, g2, g3, gf0, gf1, gf2, gf3⟩ := HT1.out.cg
        obtain ⟨b0, b1, b2, b3, _, _, _, _⟩ := HT1.out.t.cb
        obtain ⟨z0, z1, z2, z3, zf0, zf1, zf2, zf3⟩ := HT1.out.t.cz
        obtain ⟨k0, k1, k2, k3, _, _, _, _⟩ := D9
        dsimp only at g0 g1 g2 g3 b0 b1 b2 b3
        have hne9 : W5.heap.size ≠ b9 := by omega
        rcases ST with ⟨e2, eR⟩ | ⟨gy, eL, eR⟩
        · subst eR
          rw [e2]
          clear e2
          go_wp2
          exact bodyPost_ret (v := .tuple #[facZ, .int .i64 2]) (by simp [results, Try.results42, go_sem, facZ, (HT1.out.t.cz.put (.int .i64 0) (.slice none 0 0) (.int .i64 0) (.int .i64 0)).c0, (HT1.out.t.cz.put (.int .i64 0) (.slice none 0 0) (.int .i64 0) (.int .i64 0)).c1, (HT1.out.t.cz.put (.int .i64 0) (.slice none 0 0) (.int .i64 0) (.int .i64 0)).c2, (HT1.out.t.cz.put (.int .i64 0) (.slice none 0 0) (.int .i64 0) (.int .i64 0)).c3]) rfl ⟨facE_no _ rfl, below_put4 HT1.out.t.below (by omega) _ _ _ _⟩
        · subst eL
          have ER := Lib.hid eR
          clear eR
          dsimp only at k0 k1 k2 k3
          go_wp2
          refine ⟨⟨i + 1, gy, pa, pn, pcp, by go_num, by omega, ?_, RTwoAt.put (G' := ⟨c, gy, ar, atn⟩) HT1.out HRL.out⟩, by simp [intOf]; omega⟩
          have := ER.out
          rw [show c + 1 - (i + 1) = c - i by omega]
          exact this
    · obtain rfl : i = c + 1 := by omega
      have hii : ¬ ((c + 1 : Nat) : Int) ≤ (c : Int) := by omega
      have hii' : ¬ (c : Int) + 1 ≤ (c : Int) := by omega
      have eR := HI.out.1
      rw [Nat.sub_self] at eR
      obtain rfl : R = (⟨c, gx, ar, atn⟩, true) := eR.symm
      have HT := Lib.hid HI.out.2
      have hn0 : W5.heap.size ≠ w.heap.size := by omega
      have hn1 : W5.heap.size ≠ w.heap.size + 1 := by omega
      have hn2 : W5.heap.size ≠ w.heap.size + 1 + 1 := by omega
      have hgl : w.heap.size ≤ W5.heap.size := by omega
      clear HI eR
      go_wp2
      have E2 : Cells4 ((wr.setCell ⟨W5.heap.size, 2, none⟩ (.int .i64 (ar + br))).setCell ⟨W5.heap.size, 3, none⟩ (.int .i64 (max atn bt + sz))) W5.heap.size (.int .i64 (c : Int)) (.slice ga gn gcp) (.int .i64 (ar + br)) (.int .i64 (max atn bt + sz)) :=
        ⟨cell_set_off (cell_set_off g0 (by decide)) (by decide), cell_set_off (cell_set_off g1 (by decide)) (by decide), cell_set_off (cell_set_eq g2) (by decide), cell_set_eq (cell_set_off g3 (by decide)), frozen_set (frozen_set gf0), frozen_set (frozen_set gf1), frozen_set (frozen_set gf2), frozen_set (frozen_set gf3)⟩
      have E4 := (HT.out.t.cz.set (b' := W5.heap.size) (o := 2) (v := .int .i64 (ar + br)) hn2).set (b' := W5.heap.size) (o := 3) (v := .int .i64 (max atn bt + sz)) hn2
      have RE : Row ((wr.setCell ⟨W5.heap.size, 2, none⟩ (.int .i64 (ar + br))).setCell ⟨W5.heap.size, 3, none⟩ (.int .i64 (max atn bt + sz))) (.slice ga gn gcp) gx :=
        (HT.out.rg.setAt HT.out.cg.c2 (fun _ e => by cases e) _).setAt (cell_set_off (o := 2) (v := .int .i64 (ar + br)) HT.out.cg.c3 (by decide)) (fun _ e => by cases e) _
      have P4 := E4.put (.int .i64 (c : Int)) (.slice ga gn gcp) (.int .i64 (ar + br)) (.int .i64 (max atn bt + sz))
      refine bodyPost_ret (v := .tuple #[.agg #[.int .i64 (c : Int), .slice ga gn gcp, .int .i64 (ar + br), .int .i64 (max atn bt + sz)], .int .i64 0]) (by simp [results, Try.results42, go_sem, P4.c0, P4.c1, P4.c2, P4.c3]) rfl ⟨⟨ga, gn, gcp, rfl, RE.put4 E4 slice_ne _ _ _ _⟩, ?_⟩
      exact below_put4 ((HT.out.t.below.setCell (p := ⟨W5.heap.size, 2, none⟩) hgl _).setCell (p := ⟨W5.heap.size, 3, none⟩) hgl _) (by omega) _ _ _ _

/-- the reference's Two -/
theorem rtwo_calls (A B : FacD) (a b : Option Addr) (n c m d : Nat) (w : World) (h : Row w (.slice a n c) A.xs) (h' : Row w (.slice b m d) B.xs) :
    Calls Try.prog 42 #[.agg #[.int .i64 A.cols, .slice a n c, .int .i64 A.rws, .int .i64 A.trn], .agg #[.int .i64 B.cols, .slice b m d, .int .i64 B.rws, .int .i64 B.trn]] w fun e w' => FacE (twoD A B) e w' ∧ Below w.heap.size w w' := by
  by_cases he : twoEarly A B = 0
  · rw [twoD_loop he rfl]
    obtain ⟨hA, hB, hc, _, _⟩ := two_zero he
    obtain ⟨h1, h6⟩ := ok_cols hA
    obtain ⟨ac, ax, ar, atn⟩ := A
    obtain ⟨bc, bx, br, bt⟩ := B
    dsimp only at hc h1 h6 h h' ⊢
    subst hc
    obtain ⟨k, rfl⟩ := Int.eq_ofNat_of_zero_le (show 0 ≤ ac by omega)
    exact rtwo_yes k ax bx ar atn br bt a b n c m d w h h' he _ rfl
  · exact rtwo_no A B a b n c m d w h h' he
end Go.Proofs.Ytgmaljikjkbdlaa
