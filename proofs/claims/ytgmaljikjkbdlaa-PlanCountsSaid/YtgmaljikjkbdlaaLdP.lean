/- Factors merged one behind the other: the reference's All; its Few. MergeAll, walked. MergeAll holds of every input: the given statement Rows.MergeAllSaid. -/
import Derived.Test.YtgmaljikjkbdlaaMh
import Derived.Test.YtgmaljikjkbdlaaMj
import Derived.Test.YtgmaljikjkbdlaaPa
import Derived.Test.YtgmaljikjkbdlaaPb
namespace Go.Proofs.Ytgmaljikjkbdlaa
open Go.RowKit Lv Go.Shelf
open Ieee (double Format Datum Toward)
attribute [local go_sem] Oper.semAt_some run_store_float drewN_alloc drewN_setCell

/-- what stands at the loop's head -/
structure RFInv (w : World) (b4 : Nat) (R : FacD × Int) (Fs : List FacD) (W : World) (k : Nat) (G : FacD) (a : Option Addr) (n cap : Nat) : Prop where
  c2 : Cells4 W w.heap.size (.int .i64 0) (.slice none 0 0) (.int .i64 0) (.int .i64 0)
  c4 : Cells4 W b4 (.int .i64 G.cols) (.slice a n cap) (.int .i64 G.rws) (.int .i64 G.trn)
  row : Row W (.slice a n cap) G.xs
  eq : mfold G (Fs.drop k) = R
  below : Below w.heap.size w W
  lt : w.heap.size < b4
/-- behind the statement that calls Two -/
def MAllCut (wr : World) (ge : Int) (G : FacD) (s6 s7 : Value) (W : World) : Prop :=
  ∃ (b6 : Nat) (ga : Option Addr) (gn gcp : Nat), s6 = .pointer (some ⟨b6, 0, none⟩) ∧ s7 = .int .i64 ge ∧ Cells4 W b6 (.int .i64 G.cols) (.slice ga gn gcp) (.int .i64 G.rws) (.int .i64 G.trn) ∧ Row W (.slice ga gn gcp) G.xs ∧ Below wr.heap.size wr W ∧ wr.heap.size ≤ b6

/-- are there few factors, with few entries? -/
def fewF (Fs : List FacD) (k : Nat) : Bool := decide (Fs.length ≤ k) && !Fs.any fun F => decide (60 < F.xs.length)
theorem any_stepF {p : FacD → Bool} {Fs : List FacD} {k : Nat} (hk : k < Fs.length) (h : (Fs.take k).any p = false) : (Fs.take (k + 1)).any p = p (Fs.getD k fac0) := by
  rw [List.take_succ_eq_append_getElem hk, List.any_append, h, Bool.false_or]
  simp [List.getD_eq_getElem?_getD, hk]
theorem any_of_takeF {p : FacD → Bool} {Fs : List FacD} {k : Nat} (h : (Fs.take k).any p = true) : Fs.any p = true := by
  rw [List.any_eq_true] at h ⊢
  obtain ⟨x, hx, hp⟩ := h
  exact ⟨x, List.mem_of_mem_take hx, hp⟩
theorem rfew_calls (t : Option Addr) (tn tc k : Nat) (Fs : List FacD) (w : World) (hl : Fcs w (.slice t tn tc) Fs) :
    Calls Try.prog 22 #[.slice t tn tc, .int .i64 (k : Int)] w fun e w' => e = .returned (.bool (fewF Fs k)) ∧ w = w' := by
  obtain ⟨hn1, hn2, hn3⟩ := hl.len
  obtain ⟨res, hres⟩ : ∃ res, res = fewF Fs k := ⟨_, rfl⟩
  rw [← hres]
  have HS := Lib.hid hl
  have HN := Lib.hid hn1
  unfold fewF at hres
  by_cases hb : k < tn
  · rw [decide_eq_false (by omega), Bool.false_and] at hres
    subst hres
    have hbi : (k : Int) < (tn : Int) := by omega
    clear hl hn1
    go_enter Try.func22, Try.ntmps22
    go_wp2
    go_ret
    exact ⟨rfl, rfl⟩
  · rw [decide_eq_true (by omega), Bool.true_and] at hres
    have HRES := Lib.hid hres
    have hbi : ¬ (k : Int) < (tn : Int) := by omega
    clear hl hn1 hres
    go_enter Try.func22, Try.ntmps22
    go_wp2
    go_loop [5] (fun s => ∃ j : Nat, j ≤ tn ∧ s = .int .i64 (j : Int) ∧ Hid (((Fs.take j).any fun F => decide (60 < F.xs.length)) = false)) (fun s => tn - (intOf s).toNat)
    case atStart => exact ⟨0, Nat.zero_le _, rfl, rfl⟩
    case round =>
      obtain ⟨j, hj, rfl, hrel⟩ := hrel
      by_cases hlt : j < tn
      · obtain ⟨blk, off, rfl, hc⟩ := HS.out.at (by omega)
        obtain ⟨b, m, d, k1, k2, k3, k4, k5⟩ := hc j hlt
        have hst := Lib.hid (any_stepF (p := fun F => decide (60 < F.xs.length)) (by rw [HN.out]; exact hlt) hrel.out)
        have hm := Lib.hid k5.len
        clear hc k5 k1 k3 k4
        by_cases h60 : 60 < m
        · have h60i : (60 : Int) < (m : Int) := by omega
          have HR : Hid (res = false) := by
            unfold Hid
            rw [HRES.out, any_of_takeF (k := j + 1) (by rw [hst.out, hm.out]; exact decide_eq_true h60)]
            rfl
          go_wp2
          go_ret
          exact ⟨ret_bool HR.out.symm, rfl⟩
        · have h60i : ¬ (60 : Int) < (m : Int) := by omega
          have hs2 : Hid (((Fs.take (j + 1)).any fun F => decide (60 < F.xs.length)) = false) := by
            unfold Hid
            rw [hst.out, hm.out]; exact decide_eq_false h60
          go_wp2
          go_round
          case rel => exact ⟨j + 1, by omega, by go_num, hs2⟩
          case measure => simp [intOf]; omega
      · obtain rfl : j = tn := by omega
        have HR : Hid (res = true) := by
          unfold Hid
          have := hrel.out
          rw [List.take_of_length_le (by rw [HN.out]; exact Nat.le_refl _)] at this
          rw [HRES.out, this]; rfl
        go_wp2
        go_ret
        exact ⟨ret_bool HR.out.symm, rfl⟩
end Go.Proofs.Ytgmaljikjkbdlaa
namespace Go.Proofs.Ytgmaljikjkbdlaa
open Go.RowKit Lv Go.Shelf
open Ieee (double Format Datum Toward)
attribute [local go_sem] Oper.semAt_some run_store_float drewN_alloc drewN_setCell

end Go.Proofs.Ytgmaljikjkbdlaa
namespace Go.Proofs.Ytgmaljikjkbdlaa
open Go.ChangeShapes Go.WideShapes Go.ChangeAt Go.RowKit Lv

end Go.Proofs.Ytgmaljikjkbdlaa
