/- A slice's copy; a row that is set in a triangle: slices.Clone, tri.Set. -/
import Derived.Test.YtmmligbkecilfaaGreatDoorI
import Derived.Laws.CopyOwn
import Derived.Deep.RegionWith
import Derived.BigQuiet
import Derived.Deep.QuietTactic
import Derived.StillTailTactics
namespace Go.Proofs.YtmmligbkecilfaaGreatDoor
open Go.RowKit Lv Go.Shelf

theorem row_none {w : World} {n cap : Nat} {xs : List (Option Nat)} (h : Row w (.slice none n cap) xs) : n = 0 ∧ cap = 0 ∧ xs = [] := by
  obtain ⟨a', cap', hv, h1, h2, h3⟩ := h
  simp only [Value.slice.injEq] at hv
  obtain ⟨rfl, rfl, rfl⟩ := hv
  rcases h3 with ⟨h3, h4⟩ | ⟨_, _, h3, _⟩
  · exact ⟨h3, h4 rfl, List.length_eq_zero_iff.1 h3⟩
  · cases h3

theorem ownV_nil (w : World) (B : Nat) : OwnV w B (.slice none 0 0) [] := ⟨[], World.ownsRow_nil _ _ _ _, ⟨rfl, fun i hi => absurd hi (Nat.not_lt_zero i)⟩⟩
theorem ownV_empty (w : World) (B : Nat) (hB : B ≤ w.heap.size) : OwnV (w.alloc (.cells #[] 25)) B (.slice (some ⟨w.heap.size, 0, none⟩) 0 0) [] :=
  ⟨[], World.ownsRow_lit w #[] 0 hB (Nat.zero_le _) rfl, ⟨rfl, fun i hi => absurd hi (Nat.not_lt_zero i)⟩⟩

theorem clone_calls (a : Option Addr) (n cap : Nat) (xs : List (Option Nat)) (w : World) (h : Row w (.slice a n cap) xs) (hl : xs.length ≤ 900) :
    Calls Tryz.prog 16 #[.slice a n cap] w fun e w' => ∃ v, e = .returned v ∧ OwnV w' w.heap.size v xs ∧ Below w.heap.size w w' := by
  have hnil := fun (W : World) (m d : Nat) => Lib.run_eql_slice_nil (P := Tryz.prog) W 22 25 a n cap m d Tryz.underlying22
  cases a with
  | none =>
    obtain ⟨rfl, rfl, rfl⟩ := row_none h
    clear h
    go_enter Tryz.func16, Tryz.ntmps16
    go_wp2
    go_ret
    exact ⟨_, rfl, ownV_nil _ _, Below.refl _ _⟩
  | some ad =>
    have HR := Lib.hid (h.alloc (.cells #[] 25))
    have hn : xs.length = n := by
      obtain ⟨a', cap', hv, _⟩ := h
      simp only [Value.slice.injEq] at hv
      omega
    have HN := Lib.hid hn
    clear h hn
    go_enter Tryz.func16, Tryz.ntmps16
    go_wp2_with (at_builtin; go_must (refine wpList_append_F _ rfl _ _ rfl w.heap.size _ [] xs rfl (ownV_empty w _ (Nat.le_refl _)) _ _ _ rfl HR.out (by simp; omega) HN.out (by simp) ?_; intro v' w2 hown' hgrow))
    go_ret
    exact ⟨v', rfl, hown', (((Below.refl _ _).alloc (Nat.le_refl _) _).grown hgrow (by simp) (fun k e => by cases e; exact Nat.le_refl _))⟩

theorem before_int (c i : Nat) (h1 : 1 ≤ c) (h6 : c ≤ 6) (hi : i ≤ c) : wrap64 ((i : Int) * ((c : Int) + 1) - ((i : Int) * ((i : Int) - 1)).tdiv 2) = (offs c i : Int) := by
  have : ∀ c : Nat, c < 7 → ∀ i : Nat, i < 7 → 1 ≤ c → i ≤ c → wrap64 ((i : Int) * ((c : Int) + 1) - ((i : Int) * ((i : Int) - 1)).tdiv 2) = (offs c i : Int) := by decide +kernel
  exact this c (by omega) i (by omega) h1 hi
theorem before_bds (c i : Nat) (h6 : c ≤ 6) (hi : i ≤ c) : (0 ≤ (i : Int) * ((c : Int) + 1) ∧ (i : Int) * ((c : Int) + 1) ≤ 100) ∧ (-100 ≤ (i : Int) * ((i : Int) - 1) ∧ (i : Int) * ((i : Int) - 1) ≤ 100) := by
  have a : ∀ c : Nat, c < 7 → ∀ i : Nat, i < 7 → 0 ≤ (i : Int) * ((c : Int) + 1) ∧ (i : Int) * ((c : Int) + 1) ≤ 100 := by decide +kernel
  have b : ∀ i : Nat, i < 7 → -100 ≤ (i : Int) * ((i : Int) - 1) ∧ (i : Int) * ((i : Int) - 1) ≤ 100 := by decide +kernel
  exact ⟨a c (by omega) i (by omega), b i (by omega)⟩

theorem before_calls (c i : Nat) (w : World) (h1 : 1 ≤ c) (h6 : c ≤ 6) (hi : i ≤ c) :
    Calls Tryz.prog 85 #[.int .i64 (c : Int), .int .i64 (i : Int)] w fun e w' => e = .returned (.int .i64 (offs c i : Int)) ∧ w = w' := by
  obtain ⟨⟨b2, b3⟩, b4, b5⟩ := before_bds c i h6 hi
  have b1 := before_int c i h1 h6 hi
  have hc : (c : Int) ≤ 6 := by omega
  have hi' : (i : Int) ≤ 6 := by omega
  have B1 := Lib.hid b1
  clear b1 h1 h6 hi
  go_enter Tryz.func85, Tryz.ntmps85
  go_wp2
  go_ret
  exact ⟨ret_int B1.out, rfl⟩

theorem splice_take {α : Type} (L cs : List α) (off n : Nat) (h : off + cs.length ≤ n) (hn : n ≤ L.length) : (splice L off cs).take n = splice (L.take n) off cs := by
  unfold splice
  rw [List.take_append, List.take_take, List.length_take, List.take_append, List.take_of_length_le (l := cs) (by omega), List.take_take, List.drop_take]
  congr 1
  · congr 1; omega
  · congr 1
    congr 1
    omega

theorem Vals.splice {vs us : List Value} {xs ys : List (Option Nat)} (h : Vals vs xs) (k : Vals us ys) (off : Nat) (ho : off + ys.length ≤ xs.length) : Vals (splice vs off us) (splice xs off ys) := by
  unfold Go.splice
  rw [k.1]
  refine Vals.append ⟨by simp [h.1], fun i hi => ?_⟩ (Vals.append k ⟨by simp [h.1], fun i hi => ?_⟩)
  · rw [List.length_take] at hi
    obtain ⟨b, h1, h2⟩ := h.2 i (by omega)
    exact ⟨b, by rw [List.getElem?_take_of_lt (by omega)]; exact h1, by rw [List.getD_eq_getElem?_getD, List.getElem?_take_of_lt (by omega), ← List.getD_eq_getElem?_getD]; exact h2⟩
  · rw [List.length_drop] at hi
    obtain ⟨b, h1, h2⟩ := h.2 (off + ys.length + i) (by omega)
    exact ⟨b, by rw [List.getElem?_drop]; exact h1, by rw [List.getD_eq_getElem?_getD, List.getElem?_drop, ← List.getD_eq_getElem?_getD]; exact h2⟩

/-- copy of floats into what is one's own -/
theorem wpList_copy_F (w : World) {ops : Array Oper} {rest : List Oper} {o : Oper} {a : Act} {Q : Exit → Act → World → Prop}
    (hg : o.guard = none) (d s : Operand) (hop : o.op = Op.call { callee := Callee.builtin Builtin.copy, args := #[d, s], argTypes := #[22, 22] })
    (B g n cap off : Nat) (xs ys : List (Option Nat)) (hown : OwnV w B (.slice (some ⟨g, 0, none⟩) n cap) xs) (hn : xs.length = n) (dl dc : Nat) (hd : a.eval d = .slice (some ⟨g, off, none⟩) dl dc) (ad : Addr) (m c : Nat) (hs : a.eval s = .slice (some ad) m c) (hy : Row w (.slice (some ad) m c) ys)
    (hm : ys.length = m) (hdl : m ≤ dl) (hfit : off + m ≤ n)
    (hK : ∀ w', OwnV w' B (.slice (some ⟨g, 0, none⟩) n cap) (splice xs off ys) → Below g w w' → wpList Tryz.prog ops Q rest (a.put o.dst (goInt m)) w') :
    wpList Tryz.prog ops Q (o :: rest) a w := by
  subst hn
  obtain ⟨vs, ho, hv⟩ := hown
  obtain ⟨us, hu, hul, huc⟩ := hy.vals
  rcases ho.2 with ⟨h, _⟩ | ⟨g', cap', cur, e1, h2, h3, h4, h5, h6, h7⟩
  · simp at h
  · simp only [Value.slice.injEq, Option.some.injEq, Addr.mk.injEq, and_true, true_and] at e1
    obtain ⟨rfl, rfl⟩ := e1
    have h6' : cur.toList.length = cap := by rw [Array.length_toList]; omega
    rw [Nat.mul_one] at h7
    refine wpList_copy_splice hg d s _ _ hop 25 Tryz.underlying22 (by kernel_rfl) (some ⟨g, off, none⟩) (some ad) dl dc m c hd hs g off cur.toList 25 (by simpa using h3) us (by rw [hul]; exact (Nat.min_eq_left hdl).symm) (fun _ => ⟨rfl, ad, rfl, huc⟩) (by rw [h6', hul]; omega) hu.one g w (Below.refl _ _) (Nat.le_refl _) ?_
    intro w' hg' hb'
    rw [hul]
    refine hK w' ⟨splice vs off us, ?_, hv.splice hu off (by omega)⟩ hb'
    have hls : (splice xs off ys).length = xs.length := length_splice _ _ _ (by omega)
    rw [hls]
    refine ⟨?_, .inr ⟨g, cap, _, rfl, h2, hg'.out, h4, h5, ?_, ?_⟩⟩
    · rw [length_splice _ _ _ (by rw [hv.1, hul]; omega), hv.1]; omega
    · simp only [List.size_toArray]
      rw [length_splice _ _ _ (by rw [h6', hul]; omega), h6']
      omega
    · rw [Nat.mul_one]
      show (splice cur.toList off us).take xs.length = _
      rw [splice_take _ _ _ _ (by rw [hul]; omega) (by rw [h6']; omega), h7]

/-- a triangle, one of whose rows is another one -/
def setP (xs : List (Option Nat)) (c i : Nat) (l : List (Option Nat)) : List (Option Nat) := splice xs (offs c i) (l.drop i)

theorem bcell {W w1 : World} (hb : Below W.heap.size W w1) : (∀ b o, b < W.heap.size → w1.cell? ⟨b, o, none⟩ = W.cell? ⟨b, o, none⟩) ∧ (∀ b o, b < W.heap.size → w1.frozen? ⟨b, o, none⟩ = W.frozen? ⟨b, o, none⟩) :=
  ⟨fun b o h => hb.cell (p := ⟨b, o, none⟩) h, fun b o h => hb.frozen (p := ⟨b, o, none⟩) h⟩

/-- the zero factor -/
def facZ : Value := .agg #[.int .i64 0, .slice none 0 0, .int .i64 0, .int .i64 0]

theorem set_no (cols rws trn i : Int) (a b : Option Addr) (n cap m d : Nat) (xs : List (Option Nat)) (w : World) (h : Row w (.slice a n cap) xs)
    (hno : (checkP cols xs rws trn && decide (0 ≤ i) && decide (i ≤ cols)) = false) :
    Calls Tryz.prog 62 #[.agg #[.int .i64 cols, .slice a n cap, .int .i64 rws, .int .i64 trn], .int .i64 i, .slice b m d] w fun e w' => e = .returned (.tuple #[facZ, .bool false]) ∧ Below w.heap.size w w' := by
  have hr := (h.alloc (.cells #[.int .i64 cols, .slice a n cap, .int .i64 rws, .int .i64 trn] 24)).alloc (.cells #[.int .i64 0, .slice none 0 0, .int .i64 0, .int .i64 0] 24)
  have L := Lib.hid (has_calls cols rws trn i a n cap xs _ hr)
  rw [hno] at L
  clear h hr hno
  go_enter Tryz.func62, Tryz.ntmps62
  go_wp2_with (go_at_call 79; refine L.out.mono ?_; rintro e w1 ⟨rfl, hb⟩; obtain ⟨hc, hf⟩ := bcell hb)
  have hB := (((Below.refl w.heap.size w).alloc (Nat.le_refl _) (.cells #[.int .i64 cols, .slice a n cap, .int .i64 rws, .int .i64 trn] 24)).alloc (by simp) (.cells #[.int .i64 0, .slice none 0 0, .int .i64 0, .int .i64 0] 24)).trans (hb.mono (by simp; omega))
  exact bodyPost_ret (v := .tuple #[facZ, .bool false]) (by simp [results, Tryz.results62, go_sem, hc, facZ]) rfl ⟨rfl, (((hB.setCell (p := ⟨w.heap.size + 1, 0, none⟩) (by simp) _).setCell (p := ⟨w.heap.size + 1, 1, none⟩) (by simp) _).setCell (p := ⟨w.heap.size + 1, 2, none⟩) (by simp) _).setCell (p := ⟨w.heap.size + 1, 3, none⟩) (by simp) _⟩

theorem set_len (c i : Nat) (rws trn : Int) (a b : Option Addr) (n cap m d : Nat) (xs : List (Option Nat)) (w : World) (h : Row w (.slice a n cap) xs)
    (hyes : (checkP (c : Int) xs rws trn && decide (0 ≤ (i : Int)) && decide ((i : Int) ≤ (c : Int))) = true) (h6 : c ≤ 6) (hm : m ≠ c + 1) :
    Calls Tryz.prog 62 #[.agg #[.int .i64 (c : Int), .slice a n cap, .int .i64 rws, .int .i64 trn], .int .i64 (i : Int), .slice b m d] w fun e w' => e = .returned (.tuple #[facZ, .bool false]) ∧ Below w.heap.size w w' := by
  have hr := (h.alloc (.cells #[.int .i64 (c : Int), .slice a n cap, .int .i64 rws, .int .i64 trn] 24)).alloc (.cells #[.int .i64 0, .slice none 0 0, .int .i64 0, .int .i64 0] 24)
  have L := Lib.hid (has_calls c rws trn i a n cap xs _ hr)
  rw [hyes] at L
  have hne : ((m : Int) != (c : Int) + 1) = true := by simp; omega
  have hc6 : (c : Int) ≤ 6 := by omega
  clear h hr hyes hm h6
  go_enter Tryz.func62, Tryz.ntmps62
  go_wp2_with (go_at_call 79; refine L.out.mono ?_; rintro e w1 ⟨rfl, hb⟩; obtain ⟨hc, hf⟩ := bcell hb)
  have hB := (((Below.refl w.heap.size w).alloc (Nat.le_refl _) (.cells #[.int .i64 (c : Int), .slice a n cap, .int .i64 rws, .int .i64 trn] 24)).alloc (by simp) (.cells #[.int .i64 0, .slice none 0 0, .int .i64 0, .int .i64 0] 24)).trans (hb.mono (by simp; omega))
  exact bodyPost_ret (v := .tuple #[facZ, .bool false]) (by simp [results, Tryz.results62, go_sem, hc, facZ]) rfl ⟨rfl, (((hB.setCell (p := ⟨w.heap.size + 1, 0, none⟩) (by simp) _).setCell (p := ⟨w.heap.size + 1, 1, none⟩) (by simp) _).setCell (p := ⟨w.heap.size + 1, 2, none⟩) (by simp) _).setCell (p := ⟨w.heap.size + 1, 3, none⟩) (by simp) _⟩

/-- a factor and true, or the zero factor and false -/
def FacOr (t : Bool) (c rws trn : Int) (B : Nat) (xs : List (Option Nat)) (e : Ending) (w' : World) : Prop :=
  if t = true then ∃ v, e = .returned (.tuple #[.agg #[.int .i64 c, v, .int .i64 rws, .int .i64 trn], .bool true]) ∧ OwnV w' B v xs else e = .returned (.tuple #[facZ, .bool false])

set_option maxRecDepth 100000 in
set_option maxHeartbeats 1000000 in
theorem set_yes (c i : Nat) (rws trn : Int) (a b : Option Addr) (n cap d : Nat) (xs ls : List (Option Nat)) (w : World) (h : Row w (.slice a n cap) xs) (hl : Row w (.slice b (c + 1) d) ls)
    (hch : checkP (c : Int) xs rws trn = true) (h1 : 1 ≤ c) (h6 : c ≤ 6) (hi : i ≤ c) (hxl : xs.length = tsz c) :
    Calls Tryz.prog 62 #[.agg #[.int .i64 (c : Int), .slice a n cap, .int .i64 rws, .int .i64 trn], .int .i64 (i : Int), .slice b (c + 1) d] w fun e w' =>
      FacOr (checkP (c : Int) (setP xs c i ls) rws trn) (c : Int) rws trn w.heap.size (setP xs c i ls) e w' ∧ Below w.heap.size w w' := by
  obtain ⟨lb, lo, rfl, hlsl, hd1, hd2, hlc⟩ : ∃ lb lo, b = some ⟨lb, lo, none⟩ ∧ ls.length = c + 1 ∧ c + 1 ≤ d ∧ d ≤ maxLen ∧ ∀ j, j < c + 1 → ∃ x, w.cell? ⟨lb, lo + j, none⟩ = some (.float .f64 x) ∧ FW x (ls.getD j none) := by
    obtain ⟨b', d', e, hd1, hd2, hcase⟩ := hl
    simp only [Value.slice.injEq] at e
    obtain ⟨rfl, e2, rfl⟩ := e
    rw [← e2] at hcase hd1
    rcases hcase with ⟨h0, _⟩ | ⟨lb, lo, rfl, hlc⟩
    · omega
    · exact ⟨lb, lo, rfl, e2.symm, hd1, hd2, hlc⟩
  have HLC := Lib.hid hlc
  have HLS := Lib.hid hlsl
  clear hlc hlsl
  have hr := (h.alloc (.cells #[.int .i64 (c : Int), .slice a n cap, .int .i64 rws, .int .i64 trn] 24)).alloc (.cells #[.int .i64 0, .slice none 0 0, .int .i64 0, .int .i64 0] 24)
  have L := Lib.hid (has_calls c rws trn i a n cap xs _ hr)
  have hyes : (checkP (c : Int) xs rws trn && decide (0 ≤ (i : Int)) && decide ((i : Int) ≤ (c : Int))) = true := by rw [hch]; simp; omega
  rw [hyes] at L
  have hne : (((c + 1 : Nat) : Int) != (c : Int) + 1) = false := by simp
  have hne' : ((c : Int) + 1 != (c : Int) + 1) = false := by simp
  have hc6 : (c : Int) ≤ 6 := by omega
  have HR := Lib.hid h
  have hlen := tsz_bounds h1 h6
  have hx3 : 3 ≤ xs.length ∧ xs.length ≤ 28 := by omega
  have HX := Lib.hid hxl
  clear h hr hyes hch hxl hlen
  go_enter Tryz.func62, Tryz.ntmps62
  go_wp2_with (first | (go_at_call 79; refine L.out.mono ?_; rintro e w1 ⟨rfl, hb⟩; obtain ⟨hc, hf⟩ := bcell hb) | (go_at_call 16; refine (clone_calls a n cap xs _ (HR.out.below ((((Below.refl w.heap.size w).alloc (Nat.le_refl _) _).alloc (by simp) _).trans (hb.mono (by simp; omega)))) (by have := hx3; omega)).mono ?_; rintro e w2 ⟨v2, rfl, hown, hb2⟩; obtain ⟨hc2, hf2⟩ := bcell hb2; obtain ⟨g, cap2, hv2, hg1, hg2, hg3, hg4⟩ := hown.shape (by omega); subst hv2; have hz := hb.size; simp at hz; have hz1 : w.heap.size + 1 < w1.heap.size := (by omega); have hz0 : w.heap.size < w1.heap.size := (by omega); clear hz; have hz2 := hb2.size))
  have hB2 : Below w.heap.size w w2 := ((((Below.refl w.heap.size w).alloc (Nat.le_refl _) _).alloc (by simp) _).trans (hb.mono (by simp; omega))).trans (hb2.mono (by omega))
  have hB3 := hB2.setCell (p := ⟨w.heap.size, 1, none⟩) (Nat.le_refl _) (.slice (some ⟨g, 0, none⟩) xs.length cap2)
  have e0 : w2.cell? ⟨w.heap.size, 0, none⟩ = some (.int .i64 (c : Int)) := (hc2 _ _ hz0).trans ((hc _ _ (by simp; omega)).trans (by simp [go_sem]))
  have e1 : w2.cell? ⟨w.heap.size, 1, none⟩ = some (.slice a n cap) := (hc2 _ _ hz0).trans ((hc _ _ (by simp; omega)).trans (by simp [go_sem]))
  have e2 : w2.cell? ⟨w.heap.size, 2, none⟩ = some (.int .i64 rws) := (hc2 _ _ hz0).trans ((hc _ _ (by simp; omega)).trans (by simp [go_sem]))
  have e3 : w2.cell? ⟨w.heap.size, 3, none⟩ = some (.int .i64 trn) := (hc2 _ _ hz0).trans ((hc _ _ (by simp; omega)).trans (by simp [go_sem]))
  have f0 : ∀ o, w2.frozen? ⟨w.heap.size, o, none⟩ = false := fun o => (hf2 _ _ hz0).trans ((hf _ _ (by simp; omega)).trans (by simp [go_sem]))
  have r0 : w2.cell? ⟨w.heap.size + 1, 0, none⟩ = some (.int .i64 0) := (hc2 _ _ hz1).trans ((hc _ _ (by simp)).trans (by simp [go_sem]))
  have r1 : w2.cell? ⟨w.heap.size + 1, 1, none⟩ = some (.slice none 0 0) := (hc2 _ _ hz1).trans ((hc _ _ (by simp)).trans (by simp [go_sem]))
  have r2 : w2.cell? ⟨w.heap.size + 1, 2, none⟩ = some (.int .i64 0) := (hc2 _ _ hz1).trans ((hc _ _ (by simp)).trans (by simp [go_sem]))
  have r3 : w2.cell? ⟨w.heap.size + 1, 3, none⟩ = some (.int .i64 0) := (hc2 _ _ hz1).trans ((hc _ _ (by simp)).trans (by simp [go_sem]))
  have g0 : ∀ o, w2.frozen? ⟨w.heap.size + 1, o, none⟩ = false := fun o => (hf2 _ _ hz1).trans ((hf _ _ (by simp)).trans (by simp [go_sem]))
  have k0 := cell_set_off (o := 1) (v := .slice (some ⟨g, 0, none⟩) xs.length cap2) e0 (by decide)
  have k1 := cell_set_eq (v := .slice (some ⟨g, 0, none⟩) xs.length cap2) e1
  have k2 := cell_set_off (o := 1) (v := .slice (some ⟨g, 0, none⟩) xs.length cap2) e2 (by decide)
  have k3 := cell_set_off (o := 1) (v := .slice (some ⟨g, 0, none⟩) xs.length cap2) e3 (by decide)
  have m0 := fun o => frozen_set (b := w.heap.size) (o := 1) (v := .slice (some ⟨g, 0, none⟩) xs.length cap2) (f0 o)
  have s0 := cell_set_ne (b := w.heap.size) (o := 1) (v := .slice (some ⟨g, 0, none⟩) xs.length cap2) r0 (by omega)
  have s1 := cell_set_ne (b := w.heap.size) (o := 1) (v := .slice (some ⟨g, 0, none⟩) xs.length cap2) r1 (by omega)
  have s2 := cell_set_ne (b := w.heap.size) (o := 1) (v := .slice (some ⟨g, 0, none⟩) xs.length cap2) r2 (by omega)
  have s3 := cell_set_ne (b := w.heap.size) (o := 1) (v := .slice (some ⟨g, 0, none⟩) xs.length cap2) r3 (by omega)
  have t0 := fun o => frozen_set (b := w.heap.size) (o := 1) (v := .slice (some ⟨g, 0, none⟩) xs.length cap2) (g0 o)
  have hown3 := hown.setOther (b := w.heap.size) (o := 1) (u := .slice (some ⟨g, 0, none⟩) xs.length cap2) (by omega)
  have hl3 := hl.below hB3
  have hsz3 : w2.heap.size = (w2.setCell ⟨w.heap.size, 1, none⟩ (.slice (some ⟨g, 0, none⟩) xs.length cap2)).heap.size := by simp
  have hgs : g < (w2.setCell ⟨w.heap.size, 1, none⟩ (.slice (some ⟨g, 0, none⟩) xs.length cap2)).heap.size := by simp; omega
  generalize (w2.setCell ⟨w.heap.size, 1, none⟩ (.slice (some ⟨g, 0, none⟩) xs.length cap2)) = W at *
  clear e0 e1 e2 e3 f0 r0 r1 r2 r3 g0 hc hf hc2 hf2 hb hb2 hown hB2 L hl HR
  have hof : offs c i + (c + 1 - i) ≤ xs.length := by have := offs_le c i h1 h6 (by omega); have := HX.out; unfold tsz at this; omega
  have ho0 : offs c i ≤ xs.length := by omega
  have ho1 : (offs c i : Int) ≤ (xs.length : Int) := by omega
  have ho2 : ¬ cap2 = offs c i := by omega
  have hi1 : (i : Int) ≤ (c : Int) + 1 := by omega
  have hi2 : i ≤ c + 1 := by omega
  have hi3 : ¬ d = i := by omega
  go_still_tail 10, (by kernel_rfl)
  still_call ((before_calls c i _ h1 h6 hi).mono (fun e w' h => ⟨h.1, h.2.symm⟩))
  repeat still_step
  refine wpStill_nil ?_
  have hlr : Row W (.slice (some ⟨lb, lo + i, none⟩) (c + 1 - i) (d - i)) (ls.drop i) := by
    have := HLS.out
    refine ⟨_, _, by rw [List.length_drop, this], by rw [List.length_drop]; omega, by omega, .inr ⟨lb, lo + i, rfl, fun j hj => ?_⟩⟩
    rw [List.length_drop] at hj
    obtain ⟨x, hx1, hx2⟩ := HLC.out (i + j) (by omega)
    refine ⟨x, by rw [Nat.add_assoc]; exact (hB3.cell (p := ⟨lb, lo + (i + j), none⟩) (cell_lt hx1)).trans hx1, ?_⟩
    rw [List.getD_eq_getElem?_getD, List.getElem?_drop, ← List.getD_eq_getElem?_getD]
    exact hx2
  have HLR := Lib.hid hlr
  have HO3 := Lib.hid hown3
  clear hlr hown3 hl3
  change wpList _ _ _ _ _ W.drew
  have hB4 := hB3.drew
  refine wpList_copy_F W.drew rfl _ _ rfl w1.heap.size g xs.length cap2 (offs c i) xs (ls.drop i) HO3.out rfl _ _ rfl _ _ _ rfl HLR.out (by rw [List.length_drop, HLS.out]) (by omega) (by omega) ?_
  intro W4 hown4 hb4
  have k0' := (hb4.cell (p := ⟨w.heap.size, 0, none⟩) (by simp; omega)).trans k0
  have k1' := (hb4.cell (p := ⟨w.heap.size, 1, none⟩) (by simp; omega)).trans k1
  have k2' := (hb4.cell (p := ⟨w.heap.size, 2, none⟩) (by simp; omega)).trans k2
  have k3' := (hb4.cell (p := ⟨w.heap.size, 3, none⟩) (by simp; omega)).trans k3
  have s0' := (hb4.cell (p := ⟨w.heap.size + 1, 0, none⟩) (by simp; omega)).trans s0
  have s1' := (hb4.cell (p := ⟨w.heap.size + 1, 1, none⟩) (by simp; omega)).trans s1
  have s2' := (hb4.cell (p := ⟨w.heap.size + 1, 2, none⟩) (by simp; omega)).trans s2
  have s3' := (hb4.cell (p := ⟨w.heap.size + 1, 3, none⟩) (by simp; omega)).trans s3
  have t0' : ∀ o, W4.frozen? ⟨w.heap.size + 1, o, none⟩ = false := fun o => (hb4.frozen (p := ⟨w.heap.size + 1, o, none⟩) (by simp; omega)).trans (t0 o)
  have hB5 := hB4.trans (hb4.mono (show w.heap.size ≤ g by omega))
  have hz4 : w.heap.size + 1 < W4.heap.size := by have := hb4.size; have : W.drew.heap.size = W.heap.size := rfl; omega
  have hz5 : w.heap.size < W4.heap.size := by omega
  have HO4 := Lib.hid (show OwnV W4 w1.heap.size (.slice (some ⟨g, 0, none⟩) xs.length cap2) (setP xs c i ls) from hown4)
  have hr4 : Row W4 (.slice (some ⟨g, 0, none⟩) xs.length cap2) (setP xs c i ls) := HO4.out.row
  have HR4 := Lib.hid hr4
  clear hown4 hr4 k0 k1 k2 k3 s0 s1 s2 s3 t0 m0 hb4 hB4 hB3 hof ho0 ho1 ho2 hne hne' hi3
  go_wp2_with (go_at_call 29; refine (check_calls _ _ _ _ _ _ (setP xs c i ls) _ HR4.out).mono ?_; rintro e w5 ⟨rfl, hb5⟩; obtain ⟨hc5, hf5⟩ := bcell hb5)
  all_goals have hB6 := hB5.trans (hb5.mono (by omega))
  · have ht : (!checkP (c : Int) (setP xs c i ls) rws trn) = true := by assumption
    exact bodyPost_ret (v := .tuple #[facZ, .bool false]) (by simp [results, Tryz.results62, go_sem, hc5, facZ, s0', s1', s2', s3', hz4]) rfl ⟨by unfold FacOr; rw [if_neg (by simpa using ht)], (((hB6.setCell (p := ⟨w.heap.size + 1, 0, none⟩) (by simp) _).setCell (p := ⟨w.heap.size + 1, 1, none⟩) (by simp) _).setCell (p := ⟨w.heap.size + 1, 2, none⟩) (by simp) _).setCell (p := ⟨w.heap.size + 1, 3, none⟩) (by simp) _⟩
  · have ht : (!checkP (c : Int) (setP xs c i ls) rws trn) = false := by assumption
    have ho6 := HO4.out.below hb5 (Nat.le_refl _)
    have ho7 := (((ho6.setOther (b := w.heap.size + 1) (o := 0) (u := .int .i64 (c : Int)) (by omega)).setOther (b := w.heap.size + 1) (o := 1) (u := .slice (some ⟨g, 0, none⟩) xs.length cap2) (by omega)).setOther (b := w.heap.size + 1) (o := 2) (u := .int .i64 rws) (by omega)).setOther (b := w.heap.size + 1) (o := 3) (u := .int .i64 trn) (by omega)
    exact bodyPost_ret (v := .tuple #[.agg #[.int .i64 (c : Int), .slice (some ⟨g, 0, none⟩) xs.length cap2, .int .i64 rws, .int .i64 trn], .bool true]) (by simp [results, Tryz.results62, go_sem, hc5, s0', s1', s2', s3', hz4]) rfl ⟨by unfold FacOr; rw [if_pos (by simpa using ht)]; exact ⟨_, rfl, ho7.mono (by omega)⟩, (((hB6.setCell (p := ⟨w.heap.size + 1, 0, none⟩) (by simp) _).setCell (p := ⟨w.heap.size + 1, 1, none⟩) (by simp) _).setCell (p := ⟨w.heap.size + 1, 2, none⟩) (by simp) _).setCell (p := ⟨w.heap.size + 1, 3, none⟩) (by simp) _⟩
end Go.Proofs.YtmmligbkecilfaaGreatDoor
