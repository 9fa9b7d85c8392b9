/- The reference's Shl and Shr of layer 2. The reference's Shr of layer 2. The reference's Mul of layer 2. The reference's Root of layer 2. -/
import Derived.Test.YtmmligbkecilfaaGreatDoorNz
namespace Go.Proofs.YtmmligbkecilfaaGreatDoor
open Go.RowKit Lv Go.Shelf
attribute [local go_sem] Oper.semAt_some

theorem ownW_made (W : World) (B m : Nat) (hB : B ≤ W.heap.size) (hm : m ≤ 900) : OwnW (W.alloc (.cells (madeCells (Value.int .u32 0).cells m) 110)) B (.slice (some ⟨W.heap.size, 0, none⟩) m m) (List.replicate m 0) := by
  have e : (Value.int IntKind.u32 0).cells = #[Value.int IntKind.u32 0] := rfl
  rw [e]
  refine ⟨dig_rep m, ?_⟩
  show World.ownsRow _ _ _ _ _ _ _
  rw [List.map_replicate, List.length_replicate]
  refine ⟨by simp, .inr ⟨W.heap.size, m, madeCells #[.int .u32 0] m, rfl, by omega, World.alloc_heap_new W _, Nat.le_refl _, by unfold maxLen; omega, by rw [size_madeCells]; simp, ?_⟩⟩
  rw [toList_madeCells_one]; simp
set_option maxRecDepth 100000 in
set_option maxHeartbeats 2000000 in
theorem nshl_calls (v : Value) (x k : Nat) (w : World) (h : Nt w v x) (hx : sz x ≤ 9600) (hk : k ≤ 9600) :
    Calls Tryz.prog 50 #[v, .int .i64 (k : Int)] w fun e w' => (∃ z, e = .returned z ∧ Nt w' z (x * 2 ^ k)) ∧ Below w.heap.size w w' := by
  obtain ⟨L, a, cap, rfl, h1, h2, h3⟩ := h.ws
  obtain ⟨n, hn⟩ : ∃ n, L.length = n := ⟨_, rfl⟩
  have hn3 := nt_len h1.1 h2 h3 hx
  rw [hn] at h1 hn3
  rw [hn]
  have HX := Lib.hid (And.intro hn h3)
  have H1 := Lib.hid h1
  obtain ⟨m, hm⟩ : ∃ m, k / 32 = m := ⟨_, rfl⟩
  obtain ⟨r, hr⟩ : ∃ r, k % 32 = r := ⟨_, rfl⟩
  have hmi : (k : Int) / 32 = (m : Int) := by omega
  have hri : (k : Int) % 32 = (r : Int) := by omega
  have hr31 : r < 32 := by omega
  have hm3 : m ≤ 300 := by omega
  have hk0 : ¬ (k : Int) < 0 := by omega
  have hk1 : ¬ 100000 < (k : Int) := by omega
  have TC := Lib.hid (fun (a : Option Addr) (n c : Nat) O W h hl => trim_calls a n c O W h hl)
  obtain ⟨i0, hin, hz0, hz1, hz2⟩ := info_parts infoW
  have hmk := fun W => run_make (P := Tryz.prog) W 50 110 i0 _ Tryz.underlying50 hin hz0 .i64 .i64 m m (by omega) (by omega) (by rw [hz2]; omega) (by omega)
  rw [show ((m : Int)).toNat = m from Int.toNat_natCast m, hz1, Nat.mul_one] at hmk
  clear h h1 h2 h3 hx hn hin hz0 hz1 hz2
  go_enter Tryz.func50, Tryz.ntmps50
  go_wp2
  have OM := Lib.hid (ownW_made w w.heap.size m (Nat.le_refl _) (by omega))
  go_loopw [5, 6, 7] (fun s5 s6 s7 wr => ∃ (i c : Nat) (O : List Nat), s7 = .int .i64 (i : Int) ∧ s6 = .int .u64 (c : Int) ∧ c < 2147483648 ∧ i ≤ n ∧ Hid (OwnW wr w.heap.size s5 (List.replicate m 0 ++ O) ∧ O.length = i ∧ wval O + 2 ^ (32 * i) * c = wval (L.take i) * 2 ^ r ∧ Below w.heap.size w wr)) (fun _ _ s7 _ => n - (intOf s7).toNat)
  case atStart => exact ⟨0, 0, [], rfl, rfl, by omega, by omega, by rw [List.append_nil]; exact OM.out, rfl, by simp [wval], (Below.refl _ _).alloc (Nat.le_refl _) _⟩
  case round =>
    obtain ⟨i, c, O, rfl, rfl, hc, hi, HK⟩ := hrel
    have HP : 2 ^ r ≤ 2147483648 := Nat.le_trans (Nat.pow_le_pow_right (n := 2) (by decide) (show r ≤ 31 by omega)) (by decide)
    have HR := Lib.hid HP
    by_cases hlt : i < n
    · have hii : (i : Int) < (n : Int) := by omega
      obtain ⟨blk, off, rfl, hcs⟩ := (H1.out.below HK.out.2.2.2).at (by omega)
      have hx1 := hcs i hlt
      have hd1 := H1.out.1.at i
      obtain ⟨t, ht⟩ : ∃ t, L.getD i 0 * 2 ^ r = t := ⟨_, rfl⟩
      obtain ⟨s, hs⟩ : ∃ s, L.getD i 0 * 2 ^ r + c = s := ⟨_, rfl⟩
      have HST := Lib.hid (shl_step HK.out.2.1 HK.out.2.2.1 hs)
      have htm : t ≤ 4294967295 * 2147483648 := by rw [← ht]; exact Nat.mul_le_mul (by omega) HP
      have hti : (L.getD i 0 : Int) * 2 ^ r = (t : Int) := by rw [← ht]; push_cast; rfl
      have HSZ := Lib.hid HK.out.2.2.2.size
      have HLN := Lib.hid (show (List.replicate m 0 ++ O).length + [s % 4294967296].length ≤ 1000 by rw [List.length_append, List.length_replicate, HK.out.2.1]; simp; omega)
      have HB := Lib.hid (fun e (he : u5.ownBlock = some e) => HK.out.1.base e he)
      rw [ht] at hs
      clear hcs HP ht
      generalize L.getD i 0 = d at *
      obtain ⟨q, hq⟩ : ∃ q, s / 4294967296 = q := ⟨_, rfl⟩
      obtain ⟨f, hf⟩ : ∃ f, s % 4294967296 = f := ⟨_, rfl⟩
      rw [hq, hf] at HST
      rw [hf] at HLN
      have hf32 : f < 4294967296 := by omega
      have hq1 : q < 2147483648 := by omega
      have hwt : IntKind.u64.wrap (t : Int) = (t : Int) := IntWalk.u64_in _ (by omega)
      have hsi : (t : Int) + (c : Int) = (s : Int) := by omega
      have hqi : (s : Int) / 4294967296 = (q : Int) := by omega
      have hwr := wrap32n s f hf
      have hsl : s < 18446744073709551616 := by omega
      clear hq hf hs
      go_wp2_with (at_builtin; go_must (refine wpList_append_W _ rfl _ _ 50 Tryz.underlying50 rfl w.heap.size _ (List.replicate m 0 ++ O) [f] rfl (HK.out.1.below ((Below.refl _ _).alloc (Nat.le_refl _) _) (Nat.le_refl _)) _ _ _ rfl (ws_lits _ [f] _ 1 (by simp) (Dig.one hf32) rfl (by decide)) HLN.out (by have := HSZ.out; simp; omega) ?_; intro v9 w3 hown9 hg9))
      have hBf : Below w.heap.size w w3 := (HK.out.2.2.2.alloc HSZ.out _).grown hg9 (by have := HSZ.out; simp; omega) HB.out
      go_roundw
      case rel => exact ⟨i + 1, q, O ++ [f], by go_num, rfl, hq1, hlt, by rw [← List.append_assoc]; exact hown9, by rw [List.length_append, HK.out.2.1]; rfl, HST.out, hBf⟩
      case measure => simp [intOf]; omega
    · have hii : ¬ (i : Int) < (n : Int) := by omega
      obtain rfl : i = n := by omega
      have HV := Lib.hid (shl_end HK.out.2.1 HX.out.1 HK.out.2.2.1 HX.out.2 hm hr)
      have HSZ := Lib.hid HK.out.2.2.2.size
      have HLN := Lib.hid (show (List.replicate m 0 ++ O).length + [c].length ≤ 1000 by rw [List.length_append, List.length_replicate, HK.out.2.1]; simp; omega)
      have HL9 := Lib.hid (show ((List.replicate m 0 ++ O) ++ [c]).length ≤ 900 by rw [List.length_append, List.length_append, List.length_replicate, HK.out.2.1]; simp; omega)
      obtain ⟨z, hz⟩ : ∃ z, ((List.replicate m 0 ++ O) ++ [c]).length = z := ⟨_, rfl⟩
      have HZ := Lib.hid hz
      clear hz
      have hwr := wrap32n c c (by omega)
      have HB := Lib.hid (fun e (he : u5.ownBlock = some e) => HK.out.1.base e he)
      clear hm hr
      go_wp2_with (first
        | (at_builtin; go_must (refine wpList_append_W _ rfl _ _ 50 Tryz.underlying50 rfl w.heap.size _ (List.replicate m 0 ++ O) [c] rfl (HK.out.1.below ((Below.refl _ _).alloc (Nat.le_refl _) _) (Nat.le_refl _)) _ _ _ rfl (ws_lits _ [c] _ 1 (by simp) (Dig.one (by omega)) rfl (by decide)) HLN.out (by have := HSZ.out; simp; omega) ?_; intro v9 w3 hown9 hg9; obtain ⟨oa, ocp, hv9⟩ := hown9.ws.form; rw [HZ.out] at hv9; subst hv9; have HO9 := Lib.hid hown9.ws; clear hown9; have hBf : Below w.heap.size w w3 := (HK.out.2.2.2.alloc HSZ.out _).grown hg9 (by have := HSZ.out; simp; omega) HB.out))
        | (go_at_call 72; go_must (refine (TC.out oa z ocp ((List.replicate m 0 ++ O) ++ [c]) _ HO9.out HL9.out).mono ?_; rintro e w1 ⟨⟨v, rfl, hv⟩, hb⟩)))
      go_ret
      exact ⟨⟨_, rfl, by rw [← HV.out]; exact hv⟩, hBf.trans (hb.mono hBf.size)⟩
end Go.Proofs.YtmmligbkecilfaaGreatDoor
namespace Go.Proofs.YtmmligbkecilfaaGreatDoor
open Go.RowKit Lv Go.Shelf
attribute [local go_sem] Oper.semAt_some

theorem nquiet {f : Nat} {args : Array Value} {v : Value} {w : World} (h : Calls Tryz.prog f args w fun e w' => e = .returned v ∧ w = w') : Calls Tryz.prog f args w fun e w' => e = .returned v ∧ w' = w := h.mono fun _ _ ⟨a, b⟩ => ⟨a, b.symm⟩
set_option maxRecDepth 100000 in
set_option maxHeartbeats 2000000 in
theorem nshr_calls (v : Value) (x k : Nat) (w : World) (h : Nt w v x) (hx : sz x ≤ 9600) (hk : k ≤ 9600) :
    Calls Tryz.prog 73 #[v, .int .i64 (k : Int)] w fun e w' => (∃ z, e = .returned (.tuple #[z, .bool (decide (x / 2 ^ k * 2 ^ k = x))]) ∧ Nt w' z (x / 2 ^ k)) ∧ Below w.heap.size w w' := by
  obtain ⟨L, a, cap, rfl, h1, h2, h3⟩ := h.ws
  obtain ⟨n, hn⟩ : ∃ n, L.length = n := ⟨_, rfl⟩
  have hn3 := nt_len h1.1 h2 h3 hx
  have HNT := Lib.hid h
  rw [hn] at h1 hn3 HNT
  rw [hn]
  have HX := Lib.hid (And.intro hn h3)
  have H1 := Lib.hid h1
  have HSX := Lib.hid hx
  obtain ⟨m, hm⟩ : ∃ m, k / 32 = m := ⟨_, rfl⟩
  obtain ⟨r, hr⟩ : ∃ r, k % 32 = r := ⟨_, rfl⟩
  have hmi : (k : Int) / 32 = (m : Int) := by omega
  have hri : (k : Int) % 32 = (r : Int) := by omega
  have hr31 : r < 32 := by omega
  have hm3 : m ≤ 300 := by omega
  have hk0 : ¬ (k : Int) < 0 := by omega
  have hk1 : ¬ 100000 < (k : Int) := by omega
  have TC := Lib.hid (fun (a : Option Addr) (n c : Nat) O W h hl => trim_calls a n c O W h hl)
  clear h h1 h2 h3 hx hn
  go_enter Tryz.func73, Tryz.ntmps73
  go_wp2
  go_loopw [6, 7] (fun s6 s7 wr => ∃ (i : Nat) (O : List Nat), s7 = .int .i64 (i : Int) ∧ m ≤ i ∧ (i ≤ n ∨ i = m) ∧ Hid (OwnW wr w.heap.size s6 O ∧ O.length = i - m ∧ O ++ shrL (2 ^ r) (L.drop i) = shrL (2 ^ r) (L.drop m) ∧ Below w.heap.size w wr)) (fun _ s7 _ => n - (intOf s7).toNat)
  case atStart => exact ⟨m, [], rfl, Nat.le_refl _, .inr rfl, ownW_nil _ _, by simp, rfl, Below.refl _ _⟩
  case round =>
    obtain ⟨i, O, rfl, hmi1, hi, HK⟩ := hrel
    by_cases hlt : i < n
    · have hii : (i : Int) < (n : Int) := by omega
      have hw1 : IntKind.i64.wrap ((i : Int) + 1) = (i : Int) + 1 := IntWalk.i64_in _ (by omega)
      have N1 := Lib.hid (fun W (hb : Below w.heap.size w W) => show Calls Tryz.prog 86 #[.slice a n cap, .int .i64 ((i : Int) + 1)] W _ from nat_calls a n cap L (i + 1) W (H1.out.below hb))
      obtain ⟨blk, off, rfl, hcs⟩ := (H1.out.below HK.out.2.2.2).at (by omega)
      have hx1 := hcs i hlt
      have hd1 := H1.out.1.at i
      have hf1 := H1.out.1.at (i + 1)
      obtain ⟨t, ht⟩ : ∃ t, (L.getD (i + 1) 0 * 4294967296 + L.getD i 0) / 2 ^ r = t := ⟨_, rfl⟩
      obtain ⟨s, hs⟩ : ∃ s, t % 4294967296 = s := ⟨_, rfl⟩
      have HST := Lib.hid (show (O ++ [s]) ++ shrL (2 ^ r) (L.drop (i + 1)) = shrL (2 ^ r) (L.drop m) by
        rw [← HK.out.2.2.1, shrL_drop (2 ^ r) (L := L) (i := i) (by rw [HX.out.1]; exact hlt), ht, hs, List.append_assoc]; rfl)
      have hti : ((L.getD (i + 1) 0 : Int) * 4294967296 + (L.getD i 0 : Int)) / 2 ^ r = (t : Int) := by rw [← ht, Int.natCast_ediv, Int.natCast_add, Int.natCast_mul, Int.natCast_pow]; rfl
      have HSZ := Lib.hid HK.out.2.2.2.size
      have hs32 : s < 4294967296 := by omega
      have HLN := Lib.hid (show O.length + [s].length ≤ 1000 by rw [HK.out.2.1]; simp; omega)
      have HB := Lib.hid (fun e (he : u6.ownBlock = some e) => HK.out.1.base e he)
      have hwr := wrap32n t s hs
      clear hcs ht hs
      generalize L.getD i 0 = d at *
      generalize L.getD (i + 1) 0 = f at *
      have HLT := Lib.hid hlt
      go_wp2
      go_quiet ((go_at_call 86; exact Calls.quiet_of_same (nquiet (N1.out _ (below_drewN HK.out.2.2.2 _)))))
      have HBD := Lib.hid (below_drewN (Below.refl wr.heap.size wr) nq)
      go_wp2_with (at_builtin; go_must (refine wpList_append_W _ rfl _ _ 50 Tryz.underlying50 rfl w.heap.size _ O [s] rfl ((HK.out.1.below HBD.out (Nat.le_refl _)).below ((Below.refl _ _).alloc (Nat.le_refl _) _) (Nat.le_refl _)) _ _ _ rfl (ws_lits _ [s] _ 1 (by simp) (Dig.one hs32) rfl (by decide)) HLN.out (by have := HSZ.out; simp; omega) ?_; intro v9 w3 hown9 hg9))
      have hBf : Below w.heap.size w w3 := ((below_drewN HK.out.2.2.2 _).alloc (by have := HSZ.out; simp; omega) _).grown hg9 (by have := HSZ.out; simp; omega) HB.out
      go_roundw
      case rel => exact ⟨i + 1, O ++ [s], by go_num, by omega, .inl HLT.out, hown9, by rw [List.length_append, HK.out.2.1]; simp; omega, HST.out, hBf⟩
      case measure => simp [intOf]; omega
    · have hii : ¬ (i : Int) < (n : Int) := by omega
      have hO : O = shrL (2 ^ r) (L.drop m) := by rw [← HK.out.2.2.1, List.drop_of_length_le (by rw [HX.out.1]; omega)]; simp [shrL]
      have HV := Lib.hid (show wval O = x / 2 ^ k by rw [hO]; exact shr_end H1.out.1 HX.out.2 hm hr)
      have HL9 := Lib.hid (show O.length ≤ 900 by rw [HK.out.2.1]; omega)
      obtain ⟨oa, ocp, hv⟩ := HK.out.1.ws.form
      subst hv
      have HW := Lib.hid HK.out.1.ws
      have hB0 := Lib.hid HK.out.2.2.2
      obtain ⟨z, hz⟩ : ∃ z, O.length = z := ⟨_, rfl⟩
      have HKO := Lib.hid HK.out.1
      clear HK hO
      rw [hz] at HW HKO
      rw [hz]
      have S1 := Lib.hid (show sz (x / 2 ^ k) ≤ 9600 from Nat.le_trans (sz_mono (Nat.div_le_self _ _)) HSX.out)
      have S2 := Lib.hid (show sz (x / 2 ^ k * 2 ^ k) ≤ 9600 from Nat.le_trans (sz_mono (Nat.div_mul_le_self _ _)) HSX.out)
      have SH := Lib.hid (fun v W h => nshl_calls v (x / 2 ^ k) k W h S1.out hk)
      have CM := Lib.hid (fun v W h h' => ncmp_calls v (.slice a n cap) (x / 2 ^ k * 2 ^ k) x W h h' S2.out HSX.out)
      have e0 := cmpI_zero (a := x / 2 ^ k * 2 ^ k) (b := x)
      clear hm hr hk
      generalize hXX : x / 2 ^ k = X at *
      have HE := Lib.hid hXX
      clear hXX
      go_wp2_with (first
        | (go_at_call 72; go_must (refine (TC.out oa z ocp O _ HW.out HL9.out).mono ?_; rintro e w1 ⟨⟨v, rfl, hv⟩, hb⟩; rw [HV.out] at hv; have HV1 := Lib.hid hv; have B1 := Lib.hid (hB0.out.trans (hb.mono hB0.out.size)); clear hv hb))
        | (go_at_call 50; go_must (refine (SH.out v _ HV1.out).mono ?_; rintro e w2 ⟨⟨v2, rfl, hv⟩, hb⟩; have HV2 := Lib.hid hv; have HV3 := Lib.hid (HV1.out.below hb); have B2 := Lib.hid (B1.out.trans (hb.mono B1.out.size)); clear hv hb))
        | (go_at_call 49; go_must (refine (CM.out v2 _ HV2.out (HNT.out.below B2.out)).mono ?_; rintro e w3 ⟨rfl, hb⟩)))
      exact bodyPost_ret (v := .tuple #[v, .bool (decide (X * 2 ^ k = x))]) (by simp [results, Tryz.results73, go_sem]) rfl ⟨⟨v, by rw [HE.out], by rw [HE.out]; exact HV3.out.below hb⟩, B2.out.trans (hb.mono B2.out.size)⟩
end Go.Proofs.YtmmligbkecilfaaGreatDoor
namespace Go.Proofs.YtmmligbkecilfaaGreatDoor
open Go.RowKit Lv Go.Shelf
attribute [local go_sem] Oper.semAt_some

namespace Lv
theorem wval_set : ∀ {O : List Nat} {j : Nat} (d : Nat), j < O.length → wval (O.set j d) + 2 ^ (32 * j) * O.getD j 0 = wval O + 2 ^ (32 * j) * d
  | [], _, _, h => absurd h (Nat.not_lt_zero _)
  | x :: O, 0, d, _ => by simp [wval]; omega
  | x :: O, j + 1, d, h => by
    have ih := wval_set (O := O) (j := j) d (by simpa using h)
    simp only [List.set_cons_succ, wval, List.getD_cons_succ]
    rw [show 32 * (j + 1) = 32 + 32 * j by omega, Nat.pow_add, ← b32, Nat.mul_assoc, Nat.mul_assoc, Nat.add_assoc, ← Nat.mul_add, ih, Nat.mul_add, Nat.add_assoc]
theorem Dig.set {O : List Nat} (h : Dig O) (j : Nat) {d : Nat} (hd : d < 4294967296) : Dig (O.set j d) := fun x hx => by
  rcases List.mem_or_eq_of_mem_set hx with h1 | h1
  · exact h x h1
  · rw [h1]; exact hd
theorem getD_setN (O : List Nat) (j i d : Nat) : (O.set j d).getD i 0 = if j = i ∧ i < O.length then d else O.getD i 0 := by
  rw [List.getD_eq_getElem?_getD, List.getD_eq_getElem?_getD, List.getElem?_set]
  by_cases h : j = i
  · subst h
    by_cases h2 : j < O.length
    · simp [h2]
    · simp [h2]
  · simp [h]
theorem mul_step {O M : List Nat} {i k c x R s t : Nat} (hlen : i + k < O.length) (h : wval O + 2 ^ (32 * (i + k)) * c = R + 2 ^ (32 * i) * x * wval (M.take k)) (hs : x * M.getD k 0 + O.getD (i + k) 0 + c = s) (ht : s % 4294967296 = t) :
    wval (O.set (i + k) t) + 2 ^ (32 * (i + k + 1)) * (s / 4294967296) = R + 2 ^ (32 * i) * x * wval (M.take (k + 1)) := by
  have h1 := wval_set t hlen
  rw [wval_take, Nat.mul_add (2 ^ (32 * i) * x), ← Nat.add_assoc, ← h]
  have e1 : 2 ^ (32 * i) * x * (2 ^ (32 * k) * M.getD k 0) = 2 ^ (32 * (i + k)) * (x * M.getD k 0) := by
    rw [show 32 * (i + k) = 32 * i + 32 * k by omega, Nat.pow_add]; simp [Nat.mul_assoc, Nat.mul_left_comm]
  have e2 : 2 ^ (32 * (i + k + 1)) = 2 ^ (32 * (i + k)) * 4294967296 := by rw [show 32 * (i + k + 1) = 32 * (i + k) + 32 by omega, Nat.pow_add, ← b32]
  have e3 : t + 4294967296 * (s / 4294967296) = s := by omega
  rw [e1, e2]
  generalize 2 ^ (32 * (i + k)) = P at *
  have e4 : P * 4294967296 * (s / 4294967296) + P * t = P * s := by rw [Nat.mul_assoc, ← Nat.mul_add, Nat.add_comm, e3]
  have e5 : P * s = P * (x * M.getD k 0) + P * O.getD (i + k) 0 + P * c := by rw [← Nat.mul_add, ← Nat.mul_add, hs]
  omega
theorem getD_rep0 (n j : Nat) : (List.replicate n 0).getD j 0 = 0 := by
  rw [List.getD_eq_getElem?_getD, List.getElem?_replicate]
  split <;> rfl
theorem mul_end {O L M : List Nat} {i m c x : Nat} (hM : M.length = m) (hlen : i + m < O.length) (h : wval O + 2 ^ (32 * (i + m)) * c = wval (L.take i) * wval M + 2 ^ (32 * i) * x * wval (M.take m)) (h0 : O.getD (i + m) 0 = 0) (hx : L.getD i 0 = x) :
    wval (O.set (i + m) c) = wval (L.take (i + 1)) * wval M := by
  have h1 := wval_set c hlen
  rw [h0, Nat.mul_zero, Nat.add_zero] at h1
  rw [List.take_of_length_le (l := M) (by omega)] at h
  rw [h1, h, wval_take, hx, Nat.add_mul]
end Lv
/-- the digits of a made slice that are written one by one -/
structure MulW (w W : World) (g : Nat) (O : List Nat) : Prop where
  dig : Dig O
  cell : ∀ j, j < O.length → W.cell? ⟨g, j, none⟩ = some (.int .u32 (O.getD j 0 : Nat)) ∧ W.frozen? ⟨g, j, none⟩ = false
  below : Below w.heap.size w W
  hg : w.heap.size ≤ g
theorem MulW.put {w W : World} {g : Nat} {O : List Nat} (h : MulW w W g O) (j : Nat) {d : Nat} (hd : d < 4294967296) : MulW w (W.setCell ⟨g, j, none⟩ (.int .u32 (d : Int))) g (O.set j d) where
  dig := h.dig.set j hd
  cell := fun i hi => by
    rw [List.length_set] at hi
    refine ⟨?_, frozen_set (h.cell i hi).2⟩
    rw [getD_setN]
    by_cases he : j = i
    · subst he
      rw [if_pos ⟨rfl, hi⟩]
      exact cell_set_eq (h.cell j hi).1
    · rw [if_neg (fun h => he h.1)]
      exact cell_set_off (h.cell i hi).1 he
  below := h.below.setCell (p := ⟨g, j, none⟩) h.hg _
  hg := h.hg
theorem MulW.drewN {w W : World} {g : Nat} {O : List Nat} (h : MulW w W g O) (n : Nat) : MulW w (W.drewN n) g O := ⟨h.dig, h.cell, below_drewN h.below n, h.hg⟩
theorem MulW.ws {w W : World} {g : Nat} {O : List Nat} (h : MulW w W g O) (hl : O.length ≤ 1000) : Ws W (.slice (some ⟨g, 0, none⟩) O.length O.length) O := by
  refine ⟨h.dig, some ⟨g, 0, none⟩, O.length, by rw [List.length_map], by rw [List.length_map]; exact Nat.le_refl _, by unfold maxLen; omega, .inr ⟨g, 0, rfl, fun i hi => ?_⟩⟩
  rw [List.length_map] at hi
  rw [Nat.zero_add, (h.cell i hi).1, List.getElem?_map, List.getElem?_eq_getElem hi, List.getD_eq_getElem?_getD, List.getElem?_eq_getElem hi]
  rfl
theorem mulW_made (w W : World) (s : Nat) (hb : Below w.heap.size w W) (hs : s ≤ 900) : MulW w (W.alloc (.cells (madeCells (Value.int .u32 0).cells s) 110)) W.heap.size (List.replicate s 0) := by
  have ho := ownW_made W W.heap.size s (Nat.le_refl _) hs
  refine ⟨ho.1, fun j hj => ?_, hb.alloc hb.size _, hb.size⟩
  rw [List.length_replicate] at hj
  obtain ⟨blk, off, e, hc⟩ := ho.ws.at (by omega)
  simp only [Option.some.injEq, Addr.mk.injEq, and_true] at e
  obtain ⟨rfl, rfl⟩ := e
  have := hc j hj
  rw [Nat.zero_add] at this
  refine ⟨this, ?_⟩
  simp only [World.frozen?, World.alloc_heap_new]
  simp
set_option maxRecDepth 100000 in
set_option maxHeartbeats 2000000 in
theorem nmul_calls (v u : Value) (x y : Nat) (w : World) (h : Nt w v x) (h' : Nt w u y) (hx : sz x ≤ 9600) (hy : sz y ≤ 9600) :
    Calls Tryz.prog 45 #[v, u] w fun e w' => (∃ z, e = .returned z ∧ Nt w' z (x * y)) ∧ Below w.heap.size w w' := by
  obtain ⟨L, a, cap, rfl, h1, h2, h3⟩ := h.ws
  obtain ⟨M, b, cp, rfl, g1, g2, g3⟩ := h'.ws
  obtain ⟨n, hn⟩ : ∃ n, L.length = n := ⟨_, rfl⟩
  obtain ⟨m, hm⟩ : ∃ m, M.length = m := ⟨_, rfl⟩
  have hn3 := nt_len h1.1 h2 h3 hx
  have hm3 := nt_len g1.1 g2 g3 hy
  rw [hn] at h1 hn3
  rw [hm] at g1 hm3
  rw [hn, hm]
  have HX := Lib.hid (And.intro hn h3)
  have HY := Lib.hid (And.intro hm g3)
  have H1 := Lib.hid h1
  have G1 := Lib.hid g1
  obtain ⟨s, hs⟩ : ∃ s, n + m = s := ⟨_, rfl⟩
  have hsi : (n : Int) + (m : Int) = (s : Int) := by omega
  have hsw : IntKind.i64.wrap ((n : Int) + (m : Int)) = (s : Int) := by rw [hsi]; exact IntWalk.i64_in _ (by omega)
  have TC := Lib.hid (fun (a : Option Addr) (n c : Nat) O W h hl => trim_calls a n c O W h hl)
  obtain ⟨i0, hin, hz0, hz1, hz2⟩ := info_parts infoW
  have hmk := fun W => run_make (P := Tryz.prog) W 50 110 i0 _ Tryz.underlying50 hin hz0 .i64 .i64 s s (by omega) (by omega) (by rw [hz2]; omega) (by omega)
  rw [show ((s : Int)).toNat = s from Int.toNat_natCast s, hz1, Nat.mul_one] at hmk
  clear h h' h1 h2 h3 g1 g2 g3 hx hy hn hm hin hz0 hz1 hz2
  go_enter Tryz.func45, Tryz.ntmps45
  go_wp2
  have M0 := Lib.hid (mulW_made w w s (Below.refl _ _) (by omega))
  have hg := World.size_alloc
  go_loopw [6] (fun s6 wr => ∃ (i : Nat) (O : List Nat), s6 = .int .i64 (i : Int) ∧ i ≤ n ∧ Hid (MulW w wr w.heap.size O ∧ O.length = s ∧ wval O = wval (L.take i) * wval M ∧ ∀ j, i + m ≤ j → O.getD j 0 = 0)) (fun s6 _ => n - (intOf s6).toNat)
  case atStart => exact ⟨0, _, rfl, Nat.zero_le _, M0.out, by simp, by rw [wval_zero (fun d hd => (List.mem_replicate.1 hd).2)]; simp [wval], fun j _ => getD_rep0 _ _⟩
  case round =>
    obtain ⟨i, O, rfl, hi, HK⟩ := hrel
    by_cases hlt : i < n
    · have hii : (i : Int) < (n : Int) := by omega
      obtain ⟨ab, ao, rfl, hcs⟩ := (H1.out.below HK.out.1.below).at (by omega)
      have hx0 := hcs i hlt
      have hd0 := H1.out.1.at i
      have HLI := Lib.hid (show L.getD i 0 = L.getD i 0 from rfl)
      obtain ⟨d, hd⟩ : ∃ d, L.getD i 0 = d := ⟨_, rfl⟩
      rw [hd] at hx0 hd0
      have HD := Lib.hid hd
      have HLT := Lib.hid hlt
      clear hcs hd HLI
      go_wp2
      go_loopw [7, 8] (fun s7 s8 wk => ∃ (k c : Nat) (U : List Nat), s8 = .int .i64 (k : Int) ∧ s7 = .int .u64 (c : Int) ∧ c < 4294967296 ∧ k ≤ m ∧ Hid (MulW w wk w.heap.size U ∧ U.length = s ∧ wval U + 2 ^ (32 * (i + k)) * c = wval (L.take i) * wval M + 2 ^ (32 * i) * d * wval (M.take k) ∧ ∀ j, i + m ≤ j → U.getD j 0 = 0)) (fun _ s8 _ => m - (intOf s8).toNat)
      case atStart => exact ⟨0, 0, O, rfl, rfl, by omega, Nat.zero_le _, HK.out.1, HK.out.2.1, by rw [HK.out.2.2.1]; simp [wval], HK.out.2.2.2⟩
      case round =>
        obtain ⟨k, c, U, rfl, rfl, hc, hk, HU⟩ := hrel
        by_cases hlk : k < m
        · have hkk : (k : Int) < (m : Int) := by omega
          obtain ⟨p, hp⟩ : ∃ p, i + k = p := ⟨_, rfl⟩
          have hpi : (i : Int) + (k : Int) = (p : Int) := by omega
          have hps : p < s := by omega
          have hpw : IntKind.i64.wrap (p : Int) = (p : Int) := IntWalk.i64_in _ (by omega)
          obtain ⟨bb, bo, rfl, hcs⟩ := (G1.out.below HU.out.1.below).at (by omega)
          have hx1 := hcs k hlk
          obtain ⟨aa, ao', ea, hcs'⟩ := (H1.out.below HU.out.1.below).at (by omega)
          simp only [Option.some.injEq, Addr.mk.injEq, and_true] at ea
          obtain ⟨rfl, rfl⟩ := ea
          have hx2 := hcs' i hlt
          rw [HD.out] at hx2
          obtain ⟨hx3, hx4⟩ := HU.out.1.cell p (by rw [HU.out.2.1]; exact hps)
          have hd1 := G1.out.1.at k
          have hd2 := HU.out.1.dig.at p
          obtain ⟨t1, ht1⟩ : ∃ t, d * M.getD k 0 = t := ⟨_, rfl⟩
          have ht2 : t1 ≤ 4294967295 * 4294967295 := by rw [← ht1]; exact Nat.mul_le_mul (by omega) (by omega)
          have hti : (d : Int) * (M.getD k 0 : Int) = (t1 : Int) := by rw [← ht1]; push_cast; rfl
          obtain ⟨z, hz⟩ : ∃ z, d * M.getD k 0 + U.getD p 0 + c = z := ⟨_, rfl⟩
          obtain ⟨f, hf⟩ : ∃ f, z % 4294967296 = f := ⟨_, rfl⟩
          have HST := Lib.hid (mul_step (O := U) (M := M) (i := i) (k := k) (by rw [hp, HU.out.2.1]; exact hps) HU.out.2.2.1 (by rw [hp]; exact hz) hf)
          have hf32 : f < 4294967296 := by omega
          have HPT := Lib.hid (HU.out.1.put p hf32)
          have HZ := Lib.hid (show ∀ j, i + m ≤ j → (U.set p f).getD j 0 = 0 from fun j hj => by rw [getD_setN, if_neg (by omega)]; exact HU.out.2.2.2 j hj)
          rw [hp] at HST
          have HPE := Lib.hid hp
          have HSS := Lib.hid HU.out.2.1
          have HLK := Lib.hid hlk
          have HBW := Lib.hid HU.out.1.below
          obtain ⟨q, hq⟩ : ∃ q, z / 4294967296 = q := ⟨_, rfl⟩
          rw [hq] at HST
          have hq1 : q < 4294967296 := by omega
          have hwr := wrap32n z f hf
          clear HU hcs hcs' ht1
          generalize M.getD k 0 = e at *
          generalize hog : U.getD p 0 = o at *
          have hwt : IntKind.u64.wrap (t1 : Int) = (t1 : Int) := IntWalk.u64_in _ (by omega)
          obtain ⟨t3, ht3⟩ : ∃ t, t1 + o = t := ⟨_, rfl⟩
          have ht3i : (t1 : Int) + (o : Int) = (t3 : Int) := by omega
          have hw3 : IntKind.u64.wrap (t3 : Int) = (t3 : Int) := IntWalk.u64_in _ (by omega)
          have hzi : (t3 : Int) + (c : Int) = (z : Int) := by omega
          have hzw : IntKind.u64.wrap (z : Int) = (z : Int) := IntWalk.u64_in _ (by omega)
          have hzl : z < 18446744073709551616 := by omega
          have hqi : (z : Int) / 4294967296 = (q : Int) := by omega
          clear hq hf hz ht3 hp hog
          go_wp2
          go_quiet (fail)
          have HPN := Lib.hid (HPT.out.drewN nq)
          go_wp2
          refine ⟨⟨k + 1, q, U.set p f, by go_num, rfl, hq1, HLK.out, HPN.out, by rw [List.length_set]; exact HSS.out, ?_, HZ.out⟩, by simp [intOf]; omega⟩
          rw [show i + (k + 1) = p + 1 by have := HPE.out; omega]
          exact HST.out
        · have hkk : ¬ (k : Int) < (m : Int) := by omega
          obtain rfl : k = m := by omega
          have HM : M.length = k := HY.out.1
          obtain ⟨p, hp⟩ : ∃ p, i + k = p := ⟨_, rfl⟩
          have hpi : (i : Int) + (k : Int) = (p : Int) := by omega
          have hps : p < s := by omega
          have hpw : IntKind.i64.wrap (p : Int) = (p : Int) := IntWalk.i64_in _ (by omega)
          obtain ⟨hx3, hx4⟩ := HU.out.1.cell p (by rw [HU.out.2.1]; exact hps)
          have HST := Lib.hid (mul_end (O := U) (L := L) (M := M) (i := i) HM (by rw [hp, HU.out.2.1]; exact hps) HU.out.2.2.1 (HU.out.2.2.2 _ (Nat.le_refl _)) HD.out)
          rw [hp] at HST
          have HPT := Lib.hid (HU.out.1.put p hc)
          have HZ := Lib.hid (show ∀ j, i + 1 + k ≤ j → (U.set p c).getD j 0 = 0 from fun j hj => by rw [getD_setN, if_neg (by omega)]; exact HU.out.2.2.2 j (by omega))
          have HSS := Lib.hid HU.out.2.1
          have hwr := wrap32n c c (by omega)
          clear hp HU HM
          generalize U.getD p 0 = o at *
          go_wp2
          exact ⟨⟨i + 1, U.set p c, by go_num, HLT.out, HPT.out, by rw [List.length_set]; exact HSS.out, HST.out, HZ.out⟩, by simp [intOf]; have := HLT.out; omega⟩
    · have hii : ¬ (i : Int) < (n : Int) := by omega
      obtain rfl : i = n := by omega
      have hw := HK.out.1.ws (by rw [HK.out.2.1]; omega)
      rw [HK.out.2.1] at hw
      have HW := Lib.hid hw
      have HL9 := Lib.hid (show O.length ≤ 900 by rw [HK.out.2.1]; omega)
      have HV := Lib.hid (show wval O = x * y by rw [HK.out.2.2.1, List.take_of_length_le (by rw [HX.out.1]; exact Nat.le_refl _), HX.out.2, HY.out.2])
      clear hw
      go_wp2_with (go_at_call 72; go_must (refine (TC.out _ _ _ O _ HW.out HL9.out).mono ?_; rintro e w1 ⟨⟨v, rfl, hv⟩, hb⟩))
      go_ret
      exact ⟨⟨_, rfl, by rw [← HV.out]; exact hv⟩, HK.out.1.below.trans (hb.mono HK.out.1.below.size)⟩
end Go.Proofs.YtmmligbkecilfaaGreatDoor
namespace Go.Proofs.YtmmligbkecilfaaGreatDoor
open Go.RowKit Lv Go.Shelf
attribute [local go_sem] Oper.semAt_some

namespace Lv
theorem isq_sz {n r j : Nat} (hr : r * r ≤ n) (hj : j ≤ sz n / 2) : sz (r + 2 ^ j) ≤ sz n + 3 := by
  have h1 : r ≤ n := Nat.le_trans (Nat.le_mul_self r) hr
  have h2 := sz_add r (2 ^ j)
  have h3 := sz_mono h1
  have h4 : sz (2 ^ j) ≤ j + 1 := sz_le (Nat.pow_lt_pow_right (by decide) (by omega))
  omega
theorem isq_start (n : Nat) : n < (0 + 2 ^ (sz n / 2 + 1)) * (0 + 2 ^ (sz n / 2 + 1)) := by
  rw [Nat.zero_add, ← Nat.pow_add]
  exact Nat.lt_of_lt_of_le (sz_lt n) (Nat.pow_le_pow_right (by decide) (by omega))
theorem isq_up {n r j : Nat} (h : n < (r + 2 ^ (j + 1)) * (r + 2 ^ (j + 1))) : n < (r + 2 ^ j + 2 ^ j) * (r + 2 ^ j + 2 ^ j) := by
  rw [show r + 2 ^ j + 2 ^ j = r + 2 ^ (j + 1) by rw [Nat.pow_succ]; omega]
  exact h
theorem cmpI_le {a b : Nat} : decide (cmpI a b ≤ 0) = decide (a ≤ b) := by
  rcases Nat.lt_trichotomy a b with h | h | h
  · rw [cmpI_lt h, decide_eq_true (by omega : a ≤ b)]; rfl
  · rw [cmpI_eq h, decide_eq_true (by omega : a ≤ b)]; rfl
  · rw [cmpI_gt h, decide_eq_false (by omega : ¬ a ≤ b)]; rfl
end Lv
theorem ntrim_calls (v : Value) (x : Nat) (w : World) (h : Nt w v x) (hx : sz x ≤ 9600) :
    Calls Tryz.prog 72 #[v] w fun e w' => (∃ z, e = .returned z ∧ Nt w' z x) ∧ Below w.heap.size w w' := by
  obtain ⟨L, a, cap, rfl, h1, h2, h3⟩ := h.ws
  have hn3 := nt_len h1.1 h2 h3 hx
  have := trim_calls a _ cap L w h1 (by omega)
  rw [h3] at this
  exact this
set_option maxRecDepth 100000 in
set_option maxHeartbeats 2000000 in
theorem nroot_calls (v : Value) (x : Nat) (w : World) (h : Nt w v x) (hx : sz x ≤ 4000) :
    Calls Tryz.prog 76 #[v] w fun e w' => (∃ z r, e = .returned z ∧ Nt w' z r ∧ r * r ≤ x ∧ x < (r + 1) * (r + 1)) ∧ Below w.heap.size w w' := by
  have HNT := Lib.hid h
  have LN := Lib.hid (nlen_calls v x w h (by omega))
  obtain ⟨l, hl⟩ : ∃ l, sz x = l := ⟨_, rfl⟩
  have HS := Lib.hid hl
  rw [hl] at LN hx
  have hl2 : (l : Int) / 2 = ((l / 2 : Nat) : Int) := by omega
  obtain ⟨k, hk⟩ : ∃ k, l / 2 = k := ⟨_, rfl⟩
  rw [hk] at hl2
  have HK := Lib.hid hk
  clear h hl hk
  go_enter Tryz.func76, Tryz.ntmps76
  go_wp2_with (go_at_call 75; go_must (refine LN.out.mono ?_; rintro e w0 ⟨rfl, hb0⟩; have HB0 := Lib.hid hb0; clear hb0))
  go_loopw [3, 4] (fun s3 s4 wr => ∃ (j r : Nat), s4 = .int .i64 ((j : Int) - 1) ∧ j ≤ k + 1 ∧ Hid (Nt wr s3 r ∧ r * r ≤ x ∧ x < (r + 2 ^ j) * (r + 2 ^ j) ∧ Below w.heap.size w wr)) (fun _ s4 _ => (intOf s4 + 1).toNat)
  case atStart => exact ⟨k + 1, 0, by congr 1; push_cast; omega, Nat.le_refl _, nt_zero _, by omega, by have := isq_start x; rw [HS.out, HK.out] at this; exact this, HB0.out⟩
  case round =>
    obtain ⟨j, r, rfl, hj, HI⟩ := hrel
    by_cases h0 : j = 0
    · subst h0
      have hii : ¬ (0 : Int) ≤ ((0 : Nat) : Int) - 1 := by omega
      have TC := Lib.hid (ntrim_calls u3 r wr HI.out.1 (Nat.le_trans (sz_mono (Nat.le_trans (Nat.le_mul_self r) HI.out.2.1)) (by rw [HS.out]; omega)))
      go_wp2_with (go_at_call 72; go_must (refine TC.out.mono ?_; rintro e w1 ⟨⟨z, rfl, hz⟩, hb⟩))
      go_ret
      exact ⟨⟨z, r, rfl, hz, HI.out.2.1, HI.out.2.2.1⟩, HI.out.2.2.2.trans (hb.mono HI.out.2.2.2.size)⟩
    · obtain ⟨i, rfl⟩ : ∃ i, j = i + 1 := ⟨j - 1, by omega⟩
      have e1 : ((i + 1 : Nat) : Int) - 1 = (i : Int) := by omega
      rw [e1]
      have hii : (0 : Int) ≤ (i : Int) := by omega
      have S1 := Lib.hid (isq_sz HI.out.2.1 (show i ≤ sz x / 2 by rw [HS.out, HK.out]; omega))
      have HSL := S1.out
      rw [HS.out] at HSL
      have HR := Lib.hid HI.out
      have FR := Lib.hid (fun W => nfrom_calls 1 W (by decide))
      have SH := Lib.hid (fun v W h => nshl_calls v 1 i W h (by decide) (by omega))
      have hr1 : sz r ≤ 9600 := Nat.le_trans (sz_mono (Nat.le_trans (Nat.le_mul_self r) HI.out.2.1)) (by rw [HS.out]; omega)
      have hr2 : sz (1 * 2 ^ i) ≤ 9600 := Nat.le_trans (sz_shl 1 i) (by have : sz 1 ≤ 1 := by decide
                                                                        omega)
      have AD := Lib.hid (fun u W h h' => nadd_calls u3 u r (1 * 2 ^ i) W h h' hr1 hr2)
      rw [Nat.one_mul] at SH AD hr2
      have MU := Lib.hid (fun v W h => nmul_calls v v (r + 2 ^ i) (r + 2 ^ i) W h h (by omega) (by omega))
      have CM := Lib.hid (fun u W h h' => ncmp_calls u v ((r + 2 ^ i) * (r + 2 ^ i)) x W h h' (Nat.le_trans (sz_mul _ _) (by omega)) (by rw [HS.out]; omega))
      have HC := Lib.hid (cmpI_le (a := (r + 2 ^ i) * (r + 2 ^ i)) (b := x))
      have HU := Lib.hid (isq_up HI.out.2.2.1)
      have HB := Lib.hid HI.out.2.2.2
      obtain ⟨c, hc⟩ : ∃ c, cmpI ((r + 2 ^ i) * (r + 2 ^ i)) x = c := ⟨_, rfl⟩
      rw [hc] at CM HC
      have hwi : IntKind.i64.wrap ((i : Int) - 1) = (i : Int) - 1 := IntWalk.i64_in _ (by omega)
      clear hc HSL
      by_cases hle : c ≤ 0
      · have hx1 : (r + 2 ^ i) * (r + 2 ^ i) ≤ x := by have := HC.out; rw [decide_eq_true hle] at this; exact of_decide_eq_true this.symm
        have HX1 := Lib.hid hx1
        clear hx1 h0 hr2
        go_wp2_with (first
          | (go_at_call 43; go_must (refine (FR.out _).mono ?_; rintro e w1 ⟨⟨v1, rfl, hv⟩, hb⟩; have V1 := Lib.hid hv; have B1 := Lib.hid hb; clear hv hb))
          | (go_at_call 50; go_must (refine (SH.out v1 _ V1.out).mono ?_; rintro e w2 ⟨⟨v2, rfl, hv⟩, hb⟩; have V2 := Lib.hid hv; have B2 := Lib.hid (B1.out.trans (hb.mono B1.out.size)); clear hv hb))
          | (go_at_call 63; go_must (refine (AD.out v2 _ (HI.out.1.below B2.out) V2.out).mono ?_; rintro e w3 ⟨⟨v3, rfl, hv⟩, hb⟩; have V3 := Lib.hid hv; have B3 := Lib.hid (B2.out.trans (hb.mono B2.out.size)); clear hv hb))
          | (go_at_call 45; go_must (refine (MU.out v3 _ V3.out).mono ?_; rintro e w4 ⟨⟨v4, rfl, hv⟩, hb⟩; have V4 := Lib.hid hv; have HV4 := Lib.hid (V3.out.below hb); have B4 := Lib.hid (B3.out.trans (hb.mono B3.out.size)); clear hv hb))
          | (go_at_call 49; go_must (refine (CM.out v4 _ V4.out ((HNT.out.below HB.out).below B4.out)).mono ?_; rintro e w5 ⟨rfl, hb⟩; have HV := Lib.hid (HV4.out.below hb); have B5r := Lib.hid (B4.out.trans (hb.mono B4.out.size)); have B5 := Lib.hid (HB.out.trans (B5r.out.mono HB.out.size)); clear hb)))
        go_roundw
        case rel => exact ⟨i, r + 2 ^ i, rfl, by omega, HV.out, HX1.out, HU.out, B5.out⟩
        case measure => simp [intOf]
      · have hx1 : x < (r + 2 ^ i) * (r + 2 ^ i) := by have := HC.out; rw [decide_eq_false hle] at this; have := of_decide_eq_false this.symm; omega
        have HX1 := Lib.hid hx1
        clear hx1 h0
        go_wp2_with (first
          | (go_at_call 43; go_must (refine (FR.out _).mono ?_; rintro e w1 ⟨⟨v1, rfl, hv⟩, hb⟩; have V1 := Lib.hid hv; have B1 := Lib.hid hb; clear hv hb))
          | (go_at_call 50; go_must (refine (SH.out v1 _ V1.out).mono ?_; rintro e w2 ⟨⟨v2, rfl, hv⟩, hb⟩; have V2 := Lib.hid hv; have B2 := Lib.hid (B1.out.trans (hb.mono B1.out.size)); clear hv hb))
          | (go_at_call 63; go_must (refine (AD.out v2 _ (HI.out.1.below B2.out) V2.out).mono ?_; rintro e w3 ⟨⟨v3, rfl, hv⟩, hb⟩; have V3 := Lib.hid hv; have B3 := Lib.hid (B2.out.trans (hb.mono B2.out.size)); clear hv hb))
          | (go_at_call 45; go_must (refine (MU.out v3 _ V3.out).mono ?_; rintro e w4 ⟨⟨v4, rfl, hv⟩, hb⟩; have V4 := Lib.hid hv; have HV4 := Lib.hid (V3.out.below hb); have B4 := Lib.hid (B3.out.trans (hb.mono B3.out.size)); clear hv hb))
          | (go_at_call 49; go_must (refine (CM.out v4 _ V4.out ((HNT.out.below HB.out).below B4.out)).mono ?_; rintro e w5 ⟨rfl, hb⟩; have HV := Lib.hid (HV4.out.below hb); have B5r := Lib.hid (B4.out.trans (hb.mono B4.out.size)); have B5 := Lib.hid (HB.out.trans (B5r.out.mono HB.out.size)); clear hb)))
        go_roundw
        case rel => exact ⟨i, r, rfl, by omega, HR.out.1.below B5r.out, HR.out.2.1, HX1.out, B5.out⟩
        case measure => simp [intOf]
end Go.Proofs.YtmmligbkecilfaaGreatDoor
