import Derived.Test.YtadilppdlbhjnaaGH
import Derived.Test.YtadilppdlbhjnaaGE
import Derived.Test.YtadilppdlbhjnaaGF
namespace Go.Proofs.Ytadilppdlbhjnaa
set_option linter.unusedSimpArgs false
set_option linter.unusedVariables false
open Go.RowKit
def ubEnc (n : Nat) : Nat → Value := fun _ => .int .u8 n
abbrev UbAt := SlAt 1 ubEnc
theorem ub_cell {w : World} {p : Option Addr} {l : List Nat} {i : Nat} {r : Nat} (h : UbAt w p l) (hi : l[i]? = some r) : ∃ b off, p = some ⟨b, off, none⟩ ∧ b < w.heap.size ∧ w.cell? ⟨b, off + i, none⟩ = some (.int .u8 r) := by
 rcases h with rfl | ⟨b, off, hp, hb, hc⟩
 · simp at hi
 · exact ⟨b, off, hp, hb, by have := hc i r hi 0 (by omega); simpa [ubEnc] using this⟩
def mkTo (l : List Int) (vs : List Nat) : Nat → List Cell
 | 0 => []
 | k + 1 => if vs.getD k 0 % 2 = 1 ∧ cpick l (vs.getD k 0 / 2) ≠ 1 then mkTo l vs k ++ [⟨k, cpick l (vs.getD k 0 / 2)⟩] else mkTo l vs k
theorem mkTo_len (l : List Int) (vs : List Nat) (k : Nat) : (mkTo l vs k).length ≤ k := by
 induction k with
 | zero => simp [mkTo]
 | succ k ih => rw [mkTo]; split <;> (try simp) <;> omega
def mMade (l : List Int) (vs : List Nat) (N : Nat) : List Cell := mkTo l vs (min N vs.length)
set_option maxRecDepth 100000 in
set_option maxHeartbeats 4000000 in
theorem made14_any (l : List Int) (vs : List Nat) (n k : Nat) (pl pv : Option Addr) (cl cv : Nat) (w : World) (hL : IntsAt w pl l) (hll : l.length ≤ 20000) (hr : ∀ r ∈ l, r ≤ 9223372036854775807) (hV : UbAt w pv vs) (hvl : vs.length ≤ maxLen) (hv8 : ∀ v ∈ vs, v < 256) (hn0 : 0 < n) (hn : n ≤ 12) (hk0 : 0 < k) (hk : k ≤ 3) :
 Calls Try.prog 35 #[.slice pl l.length cl, .int .i64 n, .int .i64 k, .slice pv vs.length cv] w (RetMF w none k (mMade l vs (n ^ k))) := by
 obtain ⟨i0, hi0, hz0, hz1, hz2⟩ := info_parts cell_info
 obtain ⟨s, hs⟩ : ∃ s, w.heap.size = s := ⟨_, rfl⟩
 obtain ⟨W2, hW2⟩ : ∃ W2, W2 = w.alloc (.cells #[.int .i64 0, .slice none 0 0] 30) := ⟨_, rfl⟩
 have hB : Below w.heap.size w W2 := by rw [hW2]; go_grown
 have z2 : W2.heap.size = s + 1 := by rw [hW2, ← hs]; simp
 have r0 : W2.cell? ⟨s, 0, none⟩ = some (.int .i64 0) := by rw [hW2, ← hs]; go_cell
 have r1 : W2.cell? ⟨s, 1, none⟩ = some (.slice none 0 0) := by rw [hW2, ← hs]; go_cell
 have r0f : W2.frozen? ⟨s, 0, none⟩ = false := by rw [hW2, ← hs]; go_cell
 have r1f : W2.frozen? ⟨s, 1, none⟩ = false := by rw [hW2, ← hs]; go_cell
 have HB := Lib.hid hB; have HW2 := Lib.hid hW2; have HS := Lib.hid hs
 have HL := Lib.hid hL; have HV := Lib.hid hV; have HR := Lib.hid hr; have H8 := Lib.hid hv8
 clear hB hW2 hs hL hV hr hv8
 go_enter Try.func35, Try.ntmps35
 go_upto_region 1 with fail
 rw [← HW2.out]
 try simp only [HS.out, Nat.add_assoc, Nat.reduceAdd]
 go_wp2_with fail
 go_loopg [9, 10] (k - 1) (fun N s9 s10 wr => ∃ (K : Nat), s10 = .int .i64 K ∧ s9 = .int .i64 ((n ^ K : Nat) : Int) ∧ 1 ≤ K ∧ K ≤ k ∧ N = k - K ∧ wr = W2)
 case atStart => exact ⟨1, rfl, by rw [Nat.pow_one], by omega, by omega, rfl, rfl⟩
 obtain ⟨K, rfl, rfl, hK1, hK, hN, hw0⟩ := hrel
 replace hw0 := hw0.symm; subst hw0
 have HNk := Lib.hid hN
 obtain ⟨X, hX⟩ : ∃ X, n ^ K = X := ⟨_, rfl⟩
 have hX2 : X ≤ 1728 := by
  rw [← hX]
  exact Nat.le_trans (Nat.pow_le_pow_right hn0 (show K ≤ 3 by omega)) (Nat.le_trans (Nat.pow_le_pow_left hn 3) (by decide))
 have HX := Lib.hid hX
 rw [hX]
 clear hN hX
 by_cases hlt : K < k
 case pos =>
  have hlt0 : (K : Int) < (k : Int) := by omega
  have hm : X * n ≤ 1728 * 12 := Nat.mul_le_mul hX2 hn
  have hwm : IntKind.i64.wrap ((X : Int) * (n : Int)) = ((X * n : Nat) : Int) := by rw [IntWalk.i64_in] <;> push_cast <;> omega
  go_wp2_with fail
  go_roundg (k - (K + 1))
  case measure => (have := HNk.out; omega)
  case rel => exact ⟨K + 1, by go_num, by rw [Nat.pow_succ, HX.out]; push_cast; rfl, by omega, by omega, rfl, rfl⟩
 obtain rfl : K = k := by omega
 clear hlt
 go_upto_region 7 with fail
 obtain ⟨W3, hW3⟩ : ∃ W3, W3 = W2.alloc (.cells #[.int .i64 K, .slice none 0 0] 30) := ⟨_, rfl⟩
 rw [← hW3]
 have hB3 : Below (s + 1) W2 W3 := by rw [hW3]; exact Below.alloc (Below.refl _ _) (by omega) _
 have z3 : W3.heap.size = s + 2 := by rw [hW3]; simp [z2]
 have c0 : W3.cell? ⟨s + 1, 0, none⟩ = some (.int .i64 K) := by rw [hW3, ← z2]; go_cell
 have c1 : W3.cell? ⟨s + 1, 1, none⟩ = some (.slice none 0 0) := by rw [hW3, ← z2]; go_cell
 have c1f : W3.frozen? ⟨s + 1, 1, none⟩ = false := by rw [hW3, ← z2]; go_cell
 have HB3 := Lib.hid hB3
 clear hW3 hB3
 go_wp2_with fail
 go_loopg [12] (min X vs.length) (fun N s12 wr => ∃ (J : Nat) (v : Value), s12 = .int .i64 J ∧ J ≤ min X vs.length ∧ N = min X vs.length - J ∧ wr.cell? ⟨s + 1, 0, none⟩ = some (.int .i64 K) ∧ wr.cell? ⟨s + 1, 1, none⟩ = some v ∧ wr.frozen? ⟨s + 1, 1, none⟩ = false ∧ wr.ownsRow (s + 2) 76 2 v (mkTo l vs J).length (flat 2 cEnc (mkTo l vs J)) ∧ s + 2 ≤ wr.heap.size ∧ Below (s + 1) W2 wr)
 case atStart => exact ⟨0, _, rfl, by omega, rfl, c0, c1, c1f, World.ownsRow_nil _ _ _ _, by omega, HB3.out⟩
 obtain ⟨J, v, rfl, hJ, hN2, g0, g1, g1f, hown, hz, hb⟩ := hrel
 clear c0 c1 c1f z3 HB3
 have HN2 := Lib.hid hN2; have HO := Lib.hid hown; have HBR := Lib.hid hb
 have hBW : Below w.heap.size w wr := HB.out.trans (hb.mono (by rw [HS.out]; omega))
 have HBW := Lib.hid hBW
 have hml := mkTo_len l vs J
 have hJx : J ≤ X := by omega
 have hJv : J ≤ vs.length := by omega
 clear hN2 hown hBW
 by_cases hlt1 : J < X
 case neg =>
  have hfin : mMade l vs X = mkTo l vs J := by unfold mMade; rw [show min X vs.length = J by omega]
  have HF := Lib.hid hfin
  obtain ⟨q3, c3, hv, o1, o2, o3, o4⟩ := owns_val (by decide) HO.out
  subst hv
  have O2 := Lib.hid o2; have O3 := Lib.hid o3; have O4 := Lib.hid o4
  have r0 := oldcell HBR.out r0 (by omega)
  have r1 := oldcell HBR.out r1 (by omega)
  have r0f := oldfree HBR.out r0f (by omega)
  have r1f := oldfree HBR.out r1f (by omega)
  obtain ⟨M, hM⟩ : ∃ M, mkTo l vs J = M := ⟨_, rfl⟩
  rw [hM] at g1 o1 O4 HO HF hml
  clear o2 o3 o4 hb hfin hM
  go_wp2_with fail
  have KX : KeepX [s] wr ((wr.setCell ⟨s, 0, none⟩ (.int .i64 K)).setCell ⟨s, 1, none⟩ (.slice q3 M.length c3)) := ((KeepX.refl _ wr).setCell (by simp) _).setCell (by simp) _
  have e0 : ((wr.setCell ⟨s, 0, none⟩ (.int .i64 K)).setCell ⟨s, 1, none⟩ (.slice q3 M.length c3)).cell? ⟨s, 0, none⟩ = some (.int .i64 K) := by go_cell
  have e1 : ((wr.setCell ⟨s, 0, none⟩ (.int .i64 K)).setCell ⟨s, 1, none⟩ (.slice q3 M.length c3)).cell? ⟨s, 1, none⟩ = some (.slice q3 M.length c3) := by go_cell
  obtain ⟨W9, hW9⟩ : ∃ W9, W9 = ((wr.setCell ⟨s, 0, none⟩ (.int .i64 K)).setCell ⟨s, 1, none⟩ (.slice q3 M.length c3)) := ⟨_, rfl⟩
  rw [← hW9] at KX e0 e1 ⊢
  clear hW9
  refine bodyPost_ret (by simp [results, Try.results35, go_sem, e0, e1]; try rfl) rfl ?_
  have hqr : ∀ ad, q3 = some ad → s + 2 ≤ ad.block ∧ ad.block < wr.heap.size := fun ad h => HO.out.lt ad.block (by rw [h]; rfl)
  have hq8 : ∀ ad, q3 = some ad → ad.block ∉ [s] := fun ad h hm => by have := (hqr ad h).1; simp at hm; omega
  rw [HX.out, HF.out]
  refine ⟨q3, c3, rfl, ⟨o1, O2.out, O3.out, O4.out.keep KX hq8, fun ad h => Nat.lt_of_lt_of_le (hqr ad h).2 KX.size⟩, ?_⟩
  exact ⟨HBW.out.trans (KX.below (by have := HBW.out.size; exact this) (by rw [HS.out]; simp)), .inr fun ad h => by have := (hqr ad h).1; rw [HS.out]; omega⟩
 have hlt1i : (J : Int) < (X : Int) := by omega
 by_cases hlt2 : J < vs.length
 case neg =>
  have hfin : mMade l vs X = mkTo l vs J := by unfold mMade; rw [show min X vs.length = J by omega]
  have hlt2i : ¬ (J : Int) < (vs.length : Int) := by omega
  have HF := Lib.hid hfin
  obtain ⟨q3, c3, hv, o1, o2, o3, o4⟩ := owns_val (by decide) HO.out
  subst hv
  have O2 := Lib.hid o2; have O3 := Lib.hid o3; have O4 := Lib.hid o4
  have r0 := oldcell HBR.out r0 (by omega)
  have r1 := oldcell HBR.out r1 (by omega)
  have r0f := oldfree HBR.out r0f (by omega)
  have r1f := oldfree HBR.out r1f (by omega)
  obtain ⟨M, hM⟩ : ∃ M, mkTo l vs J = M := ⟨_, rfl⟩
  rw [hM] at g1 o1 O4 HO HF hml
  clear o2 o3 o4 hb hfin hM
  go_wp2_with fail
  have KX : KeepX [s] wr ((wr.setCell ⟨s, 0, none⟩ (.int .i64 K)).setCell ⟨s, 1, none⟩ (.slice q3 M.length c3)) := ((KeepX.refl _ wr).setCell (by simp) _).setCell (by simp) _
  have e0 : ((wr.setCell ⟨s, 0, none⟩ (.int .i64 K)).setCell ⟨s, 1, none⟩ (.slice q3 M.length c3)).cell? ⟨s, 0, none⟩ = some (.int .i64 K) := by go_cell
  have e1 : ((wr.setCell ⟨s, 0, none⟩ (.int .i64 K)).setCell ⟨s, 1, none⟩ (.slice q3 M.length c3)).cell? ⟨s, 1, none⟩ = some (.slice q3 M.length c3) := by go_cell
  obtain ⟨W9, hW9⟩ : ∃ W9, W9 = ((wr.setCell ⟨s, 0, none⟩ (.int .i64 K)).setCell ⟨s, 1, none⟩ (.slice q3 M.length c3)) := ⟨_, rfl⟩
  rw [← hW9] at KX e0 e1 ⊢
  clear hW9
  refine bodyPost_ret (by simp [results, Try.results35, go_sem, e0, e1]; try rfl) rfl ?_
  have hqr : ∀ ad, q3 = some ad → s + 2 ≤ ad.block ∧ ad.block < wr.heap.size := fun ad h => HO.out.lt ad.block (by rw [h]; rfl)
  have hq8 : ∀ ad, q3 = some ad → ad.block ∉ [s] := fun ad h hm => by have := (hqr ad h).1; simp at hm; omega
  rw [HX.out, HF.out]
  refine ⟨q3, c3, rfl, ⟨o1, O2.out, O3.out, O4.out.keep KX hq8, fun ad h => Nat.lt_of_lt_of_le (hqr ad h).2 KX.size⟩, ?_⟩
  exact ⟨HBW.out.trans (KX.below (by have := HBW.out.size; exact this) (by rw [HS.out]; simp)), .inr fun ad h => by have := (hqr ad h).1; rw [HS.out]; omega⟩
 have hlt0 : (0 : Int) ≤ (J : Int) := by omega
 have hlt2i : (J : Int) < (vs.length : Int) := by omega
 obtain ⟨x, hx⟩ : ∃ x, vs[J]? = some x := ⟨_, List.getElem?_eq_getElem hlt2⟩
 have hx8 : x < 256 := H8.out x (List.mem_of_getElem? hx)
 have hgd : vs.getD J 0 = x := by rw [List.getD_eq_getElem?_getD, hx]; rfl
 obtain ⟨bb, off, rfl, hb1, h0⟩ := ub_cell HV.out hx
 have k0 := oldcell HBW.out h0 hb1
 obtain ⟨a1, a2, a3, a4⟩ := quo_rem8 (x := (x : Int)) (by omega) (by omega)
 have q1 : (x : Int).tdiv 2 = ((x / 2 : Nat) : Int) := by rw [a1]; push_cast; rfl
 have q3 : IntKind.u8.wrap ((x / 2 : Nat) : Int) = ((x / 2 : Nat) : Int) := by rw [IntWalk.u8_in]; omega
 obtain ⟨R, hR⟩ : ∃ R, cpick l (x / 2) = R := ⟨_, rfl⟩
 have T := Lib.hid (fun (w' : World) (hB' : Below w.heap.size w w') => pick_any l (x / 2) pl cl w' (by omega) hll HR.out (HL.out.mono hB'))
 rw [hR] at T
 have HMK : Hid (mkTo l vs (J + 1) = if x % 2 = 1 ∧ R ≠ 1 then mkTo l vs J ++ [⟨J, R⟩] else mkTo l vs J) := Lib.hid (by rw [mkTo, hgd, hR])
 clear hx h0 hb hgd hR a1 a3 a4
 by_cases hodd : x % 2 = 1
 case neg =>
  have q2 : (x : Int).tmod 2 = 0 := by rw [a2]; omega
  have q4 : IntKind.u8.wrap 0 = 0 := by decide
  clear a2
  go_wp2_with (first | (go_at_call 89; refine (T.out _ HBW.out).mono ?_; rintro e w2 ⟨rfl, rfl⟩))
  go_roundg (min X vs.length - (J + 1))
  case measure => (have := HN2.out; omega)
  case rel => exact ⟨J + 1, v, by go_num, by omega, rfl, g0, g1, g1f, by rw [HMK.out, if_neg (by omega)]; exact HO.out, hz, HBR.out⟩
 have q2 : (x : Int).tmod 2 = 1 := by rw [a2]; omega
 have q4 : IntKind.u8.wrap 1 = 1 := by decide
 clear a2
 by_cases hR1 : R = 1
 case pos =>
  subst hR1
  go_wp2_with (first | (go_at_call 89; refine (T.out _ HBW.out).mono ?_; rintro e w2 ⟨rfl, rfl⟩))
  go_roundg (min X vs.length - (J + 1))
  case measure => (have := HN2.out; omega)
  case rel => exact ⟨J + 1, v, by go_num, by omega, rfl, g0, g1, g1f, by rw [HMK.out, if_neg (by omega)]; exact HO.out, hz, HBR.out⟩
 have hb5 : (mkTo l vs J).length ≤ 1728 := by omega
 go_wp2_with (first | (go_at_call 89; refine (T.out _ HBW.out).mono ?_; rintro e w2 ⟨rfl, hw2⟩; replace hw2 := hw2.symm; subst hw2) | (at_builtin; go_must (refine wpList_app2 (enc := cEnc) rfl _ _ _ rfl (s + 2) 76 i0 _ 16 Try.underlying28 hi0 hz0 hz1 hz2 rfl (by omega) _ (mkTo l vs J) rfl (HO.out.alloc _) (some ⟨wr.heap.size, 0, none⟩) [⟨J, R⟩] 1 rfl (fun h => by cases h) (SlAt.cell1 (by go_cell) (by go_cell)) cEnc_one (by simp [maxLen]; omega) (by simp; omega) (by simp; omega) ?_); intro v2 w3 hown2 hgr2 hbl2 hat2; obtain ⟨q2', cq2, rfl, -, -, -, -⟩ := owns_val (by decide) hown2; have HOW2 := Lib.hid hown2; have hbl3 : Below (s + 2) wr w3 := (Below.alloc (Below.refl _ _) (by omega) _).trans hbl2; have g0 := oldcell hbl3 g0 (by omega); have g1 := oldcell hbl3 g1 (by omega); have g1f := oldfree hbl3 g1f (by omega); have z3 := hbl3.size; have HBL3 := Lib.hid hbl3; clear hown2 hgr2 hbl2 hat2 hbl3))
 go_roundg (min X vs.length - (J + 1))
 case measure => (have := HN2.out; omega)
 refine ⟨J + 1, _, by go_num, by omega, rfl, by go_cell, by go_cell, by rw [World.frozen?_setCell]; exact g1f, ?_, by simp; omega, ?_⟩
 · rw [HMK.out, if_pos ⟨hodd, hR1⟩]
   have hq := HOW2.out
   rw [show (mkTo l vs J ++ [(⟨J, R⟩ : Cell)]).length = (mkTo l vs J).length + 1 by simp] at hq ⊢
   exact ownsRow_setCell_below (a := ⟨s + 1, 1, none⟩) hq (by show s + 1 < s + 2; omega) _
 · exact Below.setCell (HBR.out.trans (HBL3.out.mono (by omega))) (by show _ ≤ s + 1; omega) _
end Go.Proofs.Ytadilppdlbhjnaa
