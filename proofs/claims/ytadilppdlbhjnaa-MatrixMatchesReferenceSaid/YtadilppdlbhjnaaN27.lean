import Derived.Test.YtadilppdlbhjnaaMO
import Derived.Test.YtadilppdlbhjnaaGF
import Derived.Test.YtadilppdlbhjnaaN1
import Derived.Test.YtadilppdlbhjnaaMH
namespace Go.Proofs.Ytadilppdlbhjnaa
set_option linter.unusedSimpArgs false
set_option linter.unusedVariables false
open Go.RowKit
set_option maxRecDepth 100000 in
set_option maxHeartbeats 4000000 in
theorem rconst_any (l : List Int) (ar : Int) (p : Option Addr) (cap : Nat) (w : World) (h : SI w p cap l) (hl : l.length ≤ 20000) :
 Calls Try.prog 59 #[.agg #[.int .i64 ar, .slice p l.length cap]] w (RetM w ar (mConst l)) := by
 obtain ⟨i0, hi0, hz0, hz1, hz2⟩ := info_parts cell_info
 have H := Lib.hid h; clear h
 obtain ⟨s, hs0⟩ : ∃ s, w.heap.size = s := ⟨_, rfl⟩
 obtain ⟨W2, hW2⟩ : ∃ W2, W2 = (((w.alloc (.cells #[.int .i64 ar, .slice p l.length cap] 44)).alloc (.cells #[.int .i64 0, .slice none 0 0] 30)).alloc (.cells #[.int .i64 ar, .slice none 0 0] 30)) := ⟨_, rfl⟩
 have hbw : Below w.heap.size w W2 := by rw [hW2]; go_grown
 have zz : s + 3 ≤ W2.heap.size := by rw [hW2, ← hs0]; simp
 have hs : Cells W2 [(s + 1, 0, .int .i64 0), (s + 1, 1, .slice none 0 0), (s + 2, 0, .int .i64 ar), (s + 2, 1, .slice none 0 0)] := by rw [hW2, ← hs0]; exact ⟨⟨by go_cell, by go_cell⟩, ⟨by go_cell, by go_cell⟩, ⟨by go_cell, by go_cell⟩, ⟨by go_cell, by go_cell⟩, trivial⟩
 have hk : Cells W2 [(s, 0, .int .i64 ar), (s, 1, .slice p l.length cap)] := by rw [hW2, ← hs0]; exact ⟨⟨by go_cell, by go_cell⟩, ⟨by go_cell, by go_cell⟩, trivial⟩
 have HW2 := Lib.hid hW2; have HS := Lib.hid hs0
 clear hW2 hs0
 have hO : OwnG 2 cEnc 76 W2 (s + 3) (.slice none 0 0) [] := OwnG.nil
 go_enter Try.func59, Try.ntmps59
 go_upto_region 2 with fail
 rw [← HW2.out]
 simp only [HS.out, Nat.add_assoc, Nat.reduceAdd]
 obtain ⟨⟨y10, y10f⟩, ⟨y11, y11f⟩, ⟨y20, y20f⟩, ⟨y21, y21f⟩, -⟩ := id hs
 obtain ⟨⟨y00, y00f⟩, ⟨y01, y01f⟩, -⟩ := id hk
 go_wp2_with fail
 go_loopg [4] l.length (fun N s4 wr => ∃ K : Nat, ∃ v : Value, s4 = .int .i64 K ∧ K ≤ l.length ∧ N = l.length - K ∧ Cells wr [(s + 1, 0, .int .i64 0), (s + 1, 1, .slice none 0 0), (s + 2, 0, .int .i64 ar), (s + 2, 1, v)] ∧ Cells wr [(s, 0, .int .i64 ar), (s, 1, .slice p l.length cap)] ∧ OwnG 2 cEnc 76 wr (s + 3) v (mConst (l.take K)) ∧ Below w.heap.size w wr ∧ s + 3 ≤ wr.heap.size)
 case atStart => exact ⟨0, _, rfl, by omega, rfl, hs, hk, hO, hbw, zz⟩
 obtain ⟨K, v, rfl, hK, hN, hs, hk, hO, hbw, zz⟩ := hrel
 have HN := Lib.hid hN; clear hN
 have hml : (mConst (l.take K)).length ≤ 20000 := by unfold mConst; rw [List.length_map]; have := List.length_take_le K l; omega
 by_cases hlt : K < l.length
 case neg =>
  obtain rfl : K = l.length := by omega
  rw [List.take_length] at hO
  obtain ⟨q, cq, rfl, o1, o2, o3, o4, o5⟩ := hO.val (by decide)
  have HQ := Lib.hid (And.intro o3 (And.intro o4 o5)); clear o3 o4 o5 hO hml
  obtain ⟨L, hL⟩ : ∃ L, mConst l = L := ⟨_, rfl⟩
  rw [hL] at hs o1 HQ
  have HL := Lib.hid hL; clear hL
  clear y10 y10f y11 y11f y20 y20f y21 y21f y00 y00f y01 y01f
  obtain ⟨⟨y10, y10f⟩, ⟨y11, y11f⟩, ⟨y20, y20f⟩, ⟨y21, y21f⟩, -⟩ := id hs
  obtain ⟨⟨y00, y00f⟩, ⟨y01, y01f⟩, -⟩ := id hk
  go_wp2_with fail
  have KX : KeepX [s + 1] wr ((wr.setCell ⟨s + 1, 0, none⟩ (.int .i64 ar)).setCell ⟨s + 1, 1, none⟩ (.slice q L.length cq)) := ((KeepX.refl _ wr).setCell (by simp) _).setCell (by simp) _
  have e0 : ((wr.setCell ⟨s + 1, 0, none⟩ (.int .i64 ar)).setCell ⟨s + 1, 1, none⟩ (.slice q L.length cq)).cell? ⟨s + 1, 0, none⟩ = some (.int .i64 ar) := by go_cell
  have e1 : ((wr.setCell ⟨s + 1, 0, none⟩ (.int .i64 ar)).setCell ⟨s + 1, 1, none⟩ (.slice q L.length cq)).cell? ⟨s + 1, 1, none⟩ = some (.slice q L.length cq) := by go_cell
  obtain ⟨W9, hW9⟩ : ∃ W9, W9 = ((wr.setCell ⟨s + 1, 0, none⟩ (.int .i64 ar)).setCell ⟨s + 1, 1, none⟩ (.slice q L.length cq)) := ⟨_, rfl⟩
  rw [← hW9] at KX e0 e1 ⊢
  clear hW9
  refine bodyPost_ret (by simp [results, Try.results59, go_sem, e0, e1]; try rfl) rfl ?_
  obtain ⟨o3, o4, o5⟩ := HQ.out
  rw [HL.out]
  have hq8 : ∀ ad, q = some ad → ad.block ∉ [s + 1] := fun ad h hm => by have := (o5 ad h).1; simp at hm; omega
  exact ⟨q, cq, rfl, ⟨o1, o2, o3, o4.keep KX hq8, fun ad h => Nat.lt_of_lt_of_le (o5 ad h).2 KX.size⟩, hbw.trans (KX.below (by have := hbw.size; exact this) (by rw [HS.out]; simp))⟩
 have hlt0 : (0 : Int) ≤ (K : Int) := by omega
 have hlt1 : (K : Int) < (l.length : Int) := by omega
 obtain ⟨t, ht⟩ : ∃ t, l[K]? = some t := ⟨_, List.getElem?_eq_getElem hlt⟩
 obtain ⟨bq, oq, rfl, hbq, j0⟩ := int_cell H.out.at' ht
 replace j0 := oldcell hbw j0 hbq
 have hbs : bq < s := by have := HS.out; omega
 have HT := Lib.hid (show mConst (l.take (K + 1)) = mConst (l.take K) ++ [⟨t, 0⟩] by
  obtain ⟨hk, he⟩ := List.getElem?_eq_some_iff.1 ht
  unfold mConst; rw [List.take_succ_eq_append_getElem hk, he, List.map_append]; rfl)
 clear ht
 clear y10 y10f y11 y11f y20 y20f y21 y21f y00 y00f y01 y01f
 obtain ⟨⟨y10, y10f⟩, ⟨y11, y11f⟩, ⟨y20, y20f⟩, ⟨y21, y21f⟩, -⟩ := id hs
 obtain ⟨⟨y00, y00f⟩, ⟨y01, y01f⟩, -⟩ := id hk
 go_upto_region 5 with fail
 clear y10 y10f y11 y11f y20 y20f y21 y21f y00 y00f y01 y01f
 refine wp_region_seqE (fun x => Below wr.heap.size wr x) (.one 0 1 (.one 1 0 (.one 2 1 (.one 3 0 (.one 4 1 (.one 5 1 (.one 6 0 (.one 7 1 (.alt 8 2 (.alt 9 3 (.one 10 1 (.alt 11 3 .nil .stop)) .stop) .stop))))))))) (by kernel_rfl) (by kernel_rfl) (by kernel_rfl) (Below.drew (Below.refl _ _)) ?_
 iterate 8 ((first | (refine seqE_free (v := ?_) rfl (by rfl) ?_ ?_; rotate_left; (focus (intro w; go_simp; try with_reducible rfl))) | (refine seqE_pure (v := ?_) rfl (by rfl) ?_ ?_; rotate_left; (focus (intro w hS; obtain ⟨-, -, -, ⟨y21, -⟩, -⟩ := hs.up hS; obtain ⟨-, ⟨y01, -⟩, -⟩ := hk.up hS; have j0 := zD hS j0; go_simp; try with_reducible rfl)))); (try simp only [Act.put, zA, zB, zC]))
 refine seqE_move rfl (by rfl) ?_ seqE_stop
 intro w1 hS
 refine ⟨.slice (some ⟨w1.heap.size, 0, none⟩) 1 1, w1.alloc (.cells #[.int .i64 t, .int .i64 0] 76), (by go_simp; try with_reducible rfl), ?_⟩
 obtain ⟨b23, hb23⟩ : ∃ b, b = w1.heap.size := ⟨_, rfl⟩
 obtain ⟨v1, hw1⟩ : ∃ zW, zW = w1.alloc (.cells #[.int .i64 t, .int .i64 0] 76) := ⟨_, rfl⟩
 rw [← hw1, ← hb23]
 have hbl : Below w1.heap.size w1 v1 := by rw [hw1]; go_grown
 refine ⟨(fun x => Below v1.heap.size v1 x), Below.refl _ _, fun x hx => btr (btr hS hbl) hx, ?_⟩
 have hX := btr hS hbl; replace j0 := zD hX j0
 replace hs := hs.up hX; replace hk := hk.up hX; replace hO := hO.up hX; replace hbw := btr hbw hX; replace zz := Nat.le_trans zz (Below.size hX)
 have hY : MxAt v1 (some ⟨b23, 0, none⟩) 1 [⟨t, 0⟩] := by rw [hw1, hb23]; exact MxAt.one ⟨t, 0⟩ _ _
 clear hX hS hbl hw1 hb23
 (try simp only [Act.put, zA, zB, zC])
 refine seqE_moveB rfl (by rfl) ?_ seqE_stop
 intro w2 hS; replace j0 := zD hS j0
 replace hs := hs.up hS; replace hk := hk.up hS; replace hO := hO.up hS; replace hY := hY.up hS; replace hbw := btr hbw hS; replace zz := Nat.le_trans zz (Below.size hS)
 obtain ⟨v5, v2, hrun, hO2, -, hbl, -⟩ := hO.app 28 28 i0 _ 16 Try.underlying28 hi0 hz0 hz1 hz2 rfl (by decide) (⟨b23, 0, none⟩) [⟨t, 0⟩] 1 hY.at' cEnc_one (by simp [maxLen]; omega) (by simp; omega) (by omega)
 obtain ⟨q24, cq24, rfl, -⟩ := hO2.val (by decide)
 refine ⟨_, v2, exec_app rfl rfl rfl hrun, (fun x => Below v2.heap.size v2 x), Below.refl _ _, ?_⟩
 replace hs : Cells v2 [(s + 1, 0, .int .i64 0), (s + 1, 1, .slice none 0 0), (s + 2, 0, .int .i64 ar), (s + 2, 1, v)] := Cells.low hbl (l := [(s + 1, 0, .int .i64 0), (s + 1, 1, .slice none 0 0), (s + 2, 0, .int .i64 ar), (s + 2, 1, v)]) (by first | exact hs | exact ⟨hs.1, hs.2.1, hs.2.2.1, hs.2.2.2.1, trivial⟩) (by simp <;> omega)
 replace hk : Cells v2 [(s, 0, .int .i64 ar), (s, 1, .slice (some ⟨bq, oq, none⟩) l.length cap)] := Cells.low hbl hk (by simp <;> omega)
 replace j0 := oldcell hbl j0 (by omega)
 replace hbw := hbw.trans (hbl.mono (by have h := HS.out; omega))
 replace zz := Nat.le_trans zz hbl.size
 replace hO := hO2
 clear hO2 hrun hS hbl
 (try simp only [Act.put, zA, zB, zC])
 iterate 1 (refine seqE_free (v := ?_) rfl (by rfl) ?_ ?_; rotate_left; (focus (intro w; go_simp; try with_reducible rfl)); (try simp only [Act.put, zA, zB, zC]))
 refine seqE_storeB rfl (by rfl) ?_ seqE_stop
 intro w3 hS; replace j0 := zD hS j0
 replace hs := hs.up hS; replace hk := hk.up hS; replace hO := hO.up hS; replace hbw := btr hbw hS; replace zz := Nat.le_trans zz (Below.size hS)
 obtain ⟨⟨y10, y10f⟩, ⟨y11, y11f⟩, ⟨y20, y20f⟩, ⟨y21, y21f⟩, -⟩ := id hs
 obtain ⟨⟨y00, y00f⟩, ⟨y01, y01f⟩, -⟩ := id hk
 refine ⟨(w3.setCell ⟨s + 2, 1, none⟩ (.slice q24 (mConst (l.take K) ++ ([⟨t, 0⟩] : List Cell)).length cq24)), (by go_simp; try with_reducible rfl), (fun x => Below ((w3.setCell ⟨s + 2, 1, none⟩ (.slice q24 (mConst (l.take K) ++ ([⟨t, 0⟩] : List Cell)).length cq24))).heap.size ((w3.setCell ⟨s + 2, 1, none⟩ (.slice q24 (mConst (l.take K) ++ ([⟨t, 0⟩] : List Cell)).length cq24))) x), Below.refl _ _, ?_⟩
 obtain ⟨v3, hw⟩ : ∃ zW, zW = (w3.setCell ⟨s + 2, 1, none⟩ (.slice q24 (mConst (l.take K) ++ ([⟨t, 0⟩] : List Cell)).length cq24)) := ⟨_, rfl⟩
 rw [← hw]
 replace hs : Cells v3 [(s + 1, 0, .int .i64 0), (s + 1, 1, .slice none 0 0), (s + 2, 0, .int .i64 ar), (s + 2, 1, .slice q24 (mConst (l.take K) ++ ([⟨t, 0⟩] : List Cell)).length cq24)] := by rw [hw]; exact ⟨⟨by go_cell, (fz y10f)⟩, ⟨by go_cell, (fz y11f)⟩, ⟨by go_cell, (fz y20f)⟩, ⟨by go_cell, (fz y21f)⟩, trivial⟩
 replace hk : Cells v3 [(s, 0, .int .i64 ar), (s, 1, .slice (some ⟨bq, oq, none⟩) l.length cap)] := by rw [hw]; exact (hk.far (by simp <;> omega))
 replace hO : OwnG 2 cEnc 76 v3 (s + 3) (.slice q24 (mConst (l.take K) ++ ([⟨t, 0⟩] : List Cell)).length cq24) (mConst (l.take K) ++ ([⟨t, 0⟩] : List Cell)) := by rw [hw]; exact (hO.set (by (try dsimp only); omega) _)
 replace j0 : v3.cell? ⟨bq, oq + K, none⟩ = some (.int .i64 t) := by rw [hw]; exact (keep_far j0 (by first | omega | (dsimp only; omega)))
 replace hbw : Below w.heap.size w v3 := by rw [hw]; exact (Below.setCell hbw (by have h := HS.out; (try dsimp only); omega) _)
 replace zz : s + 3 ≤ v3.heap.size := by rw [hw]; simpa using zz
 clear hw
 clear y10 y10f y11 y11f y20 y20f y21 y21f y00 y00f y01 y01f
 clear hS
 (try simp only [Act.put, zA, zB, zC])
 refine seqE_nil ?_
 intro wz hS; replace j0 := zD hS j0
 replace hs := hs.up hS; replace hk := hk.up hS; replace hO := hO.up hS; replace hbw := btr hbw hS; replace zz := Nat.le_trans zz (Below.size hS); clear hS
 have HT2 := HT.out
 rw [← HT2] at hO hs
 go_wp2_with fail
 go_roundg (l.length - (K + 1))
 case measure => (have := HN.out; omega)
 case rel => exact ⟨K + 1, _, by go_num, by omega, rfl, hs, hk, hO, hbw, zz⟩
set_option maxRecDepth 100000 in
set_option maxHeartbeats 4000000 in
theorem rvalue_anyF (c : List Gate) (m : List Cell) (V : List Bool) (ar : Int) (p pm pv : Option Addr) (cap cm cv : Nat) (w : World) (hC : CAt w p cap c) (hM : MxAt w pm cm m) (hV : BoolsAt w pv V) (hw : WfC c) (hl : c.length ≤ 20000) (hml : m.length ≤ 20000) (hvl : V.length ≤ maxLen) :
 Calls Try.prog 58 #[.agg #[.slice p c.length cap], .agg #[.int .i64 ar, .slice pm m.length cm], .slice pv V.length cv] w (fun e w' => ∃ q cq, e = .returned (.agg #[.int .i64 ar, .slice q (mValue c V m).length cq]) ∧ SI w' q cq (mValue c V m) ∧ (∀ ad, q = some ad → w.heap.size ≤ ad.block) ∧ Below w.heap.size w w') := by
 obtain ⟨i0, hi0, hz0, hz1, hz2⟩ := info_parts int_info
 have HC := Lib.hid hC; have HM := Lib.hid hM; have HV := Lib.hid hV; have HWF := Lib.hid hw; clear hC hM hV hw
 obtain ⟨s, hs0⟩ : ∃ s, w.heap.size = s := ⟨_, rfl⟩
 obtain ⟨W2, hW2⟩ : ∃ W2, W2 = ((((w.alloc (.cells #[.slice p c.length cap] 27)).alloc (.cells #[.int .i64 ar, .slice pm m.length cm] 30)).alloc (.cells #[.int .i64 0, .slice none 0 0] 44)).alloc (.cells #[.int .i64 ar, .slice none 0 0] 44)) := ⟨_, rfl⟩
 have hbw : Below w.heap.size w W2 := by rw [hW2]; go_grown
 have zz : s + 4 ≤ W2.heap.size := by rw [hW2, ← hs0]; simp
 have hs : Cells W2 [(s + 2, 0, .int .i64 0), (s + 2, 1, .slice none 0 0), (s + 3, 0, .int .i64 ar), (s + 3, 1, .slice none 0 0)] := by rw [hW2, ← hs0]; exact ⟨⟨by go_cell, by go_cell⟩, ⟨by go_cell, by go_cell⟩, ⟨by go_cell, by go_cell⟩, ⟨by go_cell, by go_cell⟩, trivial⟩
 have hk : Cells W2 [(s, 0, .slice p c.length cap), (s + 1, 0, .int .i64 ar), (s + 1, 1, .slice pm m.length cm)] := by rw [hW2, ← hs0]; exact ⟨⟨by go_cell, by go_cell⟩, ⟨by go_cell, by go_cell⟩, ⟨by go_cell, by go_cell⟩, trivial⟩
 have HW2 := Lib.hid hW2; have HS := Lib.hid hs0
 clear hW2 hs0
 have hO : OwnG 1 iEnc 3 W2 (s + 4) (.slice none 0 0) ([]) := OwnG.nil
 go_enter Try.func58, Try.ntmps58
 go_upto_region 2 with fail
 rw [← HW2.out]
 simp only [HS.out, Nat.add_assoc, Nat.reduceAdd]
 obtain ⟨⟨y20, y20f⟩, ⟨y21, y21f⟩, ⟨y30, y30f⟩, ⟨y31, y31f⟩, -⟩ := id hs
 obtain ⟨⟨y00, y00f⟩, ⟨y10, y10f⟩, ⟨y11, y11f⟩, -⟩ := id hk
 go_wp2_with fail
 go_loopg [8] m.length (fun N s8 wr => ∃ K : Nat, ∃ v : Value, s8 = .int .i64 K ∧ K ≤ m.length ∧ N = m.length - K ∧ Cells wr [(s + 2, 0, .int .i64 0), (s + 2, 1, .slice none 0 0), (s + 3, 0, .int .i64 ar), (s + 3, 1, v)] ∧ Cells wr [(s, 0, .slice p c.length cap), (s + 1, 0, .int .i64 ar), (s + 1, 1, .slice pm m.length cm)] ∧ OwnG 1 iEnc 3 wr (s + 4) v (mValue c V (m.take K)) ∧ Below w.heap.size w wr ∧ s + 4 ≤ wr.heap.size)
 case atStart => exact ⟨0, _, rfl, by omega, rfl, hs, hk, hO, hbw, zz⟩
 obtain ⟨K, v, rfl, hK, hN, hs, hk, hO, hbw, zz⟩ := hrel
 have HN := Lib.hid hN; clear hN
 have hvl3 : (mValue c V (m.take K)).length ≤ 20000 := by have := mValue_len c V (m.take K); have := List.length_take_le K m; omega
 by_cases hlt : K < m.length
 case neg =>
  obtain rfl : K = m.length := by omega
  rw [List.take_length] at hO
  obtain ⟨q, cq, rfl, o1, o2, o3, o4, o5⟩ := hO.val (by decide)
  have HQ := Lib.hid (And.intro o3 (And.intro o4 o5)); clear o3 o4 o5 hO hvl3
  obtain ⟨L, hL⟩ : ∃ L, mValue c V m = L := ⟨_, rfl⟩
  rw [hL] at hs o1 HQ
  have HL := Lib.hid hL; clear hL
  clear y20 y20f y21 y21f y30 y30f y31 y31f y00 y00f y10 y10f y11 y11f
  obtain ⟨⟨y20, y20f⟩, ⟨y21, y21f⟩, ⟨y30, y30f⟩, ⟨y31, y31f⟩, -⟩ := id hs
  obtain ⟨⟨y00, y00f⟩, ⟨y10, y10f⟩, ⟨y11, y11f⟩, -⟩ := id hk
  go_wp2_with fail
  have KX : KeepX [s + 2] wr ((wr.setCell ⟨s + 2, 0, none⟩ (.int .i64 ar)).setCell ⟨s + 2, 1, none⟩ (.slice q L.length cq)) := ((KeepX.refl _ wr).setCell (by simp) _).setCell (by simp) _
  have e0 : ((wr.setCell ⟨s + 2, 0, none⟩ (.int .i64 ar)).setCell ⟨s + 2, 1, none⟩ (.slice q L.length cq)).cell? ⟨s + 2, 0, none⟩ = some (.int .i64 ar) := by go_cell
  have e1 : ((wr.setCell ⟨s + 2, 0, none⟩ (.int .i64 ar)).setCell ⟨s + 2, 1, none⟩ (.slice q L.length cq)).cell? ⟨s + 2, 1, none⟩ = some (.slice q L.length cq) := by go_cell
  obtain ⟨W9, hW9⟩ : ∃ W9, W9 = ((wr.setCell ⟨s + 2, 0, none⟩ (.int .i64 ar)).setCell ⟨s + 2, 1, none⟩ (.slice q L.length cq)) := ⟨_, rfl⟩
  rw [← hW9] at KX e0 e1 ⊢
  clear hW9
  refine bodyPost_ret (by simp [results, Try.results58, go_sem, e0, e1]; try rfl) rfl ?_
  obtain ⟨o3, o4, o5⟩ := HQ.out
  rw [HL.out]
  have hq8 : ∀ ad, q = some ad → ad.block ∉ [s + 2] := fun ad h hm => by have := (o5 ad h).1; simp at hm; omega
  exact ⟨q, cq, rfl, ⟨o1, o2, o3, o4.keep KX hq8, fun ad h => Nat.lt_of_lt_of_le (o5 ad h).2 KX.size⟩, (fun ad h => by have := (o5 ad h).1; have := HS.out; omega), hbw.trans (KX.below (by have := hbw.size; exact this) (by rw [HS.out]; simp))⟩
 have hlt0 : (0 : Int) ≤ (K : Int) := by omega
 have hlt1 : (K : Int) < (m.length : Int) := by omega
 obtain ⟨x, hx⟩ : ∃ x, m[K]? = some x := ⟨_, List.getElem?_eq_getElem hlt⟩
 have HT := Lib.hid (mValue_snoc (c := c) (V := V) hx)
 obtain ⟨r, P⟩ := x
 obtain ⟨bq, oq, rfl, hbq, j0, j1⟩ := cell_cells HM.out.at' hx
 dsimp only at j0 j1 HT
 replace j0 := oldcell hbw j0 hbq; replace j1 := oldcell hbw j1 hbq
 have hbs : bq < s := by have := HS.out; omega
 obtain ⟨X, hX⟩ : ∃ X, ceval c V P = X := ⟨_, rfl⟩
 have HX := Lib.hid hX
 have T := Lib.hid (fun (w' : World) (hB' : Below w.heap.size w w') => reval_is (cv := cv) HC.out hB' (HV.out.mono hB') HWF.out HX.out rfl hl hvl)
 clear hx hX
 cases X
 case false =>
  clear y20 y20f y21 y21f y30 y30f y31 y31f y00 y00f y10 y10f y11 y11f
  obtain ⟨⟨y20, y20f⟩, ⟨y21, y21f⟩, ⟨y30, y30f⟩, ⟨y31, y31f⟩, -⟩ := id hs
  obtain ⟨⟨y00, y00f⟩, ⟨y10, y10f⟩, ⟨y11, y11f⟩, -⟩ := id hk
  go_upto_region 5 with fail
  clear y20 y20f y21 y21f y30 y30f y31 y31f y00 y00f y10 y10f y11 y11f
  refine wp_region_seqE (fun x => Below wr.heap.size wr x) (.one 0 0 (.one 1 1 (.one 2 1 (.one 3 0 (.one 4 1 (.one 5 1 (.one 6 1 (.one 7 0 (.alt 8 2 .nil .stop))))))))) (by kernel_rfl) (by kernel_rfl) (by kernel_rfl) (Below.drew (Below.refl _ _)) ?_
  iterate 8 ((first | (refine seqE_free (v := ?_) rfl (by rfl) ?_ ?_; rotate_left; (focus (intro w; go_simp; try with_reducible rfl))) | (refine seqE_pure (v := ?_) rfl (by rfl) ?_ ?_; rotate_left; (focus (intro w hS; obtain ⟨⟨y00, -⟩, -, ⟨y11, -⟩, -⟩ := hk.up hS; have j0 := zD hS j0; have j1 := zD hS j1; go_simp; try with_reducible rfl)))); (try simp only [Act.put, zA, zB, zC]))
  refine seqE_keep (v := .bool false) (f := ?_) (args := ?_) rfl (by rfl) ?_ ?_ ?_ seqE_stop
  rotate_left 2
  focus (intro w hS; go_simp; first | done | with_reducible rfl | (refine ⟨?_, ?_⟩ <;> with_reducible rfl))
  focus (intro w hS; refine (T.out _ (btr hbw hS)).mono ?_; rintro e w2 ⟨rfl, hbl⟩; exact ⟨rfl, btr hS hbl⟩)
  (try simp only [Act.put, zA, zB, zC])
  refine seqE_nil ?_
  intro wz hS; replace j0 := zD hS j0; replace j1 := zD hS j1
  replace hs := hs.up hS; replace hk := hk.up hS; replace hO := hO.up hS; replace hbw := btr hbw hS; replace zz := Nat.le_trans zz (Below.size hS); clear hS
  rw [if_neg (by rw [HX.out]; decide)] at HT
  have HT2 := HT.out
  rw [← HT2] at hO hvl3
  go_wp2_with fail
  go_roundg (m.length - (K + 1))
  case measure => (have := HN.out; omega)
  case rel => exact ⟨K + 1, _, by go_num, by omega, rfl, hs, hk, hO, hbw, zz⟩
 clear y20 y20f y21 y21f y30 y30f y31 y31f y00 y00f y10 y10f y11 y11f
 obtain ⟨⟨y20, y20f⟩, ⟨y21, y21f⟩, ⟨y30, y30f⟩, ⟨y31, y31f⟩, -⟩ := id hs
 obtain ⟨⟨y00, y00f⟩, ⟨y10, y10f⟩, ⟨y11, y11f⟩, -⟩ := id hk
 go_upto_region 5 with fail
 clear y20 y20f y21 y21f y30 y30f y31 y31f y00 y00f y10 y10f y11 y11f
 refine wp_region_seqE (fun x => Below wr.heap.size wr x) (.one 0 0 (.one 1 1 (.one 2 1 (.one 3 0 (.one 4 1 (.one 5 1 (.one 6 1 (.one 7 0 (.alt 8 2 .nil .stop))))))))) (by kernel_rfl) (by kernel_rfl) (by kernel_rfl) (Below.drew (Below.refl _ _)) ?_
 iterate 8 ((first | (refine seqE_free (v := ?_) rfl (by rfl) ?_ ?_; rotate_left; (focus (intro w; go_simp; try with_reducible rfl))) | (refine seqE_pure (v := ?_) rfl (by rfl) ?_ ?_; rotate_left; (focus (intro w hS; obtain ⟨⟨y00, -⟩, -, ⟨y11, -⟩, -⟩ := hk.up hS; have j0 := zD hS j0; have j1 := zD hS j1; go_simp; try with_reducible rfl)))); (try simp only [Act.put, zA, zB, zC]))
 refine seqE_keep (v := .bool true) (f := ?_) (args := ?_) rfl (by rfl) ?_ ?_ ?_ seqE_stop
 rotate_left 2
 focus (intro w hS; go_simp; first | done | with_reducible rfl | (refine ⟨?_, ?_⟩ <;> with_reducible rfl))
 focus (intro w hS; refine (T.out _ (btr hbw hS)).mono ?_; rintro e w2 ⟨rfl, hbl⟩; exact ⟨rfl, btr hS hbl⟩)
 (try simp only [Act.put, zA, zB, zC])
 refine seqE_nil ?_
 intro wz hS; replace j0 := zD hS j0; replace j1 := zD hS j1
 replace hs := hs.up hS; replace hk := hk.up hS; replace hO := hO.up hS; replace hbw := btr hbw hS; replace zz := Nat.le_trans zz (Below.size hS); clear hS
 obtain ⟨⟨y20, y20f⟩, ⟨y21, y21f⟩, ⟨y30, y30f⟩, ⟨y31, y31f⟩, -⟩ := id hs
 obtain ⟨⟨y00, y00f⟩, ⟨y10, y10f⟩, ⟨y11, y11f⟩, -⟩ := id hk
 rw [if_pos HX.out] at HT
 go_upto_region 6 with fail
 clear y20 y20f y21 y21f y30 y30f y31 y31f y00 y00f y10 y10f y11 y11f
 refine wp_region_seqE (fun x => Below wz.heap.size wz x) (.one 0 1 (.one 1 0 (.one 2 1 (.one 3 0 (.one 4 1 (.one 5 1 (.one 6 1 (.one 7 0 (.alt 8 2 (.alt 9 3 (.one 10 1 (.alt 11 3 .nil .stop)) .stop) .stop))))))))) (by kernel_rfl) (by kernel_rfl) (by kernel_rfl) (Below.drew (Below.refl _ _)) ?_
 iterate 8 ((first | (refine seqE_free (v := ?_) rfl (by rfl) ?_ ?_; rotate_left; (focus (intro w; go_simp; try with_reducible rfl))) | (refine seqE_pure (v := ?_) rfl (by rfl) ?_ ?_; rotate_left; (focus (intro w hS; obtain ⟨-, -, -, ⟨y31, -⟩, -⟩ := hs.up hS; obtain ⟨-, -, ⟨y11, -⟩, -⟩ := hk.up hS; have j0 := zD hS j0; have j1 := zD hS j1; go_simp; try with_reducible rfl)))); (try simp only [Act.put, zA, zB, zC]))
 refine seqE_move rfl (by rfl) ?_ seqE_stop
 intro w1 hS
 refine ⟨.slice (some ⟨w1.heap.size, 0, none⟩) 1 1, w1.alloc (.cells #[.int .i64 r] 3), (by go_simp; try with_reducible rfl), ?_⟩
 obtain ⟨b36, hb36⟩ : ∃ b, b = w1.heap.size := ⟨_, rfl⟩
 obtain ⟨v1, hw1⟩ : ∃ zW, zW = w1.alloc (.cells #[.int .i64 r] 3) := ⟨_, rfl⟩
 rw [← hw1, ← hb36]
 have hbl : Below w1.heap.size w1 v1 := by rw [hw1]; go_grown
 refine ⟨(fun x => Below v1.heap.size v1 x), Below.refl _ _, fun x hx => btr (btr hS hbl) hx, ?_⟩
 have hX := btr hS hbl; replace j0 := zD hX j0; replace j1 := zD hX j1
 replace hs := hs.up hX; replace hk := hk.up hX; replace hO := hO.up hX; replace hbw := btr hbw hX; replace zz := Nat.le_trans zz (Below.size hX)
 have hY : SI v1 (some ⟨b36, 0, none⟩) 1 [r] := by rw [hw1, hb36]; exact SI.one r _ _
 clear hX hS hbl hw1 hb36
 (try simp only [Act.put, zA, zB, zC])
 refine seqE_moveB rfl (by rfl) ?_ seqE_stop
 intro w2 hS; replace j0 := zD hS j0; replace j1 := zD hS j1
 replace hs := hs.up hS; replace hk := hk.up hS; replace hO := hO.up hS; replace hY := hY.up hS; replace hbw := btr hbw hS; replace zz := Nat.le_trans zz (Below.size hS)
 obtain ⟨v5, v2, hrun, hO2, -, hbl, -⟩ := hO.app 42 42 i0 _ 8 Try.underlying42 hi0 hz0 hz1 hz2 rfl (by decide) (⟨b36, 0, none⟩) [r] 1 hY.at' iEnc_one (by simp [maxLen]; omega) (by simp; omega) (by omega)
 obtain ⟨q37, cq37, rfl, -⟩ := hO2.val (by decide)
 refine ⟨_, v2, exec_app rfl rfl rfl hrun, (fun x => Below v2.heap.size v2 x), Below.refl _ _, ?_⟩
 replace hs : Cells v2 [(s + 2, 0, .int .i64 0), (s + 2, 1, .slice none 0 0), (s + 3, 0, .int .i64 ar), (s + 3, 1, v)] := Cells.low hbl (l := [(s + 2, 0, .int .i64 0), (s + 2, 1, .slice none 0 0), (s + 3, 0, .int .i64 ar), (s + 3, 1, v)]) (by first | exact hs | exact ⟨hs.1, hs.2.1, hs.2.2.1, hs.2.2.2.1, trivial⟩) (by simp <;> omega)
 replace hk : Cells v2 [(s, 0, .slice p c.length cap), (s + 1, 0, .int .i64 ar), (s + 1, 1, .slice (some ⟨bq, oq, none⟩) m.length cm)] := Cells.low hbl hk (by simp <;> omega)
 replace j0 := oldcell hbl j0 (by omega)
 replace j1 := oldcell hbl j1 (by omega)
 replace hbw := hbw.trans (hbl.mono (by have h := HS.out; omega))
 replace zz := Nat.le_trans zz hbl.size
 replace hO := hO2
 clear hO2 hrun hS hbl
 (try simp only [Act.put, zA, zB, zC])
 iterate 1 (refine seqE_free (v := ?_) rfl (by rfl) ?_ ?_; rotate_left; (focus (intro w; go_simp; try with_reducible rfl)); (try simp only [Act.put, zA, zB, zC]))
 refine seqE_storeB rfl (by rfl) ?_ seqE_stop
 intro w3 hS; replace j0 := zD hS j0; replace j1 := zD hS j1
 replace hs := hs.up hS; replace hk := hk.up hS; replace hO := hO.up hS; replace hbw := btr hbw hS; replace zz := Nat.le_trans zz (Below.size hS)
 obtain ⟨⟨y20, y20f⟩, ⟨y21, y21f⟩, ⟨y30, y30f⟩, ⟨y31, y31f⟩, -⟩ := id hs
 obtain ⟨⟨y00, y00f⟩, ⟨y10, y10f⟩, ⟨y11, y11f⟩, -⟩ := id hk
 refine ⟨(w3.setCell ⟨s + 3, 1, none⟩ (.slice q37 (mValue c V (m.take K) ++ ([r] : List Int)).length cq37)), (by go_simp; try with_reducible rfl), (fun x => Below ((w3.setCell ⟨s + 3, 1, none⟩ (.slice q37 (mValue c V (m.take K) ++ ([r] : List Int)).length cq37))).heap.size ((w3.setCell ⟨s + 3, 1, none⟩ (.slice q37 (mValue c V (m.take K) ++ ([r] : List Int)).length cq37))) x), Below.refl _ _, ?_⟩
 obtain ⟨v3, hw⟩ : ∃ zW, zW = (w3.setCell ⟨s + 3, 1, none⟩ (.slice q37 (mValue c V (m.take K) ++ ([r] : List Int)).length cq37)) := ⟨_, rfl⟩
 rw [← hw]
 replace hs : Cells v3 [(s + 2, 0, .int .i64 0), (s + 2, 1, .slice none 0 0), (s + 3, 0, .int .i64 ar), (s + 3, 1, .slice q37 (mValue c V (m.take K) ++ ([r] : List Int)).length cq37)] := by rw [hw]; exact ⟨⟨by go_cell, (fz y20f)⟩, ⟨by go_cell, (fz y21f)⟩, ⟨by go_cell, (fz y30f)⟩, ⟨by go_cell, (fz y31f)⟩, trivial⟩
 replace hk : Cells v3 [(s, 0, .slice p c.length cap), (s + 1, 0, .int .i64 ar), (s + 1, 1, .slice (some ⟨bq, oq, none⟩) m.length cm)] := by rw [hw]; exact (hk.far (by simp <;> omega))
 replace hO : OwnG 1 iEnc 3 v3 (s + 4) (.slice q37 (mValue c V (m.take K) ++ ([r] : List Int)).length cq37) ((mValue c V (m.take K) ++ ([r] : List Int))) := by rw [hw]; exact (hO.set (by (try dsimp only); omega) _)
 replace j0 : v3.cell? ⟨bq, oq + K * 2, none⟩ = some (.int .i64 r) := by rw [hw]; exact (keep_far j0 (by first | omega | (dsimp only; omega)))
 replace j1 : v3.cell? ⟨bq, oq + K * 2 + 1, none⟩ = some (.int .i64 P) := by rw [hw]; exact (keep_far j1 (by first | omega | (dsimp only; omega)))
 replace hbw : Below w.heap.size w v3 := by rw [hw]; exact (Below.setCell hbw (by have h := HS.out; (try dsimp only); omega) _)
 replace zz : s + 4 ≤ v3.heap.size := by rw [hw]; simpa using zz
 clear hw
 clear y20 y20f y21 y21f y30 y30f y31 y31f y00 y00f y10 y10f y11 y11f
 clear hS
 (try simp only [Act.put, zA, zB, zC])
 refine seqE_nil ?_
 intro wz hS; replace j0 := zD hS j0; replace j1 := zD hS j1
 replace hs := hs.up hS; replace hk := hk.up hS; replace hO := hO.up hS; replace hbw := btr hbw hS; replace zz := Nat.le_trans zz (Below.size hS); clear hS
 have HT2 := HT.out
 rw [← HT2] at hO hs
 go_wp2_with fail
 go_roundg (m.length - (K + 1))
 case measure => (have := HN.out; omega)
 case rel => exact ⟨K + 1, _, by go_num, by omega, rfl, hs, hk, hO, hbw, zz⟩
end Go.Proofs.Ytadilppdlbhjnaa
