import Derived.Test.YtadilppdlbhjnaaM6
namespace Go.Proofs.Ytadilppdlbhjnaa
set_option linter.unusedSimpArgs false
set_option linter.unusedVariables false
open Go.RowKit
theorem mConst_snoc {l : List Int} {K : Nat} {t : Int} (h : l[K]? = some t) : mConst (l.take (K + 1)) = put (mConst (l.take K)) t 0 := by
 obtain ⟨hk, he⟩ := List.getElem?_eq_some_iff.1 h
 unfold mConst put
 rw [List.take_succ_eq_append_getElem hk, he, List.map_append, if_neg (by decide)]; rfl
set_option maxRecDepth 100000 in
set_option maxHeartbeats 2000000 in
theorem const_any (l : List Int) (ar : Int) (p : Option Addr) (cap : Nat) (w : World) (h : SI w p cap l) (hl : l.length ≤ 20000) :
 Calls Try.prog 29 #[.agg #[.int .i64 ar, .slice p l.length cap]] w (RetM w ar (mConst l)) := by
 have H := Lib.hid h; clear h
 obtain ⟨s, hs⟩ : ∃ s, w.heap.size = s := ⟨_, rfl⟩
 obtain ⟨W2, hW2⟩ : ∃ W2, W2 = ((w.alloc (.cells #[.int .i64 ar, .slice p l.length cap] 44)).alloc (.cells #[.int .i64 0, .slice none 0 0] 30)).alloc (.cells #[.int .i64 ar, .slice none 0 0] 30) := ⟨_, rfl⟩
 have hB : Below w.heap.size w W2 := by rw [hW2]; go_grown
 have z2 : W2.heap.size = s + 3 := by rw [hW2, ← hs]; simp
 have r0 : W2.cell? ⟨s + 1, 0, none⟩ = some (.int .i64 0) := by rw [hW2, ← hs]; go_cell
 have r1 : W2.cell? ⟨s + 1, 1, none⟩ = some (.slice none 0 0) := by rw [hW2, ← hs]; go_cell
 have r0f : W2.frozen? ⟨s + 1, 0, none⟩ = false := by rw [hW2, ← hs]; go_cell
 have r1f : W2.frozen? ⟨s + 1, 1, none⟩ = false := by rw [hW2, ← hs]; go_cell
 have G0 : GMx W2 (s + 3) (s + 2) ar [] (.slice none 0 0) := ⟨by rw [hW2, ← hs]; go_cell, by rw [hW2, ← hs]; go_cell, by rw [hW2, ← hs]; go_cell, by rw [hW2, ← hs]; go_cell, World.ownsRow_nil _ _ _ _, by omega, by omega⟩
 have y1 : W2.cell? ⟨s, 1, none⟩ = some (.slice p l.length cap) := by rw [hW2, ← hs]; go_cell
 have HB := Lib.hid hB; have HW2 := Lib.hid hW2; have HS := Lib.hid hs; have HG0 := Lib.hid G0
 clear hB hW2 hs G0
 go_enter Try.func29, Try.ntmps29
 go_upto_region 2 with fail
 rw [← HW2.out]
 simp only [HS.out, Nat.add_assoc, Nat.reduceAdd]
 go_wp2_with fail
 go_loopg [12] l.length (fun N s12 wr => ∃ (K : Nat) (v : Value), s12 = .int .i64 K ∧ K ≤ l.length ∧ N = l.length - K ∧ GMx wr (s + 3) (s + 2) ar (mConst (l.take K)) v ∧ Below (s + 2) W2 wr)
 case atStart => exact ⟨0, _, rfl, by omega, rfl, HG0.out, Below.refl _ _⟩
 obtain ⟨K, v, rfl, hK, hN, hg, hb⟩ := hrel
 have HNk := Lib.hid hN; have HG := Lib.hid hg; have HBR := Lib.hid hb
 have hBW : Below w.heap.size w wr := HB.out.trans (hb.mono (by rw [HS.out]; omega))
 have HBW := Lib.hid hBW
 have hz := hg.hB
 have hml : (mConst (l.take K)).length ≤ 100000 := by unfold mConst; simp; omega
 clear hN hg hBW
 by_cases hlt : K < l.length
 case pos =>
  have hlt0 : (0 : Int) ≤ (K : Int) := by omega
  have hlt1 : (K : Int) < (l.length : Int) := by omega
  obtain ⟨t, ht⟩ : ∃ t, l[K]? = some t := ⟨_, List.getElem?_eq_getElem hlt⟩
  obtain ⟨b, off, rfl, hb1, h0⟩ := int_cell H.out.at' ht
  have k0 := oldcell HBW.out h0 hb1
  have HT := Lib.hid (mConst_snoc ht)
  clear ht h0 hb
  go_wp2_with (first | (go_at_call 86; refine (put_any (mConst (l.take K)) ar t 0 (s + 2) (s + 3) v wr HG.out hml).mono ?_; rintro e w2 ⟨rfl, v', hg', hrow, hkp⟩))
  go_roundg (l.length - (K + 1))
  case measure => (have := HNk.out; omega)
  refine ⟨K + 1, v', by go_num, by omega, rfl, by rw [HT.out]; exact hg', HBR.out.trans ((hkp ((s + 2) :: (match v.ownBlock with | some g => [g] | none => [])) (by simp) (fun g hv => by rw [hv]; simp)).below (by omega) (fun k hk => ?_))⟩
  rcases List.mem_cons.1 hk with e | hm
  · omega
  · cases hv : v.ownBlock with
    | none => rw [hv] at hm; cases hm
    | some g =>
     rw [hv] at hm
     rw [List.mem_singleton.1 hm]
     have := (HG.out.own.lt g hv).1
     omega
 have htk : l.take K = l := List.take_of_length_le (by omega)
 have hG := HG.out
 rw [htk] at hG
 obtain ⟨q3, c3, hv, o1, o2, o3, o4⟩ := owns_val (by decide) hG.own
 subst hv
 have g0 := hG.c0; have g1 := hG.c1
 have O3 := Lib.hid o3; have O4 := Lib.hid o4; have HO := Lib.hid hG.own
 have r0 := oldcell hb r0 (by omega)
 have r1 := oldcell hb r1 (by omega)
 have r0f := oldfree hb r0f (by omega)
 have r1f := oldfree hb r1f (by omega)
 obtain ⟨M, hM⟩ : ∃ M, mConst l = M := ⟨_, rfl⟩
 rw [hM] at g1 o1 O4 HO ⊢
 have HMM := Lib.hid hM
 clear hG o3 o4 hb htk HG hM hml
 go_wp2_with fail
 have KX : KeepX [s + 1] wr ((wr.setCell ⟨s + 1, 0, none⟩ (.int .i64 ar)).setCell ⟨s + 1, 1, none⟩ (.slice q3 M.length c3)) := ((KeepX.refl _ wr).setCell (by simp) _).setCell (by simp) _
 have e0 : ((wr.setCell ⟨s + 1, 0, none⟩ (.int .i64 ar)).setCell ⟨s + 1, 1, none⟩ (.slice q3 M.length c3)).cell? ⟨s + 1, 0, none⟩ = some (.int .i64 ar) := by go_cell
 have e1 : ((wr.setCell ⟨s + 1, 0, none⟩ (.int .i64 ar)).setCell ⟨s + 1, 1, none⟩ (.slice q3 M.length c3)).cell? ⟨s + 1, 1, none⟩ = some (.slice q3 M.length c3) := by go_cell
 obtain ⟨W9, hW9⟩ : ∃ W9, W9 = ((wr.setCell ⟨s + 1, 0, none⟩ (.int .i64 ar)).setCell ⟨s + 1, 1, none⟩ (.slice q3 M.length c3)) := ⟨_, rfl⟩
 rw [← hW9] at KX e0 e1 ⊢
 clear hW9
 refine bodyPost_ret (by simp [results, Try.results29, go_sem, e0, e1]; try rfl) rfl ?_
 have hqr : ∀ ad, q3 = some ad → s + 3 ≤ ad.block ∧ ad.block < wr.heap.size := fun ad h => HO.out.lt ad.block (by rw [h]; rfl)
 have hq8 : ∀ ad, q3 = some ad → ad.block ∉ [s + 1] := fun ad h hm => by have := (hqr ad h).1; simp at hm; omega
 rw [HMM.out]
 refine ⟨q3, c3, rfl, ⟨o1, o2, O3.out, O4.out.keep KX hq8, fun ad h => Nat.lt_of_lt_of_le (hqr ad h).2 KX.size⟩, ?_⟩
 exact HBW.out.trans (KX.below (by have := HBW.out.size; exact this) (by rw [HS.out]; simp))
end Go.Proofs.Ytadilppdlbhjnaa
namespace Go.Proofs.Ytadilppdlbhjnaa
set_option linter.unusedSimpArgs false
set_option linter.unusedVariables false
open Go.RowKit
theorem mValue_snoc {c : List Gate} {V : List Bool} {m : List Cell} {K : Nat} {x : Cell} (h : m[K]? = some x) : mValue c V (m.take (K + 1)) = if ceval c V x.ref = true then mValue c V (m.take K) ++ [x.rank] else mValue c V (m.take K) := by
 obtain ⟨hk, he⟩ := List.getElem?_eq_some_iff.1 h
 unfold mValue
 rw [List.take_succ_eq_append_getElem hk, he, List.filter_append, List.map_append]
 split
 · rename_i h; simp [h]
 · rename_i h; simp [h]
theorem mValue_len (c : List Gate) (V : List Bool) (m : List Cell) : (mValue c V m).length ≤ m.length := by unfold mValue; rw [List.length_map]; exact List.length_filter_le _ _
def RetR (w : World) (ar : Int) (l : List Int) (e : Ending) (w' : World) : Prop := ∃ q cq, e = .returned (.agg #[.int .i64 ar, .slice q l.length cq]) ∧ SI w' q cq l ∧ Below w.heap.size w w'
set_option maxRecDepth 100000 in
set_option maxHeartbeats 4000000 in
theorem mvalue_anyF (c : List Gate) (m : List Cell) (V : List Bool) (ar : Int) (p pm pv : Option Addr) (cap cm cv : Nat) (w : World) (hC : CAt w p cap c) (hM : MxAt w pm cm m) (hV : BoolsAt w pv V) (hw : WfC c) (hl : c.length ≤ 20000) (hml : m.length ≤ 20000) (hvl : V.length ≤ maxLen) :
 Calls Try.prog 30 #[.agg #[.slice p c.length cap], .agg #[.int .i64 ar, .slice pm m.length cm], .slice pv V.length cv] w (fun e w' => ∃ q cq, e = .returned (.agg #[.int .i64 ar, .slice q (mValue c V m).length cq]) ∧ SI w' q cq (mValue c V m) ∧ (∀ ad, q = some ad → w.heap.size ≤ ad.block) ∧ Below w.heap.size w w') := by
 obtain ⟨i0, hi0, hz0, hz1, hz2⟩ := info_parts int_info
 have HC := Lib.hid hC; have HM := Lib.hid hM; have HV := Lib.hid hV; have HWF := Lib.hid hw; clear hC hM hV hw
 obtain ⟨s, hs⟩ : ∃ s, w.heap.size = s := ⟨_, rfl⟩
 obtain ⟨W2, hW2⟩ : ∃ W2, W2 = (((w.alloc (.cells #[.slice p c.length cap] 27)).alloc (.cells #[.int .i64 ar, .slice pm m.length cm] 30)).alloc (.cells #[.int .i64 0, .slice none 0 0] 44)).alloc (.cells #[.int .i64 ar, .slice none 0 0] 44) := ⟨_, rfl⟩
 have hB : Below w.heap.size w W2 := by rw [hW2]; go_grown
 have z2 : W2.heap.size = s + 4 := by rw [hW2, ← hs]; simp
 have y0 : W2.cell? ⟨s, 0, none⟩ = some (.slice p c.length cap) := by rw [hW2, ← hs]; go_cell
 have y1 : W2.cell? ⟨s + 1, 1, none⟩ = some (.slice pm m.length cm) := by rw [hW2, ← hs]; go_cell
 have r0 : W2.cell? ⟨s + 2, 0, none⟩ = some (.int .i64 0) := by rw [hW2, ← hs]; go_cell
 have r1 : W2.cell? ⟨s + 2, 1, none⟩ = some (.slice none 0 0) := by rw [hW2, ← hs]; go_cell
 have r0f : W2.frozen? ⟨s + 2, 0, none⟩ = false := by rw [hW2, ← hs]; go_cell
 have r1f : W2.frozen? ⟨s + 2, 1, none⟩ = false := by rw [hW2, ← hs]; go_cell
 have G0 : W2.cell? ⟨s + 3, 0, none⟩ = some (.int .i64 ar) ∧ W2.cell? ⟨s + 3, 1, none⟩ = some (.slice none 0 0) ∧ W2.frozen? ⟨s + 3, 1, none⟩ = false := ⟨by rw [hW2, ← hs]; go_cell, by rw [hW2, ← hs]; go_cell, by rw [hW2, ← hs]; go_cell⟩
 have HB := Lib.hid hB; have HW2 := Lib.hid hW2; have HS := Lib.hid hs; have HG0 := Lib.hid G0
 clear hB hW2 hs G0
 go_enter Try.func30, Try.ntmps30
 go_upto_region 2 with fail
 rw [← HW2.out]
 simp only [HS.out, Nat.add_assoc, Nat.reduceAdd]
 go_wp2_with fail
 go_loopg [16] m.length (fun N s16 wr => ∃ (K : Nat) (v : Value), s16 = .int .i64 K ∧ K ≤ m.length ∧ N = m.length - K ∧ wr.cell? ⟨s + 3, 0, none⟩ = some (.int .i64 ar) ∧ wr.cell? ⟨s + 3, 1, none⟩ = some v ∧ wr.frozen? ⟨s + 3, 1, none⟩ = false ∧ wr.ownsRow (s + 4) 3 1 v (mValue c V (m.take K)).length (flat 1 iEnc (mValue c V (m.take K))) ∧ s + 4 ≤ wr.heap.size ∧ Below (s + 3) W2 wr)
 case atStart => exact ⟨0, _, rfl, by omega, rfl, HG0.out.1, HG0.out.2.1, HG0.out.2.2, World.ownsRow_nil _ _ _ _, by omega, Below.refl _ _⟩
 obtain ⟨K, v, rfl, hK, hN, g0, g1, g1f, hown, hz, hb⟩ := hrel
 have HNk := Lib.hid hN; have HO := Lib.hid hown; have HBR := Lib.hid hb
 have hBW : Below w.heap.size w wr := HB.out.trans (hb.mono (by rw [HS.out]; omega))
 have HBW := Lib.hid hBW
 have hvl2 := mValue_len c V (m.take K)
 have hvl3 : (mValue c V (m.take K)).length ≤ 20000 := by have := List.length_take_le K m; omega
 clear hN hown hBW hvl2
 by_cases hlt : K < m.length
 case neg =>
  have htk : m.take K = m := List.take_of_length_le (by omega)
  have hO := HO.out
  rw [htk] at hO
  obtain ⟨q3, c3, hv, o1, o2, o3, o4⟩ := owns_val (by decide) hO
  subst hv
  have O3 := Lib.hid o3; have O4 := Lib.hid o4; have HO2 := Lib.hid hO
  have r0 := oldcell hb r0 (by omega)
  have r1 := oldcell hb r1 (by omega)
  have r0f := oldfree hb r0f (by omega)
  have r1f := oldfree hb r1f (by omega)
  obtain ⟨M, hM⟩ : ∃ M, mValue c V m = M := ⟨_, rfl⟩
  rw [hM] at g1 o1 O4 HO2
  try rw [hM]
  have HMM := Lib.hid hM
  clear hO o3 o4 hb htk HO hM hvl3
  go_wp2_with fail
  have KX : KeepX [s + 2] wr ((wr.setCell ⟨s + 2, 0, none⟩ (.int .i64 ar)).setCell ⟨s + 2, 1, none⟩ (.slice q3 M.length c3)) := ((KeepX.refl _ wr).setCell (by simp) _).setCell (by simp) _
  have e0 : ((wr.setCell ⟨s + 2, 0, none⟩ (.int .i64 ar)).setCell ⟨s + 2, 1, none⟩ (.slice q3 M.length c3)).cell? ⟨s + 2, 0, none⟩ = some (.int .i64 ar) := by go_cell
  have e1 : ((wr.setCell ⟨s + 2, 0, none⟩ (.int .i64 ar)).setCell ⟨s + 2, 1, none⟩ (.slice q3 M.length c3)).cell? ⟨s + 2, 1, none⟩ = some (.slice q3 M.length c3) := by go_cell
  obtain ⟨W9, hW9⟩ : ∃ W9, W9 = ((wr.setCell ⟨s + 2, 0, none⟩ (.int .i64 ar)).setCell ⟨s + 2, 1, none⟩ (.slice q3 M.length c3)) := ⟨_, rfl⟩
  rw [← hW9] at KX e0 e1 ⊢
  clear hW9
  refine bodyPost_ret (by simp [results, Try.results30, go_sem, e0, e1]; try rfl) rfl ?_
  have hqr : ∀ ad, q3 = some ad → s + 4 ≤ ad.block ∧ ad.block < wr.heap.size := fun ad h => HO2.out.lt ad.block (by rw [h]; rfl)
  have hq8 : ∀ ad, q3 = some ad → ad.block ∉ [s + 2] := fun ad h hm => by have := (hqr ad h).1; simp at hm; omega
  try rw [HMM.out]
  refine ⟨q3, c3, rfl, ⟨o1, o2, O3.out, O4.out.keep KX hq8, fun ad h => Nat.lt_of_lt_of_le (hqr ad h).2 KX.size⟩, fun ad h => by have h1 := (hqr ad h).1; have h2 := HS.out; omega, ?_⟩
  exact HBW.out.trans (KX.below (by have := HBW.out.size; exact this) (by rw [HS.out]; simp))
 have hlt0 : (0 : Int) ≤ (K : Int) := by omega
 have hlt1 : (K : Int) < (m.length : Int) := by omega
 obtain ⟨x, hx⟩ : ∃ x, m[K]? = some x := ⟨_, List.getElem?_eq_getElem hlt⟩
 obtain ⟨b, off, rfl, hb1, h0, h1⟩ := cell_cells HM.out.at' hx
 have k0 := oldcell HBW.out h0 hb1
 have k1 := oldcell HBW.out h1 hb1
 have y0 := oldcell hb y0 (by omega)
 have HT := Lib.hid (mValue_snoc (c := c) (V := V) hx)
 obtain ⟨X, hX⟩ : ∃ X, ceval c V x.ref = X := ⟨_, rfl⟩
 have HX := Lib.hid hX
 have T := Lib.hid (fun (w' : World) (hB' : Below w.heap.size w w') => eval_is (cv := cv) HC.out hB' (HV.out.mono hB') HWF.out HX.out rfl hl hvl)
 clear hx h0 h1 hb hX
 go_upto_region 5 with fail
 obtain ⟨W5, hW5⟩ : ∃ W5, W5 = wr.alloc (.cells #[.int .i64 x.rank, .int .i64 x.ref] 76) := ⟨_, rfl⟩
 rw [← hW5]
 have hB5 : Below wr.heap.size wr W5 := by rw [hW5]; go_grown
 have z5 : W5.heap.size = wr.heap.size + 1 := by rw [hW5]; simp
 have x0 : W5.cell? ⟨wr.heap.size, 0, none⟩ = some (.int .i64 x.rank) := by rw [hW5]; go_cell
 have x1 : W5.cell? ⟨wr.heap.size, 1, none⟩ = some (.int .i64 x.ref) := by rw [hW5]; go_cell
 have y0 := oldcell hB5 y0 (by omega)
 have g0 := oldcell hB5 g0 (by omega)
 have g1 := oldcell hB5 g1 (by omega)
 have g1f := oldfree hB5 g1f (by omega)
 have HO5 := Lib.hid (owns_below HO.out hB5)
 have HBW5 := Lib.hid (HBW.out.trans (hB5.mono (by have := HBW.out.size; exact this)))
 have HB5 := Lib.hid hB5
 clear hW5 hB5
 go_upto_region 6 with (first | (go_at_call 64; (with_reducible refine (T.out _ HBW5.out).mono ?_); rintro e w2 ⟨rfl, hb2⟩))
 · rename_i hX1
   have zz := hb2.size
   have x0 := oldcell hb2 x0 (by omega)
   have g0 := oldcell hb2 g0 (by omega)
   have g1 := oldcell hb2 g1 (by omega)
   have g1f := oldfree hb2 g1f (by omega)
   have HO2 := Lib.hid (owns_below HO5.out hb2)
   have HB2 := Lib.hid hb2
   clear hb2
   go_wp2_with (first | (at_builtin; go_must (refine wpList_app2 (enc := iEnc) rfl _ _ _ rfl (s + 4) 3 i0 _ 8 Try.underlying42 hi0 hz0 hz1 hz2 rfl (by omega) _ (mValue c V (m.take K)) rfl (HO2.out.alloc _) (some ⟨w2.heap.size, 0, none⟩) [x.rank] 1 rfl (fun h => by cases h) (SlAt.int1 (by go_cell)) iEnc_one (by simp [maxLen]; omega) (by simp; omega) (by simp; omega) ?_); intro v2 w3 hown2 hgr2 hbl2 hat2; obtain ⟨q2, cq2, rfl, -, -, -, -⟩ := owns_val (by decide) hown2; have HOW2 := Lib.hid hown2; have hbl3 : Below (s + 4) w2 w3 := (Below.alloc (Below.refl _ _) (by omega) _).trans hbl2; have g0 := oldcell hbl3 g0 (by omega); have g1 := oldcell hbl3 g1 (by omega); have g1f := oldfree hbl3 g1f (by omega); have z3 := hbl3.size; have HBL3 := Lib.hid hbl3; clear hown2 hgr2 hbl2 hat2 hbl3))
   go_roundg (m.length - (K + 1))
   case measure => (have := HNk.out; omega)
   refine ⟨K + 1, _, by go_num, by omega, rfl, by go_cell, by go_cell, by rw [World.frozen?_setCell]; exact g1f, ?_, by simp; omega, ?_⟩
   · rw [HT.out, if_pos (HX.out.trans hX1)]
     have hq := HOW2.out
     rw [show (mValue c V (m.take K) ++ [x.rank]).length = (mValue c V (m.take K)).length + 1 by simp] at hq ⊢
     exact ownsRow_setCell_below (a := ⟨s + 3, 1, none⟩) hq (by show s + 3 < s + 4; omega) _
   · exact Below.setCell (HBR.out.trans ((HB5.out.mono (by omega)).trans ((HB2.out.mono (by omega)).trans (HBL3.out.mono (by omega))))) (by show _ ≤ s + 3; omega) _
 · rename_i hX0
   have zz := hb2.size
   have g0 := oldcell hb2 g0 (by omega)
   have g1 := oldcell hb2 g1 (by omega)
   have g1f := oldfree hb2 g1f (by omega)
   have HB2 := Lib.hid hb2
   clear hb2
   go_roundg (m.length - (K + 1))
   case measure => (have := HNk.out; omega)
   refine ⟨K + 1, v, by go_num, by omega, rfl, g0, g1, g1f, ?_, by omega, ?_⟩
   · rw [HT.out, if_neg (by rw [HX.out, hX0]; simp)]
     exact owns_below HO5.out HB2.out
   · exact HBR.out.trans ((HB5.out.mono (by omega)).trans (HB2.out.mono (by omega)))
theorem mvalue_any (c : List Gate) (m : List Cell) (V : List Bool) (ar : Int) (p pm pv : Option Addr) (cap cm cv : Nat) (w : World) (hC : CAt w p cap c) (hM : MxAt w pm cm m) (hV : BoolsAt w pv V) (hw : WfC c) (hl : c.length ≤ 20000) (hml : m.length ≤ 20000) (hvl : V.length ≤ maxLen) :
 Calls Try.prog 30 #[.agg #[.slice p c.length cap], .agg #[.int .i64 ar, .slice pm m.length cm], .slice pv V.length cv] w (RetR w ar (mValue c V m)) :=
 (mvalue_anyF c m V ar p pm pv cap cm cv w hC hM hV hw hl hml hvl).mono fun e w' ⟨q, cq, h1, h2, _, h4⟩ => ⟨q, cq, h1, h2, h4⟩
end Go.Proofs.Ytadilppdlbhjnaa
namespace Go.Proofs.Ytadilppdlbhjnaa
set_option linter.unusedSimpArgs false
set_option linter.unusedVariables false
open Go.RowKit
end Go.Proofs.Ytadilppdlbhjnaa
namespace Go.Proofs.Ytadilppdlbhjnaa
set_option linter.unusedSimpArgs false
set_option linter.unusedVariables false
open Go.RowKit
@[go_sem] theorem run_store_func {P : Program} {w : World} {a : Addr} {m : Mode} (f : Fn) (x c : Array Value) : Sem.run P (store a (.func f x c) m) w = stored P w a (.func f x c) m := run_store P w a _ m rfl
end Go.Proofs.Ytadilppdlbhjnaa
