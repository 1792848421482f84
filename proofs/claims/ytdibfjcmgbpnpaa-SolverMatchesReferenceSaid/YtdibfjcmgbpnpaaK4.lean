/- Walks of the solver: back. -/
import Derived.Test.YtdibfjcmgbpnpaaK3
namespace Go.Proofs.Ytdibfjcmgbpnpaa
set_option linter.unusedSimpArgs false
set_option linter.unusedVariables false
open Go.RowKit

theorem take_getD_succ {d : List Int} {K : Nat} (h : K < d.length) : d.take (K + 1) = d.take K ++ [d.getD K 0] := by
  rw [List.take_add_one, List.getD_eq_getElem?_getD, List.getElem?_eq_getElem h]; rfl
theorem getD_mem {d : List Nat} {K : Nat} (h : K < d.length) : d.getD K 0 ∈ d := by
  rw [List.getD_eq_getElem?_getD, List.getElem?_eq_getElem h]; exact List.getElem_mem h
/-- the state at a turn of back -/
def backTurn (s : SS) (d : List Int) (K : Nat) : SS := { s with value := (d.take K).foldl (fun v x => v.set x.natAbs 0) s.value, low := (d.take K).foldl (fun a x => min a x.natAbs) s.low }
theorem backTurn_zero (s : SS) (d : List Int) : backTurn s d 0 = s := rfl
theorem backTurn_succ (s : SS) (d : List Int) {K : Nat} (h : K < d.length) : backTurn s d (K + 1) = { backTurn s d K with value := (backTurn s d K).value.set (d.getD K 0).natAbs 0, low := min (backTurn s d K).low (d.getD K 0).natAbs } := by
  unfold backTurn
  rw [take_getD_succ h, List.foldl_append, List.foldl_append]; rfl
theorem foldset_len (d : List Int) : ∀ v : List Int, (d.foldl (fun v x => v.set x.natAbs 0) v).length = v.length := by
  induction d with
  | nil => intro v; rfl
  | cons x t ih => intro v; rw [List.foldl_cons, ih, List.length_set]

set_option maxRecDepth 100000 in
set_option maxHeartbeats 2000000 in
theorem back_any {n : Nat} {w : World} {o : Nat → Option Role} {b : Nat} {s : SS} (h : SolAt w o b s) (ht : Tr n s) (hn : n ≤ 20000) (hm0 : s.marks.length ≤ 1000000) {k : Nat} (hk0 : k ≤ 1000000) :
    Calls Try.prog 32 #[.pointer (some ⟨b, 0, none⟩), .int .i64 k] w fun e w' => e = .returned (.tuple #[]) ∧ SolAt w' o b (s.back k) ∧ Ext NoX w o w' o := by
 obtain ⟨oc, hd, hs⟩ := h.sl
 obtain ⟨pm, cm, em⟩ := hs.marks_sl
 obtain ⟨f4, -⟩ := hs.fld 4 (u := hd .marks) rfl
 rw [em] at f4
 obtain ⟨m, hm⟩ : ∃ m, s.marks.length = m := ⟨_, rfl⟩
 rw [hm] at f4 em hm0
 have HM := Lib.hid hm; have HT := Lib.hid ht
 clear hm ht
 by_cases hkm : m ≤ k
 case pos =>
   clear em hs
   go_enter Try.func32, Try.ntmps32
   go_wp2_with fail
   refine bodyPost_ret (results_none rfl _ _ _) rfl ?_
   unfold SS.back
   rw [if_pos (by rw [HM.out]; omega)]
   exact ⟨rfl, h, Ext.refl _ _ _⟩
 case neg =>
   have hkm2 : k < m := by omega
   obtain ⟨gm, cm', em'⟩ := hs.marks_arr (by rw [HM.out]; omega)
   rw [HM.out, em] at em'
   simp only [Value.slice.injEq] at em'
   obtain ⟨rfl, -, rfl⟩ := em'
   obtain ⟨pl, cl, el, hlc, hcl⟩ := hs.mem.sl .lits rfl
   rw [show (E s oc hd .lits).length = s.lits.length from iV_len _] at el hlc
   obtain ⟨f3, -⟩ := hs.fld 3 (u := hd .lits) rfl
   obtain ⟨L, hL⟩ : ∃ L, s.lits.length = L := ⟨_, rfl⟩
   obtain ⟨M, hM⟩ : ∃ M, s.marks.getD k 0 = M := ⟨_, rfl⟩
   rw [hL] at el hlc
   rw [el] at f3
   obtain ⟨c0, c0f⟩ := hs.cell (r := .marks) em (i := k) (nV_get (by rw [HM.out]; omega))
   rw [hM] at c0
   have hML : M ≤ L := by rw [← hM, ← hL]; exact HT.out.ml _ (getD_mem (by rw [HM.out]; omega))
   have hLn : L ≤ n := by rw [← hL]; exact HT.out.len
   have HL := Lib.hid hL; have HMM := Lib.hid hM
   clear hL hM
   go_enter Try.func32, Try.ntmps32
   go_upto_region 1 with fail
   refine wp_region_seqE (fun x => Below w.heap.size w x) (.one 0 1 (.one 1 1 (.one 2 1 (.one 3 0 (.one 4 1 (.one 5 1 (.one 6 1 (.one 7 0 (.one 8 1 (.one 9 1 (.one 10 0 (.one 11 1 (.one 12 1 (.one 13 1 .nil)))))))))))))) (by kernel_rfl) (by kernel_rfl) (by kernel_rfl) (Below.drew (Below.refl _ _)) ?_
   iterate 14 (first | (refine seqE_free (v := ?_) rfl (by rfl) ?_ ?_; rotate_left; (focus (intro w; go_simp; try with_reducible rfl)); (try simp only [Act.put, List.setIfInBounds_toArray, List.set_cons_zero, List.set_cons_succ])) | (refine seqE_pure (v := ?_) rfl (by rfl) ?_ ?_; rotate_left; (focus (intro w hS; have f3 := oldcell hS f3 (World.block_lt_of_cell? _ _ f3); have f4 := oldcell hS f4 (World.block_lt_of_cell? _ _ f4); have c0 := oldcell hS c0 (World.block_lt_of_cell? _ _ c0); go_simp; try with_reducible rfl)); (try simp only [Act.put, List.setIfInBounds_toArray, List.set_cons_zero, List.set_cons_succ])))
   refine seqE_nil ?_
   intro w2 hS
   obtain ⟨q, hq⟩ : ∃ q, q = (if cl = M then pl else Option.map (fun x => x.add M) pl) := ⟨_, rfl⟩
   rw [← hq]
   obtain ⟨D, hD⟩ : ∃ D, L - M = D := ⟨_, rfl⟩
   rw [hD]
   obtain ⟨d, hd0⟩ : ∃ d, s.lits.drop M = d := ⟨_, rfl⟩
   have hdl : d.length = D := by rw [← hd0, List.length_drop, HL.out, hD]
   have hDn : D ≤ n := by omega
   have HD0 := Lib.hid hd0; have HDL := Lib.hid hdl; have HDD := Lib.hid hD; have HQ := Lib.hid hq
   have hget : ∀ K, K < D → s.lits.getD (M + K) 0 = d.getD K 0 := by
     intro K hK
     rw [← hd0, List.getD_eq_getElem?_getD, List.getD_eq_getElem?_getD, List.getElem?_drop]
   have hptr : 0 < D → ∃ gl, pl = some ⟨gl, 0, none⟩ ∧ q = some ⟨gl, M, none⟩ := by
     intro h0
     obtain ⟨gl, cl3, e3⟩ := hs.lits_arr (by rw [HL.out]; omega)
     rw [el] at e3
     simp only [Value.slice.injEq] at e3
     refine ⟨gl, e3.1, ?_⟩
     rw [hq, if_neg (by omega), e3.1]
     simp [Addr.add] <;> omega
   have HG := Lib.hid hget; have HP := Lib.hid hptr
   clear hd0 hdl hq hD hget hptr h c0 c0f f3 f4
   have hs1 := hs.up hS
   have hx1 := Ext.below (X := NoX) (o := o) hS
   clear hs hS
   go_wp2_with fail
   go_loopg [27] D (fun N s27 wr => ∃ K : Nat, s27 = .int .i64 K ∧ K ≤ D ∧ N = D - K ∧ Sl wr o b (backTurn s d K) oc hd ∧ Ext NoX w o wr o)
   case atStart => exact ⟨0, rfl, by omega, rfl, hs1, hx1⟩
   case round =>
    obtain ⟨K, rfl, hK, hN, hs, hx⟩ := hrel
    have HN := Lib.hid hN; clear hN hs1 hx1
    by_cases hlt : K < D
    case pos =>
     obtain ⟨gl, hpl, hqq⟩ := HP.out (by omega)
     subst hpl hqq
     have hvlen : (backTurn s d K).value.length = n + 1 := by unfold backTurn; rw [foldset_len]; exact HT.out.vl
     obtain ⟨N1, hN1⟩ : ∃ N1, n + 1 = N1 := ⟨_, rfl⟩
     obtain ⟨gv, cv, ev⟩ := hs.value_arr (by omega)
     rw [hvlen, hN1] at ev
     obtain ⟨x, hxx⟩ : ∃ x, d.getD K 0 = x := ⟨_, rfl⟩
     obtain ⟨c1, -⟩ := hs.cell (r := .lits) el (i := M + K) (iV_get (by show _ < s.lits.length; rw [HL.out]; have := HDD.out; omega))
     rw [show (backTurn s d K).lits.getD (M + K) 0 = x by show s.lits.getD _ _ = _; rw [HG.out K hlt, hxx]] at c1
     have hmem : x ∈ s.lits := by
       rw [← hxx, ← HG.out K hlt, List.getD_eq_getElem?_getD, List.getElem?_eq_getElem (by rw [HL.out]; have := HDD.out; omega)]
       exact List.getElem_mem _
     have hxok := HT.out.ok x hmem
     have hx1 := hxok.2
     obtain ⟨v, hv⟩ : ∃ v, x.natAbs = v := ⟨_, rfl⟩
     rw [hv] at hx1
     have hwn : IntKind.i64.wrap (-x) = -x := wrapI (by omega) (by omega)
     obtain ⟨f0, -⟩ := hs.fld 0 (u := hd .value) rfl
     rw [ev] at f0
     obtain ⟨f5, f5f⟩ := hs.fld 5 (u := .int .i64 (backTurn s d K).low) rfl
     obtain ⟨e0, e0f⟩ := hs.cell (r := .value) ev (i := v) (iV_get (by omega))
     have hb1 : (v : Int) < (N1 : Int) := by omega
     have HV := Lib.hid hv; have HXX := Lib.hid hxx; have HXO := Lib.hid hxok; have HM1 := Lib.hid hmem
     clear hv hxx hxok hmem
     have hmax : (if x < -x then -x else x) = (v : Int) := by have := HV.out; split <;> omega
     go_upto_region 5 with fail
     obtain ⟨T, hT⟩ : ∃ T, backTurn s d K = T := ⟨_, rfl⟩
     rw [hT] at hs hvlen f5 e0
     have HTT := Lib.hid hT; clear hT
     obtain ⟨hs2, hx2⟩ := hs.set ev v (.int .i64 0) (s' := { T with value := T.value.set v 0 }) (oc' := oc) (by
       funext r
       cases r <;> first | rfl | exact iV_set _ _ _)
     have hx3 := hx.trans hx2 fun _ _ q => q
     obtain ⟨lo, hlo⟩ : ∃ lo, T.low = lo := ⟨_, rfl⟩
     rw [hlo] at f5
     have HLO := Lib.hid hlo; clear hlo
     have hob := hs.ob
     have hgb : gv ≠ b := fun e => by
       have h1 := (hs.mem .value).tag gv (by rw [ev]; rfl)
       rw [e, hob] at h1; cases h1
     have HS2 := Lib.hid hs2; have HX3 := Lib.hid hx3
     clear hs2 hx3 hx2 hx hs c1
     go_upto_region 6 with fail
     obtain ⟨w4, hw4⟩ : ∃ z, z = wr.setCell ⟨gv, v, none⟩ (.int .i64 0) := ⟨_, rfl⟩
     rw [← hw4]
     have hs2 := HS2.out; have hx3 := HX3.out
     rw [← hw4] at hs2 hx3
     clear f0 f5 f5f e0 e0f HS2 HX3 hw4
     obtain ⟨f5, f5f⟩ := hs2.fld 5 (u := .int .i64 lo) (by show some (Value.int .i64 ((T.low : Nat) : Int)) = _; rw [HLO.out])
     have HS2 := Lib.hid hs2; have HX3 := Lib.hid hx3
     clear hs2 hx3
     have fin : ∀ u : Int, u = ((min lo v : Nat) : Int) → Sl (w4.setCell ⟨b, 5, none⟩ (.int .i64 u)) o b (backTurn s d (K + 1)) oc hd ∧ Ext NoX w o (w4.setCell ⟨b, 5, none⟩ (.int .i64 u)) o := by
       intro u hu
       obtain ⟨h1, h2⟩ := HS2.out.set (r := .self) HS2.out.hb 5 (.int .i64 u) (s' := backTurn s d (K + 1)) (oc' := oc) (by
         rw [backTurn_succ _ _ (by rw [HDL.out]; exact hlt), HTT.out, HXX.out, HV.out, HLO.out, ← hu.symm]
         funext r
         cases r <;> rfl)
       exact ⟨h1, HX3.out.trans h2 fun _ _ q => q⟩
     have FIN := Lib.hid fin; clear fin
     by_cases hvl : v < lo
     · go_wp2_with fail
       go_roundg (D - (K + 1))
       case measure => (have := HN.out; omega)
       case rel =>
         obtain ⟨q1, q2⟩ := FIN.out (v : Int) (by omega)
         exact ⟨K + 1, by go_num, by omega, rfl, q1, q2⟩
     · go_wp2_with fail
       go_roundg (D - (K + 1))
       case measure => (have := HN.out; omega)
       case rel =>
         obtain ⟨q1, q2⟩ := FIN.out (lo : Int) (by omega)
         exact ⟨K + 1, by go_num, by omega, rfl, q1, q2⟩
    case neg =>
     obtain rfl : K = D := by omega
     obtain ⟨T, hT⟩ : ∃ T, backTurn s d K = T := ⟨_, rfl⟩
     rw [hT] at hs
     have HTT := Lib.hid hT; clear hT
     have hmk : T.marks = s.marks := by rw [← HTT.out]; rfl
     have hlt2 : T.lits = s.lits := by rw [← HTT.out]; rfl
     obtain ⟨f4, f4f⟩ := hs.fld 4 (u := hd .marks) rfl
     rw [em] at f4
     obtain ⟨f3, f3f⟩ := hs.fld 3 (u := hd .lits) rfl
     rw [el] at f3
     obtain ⟨c0, -⟩ := hs.cell (r := .marks) em (i := k) (nV_get (by rw [hmk, HM.out]; omega))
     rw [hmk, HMM.out] at c0
     have hMc : M ≤ cl := by omega
     go_upto_region 8 with fail
     refine wp_region_seqE (fun x => Below wr.heap.size wr x) (.one 0 1 (.one 1 1 (.one 2 1 (.one 3 1 (.one 4 0 (.one 5 1 (.one 6 1 (.one 7 1 (.one 8 0 (.one 9 1 (.one 10 1 (.one 11 0 (.one 12 1 (.one 13 1 (.one 14 1 (.alt 15 3 .nil .stop)))))))))))))))) (by kernel_rfl) (by kernel_rfl) (by kernel_rfl) (Below.drew (Below.refl _ _)) ?_
     iterate 15 (first | (refine seqE_free (v := ?_) rfl (by rfl) ?_ ?_; rotate_left; (focus (intro w; go_simp; try with_reducible rfl)); (try simp only [Act.put, List.setIfInBounds_toArray, List.set_cons_zero, List.set_cons_succ])) | (refine seqE_pure (v := ?_) rfl (by rfl) ?_ ?_; rotate_left; (focus (intro w hS; have f3 := oldcell hS f3 (World.block_lt_of_cell? _ _ f3); have f4 := oldcell hS f4 (World.block_lt_of_cell? _ _ f4); have c0 := oldcell hS c0 (World.block_lt_of_cell? _ _ c0); go_simp; try with_reducible rfl)); (try simp only [Act.put, List.setIfInBounds_toArray, List.set_cons_zero, List.set_cons_succ])))
     refine seqE_storeB rfl (by rfl) ?_ seqE_stop
     intro wS hS; have f3f := oldfree hS f3f (World.block_lt_of_cell? _ _ f3); have f3 := oldcell hS f3 (World.block_lt_of_cell? _ _ f3); have f4 := oldcell hS f4 (World.block_lt_of_cell? _ _ f4); have c0 := oldcell hS c0 (World.block_lt_of_cell? _ _ c0)
     refine ⟨wS.setCell ⟨b, 3, none⟩ (.slice pl M cl), (by go_simp; try with_reducible rfl), fun x => Below (wS.setCell ⟨b, 3, none⟩ (.slice pl M cl)).heap.size (wS.setCell ⟨b, 3, none⟩ (.slice pl M cl)) x, Below.refl _ _, ?_⟩
     have hS0 := hS; clear hS
     (try simp only [Act.put, List.setIfInBounds_toArray, List.set_cons_zero, List.set_cons_succ])
     refine seqE_nil ?_
     intro w2 hS
     obtain ⟨hs2, hx2⟩ := (hs.up hS0).cut .lits rfl el hML (q := .self) (by decide) (hs.up hS0).hb (j := 3) (by decide) (s' := { T with lits := T.lits.take M }) (fun V => by
       funext r
       cases r <;> first | rfl | (exact List.map_take.symm))
     replace hs2 := hs2.up hS
     replace hx2 := ((hx.trans (Ext.below (X := NoX) hS0) fun _ _ q => q).trans hx2 fun _ _ q => q).trans (Ext.below (X := NoX) hS) fun _ _ q => q
     clear hs hS hS0 f3 f3f f4 f4f c0
     have em2 : (upd hd .lits (.slice pl M cl)) .marks = .slice (some ⟨gm, 0, none⟩) m cm := em
     obtain ⟨f4, f4f⟩ := hs2.fld 4 (u := .slice (some ⟨gm, 0, none⟩) m cm) (by rw [← em2]; rfl)
     obtain ⟨_, cm2, em3, hmc, -⟩ := hs2.mem.sl .marks rfl
     rw [em2, show (E { T with lits := T.lits.take M } oc (upd hd .lits (.slice pl M cl)) .marks).length = T.marks.length from nV_len _, hmk, HM.out] at em3
     rw [show (E { T with lits := T.lits.take M } oc (upd hd .lits (.slice pl M cl)) .marks).length = T.marks.length from nV_len _, hmk, HM.out] at hmc
     simp only [Value.slice.injEq] at em3
     obtain ⟨-, -, rfl⟩ := em3
     have hkc : k ≤ cm := by omega
     go_wp2_with fail
     refine bodyPost_end (results_none rfl _ _ _) rfl ?_
     obtain ⟨hs3, hx3⟩ := hs2.cut .marks rfl em2 (k := k) (by omega) (q := .self) (by decide) hs2.hb (j := 4) (by decide) (s' := { T with lits := T.lits.take M, marks := T.marks.take k }) (fun V => by
       funext r
       cases r <;> first | rfl | (exact List.map_take.symm))
     have hb2 : s.back k = { T with lits := T.lits.take M, marks := T.marks.take k } := by
       unfold SS.back
       rw [if_neg (by rw [HM.out]; omega), HMM.out, HD0.out, hmk, hlt2, ← HTT.out]
       unfold backTurn
       rw [List.take_of_length_le (l := d) (by rw [HDL.out]; omega)]
     rw [hb2]
     exact ⟨rfl, hs3.at, hx2.trans hx3 fun _ _ q => q⟩
end Go.Proofs.Ytdibfjcmgbpnpaa
