import Derived.Test.YtadilppdlbhjnaaW10
namespace Go.Proofs.Ytadilppdlbhjnaa
set_option linter.unusedSimpArgs false
set_option linter.unusedVariables false
open Go.RowKit
theorem step_app {α : Type} {E : Nat} {enc : α → Nat → Value} {P : Program} {ops : Array Oper} {o : Oper} {a : Act} {w : World} {K : Act → World → Prop} {Q : Exit → Act → World → Prop} {X : Prop}
 (hg : o.guard = none) (s x : Operand) (t : TypeId) (hop : o.op = Op.call { callee := Callee.builtin Builtin.append, args := #[s, x], argTypes := #[t, t] })
 (B : Nat) (ty : TypeId) (i : TypeInfo) (z : Value) (bytes : Nat) (ht : P.underlying t = some (.slice ty)) (hi : P.info? ty = some i) (hz : i.zero = some z) (hsize : i.size = E) (hby : i.bytes = bytes) (hzs : z.cells.size = E) (hsz : 0 < E)
 (v : Value) (xs : List α) (hs : a.eval s = v) (hown : w.ownsRow B ty E v xs.length (flat E enc xs)) (ad : Addr) (ys : List α) (c : Nat) (hx : a.eval x = .slice (some ad) ys.length c) (hys : SlAt E enc w (some ad) ys) (hone : ∀ y j, (enc y j).oneCell' = true)
 (h63 : xs.length + ys.length ≤ maxLen) (hbytes : (xs.length + ys.length) * bytes ≤ 140737488355328) (hbase : B ≤ w.heap.size)
 (h : ∀ v' w', w'.ownsRow B ty E v' (xs ++ ys).length (flat E enc (xs ++ ys)) → w.grownBy w' v.ownBlock → Below B w w' → K (a.put o.dst v') w') :
 if Region.wanted o (yielded ops a.tmps) = true then Oper.wp P o a w K Q else X := by
 have hw : Region.wanted o (yielded ops a.tmps) = true := by simp [Region.wanted, hg]
 rw [if_pos hw]
 obtain ⟨v', w', hrun, h1, h2, _⟩ := run_append_own (P := P) w B t o.type ty i z E bytes ht hi hz hsize hby hzs hsz v xs.length (flat E enc xs) hown ad ys.length c (flat E enc ys) (flat_length _ _ _) hys.news (fun u hu => by
  obtain ⟨n, hn⟩ := List.getElem?_of_mem hu
  obtain ⟨i, y, j, hy, hj, _, rfl⟩ := flat_inv hn
  exact hone y j) h63 hbytes hbase
 unfold Oper.wp
 simp [execOp, hop, resolve, invoke, builtin, hs, hx, hrun, Result.andThen]
 exact h v' w' (by rw [flat_append, List.length_append]; exact h1) h2 (Below.grown (Below.refl _ _) h2 hbase (fun k hk => (hown.lt k hk).1))
def BoxB (w : World) (B b : Nat) (D : List Bool) : Prop :=
 ∃ v, w.cell? ⟨b, 0, none⟩ = some v ∧ w.frozen? ⟨b, 0, none⟩ = false ∧ w.ownsRow B 4 1 v D.length (flat 1 bEnc D)
theorem own_bool {w : World} {B g c : Nat} {D : List Bool} {i : Nat} {x : Bool} {t : TypeId} (h : w.ownsRow B t 1 (.slice (some ⟨g, 0, none⟩) D.length c) D.length (flat 1 bEnc D)) (hx : D[i]? = some x) : w.cell? ⟨g, i, none⟩ = some (.bool x) := by
 have hi := (List.getElem?_eq_some_iff.1 hx).1
 rw [World.ownsRow.cellAt h i (by omega)]
 have := flat_get (E := 1) (enc := bEnc) hx (j := 0) (by omega)
 simpa [bEnc] using this
theorem refv_at {D : List Bool} {R : Nat} {x : Bool} (hx : D[R / 2]? = some x) : refv D R = (x != ((R : Int) % 2 == 1)) := by
 have e1 : ((R : Int) / 2).toNat = R / 2 := by omega
 simp only [refv, e1, List.getD_eq_getElem?_getD, hx]
 have m1 : (R : Int) % 2 = 0 ∨ (R : Int) % 2 = 1 := by omega
 rcases m1 with m1 | m1 <;> simp [m1]
set_option maxHeartbeats 400000 in
theorem value_any (D : List Bool) (R : Nat) (B b : Nat) (w : World) (hD : D.length ≤ 20000) (hR : R / 2 < D.length) (h : BoxB w B b D) :
 Calls Try.prog 115 #[.int .i64 R, .pointer (some ⟨b, 0, none⟩)] w fun e w' => e = .returned (.bool (refv D R)) ∧ w' = w := by
 obtain ⟨v, h0, hf, hown⟩ := h
 obtain ⟨x, hx⟩ : ∃ x, D[R / 2]? = some x := ⟨_, List.getElem?_eq_getElem hR⟩
 have HF := Lib.hid (refv_at hx)
 obtain ⟨g7, c7, rfl, hB7, hlt7, hc7, hm7⟩ := owns_form hown (by omega)
 have a5 := own_bool hown hx
 have q1 : (R : Int) / 2 < (D.length : Int) := by omega
 have q3 : (0 : Int) ≤ (R : Int) := by omega
 clear hx hown
 go_enter Try.func115, Try.ntmps115
 go_wp2
 go_ret
 exact ⟨ret_bool HF.out.symm, rfl⟩
set_option maxRecDepth 100000 in
set_option maxHeartbeats 40000000 in
theorem eval_any (gs : List Gate) (vals : List Bool) (r : Int) (p pv : Option Addr) (cap cv : Nat) (w : World) (hl : gs.length ≤ 20000) (hcl : gs.length ≤ cap) (hcm : cap ≤ maxLen) (hv : vals.length ≤ maxLen) (hw : WfC gs) (hg : GatesAt w p gs) (hvs : BoolsAt w pv vals) :
 Calls Try.prog 64 #[.agg #[.slice p gs.length cap], .slice pv vals.length cv, .int .i64 r] w fun e w' => e = .returned (.bool (ceval gs vals r)) ∧ Below w.heap.size w w' := by
 unfold maxLen at hv hcm
 by_cases hr0 : r < 0
 · have HR := Lib.hid (ceval_bad (c := gs) (vals := vals) (r := r) (by omega))
   have Hw := Lib.hid hw; have Hg := Lib.hid hg; have Hvs := Lib.hid hvs; clear hw hg hvs
   go_enter Try.func64, Try.ntmps64
   go_wp2
   go_ret
   exact ⟨ret_bool HR.out.symm, by go_grown⟩
 by_cases hr1 : 2 * (gs.length : Int) ≤ r
 · have HR := Lib.hid (ceval_bad (c := gs) (vals := vals) (r := r) (by omega))
   have Hw := Lib.hid hw; have Hg := Lib.hid hg; have Hvs := Lib.hid hvs; clear hw hg hvs
   go_enter Try.func64, Try.ntmps64
   go_wp2
   go_ret
   exact ⟨ret_bool HR.out.symm, by go_grown⟩
 have Hw := Lib.hid hw; have Hvs := Lib.hid hvs; clear hw hvs
 rcases hg with rfl | ⟨b, off, rfl, hb, hc⟩
 · exfalso; simp at hr1; omega
 have Hc := Lib.hid hc; clear hc
 obtain ⟨i0, hi0, hz0, hz1, hz2⟩ := info_parts bool_info
 obtain ⟨R, rfl⟩ := Int.eq_ofNat_of_zero_le (show 0 ≤ r by omega)
 have HRv := Lib.hid (ceval_nat (c := gs) (vals := vals) (R := R) (by omega))
 have hs0 : (0 : Int) ≤ (R : Int) / 2 + 1 := by omega
 have hs1 : (R : Int) / 2 + 1 ≤ (cap : Int) := by omega
 go_enter Try.func64, Try.ntmps64
 go_wp2
 go_loopg [29] (R / 2 + 1) (fun n iv wr => ∃ k : Nat, iv = .int .i64 k ∧ k ≤ R / 2 + 1 ∧ n = R / 2 + 1 - k ∧ BoxB wr (w.heap.size + 2) (w.heap.size + 1) (evalG vals (gs.take k)) ∧ Below w.heap.size w wr ∧ w.heap.size + 1 < wr.heap.size)
 case atStart => exact ⟨0, rfl, by omega, by omega, ⟨_, by go_cell, by go_cell, World.ownsRow_nil _ _ _ _⟩, by go_grown, by simp⟩
 obtain ⟨k, rfl, hk, rfl, ⟨v7, h7, h7f, hown⟩, hB0, hzz⟩ := hrel
 have HB0 := Lib.hid hB0; clear hB0
 have hzz' : w.heap.size < wr.heap.size := by omega
 have HDl : Hid ((evalG vals (gs.take k)).length = k) := by rw [evalG_length, List.length_take]; exact Nat.min_eq_left (by omega)
 by_cases hlt : k ≤ R / 2
 case neg =>
  have hq2 : decide ((k : Int) < (R : Int) / 2 + 1) = false := by simp; omega
  obtain rfl : k = R / 2 + 1 := by omega
  have HOW := Lib.hid hown; clear hown
  go_wp2_with (first | (go_at_call 115; refine (value_any (evalG vals (gs.take (R / 2 + 1))) R (w.heap.size + 2) (w.heap.size + 1) _ (by rw [HDl.out]; omega) (by rw [HDl.out]; omega) ⟨_, h7, h7f, HOW.out⟩).mono ?_; rintro e w' ⟨rfl, rfl⟩))
  go_ret
  exact ⟨ret_bool HRv.out.symm, HB0.out⟩
 have hq2 : decide ((k : Int) < (R : Int) / 2 + 1) = true := by simp; omega
 have hlt0 : (0 : Int) ≤ (k : Int) := by omega
 have hlt1 : (k : Int) < ((R / 2 + 1 : Nat) : Int) := by omega
 obtain ⟨gk, hgk⟩ : ∃ gk, gs[k]? = some gk := ⟨_, List.getElem?_eq_getElem (by omega)⟩
 obtain ⟨e4, e5, e6⟩ := gate_cells Hc.out hgk
 have h4 := oldcell HB0.out e4 hb
 have h5 := oldcell HB0.out e5 hb
 have h6 := oldcell HB0.out e6 hb
 have HW := Lib.hid (Hw.out k gk hgk)
 have HG := Lib.hid (show evalG vals (gs.take (k + 1)) = evalG vals (gs.take k) ++ [gval vals (evalG vals (gs.take k)) gk] from by
  obtain ⟨hk', he⟩ := List.getElem?_eq_some_iff.1 hgk
  rw [List.take_succ_eq_append_getElem hk', he, evalG_snoc])
 clear e4 e5 e6 hgk
 have HOW := Lib.hid hown; clear hown
 by_cases hk1 : gk.k = 1
 · have t1 : (gk.k == 1) = true := by simpa using hk1
   have hA := HW.out.1 hk1
   obtain ⟨A, hA'⟩ : ∃ A : Nat, gk.a = (A : Int) + 1 := ⟨(gk.a - 1).toNat, by omega⟩
   rw [hA'] at h5
   by_cases hAl : (A : Int) + 1 ≤ (vals.length : Int)
   · have hAl2 : (A : Int) < (vals.length : Int) := by omega
     obtain ⟨x, hx⟩ : ∃ x, vals[A]? = some x := ⟨_, List.getElem?_eq_getElem (by omega)⟩
     have HV := Lib.hid (show gval vals (evalG vals (gs.take k)) gk = x from by
      have e : ((A : Int) + 1 - 1).toNat = A := by omega
      simp only [gval, hk1, if_true, hA', e]
      rw [decide_eq_true hAl, List.getD_eq_getElem?_getD, hx]; rfl)
     obtain ⟨bv, ov, rfl, hbv, hcv⟩ := bool_cell Hvs.out hx
     have hcv2 := oldcell HB0.out hcv hbv
     have hbv2 := World.block_lt_of_cell? _ _ hcv2
     have hd1 : decide ((A : Int) + 1 ≤ (vals.length : Int)) = true := by simpa using hAl
     have w0 : IntKind.i64.wrap (A : Int) = (A : Int) := IntWalk.i64_in _ (by omega)
     have w1 : IntKind.i64.wrap ((A : Int) + 1 - 1) = (A : Int) := by rw [show (A : Int) + 1 - 1 = (A : Int) from by omega]; exact IntWalk.i64_in _ (by omega)
     clear hk1 hA hA' hcv hx
     go_wp2_with fail
     first | (go_region_law (first | (refine step_app (enc := bEnc) (by rfl) _ _ _ (by rfl) (w.heap.size + 2) 4 i0 _ 1 Try.underlying52 hi0 hz0 hz1 hz2 rfl (by omega) v7 (evalG vals (gs.take k)) (by rfl) ((HOW.out.alloc _).alloc _) ⟨wr.heap.size + 1, 0, none⟩ [x] 1 (by rfl) (SlAt.bool1 (by go_cell)) bEnc_one (by rw [HDl.out]; simp [maxLen]; omega) (by rw [HDl.out]; simp; omega) (by first | omega | (simp; omega)) ?_; intro v2 w3 hown2 hgr2 hbl2; have k7 := oldcell (b := w.heap.size + 1) (o := 0) hbl2 (v := v7) (by go_cell) (by omega); have k8 := oldfree (b := w.heap.size + 1) (o := 0) hbl2 (by go_cell) (by omega); have HO2 := Lib.hid hown2; have HB2 := Lib.hid hbl2; clear hown2 hgr2 hbl2; obtain ⟨g2, c2, rfl, hG2, hl2, hc2, hm2⟩ := owns_form HO2.out (by simp)))) | fail
     all_goals
      go_wp2_with fail
      go_roundg (R / 2 + 1 - (k + 1))
      case measure => omega
      refine ⟨k + 1, by go_num, by omega, rfl, ⟨_, by go_cell, by simpa using k8, ?_⟩, Below.setCell (HB0.out.trans (Below.trans (by repeat' (first | (with_reducible exact Below.refl _ _) | (with_reducible assumption) | (with_reducible refine Below.alloc ?_ ?_ _) | (with_reducible refine Below.drewN ?_ _) | (with_reducible refine Below.drew ?_) | (with_reducible refine Below.setCell ?_ ?_ _) | go_size)) (HB2.out.mono (by omega)))) (by show _ ≤ w.heap.size + 1; omega) _, by have := HB2.out.size; simp at this ⊢; omega⟩
      rw [HG.out, HV.out]; have HO3 := ownsRow_setCell_below HO2.out (a := ⟨w.heap.size + 1, 0, none⟩) (by show w.heap.size + 1 < w.heap.size + 2; omega) (.slice (some ⟨g2, 0, none⟩) ((evalG vals (gs.take k)).length + 1) c2); simp only [List.length_append, List.length_singleton] at HO3 ⊢; exact HO3
   · have HV := Lib.hid (show gval vals (evalG vals (gs.take k)) gk = false from by
      simp only [gval, hk1, if_true, hA']
      rw [decide_eq_false hAl]; rfl)
     have hd1 : decide ((A : Int) + 1 ≤ (vals.length : Int)) = false := by simpa using hAl
     clear hk1 hA hA'
     go_wp2_with fail
     first | (go_region_law (first | (refine step_app (enc := bEnc) (by rfl) _ _ _ (by rfl) (w.heap.size + 2) 4 i0 _ 1 Try.underlying52 hi0 hz0 hz1 hz2 rfl (by omega) v7 (evalG vals (gs.take k)) (by rfl) ((HOW.out.alloc _).alloc _) ⟨wr.heap.size + 1, 0, none⟩ [false] 1 (by rfl) (SlAt.bool1 (by go_cell)) bEnc_one (by rw [HDl.out]; simp [maxLen]; omega) (by rw [HDl.out]; simp; omega) (by first | omega | (simp; omega)) ?_; intro v2 w3 hown2 hgr2 hbl2; have k7 := oldcell (b := w.heap.size + 1) (o := 0) hbl2 (v := v7) (by go_cell) (by omega); have k8 := oldfree (b := w.heap.size + 1) (o := 0) hbl2 (by go_cell) (by omega); have HO2 := Lib.hid hown2; have HB2 := Lib.hid hbl2; clear hown2 hgr2 hbl2; obtain ⟨g2, c2, rfl, hG2, hl2, hc2, hm2⟩ := owns_form HO2.out (by simp)))) | fail
     all_goals
      go_wp2_with fail
      go_roundg (R / 2 + 1 - (k + 1))
      case measure => omega
      refine ⟨k + 1, by go_num, by omega, rfl, ⟨_, by go_cell, by simpa using k8, ?_⟩, Below.setCell (HB0.out.trans (Below.trans (by repeat' (first | (with_reducible exact Below.refl _ _) | (with_reducible assumption) | (with_reducible refine Below.alloc ?_ ?_ _) | (with_reducible refine Below.drewN ?_ _) | (with_reducible refine Below.drew ?_) | (with_reducible refine Below.setCell ?_ ?_ _) | go_size)) (HB2.out.mono (by omega)))) (by show _ ≤ w.heap.size + 1; omega) _, by have := HB2.out.size; simp at this ⊢; omega⟩
      rw [HG.out, HV.out]; have HO3 := ownsRow_setCell_below HO2.out (a := ⟨w.heap.size + 1, 0, none⟩) (by show w.heap.size + 1 < w.heap.size + 2; omega) (.slice (some ⟨g2, 0, none⟩) ((evalG vals (gs.take k)).length + 1) c2); simp only [List.length_append, List.length_singleton] at HO3 ⊢; exact HO3
 · by_cases hk2 : gk.k = 2
   · have t1 : (gk.k == 1) = false := by simpa using hk1
     have t2 : (gk.k == 2) = true := by simpa using hk2
     obtain ⟨hA0, hA1, hB0', hB1'⟩ := HW.out.2 hk2
     obtain ⟨X, hX⟩ : ∃ X : Nat, gk.a = (X : Int) := ⟨gk.a.toNat, by omega⟩
     obtain ⟨Y, hY⟩ : ∃ Y : Nat, gk.b = (Y : Int) := ⟨gk.b.toNat, by omega⟩
     have hXk : X / 2 < k := by omega
     have hYk : Y / 2 < k := by omega
     have HV0 := Lib.hid (show gval vals (evalG vals (gs.take k)) gk = (refv (evalG vals (gs.take k)) X && refv (evalG vals (gs.take k)) Y) from by
      simp only [gval, hk2, hX, hY]; rfl)
     rw [hX] at h5; rw [hY] at h6
     clear hk1 hk2 hA0 hA1 hB0' hB1' hX hY
     cases hxx : refv (evalG vals (gs.take k)) X with
     | false =>
      have HV := Lib.hid (show gval vals (evalG vals (gs.take k)) gk = false from by rw [HV0.out, hxx, Bool.false_and])
      go_wp2_with fail
      first | (go_region_law (first | (refine step_app (enc := bEnc) (by rfl) _ _ _ (by rfl) (w.heap.size + 2) 4 i0 _ 1 Try.underlying52 hi0 hz0 hz1 hz2 rfl (by omega) v7 (evalG vals (gs.take k)) (by rfl) ((HOW.out.alloc _).alloc _) ⟨wr.heap.size + 1, 0, none⟩ [false] 1 (by rfl) (SlAt.bool1 (by go_cell)) bEnc_one (by rw [HDl.out]; simp [maxLen]; omega) (by rw [HDl.out]; simp; omega) (by first | omega | (simp; omega)) ?_; intro v2 w3 hown2 hgr2 hbl2; have k7 := oldcell (b := w.heap.size + 1) (o := 0) hbl2 (v := v7) (by go_cell) (by omega); have k8 := oldfree (b := w.heap.size + 1) (o := 0) hbl2 (by go_cell) (by omega); have HO2 := Lib.hid hown2; have HB2 := Lib.hid hbl2; clear hown2 hgr2 hbl2; obtain ⟨g2, c2, rfl, hG2, hl2, hc2, hm2⟩ := owns_form HO2.out (by simp)) | (go_simp; go_at_call_of 115 (Value.int IntKind.i64 X); refine (value_any (evalG vals (gs.take k)) X (w.heap.size + 2) (w.heap.size + 1) _ (by rw [HDl.out]; omega) (by rw [HDl.out]; exact hXk) ⟨v7, by go_cell, by go_cell, by exact World.ownsRow.alloc HOW.out _⟩).mono ?_; rintro e w' ⟨rfl, rfl⟩))) | fail
      all_goals
       go_wp2_with fail
       go_roundg (R / 2 + 1 - (k + 1))
       case measure => omega
       refine ⟨k + 1, by go_num, by omega, rfl, ⟨_, by go_cell, by simpa using k8, ?_⟩, Below.setCell (HB0.out.trans (Below.trans (by repeat' (first | (with_reducible exact Below.refl _ _) | (with_reducible assumption) | (with_reducible refine Below.alloc ?_ ?_ _) | (with_reducible refine Below.drewN ?_ _) | (with_reducible refine Below.drew ?_) | (with_reducible refine Below.setCell ?_ ?_ _) | go_size)) (HB2.out.mono (by omega)))) (by show _ ≤ w.heap.size + 1; omega) _, by have := HB2.out.size; simp at this ⊢; omega⟩
       rw [HG.out, HV.out]; have HO3 := ownsRow_setCell_below HO2.out (a := ⟨w.heap.size + 1, 0, none⟩) (by show w.heap.size + 1 < w.heap.size + 2; omega) (.slice (some ⟨g2, 0, none⟩) ((evalG vals (gs.take k)).length + 1) c2); simp only [List.length_append, List.length_singleton] at HO3 ⊢; exact HO3
     | true =>
      cases hyy : refv (evalG vals (gs.take k)) Y with
      | false =>
       have HV := Lib.hid (show gval vals (evalG vals (gs.take k)) gk = false from by rw [HV0.out, hxx, hyy, Bool.true_and])
       go_wp2_with fail
       first | (go_region_law (first | (refine step_app (enc := bEnc) (by rfl) _ _ _ (by rfl) (w.heap.size + 2) 4 i0 _ 1 Try.underlying52 hi0 hz0 hz1 hz2 rfl (by omega) v7 (evalG vals (gs.take k)) (by rfl) ((HOW.out.alloc _).alloc _) ⟨wr.heap.size + 1, 0, none⟩ [false] 1 (by rfl) (SlAt.bool1 (by go_cell)) bEnc_one (by rw [HDl.out]; simp [maxLen]; omega) (by rw [HDl.out]; simp; omega) (by first | omega | (simp; omega)) ?_; intro v2 w3 hown2 hgr2 hbl2; have k7 := oldcell (b := w.heap.size + 1) (o := 0) hbl2 (v := v7) (by go_cell) (by omega); have k8 := oldfree (b := w.heap.size + 1) (o := 0) hbl2 (by go_cell) (by omega); have HO2 := Lib.hid hown2; have HB2 := Lib.hid hbl2; clear hown2 hgr2 hbl2; obtain ⟨g2, c2, rfl, hG2, hl2, hc2, hm2⟩ := owns_form HO2.out (by simp)) | (go_simp; go_at_call_of 115 (Value.int IntKind.i64 X); refine (value_any (evalG vals (gs.take k)) X (w.heap.size + 2) (w.heap.size + 1) _ (by rw [HDl.out]; omega) (by rw [HDl.out]; exact hXk) ⟨v7, by go_cell, by go_cell, by exact World.ownsRow.alloc HOW.out _⟩).mono ?_; rintro e w' ⟨rfl, rfl⟩) | (go_simp; go_at_call_of 115 (Value.int IntKind.i64 Y); refine (value_any (evalG vals (gs.take k)) Y (w.heap.size + 2) (w.heap.size + 1) _ (by rw [HDl.out]; omega) (by rw [HDl.out]; exact hYk) ⟨v7, by go_cell, by go_cell, by exact World.ownsRow.alloc HOW.out _⟩).mono ?_; rintro e w' ⟨rfl, rfl⟩))) | fail
       all_goals
        go_wp2_with fail
        go_roundg (R / 2 + 1 - (k + 1))
        case measure => omega
        refine ⟨k + 1, by go_num, by omega, rfl, ⟨_, by go_cell, by simpa using k8, ?_⟩, Below.setCell (HB0.out.trans (Below.trans (by repeat' (first | (with_reducible exact Below.refl _ _) | (with_reducible assumption) | (with_reducible refine Below.alloc ?_ ?_ _) | (with_reducible refine Below.drewN ?_ _) | (with_reducible refine Below.drew ?_) | (with_reducible refine Below.setCell ?_ ?_ _) | go_size)) (HB2.out.mono (by omega)))) (by show _ ≤ w.heap.size + 1; omega) _, by have := HB2.out.size; simp at this ⊢; omega⟩
        rw [HG.out, HV.out]; have HO3 := ownsRow_setCell_below HO2.out (a := ⟨w.heap.size + 1, 0, none⟩) (by show w.heap.size + 1 < w.heap.size + 2; omega) (.slice (some ⟨g2, 0, none⟩) ((evalG vals (gs.take k)).length + 1) c2); simp only [List.length_append, List.length_singleton] at HO3 ⊢; exact HO3
      | true =>
       have HV := Lib.hid (show gval vals (evalG vals (gs.take k)) gk = true from by rw [HV0.out, hxx, hyy, Bool.true_and])
       go_wp2_with fail
       first | (go_region_law (first | (refine step_app (enc := bEnc) (by rfl) _ _ _ (by rfl) (w.heap.size + 2) 4 i0 _ 1 Try.underlying52 hi0 hz0 hz1 hz2 rfl (by omega) v7 (evalG vals (gs.take k)) (by rfl) ((HOW.out.alloc _).alloc _) ⟨wr.heap.size + 1, 0, none⟩ [true] 1 (by rfl) (SlAt.bool1 (by go_cell)) bEnc_one (by rw [HDl.out]; simp [maxLen]; omega) (by rw [HDl.out]; simp; omega) (by first | omega | (simp; omega)) ?_; intro v2 w3 hown2 hgr2 hbl2; have k7 := oldcell (b := w.heap.size + 1) (o := 0) hbl2 (v := v7) (by go_cell) (by omega); have k8 := oldfree (b := w.heap.size + 1) (o := 0) hbl2 (by go_cell) (by omega); have HO2 := Lib.hid hown2; have HB2 := Lib.hid hbl2; clear hown2 hgr2 hbl2; obtain ⟨g2, c2, rfl, hG2, hl2, hc2, hm2⟩ := owns_form HO2.out (by simp)) | (go_simp; go_at_call_of 115 (Value.int IntKind.i64 X); refine (value_any (evalG vals (gs.take k)) X (w.heap.size + 2) (w.heap.size + 1) _ (by rw [HDl.out]; omega) (by rw [HDl.out]; exact hXk) ⟨v7, by go_cell, by go_cell, by exact World.ownsRow.alloc HOW.out _⟩).mono ?_; rintro e w' ⟨rfl, rfl⟩) | (go_simp; go_at_call_of 115 (Value.int IntKind.i64 Y); refine (value_any (evalG vals (gs.take k)) Y (w.heap.size + 2) (w.heap.size + 1) _ (by rw [HDl.out]; omega) (by rw [HDl.out]; exact hYk) ⟨v7, by go_cell, by go_cell, by exact World.ownsRow.alloc HOW.out _⟩).mono ?_; rintro e w' ⟨rfl, rfl⟩))) | fail
       all_goals
        go_wp2_with fail
        go_roundg (R / 2 + 1 - (k + 1))
        case measure => omega
        refine ⟨k + 1, by go_num, by omega, rfl, ⟨_, by go_cell, by simpa using k8, ?_⟩, Below.setCell (HB0.out.trans (Below.trans (by repeat' (first | (with_reducible exact Below.refl _ _) | (with_reducible assumption) | (with_reducible refine Below.alloc ?_ ?_ _) | (with_reducible refine Below.drewN ?_ _) | (with_reducible refine Below.drew ?_) | (with_reducible refine Below.setCell ?_ ?_ _) | go_size)) (HB2.out.mono (by omega)))) (by show _ ≤ w.heap.size + 1; omega) _, by have := HB2.out.size; simp at this ⊢; omega⟩
        rw [HG.out, HV.out]; have HO3 := ownsRow_setCell_below HO2.out (a := ⟨w.heap.size + 1, 0, none⟩) (by show w.heap.size + 1 < w.heap.size + 2; omega) (.slice (some ⟨g2, 0, none⟩) ((evalG vals (gs.take k)).length + 1) c2); simp only [List.length_append, List.length_singleton] at HO3 ⊢; exact HO3
   · have t1 : (gk.k == 1) = false := by simpa using hk1
     have t2 : (gk.k == 2) = false := by simpa using hk2
     have HV := Lib.hid (show gval vals (evalG vals (gs.take k)) gk = true from by simp [gval, hk1, hk2])
     clear hk1 hk2
     go_wp2_with (first | (at_builtin; go_must (refine wpList_app (enc := bEnc) rfl _ _ _ rfl (w.heap.size + 2) 4 i0 _ 1 Try.underlying52 hi0 hz0 hz1 hz2 rfl (by omega) v7 (evalG vals (gs.take k)) rfl ((HOW.out.alloc _).alloc _) (some ⟨wr.heap.size + 1, 0, none⟩) [true] 1 rfl (fun h => by cases h) (SlAt.bool1 (by go_cell)) bEnc_one (by rw [HDl.out]; simp [maxLen]; omega) (by rw [HDl.out]; simp; omega) (by first | omega | (simp; omega)) ?_); intro v2 w3 hown2 hgr2 hbl2; have k7 := oldcell (b := w.heap.size + 1) (o := 0) hbl2 (v := v7) (by go_cell) (by omega); have k8 := oldfree (b := w.heap.size + 1) (o := 0) hbl2 (by go_cell) (by omega); have HO2 := Lib.hid hown2; have HB2 := Lib.hid hbl2; clear hown2 hgr2 hbl2; obtain ⟨g2, c2, rfl, hG2, hl2, hc2, hm2⟩ := owns_form HO2.out (by simp)))
     go_wp2_with fail
     go_roundg (R / 2 + 1 - (k + 1))
     case measure => omega
     refine ⟨k + 1, by go_num, by omega, rfl, ⟨_, by go_cell, by simpa using k8, ?_⟩, Below.setCell (HB0.out.trans (Below.trans (by repeat' (first | (with_reducible exact Below.refl _ _) | (with_reducible assumption) | (with_reducible refine Below.alloc ?_ ?_ _) | (with_reducible refine Below.drewN ?_ _) | (with_reducible refine Below.drew ?_) | (with_reducible refine Below.setCell ?_ ?_ _) | go_size)) (HB2.out.mono (by omega)))) (by show _ ≤ w.heap.size + 1; omega) _, by have := HB2.out.size; simp at this ⊢; omega⟩
     rw [HG.out, HV.out]; have HO3 := ownsRow_setCell_below HO2.out (a := ⟨w.heap.size + 1, 0, none⟩) (by show w.heap.size + 1 < w.heap.size + 2; omega) (.slice (some ⟨g2, 0, none⟩) ((evalG vals (gs.take k)).length + 1) c2); simp only [List.length_append, List.length_singleton] at HO3 ⊢; exact HO3
end Go.Proofs.Ytadilppdlbhjnaa
