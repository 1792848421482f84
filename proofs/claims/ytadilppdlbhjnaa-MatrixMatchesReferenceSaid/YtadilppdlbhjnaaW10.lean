import Derived.Test.YtadilppdlbhjnaaW9
namespace Go.Proofs.Ytadilppdlbhjnaa
set_option linter.unusedSimpArgs false
set_option linter.unusedVariables false
open Go.RowKit
theorem bEnc_one (b : Bool) (j : Nat) : (bEnc b j).oneCell' = true := rfl
theorem bool_info : (Try.prog.info? 4).map (fun i => (i.zero, i.size, i.bytes)) = some (some (.bool false), 1, 1) := by kernel_rfl
theorem SlAt.bool1 {w : World} {b : Nat} {x : Bool} (h0 : w.cell? ⟨b, 0, none⟩ = some (.bool x)) : BoolsAt w (some ⟨b, 0, none⟩) [x] := by
 refine .inr ⟨b, 0, rfl, World.block_lt_of_cell? w _ h0, fun i y hy j hj => ?_⟩
 cases i with
 | zero =>
  obtain rfl : x = y := by simpa using hy
  obtain rfl : j = 0 := by omega
  exact h0
 | succ i => simp at hy
theorem bool_cell {w : World} {p : Option Addr} {xs : List Bool} {i : Nat} {x : Bool} (h : BoolsAt w p xs) (hi : xs[i]? = some x) : ∃ b off, p = some ⟨b, off, none⟩ ∧ b < w.heap.size ∧ w.cell? ⟨b, off + i, none⟩ = some (.bool x) := by
 rcases h with rfl | ⟨b, off, hp, hb, hc⟩
 · simp at hi
 · exact ⟨b, off, hp, hb, by simpa [bEnc] using hc i x hi 0 (by omega)⟩
set_option maxRecDepth 100000 in
set_option maxHeartbeats 2000000 in
theorem reval_any (gs : List Gate) (vals : List Bool) (r : Int) (p pv : Option Addr) (cap cv : Nat) (w : World) (hl : gs.length ≤ 20000) (hv : vals.length ≤ maxLen) (hw : WfC gs) (hg : GatesAt w p gs) (hvs : BoolsAt w pv vals) :
 Calls Try.prog 40 #[.agg #[.slice p gs.length cap], .slice pv vals.length cv, .int .i64 r] w fun e w' => e = .returned (.bool (ceval gs vals r)) ∧ Below w.heap.size w w' := by
 unfold maxLen at hv
 by_cases hr0 : r < 0
 · have HR := Lib.hid (ceval_bad (c := gs) (vals := vals) (r := r) (by omega))
   have Hw := Lib.hid hw; have Hg := Lib.hid hg; have Hvs := Lib.hid hvs; clear hw hg hvs
   go_enter Try.func40, Try.ntmps40
   go_wp2
   go_ret
   exact ⟨ret_bool HR.out.symm, by go_grown⟩
 by_cases hr1 : 2 * (gs.length : Int) ≤ r
 · have HR := Lib.hid (ceval_bad (c := gs) (vals := vals) (r := r) (by omega))
   have Hw := Lib.hid hw; have Hg := Lib.hid hg; have Hvs := Lib.hid hvs; clear hw hg hvs
   go_enter Try.func40, Try.ntmps40
   go_wp2
   go_ret
   exact ⟨ret_bool HR.out.symm, by go_grown⟩
 have Hw := Lib.hid hw; have Hvs := Lib.hid hvs; clear hw hvs
 rcases hg with rfl | ⟨b, off, rfl, hb, hc⟩
 · exfalso; simp at hr1; omega
 have Hc := Lib.hid hc; clear hc
 obtain ⟨i0, hi0, hz0, hz1, hz2⟩ := info_parts bool_info
 obtain ⟨R, rfl⟩ := Int.eq_ofNat_of_zero_le (show 0 ≤ r by omega)
 have hq : (R : Int) / 2 = ((R / 2 : Nat) : Int) := by omega
 have HRv := Lib.hid (ceval_nat (c := gs) (vals := vals) (R := R) (by omega))
 have Hq := Lib.hid hq; clear hq
 go_enter Try.func40, Try.ntmps40
 go_wp2
 go_loopg [7, 8] (R / 2 + 1) (fun n v iv wr => ∃ k : Nat, iv = .int .i64 k ∧ k ≤ R / 2 + 1 ∧ n = R / 2 + 1 - k ∧ wr.ownsRow (w.heap.size + 1) 4 1 v (evalG vals (gs.take k)).length (flat 1 bEnc (evalG vals (gs.take k))) ∧ Below (w.heap.size + 1) (w.alloc (Obj.cells #[Value.slice (some ⟨b, off, none⟩) gs.length cap] 27)) wr)
 case atStart => exact ⟨0, rfl, by omega, by omega, World.ownsRow_nil _ _ _ _, Below.refl _ _⟩
 obtain ⟨k, rfl, hk, rfl, hown, hB⟩ := hrel
 have h1 := oldcell (b := w.heap.size) (o := 0) (v := .slice (some ⟨b, off, none⟩) gs.length cap) hB (by go_cell) (by omega)
 have HB0 := Lib.hid (show Below w.heap.size w wr from Below.trans (by go_grown) (hB.mono (by omega)))
 have HB := Lib.hid hB; clear hB
 have hz0' : w.heap.size < wr.heap.size := World.block_lt_of_cell? _ _ h1
 have HDl : Hid ((evalG vals (gs.take k)).length = k) := by rw [evalG_length, List.length_take]; exact Nat.min_eq_left (by omega)
 by_cases hlt : k ≤ R / 2
 case neg =>
  have hq2 : decide ((k : Int) ≤ (R : Int) / 2) = false := by simp; omega
  obtain rfl : k = R / 2 + 1 := by omega
  obtain ⟨x, hx⟩ : ∃ x, (evalG vals (gs.take (R / 2 + 1)))[R / 2]? = some x := ⟨_, List.getElem?_eq_getElem (by rw [HDl.out]; omega)⟩
  have HOW := Lib.hid hown; clear hown
  obtain ⟨g7, c7, rfl, hB7, hlt7, hc7, hm7⟩ := owns_form HOW.out (by rw [HDl.out]; omega)
  have a5 : wr.cell? ⟨g7, R / 2, none⟩ = some (.bool x) := by
   rw [World.ownsRow.cellAt HOW.out (R / 2) (by rw [HDl.out]; omega)]
   have := flat_get (E := 1) (enc := bEnc) hx (j := 0) (by omega)
   simpa [bEnc] using this
  have q1 : (R : Int) / 2 < ((evalG vals (gs.take (R / 2 + 1))).length : Int) := by rw [HDl.out]; omega
  have q3 : (0 : Int) ≤ (R : Int) := by omega
  have HF := Lib.hid (show ceval gs vals R = (x == ((R : Int) % 2 == 0)) from by
   rw [HRv.out]
   have e1 : ((R : Int) / 2).toNat = R / 2 := by omega
   simp only [refv, e1, List.getD_eq_getElem?_getD, hx]
   have m1 : (R : Int) % 2 = 0 ∨ (R : Int) % 2 = 1 := by omega
   rcases m1 with m1 | m1 <;> simp [m1])
  clear hx
  go_wp2_with fail
  go_ret
  exact ⟨ret_bool HF.out.symm, HB0.out⟩
 have hq2 : decide ((k : Int) ≤ (R : Int) / 2) = true := by simp; omega
 have hlt0 : (0 : Int) ≤ (k : Int) := by omega
 have hlt1 : (k : Int) < (gs.length : Int) := by omega
 obtain ⟨gk, hgk⟩ : ∃ gk, gs[k]? = some gk := ⟨_, List.getElem?_eq_getElem (by omega)⟩
 obtain ⟨e4, e5, e6⟩ := gate_cells Hc.out hgk
 have h4 := oldcell HB0.out e4 hb
 have h5 := oldcell HB0.out e5 hb
 have h6 := oldcell HB0.out e6 hb
 have HW := Lib.hid (Hw.out k gk hgk)
 have HG := Lib.hid (show evalG vals (gs.take (k + 1)) = evalG vals (gs.take k) ++ [gval vals (evalG vals (gs.take k)) gk] from by
  obtain ⟨hk', he⟩ := List.getElem?_eq_some_iff.1 hgk
  rw [List.take_succ_eq_append_getElem hk', he, evalG_snoc])
 clear e4 e5 e6 hgk
 have HOW := Lib.hid hown; clear hown
 by_cases hk1 : gk.k = 1
 · have t1 : (gk.k == 1) = true := by simpa using hk1
   have t2 : (gk.k == 2) = false := by simp [hk1]
   have hA := HW.out.1 hk1
   obtain ⟨A, hA'⟩ : ∃ A : Nat, gk.a = (A : Int) + 1 := ⟨(gk.a - 1).toNat, by omega⟩
   rw [hA'] at h5
   by_cases hAl : (A : Int) + 1 ≤ (vals.length : Int)
   · have hAl2 : (A : Int) < (vals.length : Int) := by omega
     obtain ⟨x, hx⟩ : ∃ x, vals[A]? = some x := ⟨_, List.getElem?_eq_getElem (by omega)⟩
     have HV := Lib.hid (show gval vals (evalG vals (gs.take k)) gk = x from by
      have e : ((A : Int) + 1 - 1).toNat = A := by omega
      simp only [gval, hk1, if_true, hA', e]
      rw [decide_eq_true hAl, List.getD_eq_getElem?_getD, hx]; rfl)
     obtain ⟨bv, ov, rfl, hbv, hcv⟩ := bool_cell Hvs.out hx
     have hcv2 := oldcell HB0.out hcv hbv
     have hbv2 := World.block_lt_of_cell? _ _ hcv2
     clear hk1 hA hA' hcv hx
     go_wp2_with (first | (at_builtin; go_must (refine wpList_app (enc := bEnc) rfl _ _ _ rfl (w.heap.size + 1) 4 i0 _ 1 Try.underlying52 hi0 hz0 hz1 hz2 rfl (by omega) _ (evalG vals (gs.take k)) rfl ((HOW.out.alloc _).alloc _) (some ⟨wr.heap.size + 1, 0, none⟩) [x] 1 rfl (fun h => by cases h) (SlAt.bool1 (by go_cell)) bEnc_one (by rw [HDl.out]; simp [maxLen]; omega) (by rw [HDl.out]; simp; omega) (by first | omega | (simp; omega)) ?_); intro v2 w3 hown2 hgr2 hbl2))
     have HO2 := Lib.hid hown2; have HB2 := Lib.hid hbl2; clear hown2 hgr2 hbl2
     go_wp2_with fail
     go_roundg (R / 2 + 1 - (k + 1))
     case measure => omega
     refine ⟨k + 1, by go_num, by omega, rfl, ?_, HB.out.trans (Below.trans (by go_grown) HB2.out)⟩
     rw [HG.out, HV.out]; exact HO2.out
   · have HV := Lib.hid (show gval vals (evalG vals (gs.take k)) gk = false from by
      simp only [gval, hk1, if_true, hA']
      rw [decide_eq_false hAl]; rfl)
     clear hk1 hA hA'
     go_wp2_with (first | (at_builtin; go_must (refine wpList_app (enc := bEnc) rfl _ _ _ rfl (w.heap.size + 1) 4 i0 _ 1 Try.underlying52 hi0 hz0 hz1 hz2 rfl (by omega) _ (evalG vals (gs.take k)) rfl ((HOW.out.alloc _).alloc _) (some ⟨wr.heap.size + 1, 0, none⟩) [false] 1 rfl (fun h => by cases h) (SlAt.bool1 (by go_cell)) bEnc_one (by rw [HDl.out]; simp [maxLen]; omega) (by rw [HDl.out]; simp; omega) (by first | omega | (simp; omega)) ?_); intro v2 w3 hown2 hgr2 hbl2))
     have HO2 := Lib.hid hown2; have HB2 := Lib.hid hbl2; clear hown2 hgr2 hbl2
     go_wp2_with fail
     go_roundg (R / 2 + 1 - (k + 1))
     case measure => omega
     refine ⟨k + 1, by go_num, by omega, rfl, ?_, HB.out.trans (Below.trans (by go_grown) HB2.out)⟩
     rw [HG.out, HV.out]; exact HO2.out
 · by_cases hk2 : gk.k = 2
   · have t1 : (gk.k == 1) = false := by simpa using hk1
     have t2 : (gk.k == 2) = true := by simpa using hk2
     obtain ⟨hA0, hA1, hB0', hB1'⟩ := HW.out.2 hk2
     obtain ⟨X, hX⟩ : ∃ X : Nat, gk.a = (X : Int) := ⟨gk.a.toNat, by omega⟩
     obtain ⟨Y, hY⟩ : ∃ Y : Nat, gk.b = (Y : Int) := ⟨gk.b.toNat, by omega⟩
     have hXk : X / 2 < k := by omega
     have hYk : Y / 2 < k := by omega
     obtain ⟨x, hx⟩ : ∃ x, (evalG vals (gs.take k))[X / 2]? = some x := ⟨_, List.getElem?_eq_getElem (by rw [HDl.out]; exact hXk)⟩
     obtain ⟨y, hy⟩ : ∃ y, (evalG vals (gs.take k))[Y / 2]? = some y := ⟨_, List.getElem?_eq_getElem (by rw [HDl.out]; exact hYk)⟩
     have HV := Lib.hid (show gval vals (evalG vals (gs.take k)) gk = ((x == ((X : Int) % 2 == 0)) && (y == ((Y : Int) % 2 == 0))) from by
      have e1 : ((X : Int) / 2).toNat = X / 2 := by omega
      have e2 : ((Y : Int) / 2).toNat = Y / 2 := by omega
      simp only [gval, hk2, hX, hY, refv, e1, e2, List.getD_eq_getElem?_getD, hx, hy]
      have m1 : (X : Int) % 2 = 0 ∨ (X : Int) % 2 = 1 := by omega
      have m2 : (Y : Int) % 2 = 0 ∨ (Y : Int) % 2 = 1 := by omega
      rcases m1 with m1 | m1 <;> rcases m2 with m2 | m2 <;> simp [m1, m2])
     rw [hX] at h5; rw [hY] at h6
     obtain ⟨g7, c7, rfl, hB7, hlt7, hc7, hm7⟩ := owns_form HOW.out (by rw [HDl.out]; omega)
     have a5 : wr.cell? ⟨g7, X / 2, none⟩ = some (.bool x) := by
      rw [World.ownsRow.cellAt HOW.out (X / 2) (by rw [HDl.out]; omega)]
      have := flat_get (E := 1) (enc := bEnc) hx (j := 0) (by omega)
      simpa [bEnc] using this
     have a6 : wr.cell? ⟨g7, Y / 2, none⟩ = some (.bool y) := by
      rw [World.ownsRow.cellAt HOW.out (Y / 2) (by rw [HDl.out]; omega)]
      have := flat_get (E := 1) (enc := bEnc) hy (j := 0) (by omega)
      simpa [bEnc] using this
     have q1 : (X : Int) / 2 < ((evalG vals (gs.take k)).length : Int) := by rw [HDl.out]; omega
     have q2 : (Y : Int) / 2 < ((evalG vals (gs.take k)).length : Int) := by rw [HDl.out]; omega
     have q3 : (0 : Int) ≤ (X : Int) := by omega
     have q4 : (0 : Int) ≤ (Y : Int) := by omega
     clear hk1 hk2 hA0 hA1 hB0' hB1' hX hY hx hy
     cases hxx : (x == ((X : Int) % 2 == 0)) with
     | false =>
      have HV2 := Lib.hid (show gval vals (evalG vals (gs.take k)) gk = _ from HV.out.trans (show _ = false by rw [hxx, Bool.false_and]))
      go_wp2_with fail
      go_quiet (fail)
      go_wp2_with fail
      go_quiet (fail)
      go_wp2_with (first | (at_builtin; go_must (refine wpList_app (enc := bEnc) rfl _ _ _ rfl (w.heap.size + 1) 4 i0 _ 1 Try.underlying52 hi0 hz0 hz1 hz2 rfl (by omega) _ (evalG vals (gs.take k)) rfl ((HOW.out.alloc _).alloc _) (some ⟨wr.heap.size + 1, 0, none⟩) [false] 1 rfl (fun h => by cases h) (SlAt.bool1 (by go_cell)) bEnc_one (by rw [HDl.out]; simp [maxLen]; omega) (by rw [HDl.out]; simp; omega) (by first | omega | (simp; omega)) ?_); intro v2 w3 hown2 hgr2 hbl2))
      have HO2 := Lib.hid hown2; have HB2 := Lib.hid hbl2; clear hown2 hgr2 hbl2
      go_wp2_with fail
      go_roundg (R / 2 + 1 - (k + 1))
      case measure => omega
      refine ⟨k + 1, by go_num, by omega, rfl, ?_, HB.out.trans (Below.trans (by repeat' (first | (with_reducible exact Below.refl _ _) | (with_reducible assumption) | (with_reducible refine Below.alloc ?_ ?_ _) | (with_reducible refine Below.drewN ?_ _) | (with_reducible refine Below.drew ?_) | (with_reducible refine Below.setCell ?_ ?_ _) | go_size)) HB2.out)⟩
      rw [HG.out, HV2.out]; exact HO2.out
     | true =>
      have HV2 := Lib.hid (show gval vals (evalG vals (gs.take k)) gk = _ from HV.out.trans (show _ = (y == ((Y : Int) % 2 == 0)) by rw [hxx, Bool.true_and]))
      go_wp2_with fail
      go_quiet (fail)
      go_wp2_with fail
      go_quiet (fail)
      go_wp2_with (first | (at_builtin; go_must (refine wpList_app (enc := bEnc) rfl _ _ _ rfl (w.heap.size + 1) 4 i0 _ 1 Try.underlying52 hi0 hz0 hz1 hz2 rfl (by omega) _ (evalG vals (gs.take k)) rfl ((HOW.out.alloc _).alloc _) (some ⟨wr.heap.size + 1, 0, none⟩) [(y == ((Y : Int) % 2 == 0))] 1 rfl (fun h => by cases h) (SlAt.bool1 (by go_cell)) bEnc_one (by rw [HDl.out]; simp [maxLen]; omega) (by rw [HDl.out]; simp; omega) (by first | omega | (simp; omega)) ?_); intro v2 w3 hown2 hgr2 hbl2))
      have HO2 := Lib.hid hown2; have HB2 := Lib.hid hbl2; clear hown2 hgr2 hbl2
      go_wp2_with fail
      go_roundg (R / 2 + 1 - (k + 1))
      case measure => omega
      refine ⟨k + 1, by go_num, by omega, rfl, ?_, HB.out.trans (Below.trans (by repeat' (first | (with_reducible exact Below.refl _ _) | (with_reducible assumption) | (with_reducible refine Below.alloc ?_ ?_ _) | (with_reducible refine Below.drewN ?_ _) | (with_reducible refine Below.drew ?_) | (with_reducible refine Below.setCell ?_ ?_ _) | go_size)) HB2.out)⟩
      rw [HG.out, HV2.out]; exact HO2.out
   · have t1 : (gk.k == 1) = false := by simpa using hk1
     have t2 : (gk.k == 2) = false := by simpa using hk2
     have HV := Lib.hid (show gval vals (evalG vals (gs.take k)) gk = true from by simp [gval, hk1, hk2])
     clear hk1 hk2
     go_wp2_with (first | (at_builtin; go_must (refine wpList_app (enc := bEnc) rfl _ _ _ rfl (w.heap.size + 1) 4 i0 _ 1 Try.underlying52 hi0 hz0 hz1 hz2 rfl (by omega) _ (evalG vals (gs.take k)) rfl ((HOW.out.alloc _).alloc _) (some ⟨wr.heap.size + 1, 0, none⟩) [true] 1 rfl (fun h => by cases h) (SlAt.bool1 (by go_cell)) bEnc_one (by rw [HDl.out]; simp [maxLen]; omega) (by rw [HDl.out]; simp; omega) (by first | omega | (simp; omega)) ?_); intro v2 w3 hown2 hgr2 hbl2))
     have HO2 := Lib.hid hown2; have HB2 := Lib.hid hbl2; clear hown2 hgr2 hbl2
     go_wp2_with fail
     go_roundg (R / 2 + 1 - (k + 1))
     case measure => omega
     refine ⟨k + 1, by go_num, by omega, rfl, ?_, HB.out.trans (Below.trans (by go_grown) HB2.out)⟩
     rw [HG.out, HV.out]; exact HO2.out
end Go.Proofs.Ytadilppdlbhjnaa
