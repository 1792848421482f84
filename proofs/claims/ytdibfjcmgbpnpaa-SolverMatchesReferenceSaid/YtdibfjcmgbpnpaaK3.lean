/- Walks of the solver: decide. -/
import Derived.Test.YtdibfjcmgbpnpaaK2
import Derived.Test.YtdibfjcmgbpnpaaSE
namespace Go.Proofs.Ytdibfjcmgbpnpaa
set_option linter.unusedSimpArgs false
set_option linter.unusedVariables false
open Go.RowKit

set_option maxRecDepth 100000 in
set_option maxHeartbeats 2000000 in
theorem decide_any {n : Nat} {w : World} {o : Nat → Option Role} {b : Nat} {s : SS} (h : SolAt w o b s) (ht : Tr n s) (hn : n ≤ 20000) (hm0 : s.marks.length ≤ 100000) {x : Int} (hx : x = 0 ∨ LOk n x) :
    Calls Try.prog 43 #[.pointer (some ⟨b, 0, none⟩), .int .i64 x] w fun e w' => e = .returned (.tuple #[]) ∧ ∃ o', SolAt w' o' b (s.decide x) ∧ Ext NoX w o w' o' := by
 obtain ⟨i0, hi0, hz0, hz1, hz2⟩ := info_parts int_info
 obtain ⟨oc, hd, hs⟩ := h.sl
 obtain ⟨pm, cm, em⟩ := hs.marks_sl
 obtain ⟨pl, cl, el⟩ := hs.lits_sl
 obtain ⟨f4, -⟩ := hs.fld 4 (u := hd .marks) rfl
 obtain ⟨f3, -⟩ := hs.fld 3 (u := hd .lits) rfl
 rw [em] at f4; rw [el] at f3
 obtain ⟨m, hm⟩ : ∃ m, s.marks.length = m := ⟨_, rfl⟩
 obtain ⟨L, hL⟩ : ∃ L, s.lits.length = L := ⟨_, rfl⟩
 rw [hm] at em f4 hm0; rw [hL] at el f3
 have HM := Lib.hid hm; have HL := Lib.hid hL; have HT := Lib.hid ht; have HX := Lib.hid hx
 have hE : ∀ V, upd (upd (E s oc hd) .marks (E s oc hd .marks ++ [.int .i64 L])) .self ((E s oc hd .self).set 4 V) = E s.mark oc (upd hd .marks V) := by
   intro V
   funext r
   rw [← hL]
   cases r <;> first | rfl | exact nV_snoc _ _
 clear hm hL ht hx h
 go_enter Try.func43, Try.ntmps43
 go_upto_region 0 with fail
 refine wp_region_seqE (fun x => Below w.heap.size w x) (.one 0 1 (.one 1 1 (.one 2 1 (.one 3 1 (.one 4 0 (.one 5 1 (.one 6 1 (.one 7 1 (.one 8 0 (.one 9 1 (.alt 10 2 (.alt 11 3 (.one 12 1 (.one 13 1 (.alt 14 3 .nil .stop))) .stop) .stop))))))))))) (by kernel_rfl) (by kernel_rfl) (by kernel_rfl) (Below.drew (Below.refl _ _)) ?_
 have hB : Below w.heap.size w w := Below.refl _ _
 iterate 10 (first | (refine seqE_free (v := ?_) rfl (by rfl) ?_ ?_; rotate_left; (focus (intro w; go_simp; try with_reducible rfl)); (try simp only [Act.put, List.setIfInBounds_toArray, List.set_cons_zero, List.set_cons_succ])) | (refine seqE_pure (v := ?_) rfl (by rfl) ?_ ?_; rotate_left; (focus (intro w hS; have f3 := oldcell hS f3 (World.block_lt_of_cell? _ _ f3); have f4 := oldcell hS f4 (World.block_lt_of_cell? _ _ f4); go_simp; try with_reducible rfl)); (try simp only [Act.put, List.setIfInBounds_toArray, List.set_cons_zero, List.set_cons_succ])))
 refine seqE_move rfl (by rfl) ?_ seqE_stop
 intro wb hS
 have hS1 := btr hB hS
 refine ⟨.slice (some ⟨wb.heap.size, 0, none⟩) 1 1, (wb.alloc (.cells #[.int .i64 L] 3)), (by go_simp; try with_reducible rfl), fun x => Below (wb.alloc (.cells #[.int .i64 L] 3)).heap.size (wb.alloc (.cells #[.int .i64 L] 3)) x, Below.refl _ _, fun x hx => btr (btr hS (by go_grown)) hx, ?_⟩
 have hB2 : Below (wb.alloc (.cells #[.int .i64 L] 3)).heap.size (wb.alloc (.cells #[.int .i64 L] 3)) (wb.alloc (.cells #[.int .i64 L] 3)) := Below.refl _ _
 have hS1a := btr hS1 (show Below wb.heap.size wb (wb.alloc (.cells #[.int .i64 L] 3)) by go_grown)
 (try simp only [Act.put, List.setIfInBounds_toArray, List.set_cons_zero, List.set_cons_succ])
 refine seqE_moveB rfl (by rfl) ?_ seqE_stop
 intro wa hS
 have hS2 := btr hB2 hS
 obtain ⟨p2, c2, wz, hrun, z1, z1f, hmz, hfin⟩ := hs.app1 (P := Try.prog) .marks rfl em 29 29 i0 _ rfl hi0 hz0 hz1 hz2 (by omega) rfl (.int .i64 L) rfl 3 hS1 hS2 (by omega) (q := .self) (by decide) hs.hb rfl (by decide) hE
 refine ⟨_, wz, exec_app rfl rfl rfl hrun, fun x => Below wz.heap.size wz x, Below.refl _ _, ?_⟩
 have hB3 : Below wz.heap.size wz wz := Below.refl _ _
 clear hrun hS1 hS1a hS2 hS hB2 hB
 (try simp only [Act.put, List.setIfInBounds_toArray, List.set_cons_zero, List.set_cons_succ])
 iterate 2 (refine seqE_free (v := ?_) rfl (by rfl) ?_ ?_; rotate_left; (focus (intro w; go_simp; try with_reducible rfl)); (try simp only [Act.put, List.setIfInBounds_toArray, List.set_cons_zero, List.set_cons_succ]))
 refine seqE_storeB rfl (by rfl) ?_ seqE_stop
 intro wS hS
 have hS3 := btr hB3 hS
 have z2 := oldcell hS3 z1 (World.block_lt_of_cell? _ _ z1); have z2f := oldfree hS3 z1f (World.block_lt_of_cell? _ _ z1)
 obtain ⟨hs2, hx2⟩ := hfin wS hS3
 refine ⟨(wS.setCell ⟨b, 4, none⟩ (.slice p2 (m + 1) c2)), (by go_simp; try with_reducible rfl), fun x => Below (wS.setCell ⟨b, 4, none⟩ (.slice p2 (m + 1) c2)).heap.size (wS.setCell ⟨b, 4, none⟩ (.slice p2 (m + 1) c2)) x, Below.refl _ _, ?_⟩
 clear hfin hS3 z1 z1f z2 z2f hB3 hmz hS
 (try simp only [Act.put, List.setIfInBounds_toArray, List.set_cons_zero, List.set_cons_succ])
 refine seqE_nil ?_
 intro w2 hS
 replace hs2 := hs2.up hS
 replace hx2 := hx2.trans (Ext.below (X := NoX) hS) fun _ _ q => q
 clear hE hs hS
 have hs2 := Lib.hid hs2.at; have hx2 := Lib.hid hx2
 have hmm : s.mark.marks.length ≤ 1000000 := by show (s.marks ++ [_]).length ≤ _; rw [List.length_append, HM.out]; simp; omega
 by_cases h0 : x = 0
 · go_wp2_with fail
   refine bodyPost_end (results_none rfl _ _ _) rfl ?_
   unfold SS.decide
   rw [if_neg (by omega)]
   exact ⟨rfl, _, hs2.out, hx2.out⟩
 · have hxx : LOk n x := HX.out.resolve_left h0
   go_wp2_with (first | (go_at_call 35; refine (push_any hs2.out HT.out.marked hn hmm hxx (r := -1) (by omega) (by omega)).mono ?_; rintro e w3 ⟨rfl, o3, hs3, hx3⟩; have HS3 := Lib.hid hs3; have HX3 := Lib.hid (hx2.out.trans hx3 fun _ _ q => q); clear hs3 hx3))
   refine bodyPost_end (results_none rfl _ _ _) rfl ?_
   unfold SS.decide
   rw [if_pos h0]
   exact ⟨rfl, _, HS3.out, HX3.out⟩
end Go.Proofs.Ytdibfjcmgbpnpaa
