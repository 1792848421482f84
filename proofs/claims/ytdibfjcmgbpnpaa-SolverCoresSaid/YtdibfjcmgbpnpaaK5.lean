/- Walks of the solver: undo, free. -/
import Derived.Test.YtdibfjcmgbpnpaaK4
namespace Go.Proofs.Ytdibfjcmgbpnpaa
set_option linter.unusedSimpArgs false
set_option linter.unusedVariables false
open Go.RowKit

set_option maxRecDepth 100000 in
set_option maxHeartbeats 2000000 in
theorem undo_any {n : Nat} {w : World} {o : Nat → Option Role} {b : Nat} {s : SS} (h : SolAt w o b s) (ht : Tr n s) (hn : n ≤ 20000) (hm0 : s.marks.length ≤ 1000000) {k : Nat} (hk0 : k ≤ 1000000) :
    Calls Try.prog 37 #[.pointer (some ⟨b, 0, none⟩), .int .i64 k] w fun e w' => e = .returned (.tuple #[]) ∧ SolAt w' o b (s.undo k) ∧ Ext NoX w o w' o := by
 have HT := Lib.hid ht; have HM0 := Lib.hid hm0
 clear ht hm0
 go_enter Try.func37, Try.ntmps37
 go_upto_region 1 with (first | (go_at_call 32; refine (back_any h HT.out hn HM0.out hk0).mono ?_; rintro e w1 ⟨rfl, h1, hx1⟩; have H1 := Lib.hid h1; have HX1 := Lib.hid hx1; clear h1 hx1))
 obtain ⟨oc, hd, hs⟩ := H1.out.sl
 obtain ⟨pl, cl, el⟩ := hs.lits_sl
 obtain ⟨f3, -⟩ := hs.fld 3 (u := hd .lits) rfl
 obtain ⟨T, hT⟩ : ∃ T, s.back k = T := ⟨_, rfl⟩
 rw [hT] at hs el
 have hhd : T.head = s.head := by rw [← hT]; unfold SS.back; split <;> rfl
 obtain ⟨f8, f8f⟩ := hs.fld 8 (u := .int .i64 T.head) rfl
 have HTT := Lib.hid hT; clear hT
 obtain ⟨L, hL⟩ : ∃ L, T.lits.length = L := ⟨_, rfl⟩
 obtain ⟨H, hH⟩ : ∃ H, T.head = H := ⟨_, rfl⟩
 rw [hL] at el; rw [el] at f3; rw [hH] at f8
 have HL := Lib.hid hL; have HH := Lib.hid hH; have HHD := Lib.hid hhd
 clear hL hH hhd
 have hmin : (if (L : Int) < (H : Int) then (L : Int) else (H : Int)) = ((min H L : Nat) : Int) := by split <;> omega
 have fin : ∀ (wS : World) (u : Int), Below w1.heap.size w1 wS → u = ((min H L : Nat) : Int) → Sl (wS.setCell ⟨b, 8, none⟩ (.int .i64 u)) o b (s.undo k) oc hd ∧ Ext NoX w o (wS.setCell ⟨b, 8, none⟩ (.int .i64 u)) o := by
   intro wS u hB hu
   obtain ⟨h1, h2⟩ := (hs.up hB).set (r := .self) hs.hb 8 (.int .i64 u) (s' := s.undo k) (oc' := oc) (by
     unfold SS.undo
     rw [HTT.out, ← HHD.out, HL.out, HH.out, hu]
     funext r
     cases r <;> rfl)
   exact ⟨h1, (HX1.out.trans (Ext.below hB) fun _ _ q => q).trans h2 fun _ _ q => q⟩
 have FIN := Lib.hid fin; clear fin hs
 by_cases hLH : L < H
 ·
   refine wp_region_seqE (fun x => Below w1.heap.size w1 x) (.one 0 1 (.one 1 1 (.one 2 1 (.one 3 1 (.one 4 0 (.one 5 1 (.one 6 1 (.one 7 1 (.one 8 1 (.one 9 0 (.one 10 1 (.one 11 1 (.one 12 1 (.one 13 1 (.alt 14 3 .nil .stop))))))))))))))) (by kernel_rfl) (by kernel_rfl) (by kernel_rfl) (Below.drew (Below.refl _ _)) ?_
   iterate 14 (first | (refine seqE_free (v := ?_) rfl (by rfl) ?_ ?_; rotate_left; (focus (intro w; go_simp; try with_reducible rfl)); (try simp only [Act.put, List.setIfInBounds_toArray, List.set_cons_zero, List.set_cons_succ])) | (refine seqE_pure (v := ?_) rfl (by rfl) ?_ ?_; rotate_left; (focus (intro w hS; have f3 := oldcell hS f3 (World.block_lt_of_cell? _ _ f3); have f8 := oldcell hS f8 (World.block_lt_of_cell? _ _ f8); go_simp; try with_reducible rfl)); (try simp only [Act.put, List.setIfInBounds_toArray, List.set_cons_zero, List.set_cons_succ])))
   refine seqE_storeB rfl (by rfl) ?_ seqE_stop
   intro wS hS; have f8f := oldfree hS f8f (World.block_lt_of_cell? _ _ f8); have f3 := oldcell hS f3 (World.block_lt_of_cell? _ _ f3); have f8 := oldcell hS f8 (World.block_lt_of_cell? _ _ f8)
   refine ⟨wS.setCell ⟨b, 8, none⟩ (.int .i64 L), (by go_simp; try with_reducible rfl), fun x => Below (wS.setCell ⟨b, 8, none⟩ (.int .i64 L)).heap.size (wS.setCell ⟨b, 8, none⟩ (.int .i64 L)) x, Below.refl _ _, ?_⟩
   have hS0 := hS; clear hS
   (try simp only [Act.put, List.setIfInBounds_toArray, List.set_cons_zero, List.set_cons_succ])
   refine seqE_nil ?_
   intro w2 hS
   go_wp2_with fail
   refine bodyPost_end (results_none rfl _ _ _) rfl ?_
   obtain ⟨q1, q2⟩ := FIN.out wS (L : Int) hS0 (by omega)
   exact ⟨rfl, (q1.up hS).at, q2.trans (Ext.below (X := NoX) hS) fun _ _ q => q⟩
 ·
   refine wp_region_seqE (fun x => Below w1.heap.size w1 x) (.one 0 1 (.one 1 1 (.one 2 1 (.one 3 1 (.one 4 0 (.one 5 1 (.one 6 1 (.one 7 1 (.one 8 1 (.one 9 0 (.one 10 1 (.one 11 1 (.one 12 1 (.one 13 1 (.alt 14 3 .nil .stop))))))))))))))) (by kernel_rfl) (by kernel_rfl) (by kernel_rfl) (Below.drew (Below.refl _ _)) ?_
   iterate 14 (first | (refine seqE_free (v := ?_) rfl (by rfl) ?_ ?_; rotate_left; (focus (intro w; go_simp; try with_reducible rfl)); (try simp only [Act.put, List.setIfInBounds_toArray, List.set_cons_zero, List.set_cons_succ])) | (refine seqE_pure (v := ?_) rfl (by rfl) ?_ ?_; rotate_left; (focus (intro w hS; have f3 := oldcell hS f3 (World.block_lt_of_cell? _ _ f3); have f8 := oldcell hS f8 (World.block_lt_of_cell? _ _ f8); go_simp; try with_reducible rfl)); (try simp only [Act.put, List.setIfInBounds_toArray, List.set_cons_zero, List.set_cons_succ])))
   refine seqE_storeB rfl (by rfl) ?_ seqE_stop
   intro wS hS; have f8f := oldfree hS f8f (World.block_lt_of_cell? _ _ f8); have f3 := oldcell hS f3 (World.block_lt_of_cell? _ _ f3); have f8 := oldcell hS f8 (World.block_lt_of_cell? _ _ f8)
   refine ⟨wS.setCell ⟨b, 8, none⟩ (.int .i64 H), (by go_simp; try with_reducible rfl), fun x => Below (wS.setCell ⟨b, 8, none⟩ (.int .i64 H)).heap.size (wS.setCell ⟨b, 8, none⟩ (.int .i64 H)) x, Below.refl _ _, ?_⟩
   have hS0 := hS; clear hS
   (try simp only [Act.put, List.setIfInBounds_toArray, List.set_cons_zero, List.set_cons_succ])
   refine seqE_nil ?_
   intro w2 hS
   go_wp2_with fail
   refine bodyPost_end (results_none rfl _ _ _) rfl ?_
   obtain ⟨q1, q2⟩ := FIN.out wS (H : Int) hS0 (by omega)
   exact ⟨rfl, (q1.up hS).at, q2.trans (Ext.below (X := NoX) hS) fun _ _ q => q⟩
end Go.Proofs.Ytdibfjcmgbpnpaa
