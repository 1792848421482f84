/- Walks of the solver: free. -/
import Derived.Test.YtdibfjcmgbpnpaaK5
namespace Go.Proofs.Ytdibfjcmgbpnpaa
set_option linter.unusedSimpArgs false
set_option linter.unusedVariables false
open Go.RowKit

set_option maxRecDepth 100000 in
set_option maxHeartbeats 2000000 in
theorem free_any {n : Nat} {w : World} {o : Nat → Option Role} {b : Nat} {s : SS} (h : SolAt w o b s) (ht : Tr n s) (hn : n ≤ 20000) :
    Calls Try.prog 44 #[.pointer (some ⟨b, 0, none⟩)] w fun e w' => e = .returned (.int .i64 s.free) ∧ SolAt w' o b s.advance ∧ Ext NoX w o w' o := by
 obtain ⟨oc, hd, hs⟩ := h.sl
 obtain ⟨N, hN⟩ : ∃ N, n + 1 = N := ⟨_, rfl⟩
 have hvl : s.value.length = N := by rw [ht.vl, hN]
 obtain ⟨gv, cv, ev⟩ := hs.value_arr (by omega)
 rw [hvl] at ev
 have hl0 := ht.low2
 have HV := Lib.hid hvl
 have hx0 := Ext.refl NoX w o
 clear ht hvl h
 go_enter Try.func44, Try.ntmps44
 go_wp2_with fail
 go_loopg [] (N - s.low) (fun G wr => ∃ l : Nat, s.low ≤ l ∧ l ≤ N ∧ G = N - l ∧ adv s.value (N - l) l = adv s.value (N - s.low) s.low ∧ Sl wr o b { s with low := l } oc hd ∧ Ext NoX w o wr o)
 case atStart => exact ⟨s.low, Nat.le_refl _, by omega, rfl, rfl, hs, hx0⟩
 case round =>
  obtain ⟨l, hl1, hl2, hG, ha, hs, hx⟩ := hrel
  obtain ⟨f5, f5f⟩ := hs.fld 5 (u := .int .i64 l) rfl
  obtain ⟨f0, -⟩ := hs.fld 0 (u := hd .value) rfl
  rw [ev] at f0
  have HG := Lib.hid hG; have HA := Lib.hid ha; have HX := Lib.hid hx
  clear hG ha hx hx0
  by_cases hlN : l < N
  case pos =>
   obtain ⟨y, hy⟩ : ∃ y, s.value.getD l 0 = y := ⟨_, rfl⟩
   obtain ⟨e0, -⟩ := hs.cell (r := .value) ev (i := l) (iV_get (by rw [HV.out]; exact hlN))
   rw [hy] at e0
   have HY := Lib.hid hy; clear hy
   by_cases hy0 : y = 0
   · subst hy0
     go_upto_region 1 with fail
     refine wp_region_seqE (fun x => Below wr.heap.size wr x) (.one 0 1 (.one 1 1 (.one 2 1 (.one 3 0 (.one 4 1 (.one 5 1 (.one 6 1 (.one 7 0 (.one 8 1 (.one 9 1 (.one 10 1 (.one 11 1 (.one 12 1 (.one 13 1 (.one 14 0 (.one 15 1 (.one 16 1 (.one 17 1 (.one 18 0 (.one 19 1 (.one 20 0 (.one 21 1 (.one 22 1 .nil))))))))))))))))))))))) (by kernel_rfl) (by kernel_rfl) (by kernel_rfl) (Below.drew (Below.refl _ _)) ?_
     iterate 23 (first | (refine seqE_free (v := ?_) rfl (by rfl) ?_ ?_; rotate_left; (focus (intro w; go_simp; try with_reducible rfl)); (try simp only [Act.put, List.setIfInBounds_toArray, List.set_cons_zero, List.set_cons_succ])) | (refine seqE_pure (v := ?_) rfl (by rfl) ?_ ?_; rotate_left; (focus (intro w hS; have f0 := oldcell hS f0 (World.block_lt_of_cell? _ _ f0); have f5 := oldcell hS f5 (World.block_lt_of_cell? _ _ f5); have e0 := oldcell hS e0 (World.block_lt_of_cell? _ _ e0); go_simp; try with_reducible rfl)); (try simp only [Act.put, List.setIfInBounds_toArray, List.set_cons_zero, List.set_cons_succ])))
     refine seqE_nil ?_
     intro w2 hS
     replace hs := hs.up hS
     have hx2 := Lib.hid (HX.out.trans (Ext.below (X := NoX) hS) fun _ _ q => q)
     clear f5 f5f f0 hS HX
     obtain ⟨f5, f5f⟩ := hs.fld 5 (u := .int .i64 l) rfl
     obtain ⟨f0, -⟩ := hs.fld 0 (u := hd .value) rfl
     rw [ev] at f0
     have hstop : adv s.value (N - l) l = l := by
       obtain ⟨k, hk⟩ : ∃ k, N - l = k + 1 := ⟨N - l - 1, by omega⟩
       rw [hk]; unfold adv; rw [if_neg (fun q => q.2 HY.out)]
     have hlNe : l ≠ N := by omega
     have hadv : s.advance = { s with low := l } := by
       unfold SS.advance
       rw [HV.out, ← HA.out, hstop]
     go_upto_region 3 with fail
     refine wp_region_seqE (fun x => Below w2.heap.size w2 x) (.one 0 1 (.one 1 1 (.one 2 1 (.one 3 0 (.one 4 1 (.one 5 1 (.one 6 1 (.one 7 0 (.one 8 1 (.one 9 1 .nil)))))))))) (by kernel_rfl) (by kernel_rfl) (by kernel_rfl) (Below.drew (Below.refl _ _)) ?_
     iterate 10 (first | (refine seqE_free (v := ?_) rfl (by rfl) ?_ ?_; rotate_left; (focus (intro w; go_simp; try with_reducible rfl)); (try simp only [Act.put, List.setIfInBounds_toArray, List.set_cons_zero, List.set_cons_succ])) | (refine seqE_pure (v := ?_) rfl (by rfl) ?_ ?_; rotate_left; (focus (intro w hS; have f0 := oldcell hS f0 (World.block_lt_of_cell? _ _ f0); have f5 := oldcell hS f5 (World.block_lt_of_cell? _ _ f5); go_simp; try with_reducible rfl)); (try simp only [Act.put, List.setIfInBounds_toArray, List.set_cons_zero, List.set_cons_succ])))
     refine seqE_nil ?_
     intro w3 hS
     obtain ⟨f5, f5f⟩ := (hs.up hS).fld 5 (u := .int .i64 l) rfl
     go_wp2_with fail
     go_ret
     rw [hadv]
     refine ⟨?_, (hs.up hS).at, hx2.out.trans (Ext.below (X := NoX) hS) fun _ _ q => q⟩
     unfold SS.free
     rw [hadv, HV.out]
     show _ = Ending.returned (.int .i64 (if l = N then (0 : Int) else (l : Int)))
     rw [if_neg hlNe]; rfl
   ·
     go_upto_region 1 with fail
     refine wp_region_seqE (fun x => Below wr.heap.size wr x) (.one 0 1 (.one 1 1 (.one 2 1 (.one 3 0 (.one 4 1 (.one 5 1 (.one 6 1 (.one 7 0 (.one 8 1 (.one 9 1 (.one 10 1 (.one 11 1 (.one 12 1 (.one 13 1 (.one 14 0 (.one 15 1 (.one 16 1 (.one 17 1 (.one 18 0 (.one 19 1 (.one 20 0 (.one 21 1 (.one 22 1 .nil))))))))))))))))))))))) (by kernel_rfl) (by kernel_rfl) (by kernel_rfl) (Below.drew (Below.refl _ _)) ?_
     iterate 23 (first | (refine seqE_free (v := ?_) rfl (by rfl) ?_ ?_; rotate_left; (focus (intro w; go_simp; try with_reducible rfl)); (try simp only [Act.put, List.setIfInBounds_toArray, List.set_cons_zero, List.set_cons_succ])) | (refine seqE_pure (v := ?_) rfl (by rfl) ?_ ?_; rotate_left; (focus (intro w hS; have f0 := oldcell hS f0 (World.block_lt_of_cell? _ _ f0); have f5 := oldcell hS f5 (World.block_lt_of_cell? _ _ f5); have e0 := oldcell hS e0 (World.block_lt_of_cell? _ _ e0); go_simp; try with_reducible rfl)); (try simp only [Act.put, List.setIfInBounds_toArray, List.set_cons_zero, List.set_cons_succ])))
     refine seqE_nil ?_
     intro w2 hS
     replace hs := hs.up hS
     have hx2 := Lib.hid (HX.out.trans (Ext.below (X := NoX) hS) fun _ _ q => q)
     clear f5 f5f f0 hS HX
     obtain ⟨f5, f5f⟩ := hs.fld 5 (u := .int .i64 l) rfl
     obtain ⟨f0, -⟩ := hs.fld 0 (u := hd .value) rfl
     rw [ev] at f0
     have hwr : IntKind.i64.wrap ((l : Int) + 1) = ((l + 1 : Nat) : Int) := by rw [wrapI (by omega) (by omega)]; omega
     go_wp2_with fail
     go_roundg (N - (l + 1))
     case measure => (have := HG.out; omega)
     case rel =>
       obtain ⟨q1, q2⟩ := hs.set (r := .self) hs.hb 5 (.int .i64 ((l + 1 : Nat) : Int)) (s' := { s with low := l + 1 }) (oc' := oc) (by
         funext r
         cases r <;> rfl)
       refine ⟨l + 1, by omega, by omega, rfl, ?_, q1, hx2.out.trans q2 fun _ _ q => q⟩
       rw [← HA.out]
       obtain ⟨k, hk⟩ : ∃ k, N - l = k + 1 := ⟨N - l - 1, by omega⟩
       rw [hk, show N - (l + 1) = k by omega]
       conv => rhs; unfold adv
       rw [if_pos ⟨by rw [HV.out]; exact hlN, by rw [HY.out]; exact hy0⟩]
  case neg =>
    obtain rfl : l = N := by omega
    go_upto_region 1 with fail
    refine wp_region_seqE (fun x => Below wr.heap.size wr x) (.one 0 1 (.one 1 1 (.one 2 1 (.one 3 0 (.one 4 1 (.one 5 1 (.one 6 1 (.one 7 0 (.one 8 1 (.one 9 1 (.one 10 1 (.one 11 1 (.one 12 1 (.one 13 1 (.one 14 1 (.one 15 1 (.one 16 1 (.one 17 1 (.one 18 1 (.one 19 1 (.one 20 1 (.one 21 1 (.one 22 1 .nil))))))))))))))))))))))) (by kernel_rfl) (by kernel_rfl) (by kernel_rfl) (Below.drew (Below.refl _ _)) ?_
    iterate 11 (first | (refine seqE_free (v := ?_) rfl (by rfl) ?_ ?_; rotate_left; (focus (intro w; go_simp; try with_reducible rfl)); (try simp only [Act.put, List.setIfInBounds_toArray, List.set_cons_zero, List.set_cons_succ])) | (refine seqE_pure (v := ?_) rfl (by rfl) ?_ ?_; rotate_left; (focus (intro w hS; have f0 := oldcell hS f0 (World.block_lt_of_cell? _ _ f0); have f5 := oldcell hS f5 (World.block_lt_of_cell? _ _ f5); go_simp; try with_reducible rfl)); (try simp only [Act.put, List.setIfInBounds_toArray, List.set_cons_zero, List.set_cons_succ])))
    refine seqE_off rfl (by rfl) ?_
    (try simp only [Act.put, List.setIfInBounds_toArray, List.set_cons_zero, List.set_cons_succ])
    refine seqE_off rfl (by rfl) ?_
    (try simp only [Act.put, List.setIfInBounds_toArray, List.set_cons_zero, List.set_cons_succ])
    refine seqE_off rfl (by rfl) ?_
    (try simp only [Act.put, List.setIfInBounds_toArray, List.set_cons_zero, List.set_cons_succ])
    refine seqE_off rfl (by rfl) ?_
    (try simp only [Act.put, List.setIfInBounds_toArray, List.set_cons_zero, List.set_cons_succ])
    refine seqE_off rfl (by rfl) ?_
    (try simp only [Act.put, List.setIfInBounds_toArray, List.set_cons_zero, List.set_cons_succ])
    refine seqE_off rfl (by rfl) ?_
    (try simp only [Act.put, List.setIfInBounds_toArray, List.set_cons_zero, List.set_cons_succ])
    refine seqE_off rfl (by rfl) ?_
    (try simp only [Act.put, List.setIfInBounds_toArray, List.set_cons_zero, List.set_cons_succ])
    refine seqE_off rfl (by rfl) ?_
    (try simp only [Act.put, List.setIfInBounds_toArray, List.set_cons_zero, List.set_cons_succ])
    refine seqE_off rfl (by rfl) ?_
    (try simp only [Act.put, List.setIfInBounds_toArray, List.set_cons_zero, List.set_cons_succ])
    refine seqE_off rfl (by rfl) ?_
    (try simp only [Act.put, List.setIfInBounds_toArray, List.set_cons_zero, List.set_cons_succ])
    refine seqE_off rfl (by rfl) ?_
    (try simp only [Act.put, List.setIfInBounds_toArray, List.set_cons_zero, List.set_cons_succ])
    iterate 1 (refine seqE_free (v := ?_) rfl (by rfl) ?_ ?_; rotate_left; (focus (intro w; go_simp; try with_reducible rfl)); (try simp only [Act.put, List.setIfInBounds_toArray, List.set_cons_zero, List.set_cons_succ]))
    refine seqE_nil ?_
    intro w2 hS
    replace hs := hs.up hS
    have hx2 := Lib.hid (HX.out.trans (Ext.below (X := NoX) hS) fun _ _ q => q)
    clear f5 f5f f0 hS HX
    obtain ⟨f5, f5f⟩ := hs.fld 5 (u := .int .i64 l) rfl
    obtain ⟨f0, -⟩ := hs.fld 0 (u := hd .value) rfl
    rw [ev] at f0
    have hstop : adv s.value (l - l) l = l := by rw [Nat.sub_self]; rfl
    have hadv : s.advance = { s with low := l } := by
      unfold SS.advance
      rw [HV.out, ← HA.out, hstop]
    go_upto_region 3 with fail
    refine wp_region_seqE (fun x => Below w2.heap.size w2 x) (.one 0 1 (.one 1 1 (.one 2 1 (.one 3 0 (.one 4 1 (.one 5 1 (.one 6 1 (.one 7 0 (.one 8 1 (.one 9 1 .nil)))))))))) (by kernel_rfl) (by kernel_rfl) (by kernel_rfl) (Below.drew (Below.refl _ _)) ?_
    iterate 10 (first | (refine seqE_free (v := ?_) rfl (by rfl) ?_ ?_; rotate_left; (focus (intro w; go_simp; try with_reducible rfl)); (try simp only [Act.put, List.setIfInBounds_toArray, List.set_cons_zero, List.set_cons_succ])) | (refine seqE_pure (v := ?_) rfl (by rfl) ?_ ?_; rotate_left; (focus (intro w hS; have f0 := oldcell hS f0 (World.block_lt_of_cell? _ _ f0); have f5 := oldcell hS f5 (World.block_lt_of_cell? _ _ f5); go_simp; try with_reducible rfl)); (try simp only [Act.put, List.setIfInBounds_toArray, List.set_cons_zero, List.set_cons_succ])))
    refine seqE_nil ?_
    intro w3 hS
    obtain ⟨f5, f5f⟩ := (hs.up hS).fld 5 (u := .int .i64 l) rfl
    go_wp2_with fail
    go_ret
    rw [hadv]
    refine ⟨?_, (hs.up hS).at, hx2.out.trans (Ext.below (X := NoX) hS) fun _ _ q => q⟩
    unfold SS.free
    rw [hadv, HV.out]
    show _ = Ending.returned (.int .i64 (if l = l then (0 : Int) else (l : Int)))
    rw [if_pos rfl]; rfl
end Go.Proofs.Ytdibfjcmgbpnpaa
