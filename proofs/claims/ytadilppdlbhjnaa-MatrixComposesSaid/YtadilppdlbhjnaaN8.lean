/- Walks of layer 15: Squaring, Stepwise, Smaller. -/
import Derived.Test.YtadilppdlbhjnaaN7
namespace Go.Proofs.Ytadilppdlbhjnaa
set_option linter.unusedSimpArgs false
set_option linter.unusedVariables false
open Go.RowKit

set_option maxRecDepth 100000 in
set_option maxHeartbeats 4000000 in
theorem squaring_any (c : List Gate) (a : List Cell) (n : Nat) (p pa : Option Addr) (cap ca : Nat) (w : World) (hC : CAt w p cap c) (hA : MxAt w pa ca a) (hn0 : 0 < n) (hn : n ≤ 4) (hg : Good c) (hl : c.length + 2400 ≤ 20000) (ha : MOk c ((n * n : Nat) : Int) a) :
    Calls Try.prog 18 #[.agg #[.slice p c.length cap], .int .i64 n, .agg #[.int .i64 2, .slice pa a.length ca]] w (RetCMY w p pa (mSquaring c n a).1 2 (mSquaring c n a).2) := by
 obtain ⟨s, hs0⟩ : ∃ s, w.heap.size = s := ⟨_, rfl⟩
 obtain ⟨W2, hW2⟩ : ∃ W2, W2 = ((((w.alloc (.cells #[.slice p c.length cap] 27)).alloc (.cells #[.int .i64 2, .slice pa a.length ca] 30)).alloc (.cells #[.slice none 0 0] 27)).alloc (.cells #[.int .i64 0, .slice none 0 0] 30)) := ⟨_, rfl⟩
 have hbw : Below w.heap.size w W2 := by rw [hW2]; go_grown
 have zz : s + 4 ≤ W2.heap.size := by rw [hW2, ← hs0]; simp
 have hs : Cells W2 [(s + 2, 0, .slice none 0 0), (s + 3, 0, .int .i64 0), (s + 3, 1, .slice none 0 0)] := by rw [hW2, ← hs0]; exact ⟨⟨by go_cell, by go_cell⟩, ⟨by go_cell, by go_cell⟩, ⟨by go_cell, by go_cell⟩, trivial⟩
 have hk : Cells W2 [(s, 0, .slice p c.length cap), (s + 1, 0, .int .i64 2), (s + 1, 1, .slice pa a.length ca)] := by rw [hW2, ← hs0]; exact ⟨⟨by go_cell, by go_cell⟩, ⟨by go_cell, by go_cell⟩, ⟨by go_cell, by go_cell⟩, trivial⟩
 have HW2 := Lib.hid hW2; have HS := Lib.hid hs0
 clear hW2 hs0
 have hc0 : 0 < c.length := hg.ne
 have oC : Off s 4 p := Off.old (by rw [← HS.out]; exact hC.lt hc0)
 have oM : Off s 4 pa := Off.old (by rw [← HS.out]; exact hA.lt)
 obtain ⟨D, J, hDJ⟩ : ∃ D J, mSquaring c n a = (D, J) := ⟨_, _, rfl⟩
 have HDJ := Lib.hid hDJ
 have HC := Lib.hid hC; have HA := Lib.hid hA; have HMA := Lib.hid ha; have HG := Lib.hid hg
 clear hA ha hg hC hDJ
 go_enter Try.func18, Try.ntmps18
 go_upto_region 1 with fail
 rw [← HW2.out]
 simp only [HS.out, Nat.add_assoc, Nat.reduceAdd]
 refine wp_region_seqE (fun x => Below W2.heap.size W2 x) (.one 1 0 (.one 2 1 (.one 3 0 (.alt 0 2 (.alt 4 3 (.one 5 1 (.one 6 1 (.alt 7 3 (.alt 8 3 .nil .stop) .stop))) .stop) .stop)))) (by kernel_rfl) (by kernel_rfl) (by kernel_rfl) (Below.drew (Below.refl _ _)) ?_
 iterate 3 (first | (refine seqE_free (v := ?_) rfl (by rfl) ?_ ?_; rotate_left; (focus (intro w; go_simp; try with_reducible rfl)); (try simp only [Act.put, List.setIfInBounds_toArray, List.set_cons_zero, List.set_cons_succ])) | (refine seqE_pure (v := ?_) rfl (by rfl) ?_ ?_; rotate_left; (focus (intro w hS; obtain ⟨⟨y00, -⟩, ⟨y10, -⟩, ⟨y11, -⟩, -⟩ := hk.up hS; go_simp; try with_reducible rfl)); (try simp only [Act.put, List.setIfInBounds_toArray, List.set_cons_zero, List.set_cons_succ])))
 refine seqE_keep (v := .agg #[.func (.func 126) #[] #[], .func (.func 127) #[] #[]]) (f := ?_) (args := ?_) rfl (by rfl) ?_ ?_ ?_ seqE_stop
 rotate_left 2
 focus (intro w hS; go_simp; first | done | with_reducible rfl | (refine ⟨?_, ?_⟩ <;> with_reducible rfl))
 focus (intro w hS; refine (meth1_any w).mono ?_; rintro e w2 ⟨rfl, hbl⟩; exact ⟨rfl, btr hS hbl⟩)
 (try simp only [Act.put, List.setIfInBounds_toArray, List.set_cons_zero, List.set_cons_succ])
 refine seqE_callB (f := ?_) (args := ?_) rfl (by rfl) ?_ ?_ seqE_stop
 rotate_left 2
 focus (intro w hS; go_simp; first | done | with_reducible rfl | (refine ⟨?_, ?_⟩ <;> with_reducible rfl))
 intro w2 hS
 refine ((run1_any c a n p pa cap ca w2 (HC.out.mono (btr hbw hS)) (HA.out.up (btr hbw hS)) hn0 hn HG.out hl HMA.out).mono fun e w' h => RetCMY.eq h HDJ.out).mono ?_
 rintro e v2 ⟨pd, cd, pj, cj, rfl, hD, hJ, hbl, frD, frJ⟩
 refine ⟨_, rfl, (fun x => Below v2.heap.size v2 x), Below.refl _ _, ?_⟩
 have hXw := Nat.le_trans zz hS.size
 have hX := btr hS hbl
 replace hs := hs.up hX; replace hk := hk.up hX; replace hbw := btr hbw hX; replace zz := Nat.le_trans zz (Below.size hX)
 have oD := Off.freshB frD oC hXw
 have oJ := Off.freshB frJ oM hXw
 have FD := Lib.hid (show FreshB w p pd from FreshB.up frD (by have h := HS.out; have h2 := hXw; omega))
 have FJ := Lib.hid (show FreshB w pa pj from FreshB.up frJ (by have h := HS.out; have h2 := hXw; omega))
 clear frD frJ
 clear hX hS hbl hXw
 (try simp only [Act.put, List.setIfInBounds_toArray, List.set_cons_zero, List.set_cons_succ])
 iterate 2 (refine seqE_free (v := ?_) rfl (by rfl) ?_ ?_; rotate_left; (focus (intro w; go_simp; try with_reducible rfl)); (try simp only [Act.put, List.setIfInBounds_toArray, List.set_cons_zero, List.set_cons_succ]))
 refine seqE_storeB rfl (by rfl) ?_ seqE_stop
 intro w3 hS
 replace hs := hs.up hS; replace hk := hk.up hS; replace hD := hD.mono hS; replace hJ := hJ.up hS; replace hbw := btr hbw hS; replace zz := Nat.le_trans zz (Below.size hS)
 obtain ⟨⟨y20, y20f⟩, ⟨y30, y30f⟩, ⟨y31, y31f⟩, -⟩ := id hs
 obtain ⟨⟨y00, y00f⟩, ⟨y10, y10f⟩, ⟨y11, y11f⟩, -⟩ := id hk
 refine ⟨(w3.setCell ⟨s + 2, 0, none⟩ (.slice pd D.length cd)), (by go_simp; try with_reducible rfl), (fun x => Below ((w3.setCell ⟨s + 2, 0, none⟩ (.slice pd D.length cd))).heap.size ((w3.setCell ⟨s + 2, 0, none⟩ (.slice pd D.length cd))) x), Below.refl _ _, ?_⟩
 obtain ⟨v3, hw⟩ : ∃ zW, zW = (w3.setCell ⟨s + 2, 0, none⟩ (.slice pd D.length cd)) := ⟨_, rfl⟩
 rw [← hw]
 replace hs : Cells v3 [(s + 2, 0, .slice pd D.length cd), (s + 3, 0, .int .i64 0), (s + 3, 1, .slice none 0 0)] := by rw [hw]; exact ⟨⟨by go_cell, (fz y20f)⟩, ⟨by go_cell, (fz y30f)⟩, ⟨by go_cell, (fz y31f)⟩, trivial⟩
 replace hk : Cells v3 [(s, 0, .slice p c.length cap), (s + 1, 0, .int .i64 2), (s + 1, 1, .slice pa a.length ca)] := by rw [hw]; exact (hk.far (by simp <;> omega))
 replace hD : CAt v3 pd cd D := by rw [hw]; exact hD.box y20 _
 replace hJ : MxAt v3 pj cj J := by rw [hw]; exact hJ.box y20 _
 replace hbw : Below w.heap.size w v3 := by rw [hw]; exact (Below.setCell hbw (by have h := HS.out; (try dsimp only); omega) _)
 replace zz : s + 4 ≤ v3.heap.size := by rw [hw]; simpa using zz
 clear hw
 clear y20 y20f y30 y30f y31 y31f y00 y00f y10 y10f y11 y11f
 clear hS
 (try simp only [Act.put, List.setIfInBounds_toArray, List.set_cons_zero, List.set_cons_succ])
 refine seqE_storeB rfl (by rfl) ?_ seqE_stop
 intro w4 hS
 replace hs := hs.up hS; replace hk := hk.up hS; replace hD := hD.mono hS; replace hJ := hJ.up hS; replace hbw := btr hbw hS; replace zz := Nat.le_trans zz (Below.size hS)
 obtain ⟨⟨y20, y20f⟩, ⟨y30, y30f⟩, ⟨y31, y31f⟩, -⟩ := id hs
 obtain ⟨⟨y00, y00f⟩, ⟨y10, y10f⟩, ⟨y11, y11f⟩, -⟩ := id hk
 refine ⟨((w4.setCell ⟨s + 3, 0, none⟩ (.int .i64 2)).setCell ⟨s + 3, 1, none⟩ (.slice pj J.length cj)), (by go_simp; try with_reducible rfl), (fun x => Below (((w4.setCell ⟨s + 3, 0, none⟩ (.int .i64 2)).setCell ⟨s + 3, 1, none⟩ (.slice pj J.length cj))).heap.size (((w4.setCell ⟨s + 3, 0, none⟩ (.int .i64 2)).setCell ⟨s + 3, 1, none⟩ (.slice pj J.length cj))) x), Below.refl _ _, ?_⟩
 obtain ⟨v4, hw⟩ : ∃ zW, zW = ((w4.setCell ⟨s + 3, 0, none⟩ (.int .i64 2)).setCell ⟨s + 3, 1, none⟩ (.slice pj J.length cj)) := ⟨_, rfl⟩
 rw [← hw]
 replace hs : Cells v4 [(s + 2, 0, .slice pd D.length cd), (s + 3, 0, .int .i64 2), (s + 3, 1, .slice pj J.length cj)] := by rw [hw]; exact ⟨⟨by go_cell, (fz (fz y20f))⟩, ⟨by go_cell, (fz (fz y30f))⟩, ⟨by go_cell, (fz (fz y31f))⟩, trivial⟩
 replace hk : Cells v4 [(s, 0, .slice p c.length cap), (s + 1, 0, .int .i64 2), (s + 1, 1, .slice pa a.length ca)] := by rw [hw]; exact ((hk.far (by simp <;> omega)).far (by simp <;> omega))
 replace hD : CAt v4 pd cd D := by rw [hw]; exact ((hD.set (oD.ne (by omega) (by omega)) _).set (oD.ne (by omega) (by omega)) _)
 replace hJ : MxAt v4 pj cj J := by rw [hw]; exact ((hJ.set (oJ.ne (by omega) (by omega)) _).set (oJ.ne (by omega) (by omega)) _)
 replace hbw : Below w.heap.size w v4 := by rw [hw]; exact (Below.setCell (Below.setCell hbw (by have h := HS.out; (try dsimp only); omega) _) (by have h := HS.out; (try dsimp only); omega) _)
 replace zz : s + 4 ≤ v4.heap.size := by rw [hw]; simpa using zz
 clear hw
 clear y20 y20f y30 y30f y31 y31f y00 y00f y10 y10f y11 y11f
 clear hS
 (try simp only [Act.put, List.setIfInBounds_toArray, List.set_cons_zero, List.set_cons_succ])
 refine seqE_nil ?_
 intro wz hS
 replace hs := hs.up hS; replace hk := hk.up hS; replace hD := hD.mono hS; replace hJ := hJ.up hS; replace hbw := btr hbw hS; replace zz := Nat.le_trans zz (Below.size hS); clear hS
 obtain ⟨⟨y20, y20f⟩, ⟨y30, y30f⟩, ⟨y31, y31f⟩, -⟩ := id hs
 obtain ⟨⟨y00, y00f⟩, ⟨y10, y10f⟩, ⟨y11, y11f⟩, -⟩ := id hk
 go_wp2_with fail
 rw [HDJ.out]
 refine bodyPost_ret (by simp [results, Try.results18, go_sem, y20, y30, y31]; try rfl) rfl ?_
 exact ⟨_, _, _, _, rfl, hD, hJ, hbw, FD.out, FJ.out⟩

set_option maxRecDepth 100000 in
set_option maxHeartbeats 4000000 in
theorem stepwise_any (c : List Gate) (a : List Cell) (n : Nat) (p pa : Option Addr) (cap ca : Nat) (w : World) (hC : CAt w p cap c) (hA : MxAt w pa ca a) (hn0 : 0 < n) (hn : n ≤ 4) (hg : Good c) (hl : c.length + 2400 ≤ 20000) (ha : MOk c ((n * n : Nat) : Int) a) :
    Calls Try.prog 20 #[.agg #[.slice p c.length cap], .int .i64 n, .agg #[.int .i64 2, .slice pa a.length ca]] w (RetCMY w p pa (mStepwise c n a).1 2 (mStepwise c n a).2) := by
 obtain ⟨s, hs0⟩ : ∃ s, w.heap.size = s := ⟨_, rfl⟩
 obtain ⟨W2, hW2⟩ : ∃ W2, W2 = ((((w.alloc (.cells #[.slice p c.length cap] 27)).alloc (.cells #[.int .i64 2, .slice pa a.length ca] 30)).alloc (.cells #[.slice none 0 0] 27)).alloc (.cells #[.int .i64 0, .slice none 0 0] 30)) := ⟨_, rfl⟩
 have hbw : Below w.heap.size w W2 := by rw [hW2]; go_grown
 have zz : s + 4 ≤ W2.heap.size := by rw [hW2, ← hs0]; simp
 have hs : Cells W2 [(s + 2, 0, .slice none 0 0), (s + 3, 0, .int .i64 0), (s + 3, 1, .slice none 0 0)] := by rw [hW2, ← hs0]; exact ⟨⟨by go_cell, by go_cell⟩, ⟨by go_cell, by go_cell⟩, ⟨by go_cell, by go_cell⟩, trivial⟩
 have hk : Cells W2 [(s, 0, .slice p c.length cap), (s + 1, 0, .int .i64 2), (s + 1, 1, .slice pa a.length ca)] := by rw [hW2, ← hs0]; exact ⟨⟨by go_cell, by go_cell⟩, ⟨by go_cell, by go_cell⟩, ⟨by go_cell, by go_cell⟩, trivial⟩
 have HW2 := Lib.hid hW2; have HS := Lib.hid hs0
 clear hW2 hs0
 have hc0 : 0 < c.length := hg.ne
 have oC : Off s 4 p := Off.old (by rw [← HS.out]; exact hC.lt hc0)
 have oM : Off s 4 pa := Off.old (by rw [← HS.out]; exact hA.lt)
 obtain ⟨D, J, hDJ⟩ : ∃ D J, mStepwise c n a = (D, J) := ⟨_, _, rfl⟩
 have HDJ := Lib.hid hDJ
 have HC := Lib.hid hC; have HA := Lib.hid hA; have HMA := Lib.hid ha; have HG := Lib.hid hg
 clear hA ha hg hC hDJ
 go_enter Try.func20, Try.ntmps20
 go_upto_region 1 with fail
 rw [← HW2.out]
 simp only [HS.out, Nat.add_assoc, Nat.reduceAdd]
 refine wp_region_seqE (fun x => Below W2.heap.size W2 x) (.one 1 0 (.one 2 1 (.one 3 0 (.alt 0 2 (.alt 4 3 (.one 5 1 (.one 6 1 (.alt 7 3 (.alt 8 3 .nil .stop) .stop))) .stop) .stop)))) (by kernel_rfl) (by kernel_rfl) (by kernel_rfl) (Below.drew (Below.refl _ _)) ?_
 iterate 3 (first | (refine seqE_free (v := ?_) rfl (by rfl) ?_ ?_; rotate_left; (focus (intro w; go_simp; try with_reducible rfl)); (try simp only [Act.put, List.setIfInBounds_toArray, List.set_cons_zero, List.set_cons_succ])) | (refine seqE_pure (v := ?_) rfl (by rfl) ?_ ?_; rotate_left; (focus (intro w hS; obtain ⟨⟨y00, -⟩, ⟨y10, -⟩, ⟨y11, -⟩, -⟩ := hk.up hS; go_simp; try with_reducible rfl)); (try simp only [Act.put, List.setIfInBounds_toArray, List.set_cons_zero, List.set_cons_succ])))
 refine seqE_keep (v := .agg #[.func (.func 128) #[] #[], .func (.func 129) #[] #[]]) (f := ?_) (args := ?_) rfl (by rfl) ?_ ?_ ?_ seqE_stop
 rotate_left 2
 focus (intro w hS; go_simp; first | done | with_reducible rfl | (refine ⟨?_, ?_⟩ <;> with_reducible rfl))
 focus (intro w hS; refine (meth2_any w).mono ?_; rintro e w2 ⟨rfl, hbl⟩; exact ⟨rfl, btr hS hbl⟩)
 (try simp only [Act.put, List.setIfInBounds_toArray, List.set_cons_zero, List.set_cons_succ])
 refine seqE_callB (f := ?_) (args := ?_) rfl (by rfl) ?_ ?_ seqE_stop
 rotate_left 2
 focus (intro w hS; go_simp; first | done | with_reducible rfl | (refine ⟨?_, ?_⟩ <;> with_reducible rfl))
 intro w2 hS
 refine ((run2_any c a n p pa cap ca w2 (HC.out.mono (btr hbw hS)) (HA.out.up (btr hbw hS)) hn0 hn HG.out hl HMA.out).mono fun e w' h => RetCMY.eq h HDJ.out).mono ?_
 rintro e v2 ⟨pd, cd, pj, cj, rfl, hD, hJ, hbl, frD, frJ⟩
 refine ⟨_, rfl, (fun x => Below v2.heap.size v2 x), Below.refl _ _, ?_⟩
 have hXw := Nat.le_trans zz hS.size
 have hX := btr hS hbl
 replace hs := hs.up hX; replace hk := hk.up hX; replace hbw := btr hbw hX; replace zz := Nat.le_trans zz (Below.size hX)
 have oD := Off.freshB frD oC hXw
 have oJ := Off.freshB frJ oM hXw
 have FD := Lib.hid (show FreshB w p pd from FreshB.up frD (by have h := HS.out; have h2 := hXw; omega))
 have FJ := Lib.hid (show FreshB w pa pj from FreshB.up frJ (by have h := HS.out; have h2 := hXw; omega))
 clear frD frJ
 clear hX hS hbl hXw
 (try simp only [Act.put, List.setIfInBounds_toArray, List.set_cons_zero, List.set_cons_succ])
 iterate 2 (refine seqE_free (v := ?_) rfl (by rfl) ?_ ?_; rotate_left; (focus (intro w; go_simp; try with_reducible rfl)); (try simp only [Act.put, List.setIfInBounds_toArray, List.set_cons_zero, List.set_cons_succ]))
 refine seqE_storeB rfl (by rfl) ?_ seqE_stop
 intro w3 hS
 replace hs := hs.up hS; replace hk := hk.up hS; replace hD := hD.mono hS; replace hJ := hJ.up hS; replace hbw := btr hbw hS; replace zz := Nat.le_trans zz (Below.size hS)
 obtain ⟨⟨y20, y20f⟩, ⟨y30, y30f⟩, ⟨y31, y31f⟩, -⟩ := id hs
 obtain ⟨⟨y00, y00f⟩, ⟨y10, y10f⟩, ⟨y11, y11f⟩, -⟩ := id hk
 refine ⟨(w3.setCell ⟨s + 2, 0, none⟩ (.slice pd D.length cd)), (by go_simp; try with_reducible rfl), (fun x => Below ((w3.setCell ⟨s + 2, 0, none⟩ (.slice pd D.length cd))).heap.size ((w3.setCell ⟨s + 2, 0, none⟩ (.slice pd D.length cd))) x), Below.refl _ _, ?_⟩
 obtain ⟨v3, hw⟩ : ∃ zW, zW = (w3.setCell ⟨s + 2, 0, none⟩ (.slice pd D.length cd)) := ⟨_, rfl⟩
 rw [← hw]
 replace hs : Cells v3 [(s + 2, 0, .slice pd D.length cd), (s + 3, 0, .int .i64 0), (s + 3, 1, .slice none 0 0)] := by rw [hw]; exact ⟨⟨by go_cell, (fz y20f)⟩, ⟨by go_cell, (fz y30f)⟩, ⟨by go_cell, (fz y31f)⟩, trivial⟩
 replace hk : Cells v3 [(s, 0, .slice p c.length cap), (s + 1, 0, .int .i64 2), (s + 1, 1, .slice pa a.length ca)] := by rw [hw]; exact (hk.far (by simp <;> omega))
 replace hD : CAt v3 pd cd D := by rw [hw]; exact hD.box y20 _
 replace hJ : MxAt v3 pj cj J := by rw [hw]; exact hJ.box y20 _
 replace hbw : Below w.heap.size w v3 := by rw [hw]; exact (Below.setCell hbw (by have h := HS.out; (try dsimp only); omega) _)
 replace zz : s + 4 ≤ v3.heap.size := by rw [hw]; simpa using zz
 clear hw
 clear y20 y20f y30 y30f y31 y31f y00 y00f y10 y10f y11 y11f
 clear hS
 (try simp only [Act.put, List.setIfInBounds_toArray, List.set_cons_zero, List.set_cons_succ])
 refine seqE_storeB rfl (by rfl) ?_ seqE_stop
 intro w4 hS
 replace hs := hs.up hS; replace hk := hk.up hS; replace hD := hD.mono hS; replace hJ := hJ.up hS; replace hbw := btr hbw hS; replace zz := Nat.le_trans zz (Below.size hS)
 obtain ⟨⟨y20, y20f⟩, ⟨y30, y30f⟩, ⟨y31, y31f⟩, -⟩ := id hs
 obtain ⟨⟨y00, y00f⟩, ⟨y10, y10f⟩, ⟨y11, y11f⟩, -⟩ := id hk
 refine ⟨((w4.setCell ⟨s + 3, 0, none⟩ (.int .i64 2)).setCell ⟨s + 3, 1, none⟩ (.slice pj J.length cj)), (by go_simp; try with_reducible rfl), (fun x => Below (((w4.setCell ⟨s + 3, 0, none⟩ (.int .i64 2)).setCell ⟨s + 3, 1, none⟩ (.slice pj J.length cj))).heap.size (((w4.setCell ⟨s + 3, 0, none⟩ (.int .i64 2)).setCell ⟨s + 3, 1, none⟩ (.slice pj J.length cj))) x), Below.refl _ _, ?_⟩
 obtain ⟨v4, hw⟩ : ∃ zW, zW = ((w4.setCell ⟨s + 3, 0, none⟩ (.int .i64 2)).setCell ⟨s + 3, 1, none⟩ (.slice pj J.length cj)) := ⟨_, rfl⟩
 rw [← hw]
 replace hs : Cells v4 [(s + 2, 0, .slice pd D.length cd), (s + 3, 0, .int .i64 2), (s + 3, 1, .slice pj J.length cj)] := by rw [hw]; exact ⟨⟨by go_cell, (fz (fz y20f))⟩, ⟨by go_cell, (fz (fz y30f))⟩, ⟨by go_cell, (fz (fz y31f))⟩, trivial⟩
 replace hk : Cells v4 [(s, 0, .slice p c.length cap), (s + 1, 0, .int .i64 2), (s + 1, 1, .slice pa a.length ca)] := by rw [hw]; exact ((hk.far (by simp <;> omega)).far (by simp <;> omega))
 replace hD : CAt v4 pd cd D := by rw [hw]; exact ((hD.set (oD.ne (by omega) (by omega)) _).set (oD.ne (by omega) (by omega)) _)
 replace hJ : MxAt v4 pj cj J := by rw [hw]; exact ((hJ.set (oJ.ne (by omega) (by omega)) _).set (oJ.ne (by omega) (by omega)) _)
 replace hbw : Below w.heap.size w v4 := by rw [hw]; exact (Below.setCell (Below.setCell hbw (by have h := HS.out; (try dsimp only); omega) _) (by have h := HS.out; (try dsimp only); omega) _)
 replace zz : s + 4 ≤ v4.heap.size := by rw [hw]; simpa using zz
 clear hw
 clear y20 y20f y30 y30f y31 y31f y00 y00f y10 y10f y11 y11f
 clear hS
 (try simp only [Act.put, List.setIfInBounds_toArray, List.set_cons_zero, List.set_cons_succ])
 refine seqE_nil ?_
 intro wz hS
 replace hs := hs.up hS; replace hk := hk.up hS; replace hD := hD.mono hS; replace hJ := hJ.up hS; replace hbw := btr hbw hS; replace zz := Nat.le_trans zz (Below.size hS); clear hS
 obtain ⟨⟨y20, y20f⟩, ⟨y30, y30f⟩, ⟨y31, y31f⟩, -⟩ := id hs
 obtain ⟨⟨y00, y00f⟩, ⟨y10, y10f⟩, ⟨y11, y11f⟩, -⟩ := id hk
 go_wp2_with fail
 rw [HDJ.out]
 refine bodyPost_ret (by simp [results, Try.results20, go_sem, y20, y30, y31]; try rfl) rfl ?_
 exact ⟨_, _, _, _, rfl, hD, hJ, hbw, FD.out, FJ.out⟩

set_option maxRecDepth 100000 in
set_option maxHeartbeats 4000000 in
theorem smaller_any (c : List Gate) (a : List Cell) (n : Nat) (p pa : Option Addr) (cap ca : Nat) (w : World) (hC : CAt w p cap c) (hA : MxAt w pa ca a) (hn0 : 0 < n) (hn : n ≤ 4) (hg : Good c) (hl : c.length + 2400 ≤ 20000) (ha : MOk c ((n * n : Nat) : Int) a) :
    Calls Try.prog 22 #[.agg #[.slice p c.length cap], .int .i64 n, .agg #[.int .i64 2, .slice pa a.length ca]] w (RetCMY w p pa (mSmaller c n a).1 2 (mSmaller c n a).2) := by
 obtain ⟨s, hs0⟩ : ∃ s, w.heap.size = s := ⟨_, rfl⟩
 obtain ⟨W2, hW2⟩ : ∃ W2, W2 = ((((w.alloc (.cells #[.slice p c.length cap] 27)).alloc (.cells #[.int .i64 2, .slice pa a.length ca] 30)).alloc (.cells #[.slice none 0 0] 27)).alloc (.cells #[.int .i64 0, .slice none 0 0] 30)) := ⟨_, rfl⟩
 have hbw : Below w.heap.size w W2 := by rw [hW2]; go_grown
 have zz : s + 4 ≤ W2.heap.size := by rw [hW2, ← hs0]; simp
 have hk : Cells W2 [(s, 0, .slice p c.length cap), (s + 1, 0, .int .i64 2), (s + 1, 1, .slice pa a.length ca), (s + 2, 0, .slice none 0 0), (s + 3, 0, .int .i64 0), (s + 3, 1, .slice none 0 0)] := by rw [hW2, ← hs0]; exact ⟨⟨by go_cell, by go_cell⟩, ⟨by go_cell, by go_cell⟩, ⟨by go_cell, by go_cell⟩, ⟨by go_cell, by go_cell⟩, ⟨by go_cell, by go_cell⟩, ⟨by go_cell, by go_cell⟩, trivial⟩
 have HW2 := Lib.hid hW2; have HS := Lib.hid hs0
 clear hW2 hs0
 have hc0 : 0 < c.length := hg.ne
 have oC : Off s 4 p := Off.old (by rw [← HS.out]; exact hC.lt hc0)
 have oM : Off s 4 pa := Off.old (by rw [← HS.out]; exact hA.lt)
 obtain ⟨D, J, hDJ⟩ : ∃ D J, mSquaring c n a = (D, J) := ⟨_, _, rfl⟩
 obtain ⟨E, M2, hEM⟩ : ∃ E M2, mStepwise c n a = (E, M2) := ⟨_, _, rfl⟩
 have gD := (squaring_ok hn hg (by omega) ha).1
 have gE := (stepwise_ok hn hg (by omega) ha).1
 rw [hDJ] at gD; rw [hEM] at gE; dsimp only at gD gE
 have hD0 : 0 < D.length := gD.good.ne
 have hE0 : 0 < E.length := gE.good.ne
 have HDJ := Lib.hid hDJ; have HEM := Lib.hid hEM
 have HC := Lib.hid hC; have HA := Lib.hid hA; have HMA := Lib.hid ha; have HG := Lib.hid hg
 clear hA ha hg hC hDJ hEM gD gE
 go_enter Try.func22, Try.ntmps22
 go_upto_region 1 with fail
 rw [← HW2.out]
 simp only [HS.out, Nat.add_assoc, Nat.reduceAdd]
 obtain ⟨⟨y00, y00f⟩, ⟨y10, y10f⟩, ⟨y11, y11f⟩, ⟨y20, y20f⟩, ⟨y30, y30f⟩, ⟨y31, y31f⟩, -⟩ := id hk
 go_upto_region 2 with (first | (go_at_call 18; refine ((squaring_any c a n p pa cap ca _ (HC.out.mono hbw) (HA.out.up hbw) hn0 hn HG.out hl HMA.out).mono fun e w' h => RetCMY.eq h HDJ.out).mono ?_; rintro e w2 ⟨pd, cd, pj, cj, rfl, hD, hJ, hbl, frD, frJ⟩; have oD := Off.freshB frD oC zz; have oJ := Off.freshB frJ oM zz; have FD := Lib.hid (show FreshB w p pd from FreshB.up frD (by have h := HS.out; omega)); have FJ := Lib.hid (show FreshB w pa pj from FreshB.up frJ (by have h := HS.out; omega)); replace hk := hk.up hbl; replace hbw := btr hbw hbl; replace zz := Nat.le_trans zz (Below.size hbl); clear hbl frD frJ; clear y00 y00f y10 y10f y11 y11f y20 y20f y30 y30f y31 y31f; obtain ⟨⟨y00, y00f⟩, ⟨y10, y10f⟩, ⟨y11, y11f⟩, ⟨y20, y20f⟩, ⟨y30, y30f⟩, ⟨y31, y31f⟩, -⟩ := id hk))
 obtain ⟨w3, hw⟩ : ∃ zW, zW = ((w2.alloc (.cells #[.slice pd D.length cd] 27)).alloc (.cells #[.int .i64 2, .slice pj J.length cj] 30)) := ⟨_, rfl⟩
 rw [← hw]
 obtain ⟨b8, hb8⟩ : ∃ zW, zW = w2.heap.size := ⟨_, rfl⟩
 obtain ⟨b9, hb9⟩ : ∃ zW, zW = w2.heap.size + 1 := ⟨_, rfl⟩
 rw [← hb9]
 rw [← hb8]
 have hbl : Below w2.heap.size w2 w3 := by rw [hw]; go_grown
 have hge8 : s + 4 ≤ b8 := by rw [hb8]; omega
 have hgw8 : w2.heap.size ≤ b8 := by rw [hb8]; omega
 have hge9 : s + 4 ≤ b9 := by rw [hb9]; omega
 have hgw9 : w2.heap.size ≤ b9 := by rw [hb9]; omega
 have hlt9 : b8 < b9 := by rw [hb8, hb9]; omega
 clear y00 y00f y10 y10f y11 y11f y20 y20f y30 y30f y31 y31f
 replace hk := hk.up hbl; replace hD := hD.mono hbl; replace hJ := hJ.up hbl; replace hbw := btr hbw hbl; replace zz := Nat.le_trans zz (Below.size hbl)
 have hs : Cells w3 [(b8, 0, .slice pd D.length cd), (b9, 0, .int .i64 2), (b9, 1, .slice pj J.length cj)] := ⟨⟨by rw [hw, hb8]; go_cell, by rw [hw, hb8]; go_cell⟩, ⟨by rw [hw, hb9]; go_cell, by rw [hw, hb9]; go_cell⟩, ⟨by rw [hw, hb9]; go_cell, by rw [hw, hb9]; go_cell⟩, trivial⟩
 clear hbl hw hb8 hb9
 obtain ⟨⟨d80, d80f⟩, ⟨d90, d90f⟩, ⟨d91, d91f⟩, -⟩ := id hs
 obtain ⟨⟨y00, y00f⟩, ⟨y10, y10f⟩, ⟨y11, y11f⟩, ⟨y20, y20f⟩, ⟨y30, y30f⟩, ⟨y31, y31f⟩, -⟩ := id hk
 go_upto_region 3 with (first | (go_at_call 20; refine ((stepwise_any c a n p pa cap ca _ (HC.out.mono hbw) (HA.out.up hbw) hn0 hn HG.out hl HMA.out).mono fun e w' h => RetCMY.eq h HEM.out).mono ?_; rintro e w4 ⟨pe, ce, pu, cu, rfl, hE, hU, hbl, frE, frU⟩; have oE := Off.freshB frE oC zz; have oU := Off.freshB frU oM zz; have FE := Lib.hid (show FreshB w p pe from FreshB.up frE (by have h := HS.out; omega)); have FU := Lib.hid (show FreshB w pa pu from FreshB.up frU (by have h := HS.out; omega)); replace hs := hs.up hbl; replace hk := hk.up hbl; replace hD := hD.mono hbl; replace hJ := hJ.up hbl; replace hbw := btr hbw hbl; replace zz := Nat.le_trans zz (Below.size hbl); clear hbl frE frU; clear d80 d80f d90 d90f d91 d91f y00 y00f y10 y10f y11 y11f y20 y20f y30 y30f y31 y31f; obtain ⟨⟨d80, d80f⟩, ⟨d90, d90f⟩, ⟨d91, d91f⟩, -⟩ := id hs; obtain ⟨⟨y00, y00f⟩, ⟨y10, y10f⟩, ⟨y11, y11f⟩, ⟨y20, y20f⟩, ⟨y30, y30f⟩, ⟨y31, y31f⟩, -⟩ := id hk))
 obtain ⟨w5, hw⟩ : ∃ zW, zW = ((w4.alloc (.cells #[.slice pe E.length ce] 27)).alloc (.cells #[.int .i64 2, .slice pu M2.length cu] 30)) := ⟨_, rfl⟩
 rw [← hw]
 obtain ⟨b10, hb10⟩ : ∃ zW, zW = w4.heap.size := ⟨_, rfl⟩
 obtain ⟨b11, hb11⟩ : ∃ zW, zW = w4.heap.size + 1 := ⟨_, rfl⟩
 rw [← hb11]
 rw [← hb10]
 have hbl : Below w4.heap.size w4 w5 := by rw [hw]; go_grown
 have hge10 : s + 4 ≤ b10 := by rw [hb10]; omega
 have hgw10 : w4.heap.size ≤ b10 := by rw [hb10]; omega
 have hge11 : s + 4 ≤ b11 := by rw [hb11]; omega
 have hgw11 : w4.heap.size ≤ b11 := by rw [hb11]; omega
 have hlt11 : b10 < b11 := by rw [hb10, hb11]; omega
 clear d80 d80f d90 d90f d91 d91f y00 y00f y10 y10f y11 y11f y20 y20f y30 y30f y31 y31f
 replace hs := hs.up hbl; replace hk := hk.up hbl; replace hD := hD.mono hbl; replace hJ := hJ.up hbl; replace hE := hE.mono hbl; replace hU := hU.up hbl; replace hbw := btr hbw hbl; replace zz := Nat.le_trans zz (Below.size hbl)
 replace hs : Cells w5 [(b10, 0, .slice pe E.length ce), (b11, 0, .int .i64 2), (b11, 1, .slice pu M2.length cu), (b8, 0, .slice pd D.length cd), (b9, 0, .int .i64 2), (b9, 1, .slice pj J.length cj)] := ⟨⟨by rw [hw, hb10]; go_cell, by rw [hw, hb10]; go_cell⟩, ⟨by rw [hw, hb11]; go_cell, by rw [hw, hb11]; go_cell⟩, ⟨by rw [hw, hb11]; go_cell, by rw [hw, hb11]; go_cell⟩, hs⟩
 clear hbl hw hb10 hb11
 by_cases hlt : E.length < D.length
 case pos =>
  have hlt1 : (E.length : Int) < (D.length : Int) := by omega
  have HF := Lib.hid (show mSmaller c n a = (E, M2) by unfold mSmaller; rw [HDJ.out, HEM.out]; dsimp only; rw [if_pos hlt])
  have hC := hE; have hM := hU; have oC := oE; have oM := oU; have FC := FE; have FM := FU
  obtain ⟨⟨d100, d100f⟩, ⟨d110, d110f⟩, ⟨d111, d111f⟩, ⟨d80, d80f⟩, ⟨d90, d90f⟩, ⟨d91, d91f⟩, -⟩ := id hs
  obtain ⟨⟨y00, y00f⟩, ⟨y10, y10f⟩, ⟨y11, y11f⟩, ⟨y20, y20f⟩, ⟨y30, y30f⟩, ⟨y31, y31f⟩, -⟩ := id hk
  go_upto_region 4 with fail
  go_region
  go_wp2_with fail
  obtain ⟨W9, hW9⟩ : ∃ W9, W9 = (((w5.setCell ⟨s + 2, 0, none⟩ (.slice pe E.length ce)).setCell ⟨s + 3, 0, none⟩ (.int .i64 (2))).setCell ⟨s + 3, 1, none⟩ (.slice pu M2.length cu)).drew := ⟨_, rfl⟩
  rw [← hW9]
  have e0 : W9.cell? ⟨s + 2, 0, none⟩ = some (.slice pe E.length ce) := by rw [hW9]; go_cell
  have e1 : W9.cell? ⟨s + 3, 0, none⟩ = some (.int .i64 (2)) := by rw [hW9]; go_cell
  have e2 : W9.cell? ⟨s + 3, 1, none⟩ = some (.slice pu M2.length cu) := by rw [hW9]; go_cell
  replace hC : CAt W9 pe ce E := by rw [hW9]; exact (((hC.set (oC.ne (by omega) (by omega)) _).set (oC.ne (by omega) (by omega)) _).set (oC.ne (by omega) (by omega)) _).mono (Below.drew (Below.refl _ _))
  replace hM : MxAt W9 pu cu M2 := by rw [hW9]; exact (((hM.set (oM.ne (by omega) (by omega)) _).set (oM.ne (by omega) (by omega)) _).set (oM.ne (by omega) (by omega)) _).up (Below.drew (Below.refl _ _))
  have B9 : Below w.heap.size w W9 := by
    rw [hW9]
    refine Below.drew ?_
    iterate 3 refine Below.setCell ?_ (by have h := HS.out; (try dsimp only); omega) _
    exact hbw
  clear hW9
  rw [HF.out]
  refine bodyPost_ret (by simp [results, Try.results22, go_sem, e0, e1, e2]; try rfl) rfl ?_
  exact ⟨_, _, _, _, rfl, hC, hM, B9, FC.out, FM.out⟩
 case neg =>
  have hlt1 : ¬ (E.length : Int) < (D.length : Int) := by omega
  have HF := Lib.hid (show mSmaller c n a = (D, J) by unfold mSmaller; rw [HDJ.out, HEM.out]; dsimp only; rw [if_neg hlt])
  have hC := hD; have hM := hJ; have oC := oD; have oM := oJ; have FC := FD; have FM := FJ
  obtain ⟨⟨d100, d100f⟩, ⟨d110, d110f⟩, ⟨d111, d111f⟩, ⟨d80, d80f⟩, ⟨d90, d90f⟩, ⟨d91, d91f⟩, -⟩ := id hs
  obtain ⟨⟨y00, y00f⟩, ⟨y10, y10f⟩, ⟨y11, y11f⟩, ⟨y20, y20f⟩, ⟨y30, y30f⟩, ⟨y31, y31f⟩, -⟩ := id hk
  go_upto_region 5 with fail
  go_region
  go_wp2_with fail
  obtain ⟨W9, hW9⟩ : ∃ W9, W9 = (((w5.setCell ⟨s + 2, 0, none⟩ (.slice pd D.length cd)).setCell ⟨s + 3, 0, none⟩ (.int .i64 (2))).setCell ⟨s + 3, 1, none⟩ (.slice pj J.length cj)).drew := ⟨_, rfl⟩
  rw [← hW9]
  have e0 : W9.cell? ⟨s + 2, 0, none⟩ = some (.slice pd D.length cd) := by rw [hW9]; go_cell
  have e1 : W9.cell? ⟨s + 3, 0, none⟩ = some (.int .i64 (2)) := by rw [hW9]; go_cell
  have e2 : W9.cell? ⟨s + 3, 1, none⟩ = some (.slice pj J.length cj) := by rw [hW9]; go_cell
  replace hC : CAt W9 pd cd D := by rw [hW9]; exact (((hC.set (oC.ne (by omega) (by omega)) _).set (oC.ne (by omega) (by omega)) _).set (oC.ne (by omega) (by omega)) _).mono (Below.drew (Below.refl _ _))
  replace hM : MxAt W9 pj cj J := by rw [hW9]; exact (((hM.set (oM.ne (by omega) (by omega)) _).set (oM.ne (by omega) (by omega)) _).set (oM.ne (by omega) (by omega)) _).up (Below.drew (Below.refl _ _))
  have B9 : Below w.heap.size w W9 := by
    rw [hW9]
    refine Below.drew ?_
    iterate 3 refine Below.setCell ?_ (by have h := HS.out; (try dsimp only); omega) _
    exact hbw
  clear hW9
  rw [HF.out]
  refine bodyPost_ret (by simp [results, Try.results22, go_sem, e0, e1, e2]; try rfl) rfl ?_
  exact ⟨_, _, _, _, rfl, hC, hM, B9, FC.out, FM.out⟩
end Go.Proofs.Ytadilppdlbhjnaa
