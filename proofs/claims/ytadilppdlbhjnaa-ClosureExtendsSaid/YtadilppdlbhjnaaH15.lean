/- Walk of law 15's head. -/
import Derived.Test.YtadilppdlbhjnaaLB
namespace Go.Proofs.Ytadilppdlbhjnaa
set_option linter.unusedSimpArgs false
set_option linter.unusedVariables false
open Go.RowKit

def hChain : List Cell := [⟨1, 0⟩, ⟨5, 0⟩]
def hWant : List Cell := [⟨1, 0⟩, ⟨2, 0⟩, ⟨5, 0⟩]
def hE : List Gate := [⟨0, 0, 0⟩, ⟨1, 1, 0⟩]
def hLoop : List Cell := [⟨1, 0⟩, ⟨2, 2⟩]
theorem h15_const : mConst [1, 5] = hChain := by decide
theorem h15_sq : mSquaring cnew 3 hChain = (cnew, hWant) := by decide +kernel
theorem h15_st : mStepwise cnew 3 hChain = (cnew, hWant) := by decide +kernel
theorem h15_ac : mAcyclic cnew 3 hChain = (cnew, 0) := by decide +kernel
theorem h15_in : cinput cnew 1 = (hE, 2) := by decide +kernel
theorem h15_ac2 : mAcyclic hE 2 hLoop = (hE, 3) := by decide +kernel
theorem h15_good : Good cnew := good_new
theorem h15_goodE : Good hE := (show (cinput cnew 1).1 = hE by rw [h15_in]) ▸ (keeps_input (v := 1) good_new (by decide) (by decide) (by decide)).good
theorem h15_mok : MOk cnew ((3 * 3 : Nat) : Int) hChain := ⟨by simp [Sorted, hChain], by decide, by decide⟩
theorem h15_mok2 : MOk hE ((2 * 2 : Nat) : Int) hLoop := ⟨by simp [Sorted, hLoop], by decide, by decide⟩
theorem h15_val : mValue cnew [] hWant = [1, 2, 5] := by decide +kernel
theorem h15_ev1 : ceval hE [false] 3 = true := by decide +kernel
theorem h15_ev2 : ceval hE [true] 3 = false := by decide +kernel
theorem cnew_len : cnew.length = 1 := by decide
theorem cnew_len1 : ((cnew.length : Int) == 1) = true := by decide

set_option maxRecDepth 100000 in
set_option maxHeartbeats 8000000 in
theorem head15_any (w : World) : Calls Try.prog 16 #[] w (RetB w true) := by
  have hW : Below w.heap.size w w := Below.refl _ _
  go_enter Try.func16, Try.ntmps16
  go_upto_region 1 with fail
  go_cut [1] from 14 to 16 (fun s1 wx => (∃ (b : Nat), s1 = .pointer (some ⟨b, 0, none⟩) ∧ BM wx b 2 hChain) ∧ Below w.heap.size w wx)
  case first =>
    as_aux_lemma =>
      go_wp2_with (first | (go_at_call 29; refine (const_is (l := [1, 5]) (m := hChain) (SI.lit2 1 5 _ _) (by simp) h15_const).mono ?_; rintro e w2 ⟨p2, cap2, rfl, hM2, hbl⟩))
      go_meet
      exact ⟨⟨_, rfl, BM.newAt hM2 _ rfl⟩, bal (btr (by go_grown) hbl) _⟩
  case rest =>
    obtain ⟨⟨b1, rfl, hN1⟩, hst⟩ := hcut
    replace hW := btr hW hst
    clear hst
    go_upto_region 2 with fail
    obtain ⟨q1, cq1, ⟨⟨m1, m1f⟩, ⟨n1, n1f⟩, -⟩, hM1⟩ := id hN1
    go_cut [2, 3] from 17 to 22 (fun s2 s3 wx => (∃ (b b' : Nat), s2 = .pointer (some ⟨b, 0, none⟩) ∧ s3 = .pointer (some ⟨b', 0, none⟩) ∧ Bx wx b (cnew) ∧ BM wx b' 2 (hWant)) ∧ Below wc.heap.size wc wx)
    case first =>
      as_aux_lemma =>
        obtain ⟨s, hs0⟩ : ∃ s, w.heap.size = s := ⟨_, rfl⟩
        have HS := Lib.hid hs0; clear hs0
        have hbw := hW
        have zz : s + 0 ≤ wc.heap.size := by have := HS.out; have := hW.size; omega
        have hk : Cells wc [(b1, 0, .int .i64 2), (b1, 1, .slice q1 (hChain).length cq1)] := ⟨⟨m1, m1f⟩, ⟨n1, n1f⟩, trivial⟩
        clear m1 m1f n1 n1f
        have hacc : Below wc.heap.size wc wc := Below.refl _ _
        clear hW
        refine wp_region_seqE (fun x => Below wc.heap.size wc x) (.one 1 0 (.alt 0 2 (.alt 2 3 (.one 3 1 (.one 4 1 (.one 5 1 (.alt 6 2 (.alt 7 2 (.alt 8 3 (.alt 9 3 .nil .stop) .stop) .stop) (.alt 7 2 (.alt 6 2 (.alt 8 3 (.alt 9 3 .nil .stop) .stop) .stop) .stop))))) (.alt 6 2 (.alt 2 3 (.one 3 1 (.one 4 1 (.one 5 1 (.alt 7 2 (.alt 8 3 (.alt 9 3 .nil .stop) .stop) .stop)))) (.alt 7 2 (.alt 2 3 (.one 3 1 (.one 4 1 (.one 5 1 (.alt 8 3 (.alt 9 3 .nil .stop) .stop)))) .stop) .stop)) (.alt 7 2 (.alt 2 3 (.one 3 1 (.one 4 1 (.one 5 1 (.alt 6 2 (.alt 8 3 (.alt 9 3 .nil .stop) .stop) .stop)))) (.alt 6 2 (.alt 2 3 (.one 3 1 (.one 4 1 (.one 5 1 (.alt 8 3 (.alt 9 3 .nil .stop) .stop)))) .stop) .stop)) .stop))) (.alt 6 2 (.alt 0 2 (.alt 2 3 (.one 3 1 (.one 4 1 (.one 5 1 (.alt 7 2 (.alt 8 3 (.alt 9 3 .nil .stop) .stop) .stop)))) (.alt 7 2 (.alt 2 3 (.one 3 1 (.one 4 1 (.one 5 1 (.alt 8 3 (.alt 9 3 .nil .stop) .stop)))) .stop) .stop)) (.alt 7 2 (.alt 0 2 (.alt 2 3 (.one 3 1 (.one 4 1 (.one 5 1 (.alt 8 3 (.alt 9 3 .nil .stop) .stop)))) .stop) .stop) .stop)) (.alt 7 2 (.alt 0 2 (.alt 2 3 (.one 3 1 (.one 4 1 (.one 5 1 (.alt 6 2 (.alt 8 3 (.alt 9 3 .nil .stop) .stop) .stop)))) (.alt 6 2 (.alt 2 3 (.one 3 1 (.one 4 1 (.one 5 1 (.alt 8 3 (.alt 9 3 .nil .stop) .stop)))) .stop) .stop)) (.alt 6 2 (.alt 0 2 (.alt 2 3 (.one 3 1 (.one 4 1 (.one 5 1 (.alt 8 3 (.alt 9 3 .nil .stop) .stop)))) .stop) .stop) .stop)) .stop)))) (by kernel_rfl) (by kernel_rfl) (by kernel_rfl) (Below.drew (Below.refl _ _)) ?_
        iterate 1 (refine seqE_pure (v := ?_) rfl (by rfl) ?_ ?_; rotate_left; (focus (intro w hS; obtain ⟨⟨m1, -⟩, ⟨n1, -⟩, -⟩ := hk.up hS; go_simp; try with_reducible rfl)); (try simp only [Act.put, List.setIfInBounds_toArray, List.set_cons_zero, List.set_cons_succ]))
        clear hk
        refine seqE_call (f := ?_) (args := ?_) rfl (by rfl) ?_ ?_ ?_
        rotate_left 2
        focus (intro w hS; go_simp; first | done | with_reducible rfl | (refine ⟨?_, ?_⟩ <;> with_reducible rfl))
        ·
         intro w1 hS
         refine (rnew_is w1).mono ?_
         rintro e v1 ⟨p2, cap2, rfl, hX2, hbl⟩
         refine ⟨_, rfl, (fun x => Below v1.heap.size v1 x), Below.refl _ _, fun x hx => btr (btr hS hbl) hx, ?_⟩
         have hXw := Nat.le_trans zz hS.size; have hXa := Nat.le_trans hacc.size hS.size
         have hX := btr hS hbl
         replace hM1 := hM1.up hX; replace hbw := btr hbw hX; replace zz := Nat.le_trans zz (Below.size hX); replace hacc := btr hacc hX
         clear hX hS hbl hXw hXa
         (try simp only [Act.put, List.setIfInBounds_toArray, List.set_cons_zero, List.set_cons_succ])
         refine seqE_callB (f := ?_) (args := ?_) rfl (by rfl) ?_ ?_ ?_
         rotate_left 2
         focus (intro w hS; go_simp; first | done | with_reducible rfl | (refine ⟨?_, ?_⟩ <;> with_reducible rfl))
         ·
          intro w2 hS
          refine (squaring_is (hX2.mono hS) (hM1.up hS) (Below.refl _ _) (by omega) (by omega) h15_good (by rw [cnew_len]; omega) h15_mok h15_sq).mono ?_
          rintro e v2 ⟨p3, cap3, y3, cy3, rfl, hX3, hM3, hbl⟩
          refine ⟨_, rfl, (fun x => Below v2.heap.size v2 x), Below.refl _ _, ?_⟩
          have hXw := Nat.le_trans zz hS.size; have hXa := Nat.le_trans hacc.size hS.size
          have hX := btr hS hbl
          replace hM1 := hM1.up hX; replace hX2 := hX2.mono hX; replace hbw := btr hbw hX; replace zz := Nat.le_trans zz (Below.size hX); replace hacc := btr hacc hX
          clear hX hS hbl hXw hXa
          (try simp only [Act.put, List.setIfInBounds_toArray, List.set_cons_zero, List.set_cons_succ])
          iterate 3 (refine seqE_free (v := ?_) rfl (by rfl) ?_ ?_; rotate_left; (focus (intro w; go_simp; try with_reducible rfl)); (try simp only [Act.put, List.setIfInBounds_toArray, List.set_cons_zero, List.set_cons_succ]))
          refine seqE_move rfl (by rfl) ?_ ?_
          ·
           intro w3 hS
           refine ⟨.pointer (some ⟨w3.heap.size, 0, none⟩), w3.alloc (.cells #[.slice none 0 0] 27), (by go_simp; try with_reducible rfl), ?_⟩
           obtain ⟨b2, hb2⟩ : ∃ b, b = w3.heap.size := ⟨_, rfl⟩
           obtain ⟨v3, hw3⟩ : ∃ zW, zW = w3.alloc (.cells #[.slice none 0 0] 27) := ⟨_, rfl⟩
           rw [← hw3, ← hb2]
           have hbl : Below w3.heap.size w3 v3 := by rw [hw3]; go_grown
           have hge2 : s + 0 ≤ b2 := by rw [hb2]; exact Nat.le_trans zz hS.size
           have hga2 : wc.heap.size ≤ b2 := by rw [hb2]; exact Nat.le_trans hacc.size hS.size
           refine ⟨(fun x => Below v3.heap.size v3 x), Below.refl _ _, fun x hx => btr (btr hS hbl) hx, ?_⟩
           have hX := btr hS hbl
           replace hM1 := hM1.up hX; replace hX2 := hX2.mono hX; replace hX3 := hX3.mono hX; replace hM3 := hM3.up hX; replace hbw := btr hbw hX; replace zz := Nat.le_trans zz (Below.size hX); replace hacc := btr hacc hX
           have hs : Cells v3 [(b2, 0, .slice none 0 0)] := ⟨⟨by rw [hw3, hb2]; go_cell, by rw [hw3, hb2]; go_cell⟩, trivial⟩
           clear hX hS hbl hw3 hb2
           (try simp only [Act.put, List.setIfInBounds_toArray, List.set_cons_zero, List.set_cons_succ])
           refine seqE_move rfl (by rfl) ?_ seqE_stop
           intro w4 hS
           refine ⟨.pointer (some ⟨w4.heap.size, 0, none⟩), w4.alloc (.cells #[.int .i64 0, .slice none 0 0] 30), (by go_simp; try with_reducible rfl), ?_⟩
           obtain ⟨b3, hb3⟩ : ∃ b, b = w4.heap.size := ⟨_, rfl⟩
           obtain ⟨v4, hw4⟩ : ∃ zW, zW = w4.alloc (.cells #[.int .i64 0, .slice none 0 0] 30) := ⟨_, rfl⟩
           rw [← hw4, ← hb3]
           have hbl : Below w4.heap.size w4 v4 := by rw [hw4]; go_grown
           have hge3 : s + 0 ≤ b3 := by rw [hb3]; exact Nat.le_trans zz hS.size
           have hga3 : wc.heap.size ≤ b3 := by rw [hb3]; exact Nat.le_trans hacc.size hS.size
           have hlb2_3 : b2 < b3 := by rw [hb3]; exact Nat.lt_of_lt_of_le (World.block_lt_of_cell? _ _ hs.1.1) hS.size
           refine ⟨(fun x => Below v4.heap.size v4 x), Below.refl _ _, fun x hx => btr (btr hS hbl) hx, ?_⟩
           have hX := btr hS hbl
           replace hs := hs.up hX; replace hM1 := hM1.up hX; replace hX2 := hX2.mono hX; replace hX3 := hX3.mono hX; replace hM3 := hM3.up hX; replace hbw := btr hbw hX; replace zz := Nat.le_trans zz (Below.size hX); replace hacc := btr hacc hX
           replace hs : Cells v4 [(b3, 0, .int .i64 0), (b3, 1, .slice none 0 0), (b2, 0, .slice none 0 0)] := ⟨⟨by rw [hw4, hb3]; go_cell, by rw [hw4, hb3]; go_cell⟩, ⟨by rw [hw4, hb3]; go_cell, by rw [hw4, hb3]; go_cell⟩, hs⟩
           clear hX hS hbl hw4 hb3
           (try simp only [Act.put, List.setIfInBounds_toArray, List.set_cons_zero, List.set_cons_succ])
           refine seqE_storeB rfl (by rfl) ?_ seqE_stop
           intro w5 hS
           replace hs := hs.up hS; replace hM1 := hM1.up hS; replace hX2 := hX2.mono hS; replace hX3 := hX3.mono hS; replace hM3 := hM3.up hS; replace hbw := btr hbw hS; replace zz := Nat.le_trans zz (Below.size hS); replace hacc := btr hacc hS
           obtain ⟨⟨d30, d30f⟩, ⟨d31, d31f⟩, ⟨d20, d20f⟩, -⟩ := id hs
           refine ⟨(w5.setCell ⟨b2, 0, none⟩ (.slice p3 (cnew).length cap3)), (by go_simp; try with_reducible rfl), (fun x => Below ((w5.setCell ⟨b2, 0, none⟩ (.slice p3 (cnew).length cap3))).heap.size ((w5.setCell ⟨b2, 0, none⟩ (.slice p3 (cnew).length cap3))) x), Below.refl _ _, ?_⟩
           obtain ⟨v5, hw⟩ : ∃ zW, zW = (w5.setCell ⟨b2, 0, none⟩ (.slice p3 (cnew).length cap3)) := ⟨_, rfl⟩
           rw [← hw]
           replace hs : Cells v5 [(b3, 0, .int .i64 0), (b3, 1, .slice none 0 0), (b2, 0, .slice p3 (cnew).length cap3)] := by rw [hw]; exact ⟨⟨by go_cell, (fz d30f)⟩, ⟨by go_cell, (fz d31f)⟩, ⟨by go_cell, (fz d20f)⟩, trivial⟩
           replace hM1 : MxAt v5 q1 cq1 (hChain) := by rw [hw]; exact hM1.box d20 _
           replace hX2 : CAt v5 p2 cap2 cnew := by rw [hw]; exact hX2.box d20 _
           replace hX3 : CAt v5 p3 cap3 (cnew) := by rw [hw]; exact hX3.box d20 _
           replace hM3 : MxAt v5 y3 cy3 (hWant) := by rw [hw]; exact hM3.box d20 _
           replace hbw : Below w.heap.size w v5 := by rw [hw]; exact (Below.setCell hbw (by have h := HS.out; (try dsimp only); omega) _)
           replace hacc : Below wc.heap.size wc v5 := by rw [hw]; exact (Below.setCell hacc (by have h := HS.out; (try dsimp only); omega) _)
           replace zz : s + 0 ≤ v5.heap.size := by rw [hw]; simpa using zz
           clear hw
           clear d30 d30f d31 d31f d20 d20f
           clear hS
           (try simp only [Act.put, List.setIfInBounds_toArray, List.set_cons_zero, List.set_cons_succ])
           refine seqE_storeB rfl (by rfl) ?_ seqE_stop
           intro w6 hS
           replace hs := hs.up hS; replace hM1 := hM1.up hS; replace hX2 := hX2.mono hS; replace hX3 := hX3.mono hS; replace hM3 := hM3.up hS; replace hbw := btr hbw hS; replace zz := Nat.le_trans zz (Below.size hS); replace hacc := btr hacc hS
           obtain ⟨⟨d30, d30f⟩, ⟨d31, d31f⟩, ⟨d20, d20f⟩, -⟩ := id hs
           refine ⟨((w6.setCell ⟨b3, 0, none⟩ (.int .i64 2)).setCell ⟨b3, 1, none⟩ (.slice y3 (hWant).length cy3)), (by go_simp; try with_reducible rfl), (fun x => Below (((w6.setCell ⟨b3, 0, none⟩ (.int .i64 2)).setCell ⟨b3, 1, none⟩ (.slice y3 (hWant).length cy3))).heap.size (((w6.setCell ⟨b3, 0, none⟩ (.int .i64 2)).setCell ⟨b3, 1, none⟩ (.slice y3 (hWant).length cy3))) x), Below.refl _ _, ?_⟩
           obtain ⟨v6, hw⟩ : ∃ zW, zW = ((w6.setCell ⟨b3, 0, none⟩ (.int .i64 2)).setCell ⟨b3, 1, none⟩ (.slice y3 (hWant).length cy3)) := ⟨_, rfl⟩
           rw [← hw]
           replace hs : Cells v6 [(b3, 0, .int .i64 2), (b3, 1, .slice y3 (hWant).length cy3), (b2, 0, .slice p3 (cnew).length cap3)] := by rw [hw]; exact ⟨⟨by go_cell, (fz (fz d30f))⟩, ⟨by go_cell, (fz (fz d31f))⟩, ⟨by go_cell, (fz (fz d20f))⟩, trivial⟩
           replace hM1 : MxAt v6 q1 cq1 (hChain) := by rw [hw]; exact hM1.boxM d31 _ _
           replace hX2 : CAt v6 p2 cap2 cnew := by rw [hw]; exact hX2.boxM d31 _ _
           replace hX3 : CAt v6 p3 cap3 (cnew) := by rw [hw]; exact hX3.boxM d31 _ _
           replace hM3 : MxAt v6 y3 cy3 (hWant) := by rw [hw]; exact hM3.boxM d31 _ _
           replace hbw : Below w.heap.size w v6 := by rw [hw]; exact (Below.setCell (Below.setCell hbw (by have h := HS.out; (try dsimp only); omega) _) (by have h := HS.out; (try dsimp only); omega) _)
           replace hacc : Below wc.heap.size wc v6 := by rw [hw]; exact (Below.setCell (Below.setCell hacc (by have h := HS.out; (try dsimp only); omega) _) (by have h := HS.out; (try dsimp only); omega) _)
           replace zz : s + 0 ≤ v6.heap.size := by rw [hw]; simpa using zz
           clear hw
           clear d30 d30f d31 d31f d20 d20f
           clear hS
           (try simp only [Act.put, List.setIfInBounds_toArray, List.set_cons_zero, List.set_cons_succ])
           refine seqE_nil ?_
           intro wz hS
           replace hs := hs.up hS; replace hM1 := hM1.up hS; replace hX2 := hX2.mono hS; replace hX3 := hX3.mono hS; replace hM3 := hM3.up hS; replace hbw := btr hbw hS; replace zz := Nat.le_trans zz (Below.size hS); replace hacc := btr hacc hS; clear hS
           obtain ⟨⟨d30, d30f⟩, ⟨d31, d31f⟩, ⟨d20, d20f⟩, -⟩ := id hs
           go_wp2_with fail
           go_meet
           exact ⟨⟨_, _, rfl, rfl, Bx.at hX3 d20 d20f, ⟨_, _, ⟨⟨d30, d30f⟩, ⟨d31, d31f⟩, trivial⟩, hM3⟩⟩, hacc⟩
          refine seqE_move rfl (by rfl) ?_ seqE_stop
          intro w7 hS
          refine ⟨.pointer (some ⟨w7.heap.size, 0, none⟩), w7.alloc (.cells #[.int .i64 0, .slice none 0 0] 30), (by go_simp; try with_reducible rfl), ?_⟩
          obtain ⟨b3, hb3⟩ : ∃ b, b = w7.heap.size := ⟨_, rfl⟩
          obtain ⟨v7, hw7⟩ : ∃ zW, zW = w7.alloc (.cells #[.int .i64 0, .slice none 0 0] 30) := ⟨_, rfl⟩
          rw [← hw7, ← hb3]
          have hbl : Below w7.heap.size w7 v7 := by rw [hw7]; go_grown
          have hge3 : s + 0 ≤ b3 := by rw [hb3]; exact Nat.le_trans zz hS.size
          have hga3 : wc.heap.size ≤ b3 := by rw [hb3]; exact Nat.le_trans hacc.size hS.size
          refine ⟨(fun x => Below v7.heap.size v7 x), Below.refl _ _, fun x hx => btr (btr hS hbl) hx, ?_⟩
          have hX := btr hS hbl
          replace hM1 := hM1.up hX; replace hX2 := hX2.mono hX; replace hX3 := hX3.mono hX; replace hM3 := hM3.up hX; replace hbw := btr hbw hX; replace zz := Nat.le_trans zz (Below.size hX); replace hacc := btr hacc hX
          have hs : Cells v7 [(b3, 0, .int .i64 0), (b3, 1, .slice none 0 0)] := ⟨⟨by rw [hw7, hb3]; go_cell, by rw [hw7, hb3]; go_cell⟩, ⟨by rw [hw7, hb3]; go_cell, by rw [hw7, hb3]; go_cell⟩, trivial⟩
          clear hX hS hbl hw7 hb3
          (try simp only [Act.put, List.setIfInBounds_toArray, List.set_cons_zero, List.set_cons_succ])
          refine seqE_move rfl (by rfl) ?_ seqE_stop
          intro w8 hS
          refine ⟨.pointer (some ⟨w8.heap.size, 0, none⟩), w8.alloc (.cells #[.slice none 0 0] 27), (by go_simp; try with_reducible rfl), ?_⟩
          obtain ⟨b2, hb2⟩ : ∃ b, b = w8.heap.size := ⟨_, rfl⟩
          obtain ⟨v8, hw8⟩ : ∃ zW, zW = w8.alloc (.cells #[.slice none 0 0] 27) := ⟨_, rfl⟩
          rw [← hw8, ← hb2]
          have hbl : Below w8.heap.size w8 v8 := by rw [hw8]; go_grown
          have hge2 : s + 0 ≤ b2 := by rw [hb2]; exact Nat.le_trans zz hS.size
          have hga2 : wc.heap.size ≤ b2 := by rw [hb2]; exact Nat.le_trans hacc.size hS.size
          have hlb3_2 : b3 < b2 := by rw [hb2]; exact Nat.lt_of_lt_of_le (World.block_lt_of_cell? _ _ hs.1.1) hS.size
          refine ⟨(fun x => Below v8.heap.size v8 x), Below.refl _ _, fun x hx => btr (btr hS hbl) hx, ?_⟩
          have hX := btr hS hbl
          replace hs := hs.up hX; replace hM1 := hM1.up hX; replace hX2 := hX2.mono hX; replace hX3 := hX3.mono hX; replace hM3 := hM3.up hX; replace hbw := btr hbw hX; replace zz := Nat.le_trans zz (Below.size hX); replace hacc := btr hacc hX
          replace hs : Cells v8 [(b2, 0, .slice none 0 0), (b3, 0, .int .i64 0), (b3, 1, .slice none 0 0)] := ⟨⟨by rw [hw8, hb2]; go_cell, by rw [hw8, hb2]; go_cell⟩, hs⟩
          clear hX hS hbl hw8 hb2
          (try simp only [Act.put, List.setIfInBounds_toArray, List.set_cons_zero, List.set_cons_succ])
          refine seqE_storeB rfl (by rfl) ?_ seqE_stop
          intro w9 hS
          replace hs := hs.up hS; replace hM1 := hM1.up hS; replace hX2 := hX2.mono hS; replace hX3 := hX3.mono hS; replace hM3 := hM3.up hS; replace hbw := btr hbw hS; replace zz := Nat.le_trans zz (Below.size hS); replace hacc := btr hacc hS
          obtain ⟨⟨d20, d20f⟩, ⟨d30, d30f⟩, ⟨d31, d31f⟩, -⟩ := id hs
          refine ⟨(w9.setCell ⟨b2, 0, none⟩ (.slice p3 (cnew).length cap3)), (by go_simp; try with_reducible rfl), (fun x => Below ((w9.setCell ⟨b2, 0, none⟩ (.slice p3 (cnew).length cap3))).heap.size ((w9.setCell ⟨b2, 0, none⟩ (.slice p3 (cnew).length cap3))) x), Below.refl _ _, ?_⟩
          obtain ⟨v9, hw⟩ : ∃ zW, zW = (w9.setCell ⟨b2, 0, none⟩ (.slice p3 (cnew).length cap3)) := ⟨_, rfl⟩
          rw [← hw]
          replace hs : Cells v9 [(b2, 0, .slice p3 (cnew).length cap3), (b3, 0, .int .i64 0), (b3, 1, .slice none 0 0)] := by rw [hw]; exact ⟨⟨by go_cell, (fz d20f)⟩, ⟨by go_cell, (fz d30f)⟩, ⟨by go_cell, (fz d31f)⟩, trivial⟩
          replace hM1 : MxAt v9 q1 cq1 (hChain) := by rw [hw]; exact hM1.box d20 _
          replace hX2 : CAt v9 p2 cap2 cnew := by rw [hw]; exact hX2.box d20 _
          replace hX3 : CAt v9 p3 cap3 (cnew) := by rw [hw]; exact hX3.box d20 _
          replace hM3 : MxAt v9 y3 cy3 (hWant) := by rw [hw]; exact hM3.box d20 _
          replace hbw : Below w.heap.size w v9 := by rw [hw]; exact (Below.setCell hbw (by have h := HS.out; (try dsimp only); omega) _)
          replace hacc : Below wc.heap.size wc v9 := by rw [hw]; exact (Below.setCell hacc (by have h := HS.out; (try dsimp only); omega) _)
          replace zz : s + 0 ≤ v9.heap.size := by rw [hw]; simpa using zz
          clear hw
          clear d20 d20f d30 d30f d31 d31f
          clear hS
          (try simp only [Act.put, List.setIfInBounds_toArray, List.set_cons_zero, List.set_cons_succ])
          refine seqE_storeB rfl (by rfl) ?_ seqE_stop
          intro w10 hS
          replace hs := hs.up hS; replace hM1 := hM1.up hS; replace hX2 := hX2.mono hS; replace hX3 := hX3.mono hS; replace hM3 := hM3.up hS; replace hbw := btr hbw hS; replace zz := Nat.le_trans zz (Below.size hS); replace hacc := btr hacc hS
          obtain ⟨⟨d20, d20f⟩, ⟨d30, d30f⟩, ⟨d31, d31f⟩, -⟩ := id hs
          refine ⟨((w10.setCell ⟨b3, 0, none⟩ (.int .i64 2)).setCell ⟨b3, 1, none⟩ (.slice y3 (hWant).length cy3)), (by go_simp; try with_reducible rfl), (fun x => Below (((w10.setCell ⟨b3, 0, none⟩ (.int .i64 2)).setCell ⟨b3, 1, none⟩ (.slice y3 (hWant).length cy3))).heap.size (((w10.setCell ⟨b3, 0, none⟩ (.int .i64 2)).setCell ⟨b3, 1, none⟩ (.slice y3 (hWant).length cy3))) x), Below.refl _ _, ?_⟩
          obtain ⟨v10, hw⟩ : ∃ zW, zW = ((w10.setCell ⟨b3, 0, none⟩ (.int .i64 2)).setCell ⟨b3, 1, none⟩ (.slice y3 (hWant).length cy3)) := ⟨_, rfl⟩
          rw [← hw]
          replace hs : Cells v10 [(b2, 0, .slice p3 (cnew).length cap3), (b3, 0, .int .i64 2), (b3, 1, .slice y3 (hWant).length cy3)] := by rw [hw]; exact ⟨⟨by go_cell, (fz (fz d20f))⟩, ⟨by go_cell, (fz (fz d30f))⟩, ⟨by go_cell, (fz (fz d31f))⟩, trivial⟩
          replace hM1 : MxAt v10 q1 cq1 (hChain) := by rw [hw]; exact hM1.boxM d31 _ _
          replace hX2 : CAt v10 p2 cap2 cnew := by rw [hw]; exact hX2.boxM d31 _ _
          replace hX3 : CAt v10 p3 cap3 (cnew) := by rw [hw]; exact hX3.boxM d31 _ _
          replace hM3 : MxAt v10 y3 cy3 (hWant) := by rw [hw]; exact hM3.boxM d31 _ _
          replace hbw : Below w.heap.size w v10 := by rw [hw]; exact (Below.setCell (Below.setCell hbw (by have h := HS.out; (try dsimp only); omega) _) (by have h := HS.out; (try dsimp only); omega) _)
          replace hacc : Below wc.heap.size wc v10 := by rw [hw]; exact (Below.setCell (Below.setCell hacc (by have h := HS.out; (try dsimp only); omega) _) (by have h := HS.out; (try dsimp only); omega) _)
          replace zz : s + 0 ≤ v10.heap.size := by rw [hw]; simpa using zz
          clear hw
          clear d20 d20f d30 d30f d31 d31f
          clear hS
          (try simp only [Act.put, List.setIfInBounds_toArray, List.set_cons_zero, List.set_cons_succ])
          refine seqE_nil ?_
          intro wz hS
          replace hs := hs.up hS; replace hM1 := hM1.up hS; replace hX2 := hX2.mono hS; replace hX3 := hX3.mono hS; replace hM3 := hM3.up hS; replace hbw := btr hbw hS; replace zz := Nat.le_trans zz (Below.size hS); replace hacc := btr hacc hS; clear hS
          obtain ⟨⟨d20, d20f⟩, ⟨d30, d30f⟩, ⟨d31, d31f⟩, -⟩ := id hs
          go_wp2_with fail
          go_meet
          exact ⟨⟨_, _, rfl, rfl, Bx.at hX3 d20 d20f, ⟨_, _, ⟨⟨d30, d30f⟩, ⟨d31, d31f⟩, trivial⟩, hM3⟩⟩, hacc⟩
         refine seqE_move rfl (by rfl) ?_ ?_
         ·
          intro w11 hS
          refine ⟨.pointer (some ⟨w11.heap.size, 0, none⟩), w11.alloc (.cells #[.slice none 0 0] 27), (by go_simp; try with_reducible rfl), ?_⟩
          obtain ⟨b2, hb2⟩ : ∃ b, b = w11.heap.size := ⟨_, rfl⟩
          obtain ⟨v11, hw11⟩ : ∃ zW, zW = w11.alloc (.cells #[.slice none 0 0] 27) := ⟨_, rfl⟩
          rw [← hw11, ← hb2]
          have hbl : Below w11.heap.size w11 v11 := by rw [hw11]; go_grown
          have hge2 : s + 0 ≤ b2 := by rw [hb2]; exact Nat.le_trans zz hS.size
          have hga2 : wc.heap.size ≤ b2 := by rw [hb2]; exact Nat.le_trans hacc.size hS.size
          refine ⟨(fun x => Below v11.heap.size v11 x), Below.refl _ _, fun x hx => btr (btr hS hbl) hx, ?_⟩
          have hX := btr hS hbl
          replace hM1 := hM1.up hX; replace hX2 := hX2.mono hX; replace hbw := btr hbw hX; replace zz := Nat.le_trans zz (Below.size hX); replace hacc := btr hacc hX
          have hs : Cells v11 [(b2, 0, .slice none 0 0)] := ⟨⟨by rw [hw11, hb2]; go_cell, by rw [hw11, hb2]; go_cell⟩, trivial⟩
          clear hX hS hbl hw11 hb2
          (try simp only [Act.put, List.setIfInBounds_toArray, List.set_cons_zero, List.set_cons_succ])
          refine seqE_callB (f := ?_) (args := ?_) rfl (by rfl) ?_ ?_ ?_
          rotate_left 2
          focus (intro w hS; go_simp; first | done | with_reducible rfl | (refine ⟨?_, ?_⟩ <;> with_reducible rfl))
          ·
           intro w12 hS
           refine (squaring_is (hX2.mono hS) (hM1.up hS) (Below.refl _ _) (by omega) (by omega) h15_good (by rw [cnew_len]; omega) h15_mok h15_sq).mono ?_
           rintro e v12 ⟨p3, cap3, y3, cy3, rfl, hX3, hM3, hbl⟩
           refine ⟨_, rfl, (fun x => Below v12.heap.size v12 x), Below.refl _ _, ?_⟩
           have hXw := Nat.le_trans zz hS.size; have hXa := Nat.le_trans hacc.size hS.size
           have hX := btr hS hbl
           replace hs := hs.up hX; replace hM1 := hM1.up hX; replace hX2 := hX2.mono hX; replace hbw := btr hbw hX; replace zz := Nat.le_trans zz (Below.size hX); replace hacc := btr hacc hX
           clear hX hS hbl hXw hXa
           (try simp only [Act.put, List.setIfInBounds_toArray, List.set_cons_zero, List.set_cons_succ])
           iterate 3 (refine seqE_free (v := ?_) rfl (by rfl) ?_ ?_; rotate_left; (focus (intro w; go_simp; try with_reducible rfl)); (try simp only [Act.put, List.setIfInBounds_toArray, List.set_cons_zero, List.set_cons_succ]))
           refine seqE_move rfl (by rfl) ?_ seqE_stop
           intro w13 hS
           refine ⟨.pointer (some ⟨w13.heap.size, 0, none⟩), w13.alloc (.cells #[.int .i64 0, .slice none 0 0] 30), (by go_simp; try with_reducible rfl), ?_⟩
           obtain ⟨b3, hb3⟩ : ∃ b, b = w13.heap.size := ⟨_, rfl⟩
           obtain ⟨v13, hw13⟩ : ∃ zW, zW = w13.alloc (.cells #[.int .i64 0, .slice none 0 0] 30) := ⟨_, rfl⟩
           rw [← hw13, ← hb3]
           have hbl : Below w13.heap.size w13 v13 := by rw [hw13]; go_grown
           have hge3 : s + 0 ≤ b3 := by rw [hb3]; exact Nat.le_trans zz hS.size
           have hga3 : wc.heap.size ≤ b3 := by rw [hb3]; exact Nat.le_trans hacc.size hS.size
           have hlb2_3 : b2 < b3 := by rw [hb3]; exact Nat.lt_of_lt_of_le (World.block_lt_of_cell? _ _ hs.1.1) hS.size
           refine ⟨(fun x => Below v13.heap.size v13 x), Below.refl _ _, fun x hx => btr (btr hS hbl) hx, ?_⟩
           have hX := btr hS hbl
           replace hs := hs.up hX; replace hM1 := hM1.up hX; replace hX2 := hX2.mono hX; replace hX3 := hX3.mono hX; replace hM3 := hM3.up hX; replace hbw := btr hbw hX; replace zz := Nat.le_trans zz (Below.size hX); replace hacc := btr hacc hX
           replace hs : Cells v13 [(b3, 0, .int .i64 0), (b3, 1, .slice none 0 0), (b2, 0, .slice none 0 0)] := ⟨⟨by rw [hw13, hb3]; go_cell, by rw [hw13, hb3]; go_cell⟩, ⟨by rw [hw13, hb3]; go_cell, by rw [hw13, hb3]; go_cell⟩, hs⟩
           clear hX hS hbl hw13 hb3
           (try simp only [Act.put, List.setIfInBounds_toArray, List.set_cons_zero, List.set_cons_succ])
           refine seqE_storeB rfl (by rfl) ?_ seqE_stop
           intro w14 hS
           replace hs := hs.up hS; replace hM1 := hM1.up hS; replace hX2 := hX2.mono hS; replace hX3 := hX3.mono hS; replace hM3 := hM3.up hS; replace hbw := btr hbw hS; replace zz := Nat.le_trans zz (Below.size hS); replace hacc := btr hacc hS
           obtain ⟨⟨d30, d30f⟩, ⟨d31, d31f⟩, ⟨d20, d20f⟩, -⟩ := id hs
           refine ⟨(w14.setCell ⟨b2, 0, none⟩ (.slice p3 (cnew).length cap3)), (by go_simp; try with_reducible rfl), (fun x => Below ((w14.setCell ⟨b2, 0, none⟩ (.slice p3 (cnew).length cap3))).heap.size ((w14.setCell ⟨b2, 0, none⟩ (.slice p3 (cnew).length cap3))) x), Below.refl _ _, ?_⟩
           obtain ⟨v14, hw⟩ : ∃ zW, zW = (w14.setCell ⟨b2, 0, none⟩ (.slice p3 (cnew).length cap3)) := ⟨_, rfl⟩
           rw [← hw]
           replace hs : Cells v14 [(b3, 0, .int .i64 0), (b3, 1, .slice none 0 0), (b2, 0, .slice p3 (cnew).length cap3)] := by rw [hw]; exact ⟨⟨by go_cell, (fz d30f)⟩, ⟨by go_cell, (fz d31f)⟩, ⟨by go_cell, (fz d20f)⟩, trivial⟩
           replace hM1 : MxAt v14 q1 cq1 (hChain) := by rw [hw]; exact hM1.box d20 _
           replace hX2 : CAt v14 p2 cap2 cnew := by rw [hw]; exact hX2.box d20 _
           replace hX3 : CAt v14 p3 cap3 (cnew) := by rw [hw]; exact hX3.box d20 _
           replace hM3 : MxAt v14 y3 cy3 (hWant) := by rw [hw]; exact hM3.box d20 _
           replace hbw : Below w.heap.size w v14 := by rw [hw]; exact (Below.setCell hbw (by have h := HS.out; (try dsimp only); omega) _)
           replace hacc : Below wc.heap.size wc v14 := by rw [hw]; exact (Below.setCell hacc (by have h := HS.out; (try dsimp only); omega) _)
           replace zz : s + 0 ≤ v14.heap.size := by rw [hw]; simpa using zz
           clear hw
           clear d30 d30f d31 d31f d20 d20f
           clear hS
           (try simp only [Act.put, List.setIfInBounds_toArray, List.set_cons_zero, List.set_cons_succ])
           refine seqE_storeB rfl (by rfl) ?_ seqE_stop
           intro w15 hS
           replace hs := hs.up hS; replace hM1 := hM1.up hS; replace hX2 := hX2.mono hS; replace hX3 := hX3.mono hS; replace hM3 := hM3.up hS; replace hbw := btr hbw hS; replace zz := Nat.le_trans zz (Below.size hS); replace hacc := btr hacc hS
           obtain ⟨⟨d30, d30f⟩, ⟨d31, d31f⟩, ⟨d20, d20f⟩, -⟩ := id hs
           refine ⟨((w15.setCell ⟨b3, 0, none⟩ (.int .i64 2)).setCell ⟨b3, 1, none⟩ (.slice y3 (hWant).length cy3)), (by go_simp; try with_reducible rfl), (fun x => Below (((w15.setCell ⟨b3, 0, none⟩ (.int .i64 2)).setCell ⟨b3, 1, none⟩ (.slice y3 (hWant).length cy3))).heap.size (((w15.setCell ⟨b3, 0, none⟩ (.int .i64 2)).setCell ⟨b3, 1, none⟩ (.slice y3 (hWant).length cy3))) x), Below.refl _ _, ?_⟩
           obtain ⟨v15, hw⟩ : ∃ zW, zW = ((w15.setCell ⟨b3, 0, none⟩ (.int .i64 2)).setCell ⟨b3, 1, none⟩ (.slice y3 (hWant).length cy3)) := ⟨_, rfl⟩
           rw [← hw]
           replace hs : Cells v15 [(b3, 0, .int .i64 2), (b3, 1, .slice y3 (hWant).length cy3), (b2, 0, .slice p3 (cnew).length cap3)] := by rw [hw]; exact ⟨⟨by go_cell, (fz (fz d30f))⟩, ⟨by go_cell, (fz (fz d31f))⟩, ⟨by go_cell, (fz (fz d20f))⟩, trivial⟩
           replace hM1 : MxAt v15 q1 cq1 (hChain) := by rw [hw]; exact hM1.boxM d31 _ _
           replace hX2 : CAt v15 p2 cap2 cnew := by rw [hw]; exact hX2.boxM d31 _ _
           replace hX3 : CAt v15 p3 cap3 (cnew) := by rw [hw]; exact hX3.boxM d31 _ _
           replace hM3 : MxAt v15 y3 cy3 (hWant) := by rw [hw]; exact hM3.boxM d31 _ _
           replace hbw : Below w.heap.size w v15 := by rw [hw]; exact (Below.setCell (Below.setCell hbw (by have h := HS.out; (try dsimp only); omega) _) (by have h := HS.out; (try dsimp only); omega) _)
           replace hacc : Below wc.heap.size wc v15 := by rw [hw]; exact (Below.setCell (Below.setCell hacc (by have h := HS.out; (try dsimp only); omega) _) (by have h := HS.out; (try dsimp only); omega) _)
           replace zz : s + 0 ≤ v15.heap.size := by rw [hw]; simpa using zz
           clear hw
           clear d30 d30f d31 d31f d20 d20f
           clear hS
           (try simp only [Act.put, List.setIfInBounds_toArray, List.set_cons_zero, List.set_cons_succ])
           refine seqE_nil ?_
           intro wz hS
           replace hs := hs.up hS; replace hM1 := hM1.up hS; replace hX2 := hX2.mono hS; replace hX3 := hX3.mono hS; replace hM3 := hM3.up hS; replace hbw := btr hbw hS; replace zz := Nat.le_trans zz (Below.size hS); replace hacc := btr hacc hS; clear hS
           obtain ⟨⟨d30, d30f⟩, ⟨d31, d31f⟩, ⟨d20, d20f⟩, -⟩ := id hs
           go_wp2_with fail
           go_meet
           exact ⟨⟨_, _, rfl, rfl, Bx.at hX3 d20 d20f, ⟨_, _, ⟨⟨d30, d30f⟩, ⟨d31, d31f⟩, trivial⟩, hM3⟩⟩, hacc⟩
          refine seqE_move rfl (by rfl) ?_ seqE_stop
          intro w16 hS
          refine ⟨.pointer (some ⟨w16.heap.size, 0, none⟩), w16.alloc (.cells #[.int .i64 0, .slice none 0 0] 30), (by go_simp; try with_reducible rfl), ?_⟩
          obtain ⟨b3, hb3⟩ : ∃ b, b = w16.heap.size := ⟨_, rfl⟩
          obtain ⟨v16, hw16⟩ : ∃ zW, zW = w16.alloc (.cells #[.int .i64 0, .slice none 0 0] 30) := ⟨_, rfl⟩
          rw [← hw16, ← hb3]
          have hbl : Below w16.heap.size w16 v16 := by rw [hw16]; go_grown
          have hge3 : s + 0 ≤ b3 := by rw [hb3]; exact Nat.le_trans zz hS.size
          have hga3 : wc.heap.size ≤ b3 := by rw [hb3]; exact Nat.le_trans hacc.size hS.size
          have hlb2_3 : b2 < b3 := by rw [hb3]; exact Nat.lt_of_lt_of_le (World.block_lt_of_cell? _ _ hs.1.1) hS.size
          refine ⟨(fun x => Below v16.heap.size v16 x), Below.refl _ _, fun x hx => btr (btr hS hbl) hx, ?_⟩
          have hX := btr hS hbl
          replace hs := hs.up hX; replace hM1 := hM1.up hX; replace hX2 := hX2.mono hX; replace hbw := btr hbw hX; replace zz := Nat.le_trans zz (Below.size hX); replace hacc := btr hacc hX
          replace hs : Cells v16 [(b3, 0, .int .i64 0), (b3, 1, .slice none 0 0), (b2, 0, .slice none 0 0)] := ⟨⟨by rw [hw16, hb3]; go_cell, by rw [hw16, hb3]; go_cell⟩, ⟨by rw [hw16, hb3]; go_cell, by rw [hw16, hb3]; go_cell⟩, hs⟩
          clear hX hS hbl hw16 hb3
          (try simp only [Act.put, List.setIfInBounds_toArray, List.set_cons_zero, List.set_cons_succ])
          refine seqE_callB (f := ?_) (args := ?_) rfl (by rfl) ?_ ?_ seqE_stop
          rotate_left 2
          focus (intro w hS; go_simp; first | done | with_reducible rfl | (refine ⟨?_, ?_⟩ <;> with_reducible rfl))
          intro w17 hS
          refine (squaring_is (hX2.mono hS) (hM1.up hS) (Below.refl _ _) (by omega) (by omega) h15_good (by rw [cnew_len]; omega) h15_mok h15_sq).mono ?_
          rintro e v17 ⟨p3, cap3, y3, cy3, rfl, hX3, hM3, hbl⟩
          refine ⟨_, rfl, (fun x => Below v17.heap.size v17 x), Below.refl _ _, ?_⟩
          have hXw := Nat.le_trans zz hS.size; have hXa := Nat.le_trans hacc.size hS.size
          have hX := btr hS hbl
          replace hs := hs.up hX; replace hM1 := hM1.up hX; replace hX2 := hX2.mono hX; replace hbw := btr hbw hX; replace zz := Nat.le_trans zz (Below.size hX); replace hacc := btr hacc hX
          clear hX hS hbl hXw hXa
          (try simp only [Act.put, List.setIfInBounds_toArray, List.set_cons_zero, List.set_cons_succ])
          iterate 3 (refine seqE_free (v := ?_) rfl (by rfl) ?_ ?_; rotate_left; (focus (intro w; go_simp; try with_reducible rfl)); (try simp only [Act.put, List.setIfInBounds_toArray, List.set_cons_zero, List.set_cons_succ]))
          refine seqE_storeB rfl (by rfl) ?_ seqE_stop
          intro w18 hS
          replace hs := hs.up hS; replace hM1 := hM1.up hS; replace hX2 := hX2.mono hS; replace hX3 := hX3.mono hS; replace hM3 := hM3.up hS; replace hbw := btr hbw hS; replace zz := Nat.le_trans zz (Below.size hS); replace hacc := btr hacc hS
          obtain ⟨⟨d30, d30f⟩, ⟨d31, d31f⟩, ⟨d20, d20f⟩, -⟩ := id hs
          refine ⟨(w18.setCell ⟨b2, 0, none⟩ (.slice p3 (cnew).length cap3)), (by go_simp; try with_reducible rfl), (fun x => Below ((w18.setCell ⟨b2, 0, none⟩ (.slice p3 (cnew).length cap3))).heap.size ((w18.setCell ⟨b2, 0, none⟩ (.slice p3 (cnew).length cap3))) x), Below.refl _ _, ?_⟩
          obtain ⟨v18, hw⟩ : ∃ zW, zW = (w18.setCell ⟨b2, 0, none⟩ (.slice p3 (cnew).length cap3)) := ⟨_, rfl⟩
          rw [← hw]
          replace hs : Cells v18 [(b3, 0, .int .i64 0), (b3, 1, .slice none 0 0), (b2, 0, .slice p3 (cnew).length cap3)] := by rw [hw]; exact ⟨⟨by go_cell, (fz d30f)⟩, ⟨by go_cell, (fz d31f)⟩, ⟨by go_cell, (fz d20f)⟩, trivial⟩
          replace hM1 : MxAt v18 q1 cq1 (hChain) := by rw [hw]; exact hM1.box d20 _
          replace hX2 : CAt v18 p2 cap2 cnew := by rw [hw]; exact hX2.box d20 _
          replace hX3 : CAt v18 p3 cap3 (cnew) := by rw [hw]; exact hX3.box d20 _
          replace hM3 : MxAt v18 y3 cy3 (hWant) := by rw [hw]; exact hM3.box d20 _
          replace hbw : Below w.heap.size w v18 := by rw [hw]; exact (Below.setCell hbw (by have h := HS.out; (try dsimp only); omega) _)
          replace hacc : Below wc.heap.size wc v18 := by rw [hw]; exact (Below.setCell hacc (by have h := HS.out; (try dsimp only); omega) _)
          replace zz : s + 0 ≤ v18.heap.size := by rw [hw]; simpa using zz
          clear hw
          clear d30 d30f d31 d31f d20 d20f
          clear hS
          (try simp only [Act.put, List.setIfInBounds_toArray, List.set_cons_zero, List.set_cons_succ])
          refine seqE_storeB rfl (by rfl) ?_ seqE_stop
          intro w19 hS
          replace hs := hs.up hS; replace hM1 := hM1.up hS; replace hX2 := hX2.mono hS; replace hX3 := hX3.mono hS; replace hM3 := hM3.up hS; replace hbw := btr hbw hS; replace zz := Nat.le_trans zz (Below.size hS); replace hacc := btr hacc hS
          obtain ⟨⟨d30, d30f⟩, ⟨d31, d31f⟩, ⟨d20, d20f⟩, -⟩ := id hs
          refine ⟨((w19.setCell ⟨b3, 0, none⟩ (.int .i64 2)).setCell ⟨b3, 1, none⟩ (.slice y3 (hWant).length cy3)), (by go_simp; try with_reducible rfl), (fun x => Below (((w19.setCell ⟨b3, 0, none⟩ (.int .i64 2)).setCell ⟨b3, 1, none⟩ (.slice y3 (hWant).length cy3))).heap.size (((w19.setCell ⟨b3, 0, none⟩ (.int .i64 2)).setCell ⟨b3, 1, none⟩ (.slice y3 (hWant).length cy3))) x), Below.refl _ _, ?_⟩
          obtain ⟨v19, hw⟩ : ∃ zW, zW = ((w19.setCell ⟨b3, 0, none⟩ (.int .i64 2)).setCell ⟨b3, 1, none⟩ (.slice y3 (hWant).length cy3)) := ⟨_, rfl⟩
          rw [← hw]
          replace hs : Cells v19 [(b3, 0, .int .i64 2), (b3, 1, .slice y3 (hWant).length cy3), (b2, 0, .slice p3 (cnew).length cap3)] := by rw [hw]; exact ⟨⟨by go_cell, (fz (fz d30f))⟩, ⟨by go_cell, (fz (fz d31f))⟩, ⟨by go_cell, (fz (fz d20f))⟩, trivial⟩
          replace hM1 : MxAt v19 q1 cq1 (hChain) := by rw [hw]; exact hM1.boxM d31 _ _
          replace hX2 : CAt v19 p2 cap2 cnew := by rw [hw]; exact hX2.boxM d31 _ _
          replace hX3 : CAt v19 p3 cap3 (cnew) := by rw [hw]; exact hX3.boxM d31 _ _
          replace hM3 : MxAt v19 y3 cy3 (hWant) := by rw [hw]; exact hM3.boxM d31 _ _
          replace hbw : Below w.heap.size w v19 := by rw [hw]; exact (Below.setCell (Below.setCell hbw (by have h := HS.out; (try dsimp only); omega) _) (by have h := HS.out; (try dsimp only); omega) _)
          replace hacc : Below wc.heap.size wc v19 := by rw [hw]; exact (Below.setCell (Below.setCell hacc (by have h := HS.out; (try dsimp only); omega) _) (by have h := HS.out; (try dsimp only); omega) _)
          replace zz : s + 0 ≤ v19.heap.size := by rw [hw]; simpa using zz
          clear hw
          clear d30 d30f d31 d31f d20 d20f
          clear hS
          (try simp only [Act.put, List.setIfInBounds_toArray, List.set_cons_zero, List.set_cons_succ])
          refine seqE_nil ?_
          intro wz hS
          replace hs := hs.up hS; replace hM1 := hM1.up hS; replace hX2 := hX2.mono hS; replace hX3 := hX3.mono hS; replace hM3 := hM3.up hS; replace hbw := btr hbw hS; replace zz := Nat.le_trans zz (Below.size hS); replace hacc := btr hacc hS; clear hS
          obtain ⟨⟨d30, d30f⟩, ⟨d31, d31f⟩, ⟨d20, d20f⟩, -⟩ := id hs
          go_wp2_with fail
          go_meet
          exact ⟨⟨_, _, rfl, rfl, Bx.at hX3 d20 d20f, ⟨_, _, ⟨⟨d30, d30f⟩, ⟨d31, d31f⟩, trivial⟩, hM3⟩⟩, hacc⟩
         refine seqE_move rfl (by rfl) ?_ seqE_stop
         intro w20 hS
         refine ⟨.pointer (some ⟨w20.heap.size, 0, none⟩), w20.alloc (.cells #[.int .i64 0, .slice none 0 0] 30), (by go_simp; try with_reducible rfl), ?_⟩
         obtain ⟨b3, hb3⟩ : ∃ b, b = w20.heap.size := ⟨_, rfl⟩
         obtain ⟨v20, hw20⟩ : ∃ zW, zW = w20.alloc (.cells #[.int .i64 0, .slice none 0 0] 30) := ⟨_, rfl⟩
         rw [← hw20, ← hb3]
         have hbl : Below w20.heap.size w20 v20 := by rw [hw20]; go_grown
         have hge3 : s + 0 ≤ b3 := by rw [hb3]; exact Nat.le_trans zz hS.size
         have hga3 : wc.heap.size ≤ b3 := by rw [hb3]; exact Nat.le_trans hacc.size hS.size
         refine ⟨(fun x => Below v20.heap.size v20 x), Below.refl _ _, fun x hx => btr (btr hS hbl) hx, ?_⟩
         have hX := btr hS hbl
         replace hM1 := hM1.up hX; replace hX2 := hX2.mono hX; replace hbw := btr hbw hX; replace zz := Nat.le_trans zz (Below.size hX); replace hacc := btr hacc hX
         have hs : Cells v20 [(b3, 0, .int .i64 0), (b3, 1, .slice none 0 0)] := ⟨⟨by rw [hw20, hb3]; go_cell, by rw [hw20, hb3]; go_cell⟩, ⟨by rw [hw20, hb3]; go_cell, by rw [hw20, hb3]; go_cell⟩, trivial⟩
         clear hX hS hbl hw20 hb3
         (try simp only [Act.put, List.setIfInBounds_toArray, List.set_cons_zero, List.set_cons_succ])
         refine seqE_callB (f := ?_) (args := ?_) rfl (by rfl) ?_ ?_ ?_
         rotate_left 2
         focus (intro w hS; go_simp; first | done | with_reducible rfl | (refine ⟨?_, ?_⟩ <;> with_reducible rfl))
         ·
          intro w21 hS
          refine (squaring_is (hX2.mono hS) (hM1.up hS) (Below.refl _ _) (by omega) (by omega) h15_good (by rw [cnew_len]; omega) h15_mok h15_sq).mono ?_
          rintro e v21 ⟨p3, cap3, y3, cy3, rfl, hX3, hM3, hbl⟩
          refine ⟨_, rfl, (fun x => Below v21.heap.size v21 x), Below.refl _ _, ?_⟩
          have hXw := Nat.le_trans zz hS.size; have hXa := Nat.le_trans hacc.size hS.size
          have hX := btr hS hbl
          replace hs := hs.up hX; replace hM1 := hM1.up hX; replace hX2 := hX2.mono hX; replace hbw := btr hbw hX; replace zz := Nat.le_trans zz (Below.size hX); replace hacc := btr hacc hX
          clear hX hS hbl hXw hXa
          (try simp only [Act.put, List.setIfInBounds_toArray, List.set_cons_zero, List.set_cons_succ])
          iterate 3 (refine seqE_free (v := ?_) rfl (by rfl) ?_ ?_; rotate_left; (focus (intro w; go_simp; try with_reducible rfl)); (try simp only [Act.put, List.setIfInBounds_toArray, List.set_cons_zero, List.set_cons_succ]))
          refine seqE_move rfl (by rfl) ?_ seqE_stop
          intro w22 hS
          refine ⟨.pointer (some ⟨w22.heap.size, 0, none⟩), w22.alloc (.cells #[.slice none 0 0] 27), (by go_simp; try with_reducible rfl), ?_⟩
          obtain ⟨b2, hb2⟩ : ∃ b, b = w22.heap.size := ⟨_, rfl⟩
          obtain ⟨v22, hw22⟩ : ∃ zW, zW = w22.alloc (.cells #[.slice none 0 0] 27) := ⟨_, rfl⟩
          rw [← hw22, ← hb2]
          have hbl : Below w22.heap.size w22 v22 := by rw [hw22]; go_grown
          have hge2 : s + 0 ≤ b2 := by rw [hb2]; exact Nat.le_trans zz hS.size
          have hga2 : wc.heap.size ≤ b2 := by rw [hb2]; exact Nat.le_trans hacc.size hS.size
          have hlb3_2 : b3 < b2 := by rw [hb2]; exact Nat.lt_of_lt_of_le (World.block_lt_of_cell? _ _ hs.1.1) hS.size
          refine ⟨(fun x => Below v22.heap.size v22 x), Below.refl _ _, fun x hx => btr (btr hS hbl) hx, ?_⟩
          have hX := btr hS hbl
          replace hs := hs.up hX; replace hM1 := hM1.up hX; replace hX2 := hX2.mono hX; replace hX3 := hX3.mono hX; replace hM3 := hM3.up hX; replace hbw := btr hbw hX; replace zz := Nat.le_trans zz (Below.size hX); replace hacc := btr hacc hX
          replace hs : Cells v22 [(b2, 0, .slice none 0 0), (b3, 0, .int .i64 0), (b3, 1, .slice none 0 0)] := ⟨⟨by rw [hw22, hb2]; go_cell, by rw [hw22, hb2]; go_cell⟩, hs⟩
          clear hX hS hbl hw22 hb2
          (try simp only [Act.put, List.setIfInBounds_toArray, List.set_cons_zero, List.set_cons_succ])
          refine seqE_storeB rfl (by rfl) ?_ seqE_stop
          intro w23 hS
          replace hs := hs.up hS; replace hM1 := hM1.up hS; replace hX2 := hX2.mono hS; replace hX3 := hX3.mono hS; replace hM3 := hM3.up hS; replace hbw := btr hbw hS; replace zz := Nat.le_trans zz (Below.size hS); replace hacc := btr hacc hS
          obtain ⟨⟨d20, d20f⟩, ⟨d30, d30f⟩, ⟨d31, d31f⟩, -⟩ := id hs
          refine ⟨(w23.setCell ⟨b2, 0, none⟩ (.slice p3 (cnew).length cap3)), (by go_simp; try with_reducible rfl), (fun x => Below ((w23.setCell ⟨b2, 0, none⟩ (.slice p3 (cnew).length cap3))).heap.size ((w23.setCell ⟨b2, 0, none⟩ (.slice p3 (cnew).length cap3))) x), Below.refl _ _, ?_⟩
          obtain ⟨v23, hw⟩ : ∃ zW, zW = (w23.setCell ⟨b2, 0, none⟩ (.slice p3 (cnew).length cap3)) := ⟨_, rfl⟩
          rw [← hw]
          replace hs : Cells v23 [(b2, 0, .slice p3 (cnew).length cap3), (b3, 0, .int .i64 0), (b3, 1, .slice none 0 0)] := by rw [hw]; exact ⟨⟨by go_cell, (fz d20f)⟩, ⟨by go_cell, (fz d30f)⟩, ⟨by go_cell, (fz d31f)⟩, trivial⟩
          replace hM1 : MxAt v23 q1 cq1 (hChain) := by rw [hw]; exact hM1.box d20 _
          replace hX2 : CAt v23 p2 cap2 cnew := by rw [hw]; exact hX2.box d20 _
          replace hX3 : CAt v23 p3 cap3 (cnew) := by rw [hw]; exact hX3.box d20 _
          replace hM3 : MxAt v23 y3 cy3 (hWant) := by rw [hw]; exact hM3.box d20 _
          replace hbw : Below w.heap.size w v23 := by rw [hw]; exact (Below.setCell hbw (by have h := HS.out; (try dsimp only); omega) _)
          replace hacc : Below wc.heap.size wc v23 := by rw [hw]; exact (Below.setCell hacc (by have h := HS.out; (try dsimp only); omega) _)
          replace zz : s + 0 ≤ v23.heap.size := by rw [hw]; simpa using zz
          clear hw
          clear d20 d20f d30 d30f d31 d31f
          clear hS
          (try simp only [Act.put, List.setIfInBounds_toArray, List.set_cons_zero, List.set_cons_succ])
          refine seqE_storeB rfl (by rfl) ?_ seqE_stop
          intro w24 hS
          replace hs := hs.up hS; replace hM1 := hM1.up hS; replace hX2 := hX2.mono hS; replace hX3 := hX3.mono hS; replace hM3 := hM3.up hS; replace hbw := btr hbw hS; replace zz := Nat.le_trans zz (Below.size hS); replace hacc := btr hacc hS
          obtain ⟨⟨d20, d20f⟩, ⟨d30, d30f⟩, ⟨d31, d31f⟩, -⟩ := id hs
          refine ⟨((w24.setCell ⟨b3, 0, none⟩ (.int .i64 2)).setCell ⟨b3, 1, none⟩ (.slice y3 (hWant).length cy3)), (by go_simp; try with_reducible rfl), (fun x => Below (((w24.setCell ⟨b3, 0, none⟩ (.int .i64 2)).setCell ⟨b3, 1, none⟩ (.slice y3 (hWant).length cy3))).heap.size (((w24.setCell ⟨b3, 0, none⟩ (.int .i64 2)).setCell ⟨b3, 1, none⟩ (.slice y3 (hWant).length cy3))) x), Below.refl _ _, ?_⟩
          obtain ⟨v24, hw⟩ : ∃ zW, zW = ((w24.setCell ⟨b3, 0, none⟩ (.int .i64 2)).setCell ⟨b3, 1, none⟩ (.slice y3 (hWant).length cy3)) := ⟨_, rfl⟩
          rw [← hw]
          replace hs : Cells v24 [(b2, 0, .slice p3 (cnew).length cap3), (b3, 0, .int .i64 2), (b3, 1, .slice y3 (hWant).length cy3)] := by rw [hw]; exact ⟨⟨by go_cell, (fz (fz d20f))⟩, ⟨by go_cell, (fz (fz d30f))⟩, ⟨by go_cell, (fz (fz d31f))⟩, trivial⟩
          replace hM1 : MxAt v24 q1 cq1 (hChain) := by rw [hw]; exact hM1.boxM d31 _ _
          replace hX2 : CAt v24 p2 cap2 cnew := by rw [hw]; exact hX2.boxM d31 _ _
          replace hX3 : CAt v24 p3 cap3 (cnew) := by rw [hw]; exact hX3.boxM d31 _ _
          replace hM3 : MxAt v24 y3 cy3 (hWant) := by rw [hw]; exact hM3.boxM d31 _ _
          replace hbw : Below w.heap.size w v24 := by rw [hw]; exact (Below.setCell (Below.setCell hbw (by have h := HS.out; (try dsimp only); omega) _) (by have h := HS.out; (try dsimp only); omega) _)
          replace hacc : Below wc.heap.size wc v24 := by rw [hw]; exact (Below.setCell (Below.setCell hacc (by have h := HS.out; (try dsimp only); omega) _) (by have h := HS.out; (try dsimp only); omega) _)
          replace zz : s + 0 ≤ v24.heap.size := by rw [hw]; simpa using zz
          clear hw
          clear d20 d20f d30 d30f d31 d31f
          clear hS
          (try simp only [Act.put, List.setIfInBounds_toArray, List.set_cons_zero, List.set_cons_succ])
          refine seqE_nil ?_
          intro wz hS
          replace hs := hs.up hS; replace hM1 := hM1.up hS; replace hX2 := hX2.mono hS; replace hX3 := hX3.mono hS; replace hM3 := hM3.up hS; replace hbw := btr hbw hS; replace zz := Nat.le_trans zz (Below.size hS); replace hacc := btr hacc hS; clear hS
          obtain ⟨⟨d20, d20f⟩, ⟨d30, d30f⟩, ⟨d31, d31f⟩, -⟩ := id hs
          go_wp2_with fail
          go_meet
          exact ⟨⟨_, _, rfl, rfl, Bx.at hX3 d20 d20f, ⟨_, _, ⟨⟨d30, d30f⟩, ⟨d31, d31f⟩, trivial⟩, hM3⟩⟩, hacc⟩
         refine seqE_move rfl (by rfl) ?_ seqE_stop
         intro w25 hS
         refine ⟨.pointer (some ⟨w25.heap.size, 0, none⟩), w25.alloc (.cells #[.slice none 0 0] 27), (by go_simp; try with_reducible rfl), ?_⟩
         obtain ⟨b2, hb2⟩ : ∃ b, b = w25.heap.size := ⟨_, rfl⟩
         obtain ⟨v25, hw25⟩ : ∃ zW, zW = w25.alloc (.cells #[.slice none 0 0] 27) := ⟨_, rfl⟩
         rw [← hw25, ← hb2]
         have hbl : Below w25.heap.size w25 v25 := by rw [hw25]; go_grown
         have hge2 : s + 0 ≤ b2 := by rw [hb2]; exact Nat.le_trans zz hS.size
         have hga2 : wc.heap.size ≤ b2 := by rw [hb2]; exact Nat.le_trans hacc.size hS.size
         have hlb3_2 : b3 < b2 := by rw [hb2]; exact Nat.lt_of_lt_of_le (World.block_lt_of_cell? _ _ hs.1.1) hS.size
         refine ⟨(fun x => Below v25.heap.size v25 x), Below.refl _ _, fun x hx => btr (btr hS hbl) hx, ?_⟩
         have hX := btr hS hbl
         replace hs := hs.up hX; replace hM1 := hM1.up hX; replace hX2 := hX2.mono hX; replace hbw := btr hbw hX; replace zz := Nat.le_trans zz (Below.size hX); replace hacc := btr hacc hX
         replace hs : Cells v25 [(b2, 0, .slice none 0 0), (b3, 0, .int .i64 0), (b3, 1, .slice none 0 0)] := ⟨⟨by rw [hw25, hb2]; go_cell, by rw [hw25, hb2]; go_cell⟩, hs⟩
         clear hX hS hbl hw25 hb2
         (try simp only [Act.put, List.setIfInBounds_toArray, List.set_cons_zero, List.set_cons_succ])
         refine seqE_callB (f := ?_) (args := ?_) rfl (by rfl) ?_ ?_ seqE_stop
         rotate_left 2
         focus (intro w hS; go_simp; first | done | with_reducible rfl | (refine ⟨?_, ?_⟩ <;> with_reducible rfl))
         intro w26 hS
         refine (squaring_is (hX2.mono hS) (hM1.up hS) (Below.refl _ _) (by omega) (by omega) h15_good (by rw [cnew_len]; omega) h15_mok h15_sq).mono ?_
         rintro e v26 ⟨p3, cap3, y3, cy3, rfl, hX3, hM3, hbl⟩
         refine ⟨_, rfl, (fun x => Below v26.heap.size v26 x), Below.refl _ _, ?_⟩
         have hXw := Nat.le_trans zz hS.size; have hXa := Nat.le_trans hacc.size hS.size
         have hX := btr hS hbl
         replace hs := hs.up hX; replace hM1 := hM1.up hX; replace hX2 := hX2.mono hX; replace hbw := btr hbw hX; replace zz := Nat.le_trans zz (Below.size hX); replace hacc := btr hacc hX
         clear hX hS hbl hXw hXa
         (try simp only [Act.put, List.setIfInBounds_toArray, List.set_cons_zero, List.set_cons_succ])
         iterate 3 (refine seqE_free (v := ?_) rfl (by rfl) ?_ ?_; rotate_left; (focus (intro w; go_simp; try with_reducible rfl)); (try simp only [Act.put, List.setIfInBounds_toArray, List.set_cons_zero, List.set_cons_succ]))
         refine seqE_storeB rfl (by rfl) ?_ seqE_stop
         intro w27 hS
         replace hs := hs.up hS; replace hM1 := hM1.up hS; replace hX2 := hX2.mono hS; replace hX3 := hX3.mono hS; replace hM3 := hM3.up hS; replace hbw := btr hbw hS; replace zz := Nat.le_trans zz (Below.size hS); replace hacc := btr hacc hS
         obtain ⟨⟨d20, d20f⟩, ⟨d30, d30f⟩, ⟨d31, d31f⟩, -⟩ := id hs
         refine ⟨(w27.setCell ⟨b2, 0, none⟩ (.slice p3 (cnew).length cap3)), (by go_simp; try with_reducible rfl), (fun x => Below ((w27.setCell ⟨b2, 0, none⟩ (.slice p3 (cnew).length cap3))).heap.size ((w27.setCell ⟨b2, 0, none⟩ (.slice p3 (cnew).length cap3))) x), Below.refl _ _, ?_⟩
         obtain ⟨v27, hw⟩ : ∃ zW, zW = (w27.setCell ⟨b2, 0, none⟩ (.slice p3 (cnew).length cap3)) := ⟨_, rfl⟩
         rw [← hw]
         replace hs : Cells v27 [(b2, 0, .slice p3 (cnew).length cap3), (b3, 0, .int .i64 0), (b3, 1, .slice none 0 0)] := by rw [hw]; exact ⟨⟨by go_cell, (fz d20f)⟩, ⟨by go_cell, (fz d30f)⟩, ⟨by go_cell, (fz d31f)⟩, trivial⟩
         replace hM1 : MxAt v27 q1 cq1 (hChain) := by rw [hw]; exact hM1.box d20 _
         replace hX2 : CAt v27 p2 cap2 cnew := by rw [hw]; exact hX2.box d20 _
         replace hX3 : CAt v27 p3 cap3 (cnew) := by rw [hw]; exact hX3.box d20 _
         replace hM3 : MxAt v27 y3 cy3 (hWant) := by rw [hw]; exact hM3.box d20 _
         replace hbw : Below w.heap.size w v27 := by rw [hw]; exact (Below.setCell hbw (by have h := HS.out; (try dsimp only); omega) _)
         replace hacc : Below wc.heap.size wc v27 := by rw [hw]; exact (Below.setCell hacc (by have h := HS.out; (try dsimp only); omega) _)
         replace zz : s + 0 ≤ v27.heap.size := by rw [hw]; simpa using zz
         clear hw
         clear d20 d20f d30 d30f d31 d31f
         clear hS
         (try simp only [Act.put, List.setIfInBounds_toArray, List.set_cons_zero, List.set_cons_succ])
         refine seqE_storeB rfl (by rfl) ?_ seqE_stop
         intro w28 hS
         replace hs := hs.up hS; replace hM1 := hM1.up hS; replace hX2 := hX2.mono hS; replace hX3 := hX3.mono hS; replace hM3 := hM3.up hS; replace hbw := btr hbw hS; replace zz := Nat.le_trans zz (Below.size hS); replace hacc := btr hacc hS
         obtain ⟨⟨d20, d20f⟩, ⟨d30, d30f⟩, ⟨d31, d31f⟩, -⟩ := id hs
         refine ⟨((w28.setCell ⟨b3, 0, none⟩ (.int .i64 2)).setCell ⟨b3, 1, none⟩ (.slice y3 (hWant).length cy3)), (by go_simp; try with_reducible rfl), (fun x => Below (((w28.setCell ⟨b3, 0, none⟩ (.int .i64 2)).setCell ⟨b3, 1, none⟩ (.slice y3 (hWant).length cy3))).heap.size (((w28.setCell ⟨b3, 0, none⟩ (.int .i64 2)).setCell ⟨b3, 1, none⟩ (.slice y3 (hWant).length cy3))) x), Below.refl _ _, ?_⟩
         obtain ⟨v28, hw⟩ : ∃ zW, zW = ((w28.setCell ⟨b3, 0, none⟩ (.int .i64 2)).setCell ⟨b3, 1, none⟩ (.slice y3 (hWant).length cy3)) := ⟨_, rfl⟩
         rw [← hw]
         replace hs : Cells v28 [(b2, 0, .slice p3 (cnew).length cap3), (b3, 0, .int .i64 2), (b3, 1, .slice y3 (hWant).length cy3)] := by rw [hw]; exact ⟨⟨by go_cell, (fz (fz d20f))⟩, ⟨by go_cell, (fz (fz d30f))⟩, ⟨by go_cell, (fz (fz d31f))⟩, trivial⟩
         replace hM1 : MxAt v28 q1 cq1 (hChain) := by rw [hw]; exact hM1.boxM d31 _ _
         replace hX2 : CAt v28 p2 cap2 cnew := by rw [hw]; exact hX2.boxM d31 _ _
         replace hX3 : CAt v28 p3 cap3 (cnew) := by rw [hw]; exact hX3.boxM d31 _ _
         replace hM3 : MxAt v28 y3 cy3 (hWant) := by rw [hw]; exact hM3.boxM d31 _ _
         replace hbw : Below w.heap.size w v28 := by rw [hw]; exact (Below.setCell (Below.setCell hbw (by have h := HS.out; (try dsimp only); omega) _) (by have h := HS.out; (try dsimp only); omega) _)
         replace hacc : Below wc.heap.size wc v28 := by rw [hw]; exact (Below.setCell (Below.setCell hacc (by have h := HS.out; (try dsimp only); omega) _) (by have h := HS.out; (try dsimp only); omega) _)
         replace zz : s + 0 ≤ v28.heap.size := by rw [hw]; simpa using zz
         clear hw
         clear d20 d20f d30 d30f d31 d31f
         clear hS
         (try simp only [Act.put, List.setIfInBounds_toArray, List.set_cons_zero, List.set_cons_succ])
         refine seqE_nil ?_
         intro wz hS
         replace hs := hs.up hS; replace hM1 := hM1.up hS; replace hX2 := hX2.mono hS; replace hX3 := hX3.mono hS; replace hM3 := hM3.up hS; replace hbw := btr hbw hS; replace zz := Nat.le_trans zz (Below.size hS); replace hacc := btr hacc hS; clear hS
         obtain ⟨⟨d20, d20f⟩, ⟨d30, d30f⟩, ⟨d31, d31f⟩, -⟩ := id hs
         go_wp2_with fail
         go_meet
         exact ⟨⟨_, _, rfl, rfl, Bx.at hX3 d20 d20f, ⟨_, _, ⟨⟨d30, d30f⟩, ⟨d31, d31f⟩, trivial⟩, hM3⟩⟩, hacc⟩
        refine seqE_move rfl (by rfl) ?_ ?_
        ·
         intro w29 hS
         refine ⟨.pointer (some ⟨w29.heap.size, 0, none⟩), w29.alloc (.cells #[.slice none 0 0] 27), (by go_simp; try with_reducible rfl), ?_⟩
         obtain ⟨b2, hb2⟩ : ∃ b, b = w29.heap.size := ⟨_, rfl⟩
         obtain ⟨v29, hw29⟩ : ∃ zW, zW = w29.alloc (.cells #[.slice none 0 0] 27) := ⟨_, rfl⟩
         rw [← hw29, ← hb2]
         have hbl : Below w29.heap.size w29 v29 := by rw [hw29]; go_grown
         have hge2 : s + 0 ≤ b2 := by rw [hb2]; exact Nat.le_trans zz hS.size
         have hga2 : wc.heap.size ≤ b2 := by rw [hb2]; exact Nat.le_trans hacc.size hS.size
         refine ⟨(fun x => Below v29.heap.size v29 x), Below.refl _ _, fun x hx => btr (btr hS hbl) hx, ?_⟩
         have hX := btr hS hbl
         replace hM1 := hM1.up hX; replace hbw := btr hbw hX; replace zz := Nat.le_trans zz (Below.size hX); replace hacc := btr hacc hX
         have hs : Cells v29 [(b2, 0, .slice none 0 0)] := ⟨⟨by rw [hw29, hb2]; go_cell, by rw [hw29, hb2]; go_cell⟩, trivial⟩
         clear hX hS hbl hw29 hb2
         (try simp only [Act.put, List.setIfInBounds_toArray, List.set_cons_zero, List.set_cons_succ])
         refine seqE_call (f := ?_) (args := ?_) rfl (by rfl) ?_ ?_ ?_
         rotate_left 2
         focus (intro w hS; go_simp; first | done | with_reducible rfl | (refine ⟨?_, ?_⟩ <;> with_reducible rfl))
         ·
          intro w30 hS
          refine (rnew_is w30).mono ?_
          rintro e v30 ⟨p2, cap2, rfl, hX2, hbl⟩
          refine ⟨_, rfl, (fun x => Below v30.heap.size v30 x), Below.refl _ _, fun x hx => btr (btr hS hbl) hx, ?_⟩
          have hXw := Nat.le_trans zz hS.size; have hXa := Nat.le_trans hacc.size hS.size
          have hX := btr hS hbl
          replace hs := hs.up hX; replace hM1 := hM1.up hX; replace hbw := btr hbw hX; replace zz := Nat.le_trans zz (Below.size hX); replace hacc := btr hacc hX
          clear hX hS hbl hXw hXa
          (try simp only [Act.put, List.setIfInBounds_toArray, List.set_cons_zero, List.set_cons_succ])
          refine seqE_callB (f := ?_) (args := ?_) rfl (by rfl) ?_ ?_ ?_
          rotate_left 2
          focus (intro w hS; go_simp; first | done | with_reducible rfl | (refine ⟨?_, ?_⟩ <;> with_reducible rfl))
          ·
           intro w31 hS
           refine (squaring_is (hX2.mono hS) (hM1.up hS) (Below.refl _ _) (by omega) (by omega) h15_good (by rw [cnew_len]; omega) h15_mok h15_sq).mono ?_
           rintro e v31 ⟨p3, cap3, y3, cy3, rfl, hX3, hM3, hbl⟩
           refine ⟨_, rfl, (fun x => Below v31.heap.size v31 x), Below.refl _ _, ?_⟩
           have hXw := Nat.le_trans zz hS.size; have hXa := Nat.le_trans hacc.size hS.size
           have hX := btr hS hbl
           replace hs := hs.up hX; replace hM1 := hM1.up hX; replace hX2 := hX2.mono hX; replace hbw := btr hbw hX; replace zz := Nat.le_trans zz (Below.size hX); replace hacc := btr hacc hX
           clear hX hS hbl hXw hXa
           (try simp only [Act.put, List.setIfInBounds_toArray, List.set_cons_zero, List.set_cons_succ])
           iterate 3 (refine seqE_free (v := ?_) rfl (by rfl) ?_ ?_; rotate_left; (focus (intro w; go_simp; try with_reducible rfl)); (try simp only [Act.put, List.setIfInBounds_toArray, List.set_cons_zero, List.set_cons_succ]))
           refine seqE_move rfl (by rfl) ?_ seqE_stop
           intro w32 hS
           refine ⟨.pointer (some ⟨w32.heap.size, 0, none⟩), w32.alloc (.cells #[.int .i64 0, .slice none 0 0] 30), (by go_simp; try with_reducible rfl), ?_⟩
           obtain ⟨b3, hb3⟩ : ∃ b, b = w32.heap.size := ⟨_, rfl⟩
           obtain ⟨v32, hw32⟩ : ∃ zW, zW = w32.alloc (.cells #[.int .i64 0, .slice none 0 0] 30) := ⟨_, rfl⟩
           rw [← hw32, ← hb3]
           have hbl : Below w32.heap.size w32 v32 := by rw [hw32]; go_grown
           have hge3 : s + 0 ≤ b3 := by rw [hb3]; exact Nat.le_trans zz hS.size
           have hga3 : wc.heap.size ≤ b3 := by rw [hb3]; exact Nat.le_trans hacc.size hS.size
           have hlb2_3 : b2 < b3 := by rw [hb3]; exact Nat.lt_of_lt_of_le (World.block_lt_of_cell? _ _ hs.1.1) hS.size
           refine ⟨(fun x => Below v32.heap.size v32 x), Below.refl _ _, fun x hx => btr (btr hS hbl) hx, ?_⟩
           have hX := btr hS hbl
           replace hs := hs.up hX; replace hM1 := hM1.up hX; replace hX2 := hX2.mono hX; replace hX3 := hX3.mono hX; replace hM3 := hM3.up hX; replace hbw := btr hbw hX; replace zz := Nat.le_trans zz (Below.size hX); replace hacc := btr hacc hX
           replace hs : Cells v32 [(b3, 0, .int .i64 0), (b3, 1, .slice none 0 0), (b2, 0, .slice none 0 0)] := ⟨⟨by rw [hw32, hb3]; go_cell, by rw [hw32, hb3]; go_cell⟩, ⟨by rw [hw32, hb3]; go_cell, by rw [hw32, hb3]; go_cell⟩, hs⟩
           clear hX hS hbl hw32 hb3
           (try simp only [Act.put, List.setIfInBounds_toArray, List.set_cons_zero, List.set_cons_succ])
           refine seqE_storeB rfl (by rfl) ?_ seqE_stop
           intro w33 hS
           replace hs := hs.up hS; replace hM1 := hM1.up hS; replace hX2 := hX2.mono hS; replace hX3 := hX3.mono hS; replace hM3 := hM3.up hS; replace hbw := btr hbw hS; replace zz := Nat.le_trans zz (Below.size hS); replace hacc := btr hacc hS
           obtain ⟨⟨d30, d30f⟩, ⟨d31, d31f⟩, ⟨d20, d20f⟩, -⟩ := id hs
           refine ⟨(w33.setCell ⟨b2, 0, none⟩ (.slice p3 (cnew).length cap3)), (by go_simp; try with_reducible rfl), (fun x => Below ((w33.setCell ⟨b2, 0, none⟩ (.slice p3 (cnew).length cap3))).heap.size ((w33.setCell ⟨b2, 0, none⟩ (.slice p3 (cnew).length cap3))) x), Below.refl _ _, ?_⟩
           obtain ⟨v33, hw⟩ : ∃ zW, zW = (w33.setCell ⟨b2, 0, none⟩ (.slice p3 (cnew).length cap3)) := ⟨_, rfl⟩
           rw [← hw]
           replace hs : Cells v33 [(b3, 0, .int .i64 0), (b3, 1, .slice none 0 0), (b2, 0, .slice p3 (cnew).length cap3)] := by rw [hw]; exact ⟨⟨by go_cell, (fz d30f)⟩, ⟨by go_cell, (fz d31f)⟩, ⟨by go_cell, (fz d20f)⟩, trivial⟩
           replace hM1 : MxAt v33 q1 cq1 (hChain) := by rw [hw]; exact hM1.box d20 _
           replace hX2 : CAt v33 p2 cap2 cnew := by rw [hw]; exact hX2.box d20 _
           replace hX3 : CAt v33 p3 cap3 (cnew) := by rw [hw]; exact hX3.box d20 _
           replace hM3 : MxAt v33 y3 cy3 (hWant) := by rw [hw]; exact hM3.box d20 _
           replace hbw : Below w.heap.size w v33 := by rw [hw]; exact (Below.setCell hbw (by have h := HS.out; (try dsimp only); omega) _)
           replace hacc : Below wc.heap.size wc v33 := by rw [hw]; exact (Below.setCell hacc (by have h := HS.out; (try dsimp only); omega) _)
           replace zz : s + 0 ≤ v33.heap.size := by rw [hw]; simpa using zz
           clear hw
           clear d30 d30f d31 d31f d20 d20f
           clear hS
           (try simp only [Act.put, List.setIfInBounds_toArray, List.set_cons_zero, List.set_cons_succ])
           refine seqE_storeB rfl (by rfl) ?_ seqE_stop
           intro w34 hS
           replace hs := hs.up hS; replace hM1 := hM1.up hS; replace hX2 := hX2.mono hS; replace hX3 := hX3.mono hS; replace hM3 := hM3.up hS; replace hbw := btr hbw hS; replace zz := Nat.le_trans zz (Below.size hS); replace hacc := btr hacc hS
           obtain ⟨⟨d30, d30f⟩, ⟨d31, d31f⟩, ⟨d20, d20f⟩, -⟩ := id hs
           refine ⟨((w34.setCell ⟨b3, 0, none⟩ (.int .i64 2)).setCell ⟨b3, 1, none⟩ (.slice y3 (hWant).length cy3)), (by go_simp; try with_reducible rfl), (fun x => Below (((w34.setCell ⟨b3, 0, none⟩ (.int .i64 2)).setCell ⟨b3, 1, none⟩ (.slice y3 (hWant).length cy3))).heap.size (((w34.setCell ⟨b3, 0, none⟩ (.int .i64 2)).setCell ⟨b3, 1, none⟩ (.slice y3 (hWant).length cy3))) x), Below.refl _ _, ?_⟩
           obtain ⟨v34, hw⟩ : ∃ zW, zW = ((w34.setCell ⟨b3, 0, none⟩ (.int .i64 2)).setCell ⟨b3, 1, none⟩ (.slice y3 (hWant).length cy3)) := ⟨_, rfl⟩
           rw [← hw]
           replace hs : Cells v34 [(b3, 0, .int .i64 2), (b3, 1, .slice y3 (hWant).length cy3), (b2, 0, .slice p3 (cnew).length cap3)] := by rw [hw]; exact ⟨⟨by go_cell, (fz (fz d30f))⟩, ⟨by go_cell, (fz (fz d31f))⟩, ⟨by go_cell, (fz (fz d20f))⟩, trivial⟩
           replace hM1 : MxAt v34 q1 cq1 (hChain) := by rw [hw]; exact hM1.boxM d31 _ _
           replace hX2 : CAt v34 p2 cap2 cnew := by rw [hw]; exact hX2.boxM d31 _ _
           replace hX3 : CAt v34 p3 cap3 (cnew) := by rw [hw]; exact hX3.boxM d31 _ _
           replace hM3 : MxAt v34 y3 cy3 (hWant) := by rw [hw]; exact hM3.boxM d31 _ _
           replace hbw : Below w.heap.size w v34 := by rw [hw]; exact (Below.setCell (Below.setCell hbw (by have h := HS.out; (try dsimp only); omega) _) (by have h := HS.out; (try dsimp only); omega) _)
           replace hacc : Below wc.heap.size wc v34 := by rw [hw]; exact (Below.setCell (Below.setCell hacc (by have h := HS.out; (try dsimp only); omega) _) (by have h := HS.out; (try dsimp only); omega) _)
           replace zz : s + 0 ≤ v34.heap.size := by rw [hw]; simpa using zz
           clear hw
           clear d30 d30f d31 d31f d20 d20f
           clear hS
           (try simp only [Act.put, List.setIfInBounds_toArray, List.set_cons_zero, List.set_cons_succ])
           refine seqE_nil ?_
           intro wz hS
           replace hs := hs.up hS; replace hM1 := hM1.up hS; replace hX2 := hX2.mono hS; replace hX3 := hX3.mono hS; replace hM3 := hM3.up hS; replace hbw := btr hbw hS; replace zz := Nat.le_trans zz (Below.size hS); replace hacc := btr hacc hS; clear hS
           obtain ⟨⟨d30, d30f⟩, ⟨d31, d31f⟩, ⟨d20, d20f⟩, -⟩ := id hs
           go_wp2_with fail
           go_meet
           exact ⟨⟨_, _, rfl, rfl, Bx.at hX3 d20 d20f, ⟨_, _, ⟨⟨d30, d30f⟩, ⟨d31, d31f⟩, trivial⟩, hM3⟩⟩, hacc⟩
          refine seqE_move rfl (by rfl) ?_ seqE_stop
          intro w35 hS
          refine ⟨.pointer (some ⟨w35.heap.size, 0, none⟩), w35.alloc (.cells #[.int .i64 0, .slice none 0 0] 30), (by go_simp; try with_reducible rfl), ?_⟩
          obtain ⟨b3, hb3⟩ : ∃ b, b = w35.heap.size := ⟨_, rfl⟩
          obtain ⟨v35, hw35⟩ : ∃ zW, zW = w35.alloc (.cells #[.int .i64 0, .slice none 0 0] 30) := ⟨_, rfl⟩
          rw [← hw35, ← hb3]
          have hbl : Below w35.heap.size w35 v35 := by rw [hw35]; go_grown
          have hge3 : s + 0 ≤ b3 := by rw [hb3]; exact Nat.le_trans zz hS.size
          have hga3 : wc.heap.size ≤ b3 := by rw [hb3]; exact Nat.le_trans hacc.size hS.size
          have hlb2_3 : b2 < b3 := by rw [hb3]; exact Nat.lt_of_lt_of_le (World.block_lt_of_cell? _ _ hs.1.1) hS.size
          refine ⟨(fun x => Below v35.heap.size v35 x), Below.refl _ _, fun x hx => btr (btr hS hbl) hx, ?_⟩
          have hX := btr hS hbl
          replace hs := hs.up hX; replace hM1 := hM1.up hX; replace hX2 := hX2.mono hX; replace hbw := btr hbw hX; replace zz := Nat.le_trans zz (Below.size hX); replace hacc := btr hacc hX
          replace hs : Cells v35 [(b3, 0, .int .i64 0), (b3, 1, .slice none 0 0), (b2, 0, .slice none 0 0)] := ⟨⟨by rw [hw35, hb3]; go_cell, by rw [hw35, hb3]; go_cell⟩, ⟨by rw [hw35, hb3]; go_cell, by rw [hw35, hb3]; go_cell⟩, hs⟩
          clear hX hS hbl hw35 hb3
          (try simp only [Act.put, List.setIfInBounds_toArray, List.set_cons_zero, List.set_cons_succ])
          refine seqE_callB (f := ?_) (args := ?_) rfl (by rfl) ?_ ?_ seqE_stop
          rotate_left 2
          focus (intro w hS; go_simp; first | done | with_reducible rfl | (refine ⟨?_, ?_⟩ <;> with_reducible rfl))
          intro w36 hS
          refine (squaring_is (hX2.mono hS) (hM1.up hS) (Below.refl _ _) (by omega) (by omega) h15_good (by rw [cnew_len]; omega) h15_mok h15_sq).mono ?_
          rintro e v36 ⟨p3, cap3, y3, cy3, rfl, hX3, hM3, hbl⟩
          refine ⟨_, rfl, (fun x => Below v36.heap.size v36 x), Below.refl _ _, ?_⟩
          have hXw := Nat.le_trans zz hS.size; have hXa := Nat.le_trans hacc.size hS.size
          have hX := btr hS hbl
          replace hs := hs.up hX; replace hM1 := hM1.up hX; replace hX2 := hX2.mono hX; replace hbw := btr hbw hX; replace zz := Nat.le_trans zz (Below.size hX); replace hacc := btr hacc hX
          clear hX hS hbl hXw hXa
          (try simp only [Act.put, List.setIfInBounds_toArray, List.set_cons_zero, List.set_cons_succ])
          iterate 3 (refine seqE_free (v := ?_) rfl (by rfl) ?_ ?_; rotate_left; (focus (intro w; go_simp; try with_reducible rfl)); (try simp only [Act.put, List.setIfInBounds_toArray, List.set_cons_zero, List.set_cons_succ]))
          refine seqE_storeB rfl (by rfl) ?_ seqE_stop
          intro w37 hS
          replace hs := hs.up hS; replace hM1 := hM1.up hS; replace hX2 := hX2.mono hS; replace hX3 := hX3.mono hS; replace hM3 := hM3.up hS; replace hbw := btr hbw hS; replace zz := Nat.le_trans zz (Below.size hS); replace hacc := btr hacc hS
          obtain ⟨⟨d30, d30f⟩, ⟨d31, d31f⟩, ⟨d20, d20f⟩, -⟩ := id hs
          refine ⟨(w37.setCell ⟨b2, 0, none⟩ (.slice p3 (cnew).length cap3)), (by go_simp; try with_reducible rfl), (fun x => Below ((w37.setCell ⟨b2, 0, none⟩ (.slice p3 (cnew).length cap3))).heap.size ((w37.setCell ⟨b2, 0, none⟩ (.slice p3 (cnew).length cap3))) x), Below.refl _ _, ?_⟩
          obtain ⟨v37, hw⟩ : ∃ zW, zW = (w37.setCell ⟨b2, 0, none⟩ (.slice p3 (cnew).length cap3)) := ⟨_, rfl⟩
          rw [← hw]
          replace hs : Cells v37 [(b3, 0, .int .i64 0), (b3, 1, .slice none 0 0), (b2, 0, .slice p3 (cnew).length cap3)] := by rw [hw]; exact ⟨⟨by go_cell, (fz d30f)⟩, ⟨by go_cell, (fz d31f)⟩, ⟨by go_cell, (fz d20f)⟩, trivial⟩
          replace hM1 : MxAt v37 q1 cq1 (hChain) := by rw [hw]; exact hM1.box d20 _
          replace hX2 : CAt v37 p2 cap2 cnew := by rw [hw]; exact hX2.box d20 _
          replace hX3 : CAt v37 p3 cap3 (cnew) := by rw [hw]; exact hX3.box d20 _
          replace hM3 : MxAt v37 y3 cy3 (hWant) := by rw [hw]; exact hM3.box d20 _
          replace hbw : Below w.heap.size w v37 := by rw [hw]; exact (Below.setCell hbw (by have h := HS.out; (try dsimp only); omega) _)
          replace hacc : Below wc.heap.size wc v37 := by rw [hw]; exact (Below.setCell hacc (by have h := HS.out; (try dsimp only); omega) _)
          replace zz : s + 0 ≤ v37.heap.size := by rw [hw]; simpa using zz
          clear hw
          clear d30 d30f d31 d31f d20 d20f
          clear hS
          (try simp only [Act.put, List.setIfInBounds_toArray, List.set_cons_zero, List.set_cons_succ])
          refine seqE_storeB rfl (by rfl) ?_ seqE_stop
          intro w38 hS
          replace hs := hs.up hS; replace hM1 := hM1.up hS; replace hX2 := hX2.mono hS; replace hX3 := hX3.mono hS; replace hM3 := hM3.up hS; replace hbw := btr hbw hS; replace zz := Nat.le_trans zz (Below.size hS); replace hacc := btr hacc hS
          obtain ⟨⟨d30, d30f⟩, ⟨d31, d31f⟩, ⟨d20, d20f⟩, -⟩ := id hs
          refine ⟨((w38.setCell ⟨b3, 0, none⟩ (.int .i64 2)).setCell ⟨b3, 1, none⟩ (.slice y3 (hWant).length cy3)), (by go_simp; try with_reducible rfl), (fun x => Below (((w38.setCell ⟨b3, 0, none⟩ (.int .i64 2)).setCell ⟨b3, 1, none⟩ (.slice y3 (hWant).length cy3))).heap.size (((w38.setCell ⟨b3, 0, none⟩ (.int .i64 2)).setCell ⟨b3, 1, none⟩ (.slice y3 (hWant).length cy3))) x), Below.refl _ _, ?_⟩
          obtain ⟨v38, hw⟩ : ∃ zW, zW = ((w38.setCell ⟨b3, 0, none⟩ (.int .i64 2)).setCell ⟨b3, 1, none⟩ (.slice y3 (hWant).length cy3)) := ⟨_, rfl⟩
          rw [← hw]
          replace hs : Cells v38 [(b3, 0, .int .i64 2), (b3, 1, .slice y3 (hWant).length cy3), (b2, 0, .slice p3 (cnew).length cap3)] := by rw [hw]; exact ⟨⟨by go_cell, (fz (fz d30f))⟩, ⟨by go_cell, (fz (fz d31f))⟩, ⟨by go_cell, (fz (fz d20f))⟩, trivial⟩
          replace hM1 : MxAt v38 q1 cq1 (hChain) := by rw [hw]; exact hM1.boxM d31 _ _
          replace hX2 : CAt v38 p2 cap2 cnew := by rw [hw]; exact hX2.boxM d31 _ _
          replace hX3 : CAt v38 p3 cap3 (cnew) := by rw [hw]; exact hX3.boxM d31 _ _
          replace hM3 : MxAt v38 y3 cy3 (hWant) := by rw [hw]; exact hM3.boxM d31 _ _
          replace hbw : Below w.heap.size w v38 := by rw [hw]; exact (Below.setCell (Below.setCell hbw (by have h := HS.out; (try dsimp only); omega) _) (by have h := HS.out; (try dsimp only); omega) _)
          replace hacc : Below wc.heap.size wc v38 := by rw [hw]; exact (Below.setCell (Below.setCell hacc (by have h := HS.out; (try dsimp only); omega) _) (by have h := HS.out; (try dsimp only); omega) _)
          replace zz : s + 0 ≤ v38.heap.size := by rw [hw]; simpa using zz
          clear hw
          clear d30 d30f d31 d31f d20 d20f
          clear hS
          (try simp only [Act.put, List.setIfInBounds_toArray, List.set_cons_zero, List.set_cons_succ])
          refine seqE_nil ?_
          intro wz hS
          replace hs := hs.up hS; replace hM1 := hM1.up hS; replace hX2 := hX2.mono hS; replace hX3 := hX3.mono hS; replace hM3 := hM3.up hS; replace hbw := btr hbw hS; replace zz := Nat.le_trans zz (Below.size hS); replace hacc := btr hacc hS; clear hS
          obtain ⟨⟨d30, d30f⟩, ⟨d31, d31f⟩, ⟨d20, d20f⟩, -⟩ := id hs
          go_wp2_with fail
          go_meet
          exact ⟨⟨_, _, rfl, rfl, Bx.at hX3 d20 d20f, ⟨_, _, ⟨⟨d30, d30f⟩, ⟨d31, d31f⟩, trivial⟩, hM3⟩⟩, hacc⟩
         refine seqE_move rfl (by rfl) ?_ seqE_stop
         intro w39 hS
         refine ⟨.pointer (some ⟨w39.heap.size, 0, none⟩), w39.alloc (.cells #[.int .i64 0, .slice none 0 0] 30), (by go_simp; try with_reducible rfl), ?_⟩
         obtain ⟨b3, hb3⟩ : ∃ b, b = w39.heap.size := ⟨_, rfl⟩
         obtain ⟨v39, hw39⟩ : ∃ zW, zW = w39.alloc (.cells #[.int .i64 0, .slice none 0 0] 30) := ⟨_, rfl⟩
         rw [← hw39, ← hb3]
         have hbl : Below w39.heap.size w39 v39 := by rw [hw39]; go_grown
         have hge3 : s + 0 ≤ b3 := by rw [hb3]; exact Nat.le_trans zz hS.size
         have hga3 : wc.heap.size ≤ b3 := by rw [hb3]; exact Nat.le_trans hacc.size hS.size
         have hlb2_3 : b2 < b3 := by rw [hb3]; exact Nat.lt_of_lt_of_le (World.block_lt_of_cell? _ _ hs.1.1) hS.size
         refine ⟨(fun x => Below v39.heap.size v39 x), Below.refl _ _, fun x hx => btr (btr hS hbl) hx, ?_⟩
         have hX := btr hS hbl
         replace hs := hs.up hX; replace hM1 := hM1.up hX; replace hbw := btr hbw hX; replace zz := Nat.le_trans zz (Below.size hX); replace hacc := btr hacc hX
         replace hs : Cells v39 [(b3, 0, .int .i64 0), (b3, 1, .slice none 0 0), (b2, 0, .slice none 0 0)] := ⟨⟨by rw [hw39, hb3]; go_cell, by rw [hw39, hb3]; go_cell⟩, ⟨by rw [hw39, hb3]; go_cell, by rw [hw39, hb3]; go_cell⟩, hs⟩
         clear hX hS hbl hw39 hb3
         (try simp only [Act.put, List.setIfInBounds_toArray, List.set_cons_zero, List.set_cons_succ])
         refine seqE_call (f := ?_) (args := ?_) rfl (by rfl) ?_ ?_ seqE_stop
         rotate_left 2
         focus (intro w hS; go_simp; first | done | with_reducible rfl | (refine ⟨?_, ?_⟩ <;> with_reducible rfl))
         intro w40 hS
         refine (rnew_is w40).mono ?_
         rintro e v40 ⟨p2, cap2, rfl, hX2, hbl⟩
         refine ⟨_, rfl, (fun x => Below v40.heap.size v40 x), Below.refl _ _, fun x hx => btr (btr hS hbl) hx, ?_⟩
         have hXw := Nat.le_trans zz hS.size; have hXa := Nat.le_trans hacc.size hS.size
         have hX := btr hS hbl
         replace hs := hs.up hX; replace hM1 := hM1.up hX; replace hbw := btr hbw hX; replace zz := Nat.le_trans zz (Below.size hX); replace hacc := btr hacc hX
         clear hX hS hbl hXw hXa
         (try simp only [Act.put, List.setIfInBounds_toArray, List.set_cons_zero, List.set_cons_succ])
         refine seqE_callB (f := ?_) (args := ?_) rfl (by rfl) ?_ ?_ seqE_stop
         rotate_left 2
         focus (intro w hS; go_simp; first | done | with_reducible rfl | (refine ⟨?_, ?_⟩ <;> with_reducible rfl))
         intro w41 hS
         refine (squaring_is (hX2.mono hS) (hM1.up hS) (Below.refl _ _) (by omega) (by omega) h15_good (by rw [cnew_len]; omega) h15_mok h15_sq).mono ?_
         rintro e v41 ⟨p3, cap3, y3, cy3, rfl, hX3, hM3, hbl⟩
         refine ⟨_, rfl, (fun x => Below v41.heap.size v41 x), Below.refl _ _, ?_⟩
         have hXw := Nat.le_trans zz hS.size; have hXa := Nat.le_trans hacc.size hS.size
         have hX := btr hS hbl
         replace hs := hs.up hX; replace hM1 := hM1.up hX; replace hX2 := hX2.mono hX; replace hbw := btr hbw hX; replace zz := Nat.le_trans zz (Below.size hX); replace hacc := btr hacc hX
         clear hX hS hbl hXw hXa
         (try simp only [Act.put, List.setIfInBounds_toArray, List.set_cons_zero, List.set_cons_succ])
         iterate 3 (refine seqE_free (v := ?_) rfl (by rfl) ?_ ?_; rotate_left; (focus (intro w; go_simp; try with_reducible rfl)); (try simp only [Act.put, List.setIfInBounds_toArray, List.set_cons_zero, List.set_cons_succ]))
         refine seqE_storeB rfl (by rfl) ?_ seqE_stop
         intro w42 hS
         replace hs := hs.up hS; replace hM1 := hM1.up hS; replace hX2 := hX2.mono hS; replace hX3 := hX3.mono hS; replace hM3 := hM3.up hS; replace hbw := btr hbw hS; replace zz := Nat.le_trans zz (Below.size hS); replace hacc := btr hacc hS
         obtain ⟨⟨d30, d30f⟩, ⟨d31, d31f⟩, ⟨d20, d20f⟩, -⟩ := id hs
         refine ⟨(w42.setCell ⟨b2, 0, none⟩ (.slice p3 (cnew).length cap3)), (by go_simp; try with_reducible rfl), (fun x => Below ((w42.setCell ⟨b2, 0, none⟩ (.slice p3 (cnew).length cap3))).heap.size ((w42.setCell ⟨b2, 0, none⟩ (.slice p3 (cnew).length cap3))) x), Below.refl _ _, ?_⟩
         obtain ⟨v42, hw⟩ : ∃ zW, zW = (w42.setCell ⟨b2, 0, none⟩ (.slice p3 (cnew).length cap3)) := ⟨_, rfl⟩
         rw [← hw]
         replace hs : Cells v42 [(b3, 0, .int .i64 0), (b3, 1, .slice none 0 0), (b2, 0, .slice p3 (cnew).length cap3)] := by rw [hw]; exact ⟨⟨by go_cell, (fz d30f)⟩, ⟨by go_cell, (fz d31f)⟩, ⟨by go_cell, (fz d20f)⟩, trivial⟩
         replace hM1 : MxAt v42 q1 cq1 (hChain) := by rw [hw]; exact hM1.box d20 _
         replace hX2 : CAt v42 p2 cap2 cnew := by rw [hw]; exact hX2.box d20 _
         replace hX3 : CAt v42 p3 cap3 (cnew) := by rw [hw]; exact hX3.box d20 _
         replace hM3 : MxAt v42 y3 cy3 (hWant) := by rw [hw]; exact hM3.box d20 _
         replace hbw : Below w.heap.size w v42 := by rw [hw]; exact (Below.setCell hbw (by have h := HS.out; (try dsimp only); omega) _)
         replace hacc : Below wc.heap.size wc v42 := by rw [hw]; exact (Below.setCell hacc (by have h := HS.out; (try dsimp only); omega) _)
         replace zz : s + 0 ≤ v42.heap.size := by rw [hw]; simpa using zz
         clear hw
         clear d30 d30f d31 d31f d20 d20f
         clear hS
         (try simp only [Act.put, List.setIfInBounds_toArray, List.set_cons_zero, List.set_cons_succ])
         refine seqE_storeB rfl (by rfl) ?_ seqE_stop
         intro w43 hS
         replace hs := hs.up hS; replace hM1 := hM1.up hS; replace hX2 := hX2.mono hS; replace hX3 := hX3.mono hS; replace hM3 := hM3.up hS; replace hbw := btr hbw hS; replace zz := Nat.le_trans zz (Below.size hS); replace hacc := btr hacc hS
         obtain ⟨⟨d30, d30f⟩, ⟨d31, d31f⟩, ⟨d20, d20f⟩, -⟩ := id hs
         refine ⟨((w43.setCell ⟨b3, 0, none⟩ (.int .i64 2)).setCell ⟨b3, 1, none⟩ (.slice y3 (hWant).length cy3)), (by go_simp; try with_reducible rfl), (fun x => Below (((w43.setCell ⟨b3, 0, none⟩ (.int .i64 2)).setCell ⟨b3, 1, none⟩ (.slice y3 (hWant).length cy3))).heap.size (((w43.setCell ⟨b3, 0, none⟩ (.int .i64 2)).setCell ⟨b3, 1, none⟩ (.slice y3 (hWant).length cy3))) x), Below.refl _ _, ?_⟩
         obtain ⟨v43, hw⟩ : ∃ zW, zW = ((w43.setCell ⟨b3, 0, none⟩ (.int .i64 2)).setCell ⟨b3, 1, none⟩ (.slice y3 (hWant).length cy3)) := ⟨_, rfl⟩
         rw [← hw]
         replace hs : Cells v43 [(b3, 0, .int .i64 2), (b3, 1, .slice y3 (hWant).length cy3), (b2, 0, .slice p3 (cnew).length cap3)] := by rw [hw]; exact ⟨⟨by go_cell, (fz (fz d30f))⟩, ⟨by go_cell, (fz (fz d31f))⟩, ⟨by go_cell, (fz (fz d20f))⟩, trivial⟩
         replace hM1 : MxAt v43 q1 cq1 (hChain) := by rw [hw]; exact hM1.boxM d31 _ _
         replace hX2 : CAt v43 p2 cap2 cnew := by rw [hw]; exact hX2.boxM d31 _ _
         replace hX3 : CAt v43 p3 cap3 (cnew) := by rw [hw]; exact hX3.boxM d31 _ _
         replace hM3 : MxAt v43 y3 cy3 (hWant) := by rw [hw]; exact hM3.boxM d31 _ _
         replace hbw : Below w.heap.size w v43 := by rw [hw]; exact (Below.setCell (Below.setCell hbw (by have h := HS.out; (try dsimp only); omega) _) (by have h := HS.out; (try dsimp only); omega) _)
         replace hacc : Below wc.heap.size wc v43 := by rw [hw]; exact (Below.setCell (Below.setCell hacc (by have h := HS.out; (try dsimp only); omega) _) (by have h := HS.out; (try dsimp only); omega) _)
         replace zz : s + 0 ≤ v43.heap.size := by rw [hw]; simpa using zz
         clear hw
         clear d30 d30f d31 d31f d20 d20f
         clear hS
         (try simp only [Act.put, List.setIfInBounds_toArray, List.set_cons_zero, List.set_cons_succ])
         refine seqE_nil ?_
         intro wz hS
         replace hs := hs.up hS; replace hM1 := hM1.up hS; replace hX2 := hX2.mono hS; replace hX3 := hX3.mono hS; replace hM3 := hM3.up hS; replace hbw := btr hbw hS; replace zz := Nat.le_trans zz (Below.size hS); replace hacc := btr hacc hS; clear hS
         obtain ⟨⟨d30, d30f⟩, ⟨d31, d31f⟩, ⟨d20, d20f⟩, -⟩ := id hs
         go_wp2_with fail
         go_meet
         exact ⟨⟨_, _, rfl, rfl, Bx.at hX3 d20 d20f, ⟨_, _, ⟨⟨d30, d30f⟩, ⟨d31, d31f⟩, trivial⟩, hM3⟩⟩, hacc⟩
        refine seqE_move rfl (by rfl) ?_ seqE_stop
        intro w44 hS
        refine ⟨.pointer (some ⟨w44.heap.size, 0, none⟩), w44.alloc (.cells #[.int .i64 0, .slice none 0 0] 30), (by go_simp; try with_reducible rfl), ?_⟩
        obtain ⟨b3, hb3⟩ : ∃ b, b = w44.heap.size := ⟨_, rfl⟩
        obtain ⟨v44, hw44⟩ : ∃ zW, zW = w44.alloc (.cells #[.int .i64 0, .slice none 0 0] 30) := ⟨_, rfl⟩
        rw [← hw44, ← hb3]
        have hbl : Below w44.heap.size w44 v44 := by rw [hw44]; go_grown
        have hge3 : s + 0 ≤ b3 := by rw [hb3]; exact Nat.le_trans zz hS.size
        have hga3 : wc.heap.size ≤ b3 := by rw [hb3]; exact Nat.le_trans hacc.size hS.size
        refine ⟨(fun x => Below v44.heap.size v44 x), Below.refl _ _, fun x hx => btr (btr hS hbl) hx, ?_⟩
        have hX := btr hS hbl
        replace hM1 := hM1.up hX; replace hbw := btr hbw hX; replace zz := Nat.le_trans zz (Below.size hX); replace hacc := btr hacc hX
        have hs : Cells v44 [(b3, 0, .int .i64 0), (b3, 1, .slice none 0 0)] := ⟨⟨by rw [hw44, hb3]; go_cell, by rw [hw44, hb3]; go_cell⟩, ⟨by rw [hw44, hb3]; go_cell, by rw [hw44, hb3]; go_cell⟩, trivial⟩
        clear hX hS hbl hw44 hb3
        (try simp only [Act.put, List.setIfInBounds_toArray, List.set_cons_zero, List.set_cons_succ])
        refine seqE_call (f := ?_) (args := ?_) rfl (by rfl) ?_ ?_ ?_
        rotate_left 2
        focus (intro w hS; go_simp; first | done | with_reducible rfl | (refine ⟨?_, ?_⟩ <;> with_reducible rfl))
        ·
         intro w45 hS
         refine (rnew_is w45).mono ?_
         rintro e v45 ⟨p2, cap2, rfl, hX2, hbl⟩
         refine ⟨_, rfl, (fun x => Below v45.heap.size v45 x), Below.refl _ _, fun x hx => btr (btr hS hbl) hx, ?_⟩
         have hXw := Nat.le_trans zz hS.size; have hXa := Nat.le_trans hacc.size hS.size
         have hX := btr hS hbl
         replace hs := hs.up hX; replace hM1 := hM1.up hX; replace hbw := btr hbw hX; replace zz := Nat.le_trans zz (Below.size hX); replace hacc := btr hacc hX
         clear hX hS hbl hXw hXa
         (try simp only [Act.put, List.setIfInBounds_toArray, List.set_cons_zero, List.set_cons_succ])
         refine seqE_callB (f := ?_) (args := ?_) rfl (by rfl) ?_ ?_ ?_
         rotate_left 2
         focus (intro w hS; go_simp; first | done | with_reducible rfl | (refine ⟨?_, ?_⟩ <;> with_reducible rfl))
         ·
          intro w46 hS
          refine (squaring_is (hX2.mono hS) (hM1.up hS) (Below.refl _ _) (by omega) (by omega) h15_good (by rw [cnew_len]; omega) h15_mok h15_sq).mono ?_
          rintro e v46 ⟨p3, cap3, y3, cy3, rfl, hX3, hM3, hbl⟩
          refine ⟨_, rfl, (fun x => Below v46.heap.size v46 x), Below.refl _ _, ?_⟩
          have hXw := Nat.le_trans zz hS.size; have hXa := Nat.le_trans hacc.size hS.size
          have hX := btr hS hbl
          replace hs := hs.up hX; replace hM1 := hM1.up hX; replace hX2 := hX2.mono hX; replace hbw := btr hbw hX; replace zz := Nat.le_trans zz (Below.size hX); replace hacc := btr hacc hX
          clear hX hS hbl hXw hXa
          (try simp only [Act.put, List.setIfInBounds_toArray, List.set_cons_zero, List.set_cons_succ])
          iterate 3 (refine seqE_free (v := ?_) rfl (by rfl) ?_ ?_; rotate_left; (focus (intro w; go_simp; try with_reducible rfl)); (try simp only [Act.put, List.setIfInBounds_toArray, List.set_cons_zero, List.set_cons_succ]))
          refine seqE_move rfl (by rfl) ?_ seqE_stop
          intro w47 hS
          refine ⟨.pointer (some ⟨w47.heap.size, 0, none⟩), w47.alloc (.cells #[.slice none 0 0] 27), (by go_simp; try with_reducible rfl), ?_⟩
          obtain ⟨b2, hb2⟩ : ∃ b, b = w47.heap.size := ⟨_, rfl⟩
          obtain ⟨v47, hw47⟩ : ∃ zW, zW = w47.alloc (.cells #[.slice none 0 0] 27) := ⟨_, rfl⟩
          rw [← hw47, ← hb2]
          have hbl : Below w47.heap.size w47 v47 := by rw [hw47]; go_grown
          have hge2 : s + 0 ≤ b2 := by rw [hb2]; exact Nat.le_trans zz hS.size
          have hga2 : wc.heap.size ≤ b2 := by rw [hb2]; exact Nat.le_trans hacc.size hS.size
          have hlb3_2 : b3 < b2 := by rw [hb2]; exact Nat.lt_of_lt_of_le (World.block_lt_of_cell? _ _ hs.1.1) hS.size
          refine ⟨(fun x => Below v47.heap.size v47 x), Below.refl _ _, fun x hx => btr (btr hS hbl) hx, ?_⟩
          have hX := btr hS hbl
          replace hs := hs.up hX; replace hM1 := hM1.up hX; replace hX2 := hX2.mono hX; replace hX3 := hX3.mono hX; replace hM3 := hM3.up hX; replace hbw := btr hbw hX; replace zz := Nat.le_trans zz (Below.size hX); replace hacc := btr hacc hX
          replace hs : Cells v47 [(b2, 0, .slice none 0 0), (b3, 0, .int .i64 0), (b3, 1, .slice none 0 0)] := ⟨⟨by rw [hw47, hb2]; go_cell, by rw [hw47, hb2]; go_cell⟩, hs⟩
          clear hX hS hbl hw47 hb2
          (try simp only [Act.put, List.setIfInBounds_toArray, List.set_cons_zero, List.set_cons_succ])
          refine seqE_storeB rfl (by rfl) ?_ seqE_stop
          intro w48 hS
          replace hs := hs.up hS; replace hM1 := hM1.up hS; replace hX2 := hX2.mono hS; replace hX3 := hX3.mono hS; replace hM3 := hM3.up hS; replace hbw := btr hbw hS; replace zz := Nat.le_trans zz (Below.size hS); replace hacc := btr hacc hS
          obtain ⟨⟨d20, d20f⟩, ⟨d30, d30f⟩, ⟨d31, d31f⟩, -⟩ := id hs
          refine ⟨(w48.setCell ⟨b2, 0, none⟩ (.slice p3 (cnew).length cap3)), (by go_simp; try with_reducible rfl), (fun x => Below ((w48.setCell ⟨b2, 0, none⟩ (.slice p3 (cnew).length cap3))).heap.size ((w48.setCell ⟨b2, 0, none⟩ (.slice p3 (cnew).length cap3))) x), Below.refl _ _, ?_⟩
          obtain ⟨v48, hw⟩ : ∃ zW, zW = (w48.setCell ⟨b2, 0, none⟩ (.slice p3 (cnew).length cap3)) := ⟨_, rfl⟩
          rw [← hw]
          replace hs : Cells v48 [(b2, 0, .slice p3 (cnew).length cap3), (b3, 0, .int .i64 0), (b3, 1, .slice none 0 0)] := by rw [hw]; exact ⟨⟨by go_cell, (fz d20f)⟩, ⟨by go_cell, (fz d30f)⟩, ⟨by go_cell, (fz d31f)⟩, trivial⟩
          replace hM1 : MxAt v48 q1 cq1 (hChain) := by rw [hw]; exact hM1.box d20 _
          replace hX2 : CAt v48 p2 cap2 cnew := by rw [hw]; exact hX2.box d20 _
          replace hX3 : CAt v48 p3 cap3 (cnew) := by rw [hw]; exact hX3.box d20 _
          replace hM3 : MxAt v48 y3 cy3 (hWant) := by rw [hw]; exact hM3.box d20 _
          replace hbw : Below w.heap.size w v48 := by rw [hw]; exact (Below.setCell hbw (by have h := HS.out; (try dsimp only); omega) _)
          replace hacc : Below wc.heap.size wc v48 := by rw [hw]; exact (Below.setCell hacc (by have h := HS.out; (try dsimp only); omega) _)
          replace zz : s + 0 ≤ v48.heap.size := by rw [hw]; simpa using zz
          clear hw
          clear d20 d20f d30 d30f d31 d31f
          clear hS
          (try simp only [Act.put, List.setIfInBounds_toArray, List.set_cons_zero, List.set_cons_succ])
          refine seqE_storeB rfl (by rfl) ?_ seqE_stop
          intro w49 hS
          replace hs := hs.up hS; replace hM1 := hM1.up hS; replace hX2 := hX2.mono hS; replace hX3 := hX3.mono hS; replace hM3 := hM3.up hS; replace hbw := btr hbw hS; replace zz := Nat.le_trans zz (Below.size hS); replace hacc := btr hacc hS
          obtain ⟨⟨d20, d20f⟩, ⟨d30, d30f⟩, ⟨d31, d31f⟩, -⟩ := id hs
          refine ⟨((w49.setCell ⟨b3, 0, none⟩ (.int .i64 2)).setCell ⟨b3, 1, none⟩ (.slice y3 (hWant).length cy3)), (by go_simp; try with_reducible rfl), (fun x => Below (((w49.setCell ⟨b3, 0, none⟩ (.int .i64 2)).setCell ⟨b3, 1, none⟩ (.slice y3 (hWant).length cy3))).heap.size (((w49.setCell ⟨b3, 0, none⟩ (.int .i64 2)).setCell ⟨b3, 1, none⟩ (.slice y3 (hWant).length cy3))) x), Below.refl _ _, ?_⟩
          obtain ⟨v49, hw⟩ : ∃ zW, zW = ((w49.setCell ⟨b3, 0, none⟩ (.int .i64 2)).setCell ⟨b3, 1, none⟩ (.slice y3 (hWant).length cy3)) := ⟨_, rfl⟩
          rw [← hw]
          replace hs : Cells v49 [(b2, 0, .slice p3 (cnew).length cap3), (b3, 0, .int .i64 2), (b3, 1, .slice y3 (hWant).length cy3)] := by rw [hw]; exact ⟨⟨by go_cell, (fz (fz d20f))⟩, ⟨by go_cell, (fz (fz d30f))⟩, ⟨by go_cell, (fz (fz d31f))⟩, trivial⟩
          replace hM1 : MxAt v49 q1 cq1 (hChain) := by rw [hw]; exact hM1.boxM d31 _ _
          replace hX2 : CAt v49 p2 cap2 cnew := by rw [hw]; exact hX2.boxM d31 _ _
          replace hX3 : CAt v49 p3 cap3 (cnew) := by rw [hw]; exact hX3.boxM d31 _ _
          replace hM3 : MxAt v49 y3 cy3 (hWant) := by rw [hw]; exact hM3.boxM d31 _ _
          replace hbw : Below w.heap.size w v49 := by rw [hw]; exact (Below.setCell (Below.setCell hbw (by have h := HS.out; (try dsimp only); omega) _) (by have h := HS.out; (try dsimp only); omega) _)
          replace hacc : Below wc.heap.size wc v49 := by rw [hw]; exact (Below.setCell (Below.setCell hacc (by have h := HS.out; (try dsimp only); omega) _) (by have h := HS.out; (try dsimp only); omega) _)
          replace zz : s + 0 ≤ v49.heap.size := by rw [hw]; simpa using zz
          clear hw
          clear d20 d20f d30 d30f d31 d31f
          clear hS
          (try simp only [Act.put, List.setIfInBounds_toArray, List.set_cons_zero, List.set_cons_succ])
          refine seqE_nil ?_
          intro wz hS
          replace hs := hs.up hS; replace hM1 := hM1.up hS; replace hX2 := hX2.mono hS; replace hX3 := hX3.mono hS; replace hM3 := hM3.up hS; replace hbw := btr hbw hS; replace zz := Nat.le_trans zz (Below.size hS); replace hacc := btr hacc hS; clear hS
          obtain ⟨⟨d20, d20f⟩, ⟨d30, d30f⟩, ⟨d31, d31f⟩, -⟩ := id hs
          go_wp2_with fail
          go_meet
          exact ⟨⟨_, _, rfl, rfl, Bx.at hX3 d20 d20f, ⟨_, _, ⟨⟨d30, d30f⟩, ⟨d31, d31f⟩, trivial⟩, hM3⟩⟩, hacc⟩
         refine seqE_move rfl (by rfl) ?_ seqE_stop
         intro w50 hS
         refine ⟨.pointer (some ⟨w50.heap.size, 0, none⟩), w50.alloc (.cells #[.slice none 0 0] 27), (by go_simp; try with_reducible rfl), ?_⟩
         obtain ⟨b2, hb2⟩ : ∃ b, b = w50.heap.size := ⟨_, rfl⟩
         obtain ⟨v50, hw50⟩ : ∃ zW, zW = w50.alloc (.cells #[.slice none 0 0] 27) := ⟨_, rfl⟩
         rw [← hw50, ← hb2]
         have hbl : Below w50.heap.size w50 v50 := by rw [hw50]; go_grown
         have hge2 : s + 0 ≤ b2 := by rw [hb2]; exact Nat.le_trans zz hS.size
         have hga2 : wc.heap.size ≤ b2 := by rw [hb2]; exact Nat.le_trans hacc.size hS.size
         have hlb3_2 : b3 < b2 := by rw [hb2]; exact Nat.lt_of_lt_of_le (World.block_lt_of_cell? _ _ hs.1.1) hS.size
         refine ⟨(fun x => Below v50.heap.size v50 x), Below.refl _ _, fun x hx => btr (btr hS hbl) hx, ?_⟩
         have hX := btr hS hbl
         replace hs := hs.up hX; replace hM1 := hM1.up hX; replace hX2 := hX2.mono hX; replace hbw := btr hbw hX; replace zz := Nat.le_trans zz (Below.size hX); replace hacc := btr hacc hX
         replace hs : Cells v50 [(b2, 0, .slice none 0 0), (b3, 0, .int .i64 0), (b3, 1, .slice none 0 0)] := ⟨⟨by rw [hw50, hb2]; go_cell, by rw [hw50, hb2]; go_cell⟩, hs⟩
         clear hX hS hbl hw50 hb2
         (try simp only [Act.put, List.setIfInBounds_toArray, List.set_cons_zero, List.set_cons_succ])
         refine seqE_callB (f := ?_) (args := ?_) rfl (by rfl) ?_ ?_ seqE_stop
         rotate_left 2
         focus (intro w hS; go_simp; first | done | with_reducible rfl | (refine ⟨?_, ?_⟩ <;> with_reducible rfl))
         intro w51 hS
         refine (squaring_is (hX2.mono hS) (hM1.up hS) (Below.refl _ _) (by omega) (by omega) h15_good (by rw [cnew_len]; omega) h15_mok h15_sq).mono ?_
         rintro e v51 ⟨p3, cap3, y3, cy3, rfl, hX3, hM3, hbl⟩
         refine ⟨_, rfl, (fun x => Below v51.heap.size v51 x), Below.refl _ _, ?_⟩
         have hXw := Nat.le_trans zz hS.size; have hXa := Nat.le_trans hacc.size hS.size
         have hX := btr hS hbl
         replace hs := hs.up hX; replace hM1 := hM1.up hX; replace hX2 := hX2.mono hX; replace hbw := btr hbw hX; replace zz := Nat.le_trans zz (Below.size hX); replace hacc := btr hacc hX
         clear hX hS hbl hXw hXa
         (try simp only [Act.put, List.setIfInBounds_toArray, List.set_cons_zero, List.set_cons_succ])
         iterate 3 (refine seqE_free (v := ?_) rfl (by rfl) ?_ ?_; rotate_left; (focus (intro w; go_simp; try with_reducible rfl)); (try simp only [Act.put, List.setIfInBounds_toArray, List.set_cons_zero, List.set_cons_succ]))
         refine seqE_storeB rfl (by rfl) ?_ seqE_stop
         intro w52 hS
         replace hs := hs.up hS; replace hM1 := hM1.up hS; replace hX2 := hX2.mono hS; replace hX3 := hX3.mono hS; replace hM3 := hM3.up hS; replace hbw := btr hbw hS; replace zz := Nat.le_trans zz (Below.size hS); replace hacc := btr hacc hS
         obtain ⟨⟨d20, d20f⟩, ⟨d30, d30f⟩, ⟨d31, d31f⟩, -⟩ := id hs
         refine ⟨(w52.setCell ⟨b2, 0, none⟩ (.slice p3 (cnew).length cap3)), (by go_simp; try with_reducible rfl), (fun x => Below ((w52.setCell ⟨b2, 0, none⟩ (.slice p3 (cnew).length cap3))).heap.size ((w52.setCell ⟨b2, 0, none⟩ (.slice p3 (cnew).length cap3))) x), Below.refl _ _, ?_⟩
         obtain ⟨v52, hw⟩ : ∃ zW, zW = (w52.setCell ⟨b2, 0, none⟩ (.slice p3 (cnew).length cap3)) := ⟨_, rfl⟩
         rw [← hw]
         replace hs : Cells v52 [(b2, 0, .slice p3 (cnew).length cap3), (b3, 0, .int .i64 0), (b3, 1, .slice none 0 0)] := by rw [hw]; exact ⟨⟨by go_cell, (fz d20f)⟩, ⟨by go_cell, (fz d30f)⟩, ⟨by go_cell, (fz d31f)⟩, trivial⟩
         replace hM1 : MxAt v52 q1 cq1 (hChain) := by rw [hw]; exact hM1.box d20 _
         replace hX2 : CAt v52 p2 cap2 cnew := by rw [hw]; exact hX2.box d20 _
         replace hX3 : CAt v52 p3 cap3 (cnew) := by rw [hw]; exact hX3.box d20 _
         replace hM3 : MxAt v52 y3 cy3 (hWant) := by rw [hw]; exact hM3.box d20 _
         replace hbw : Below w.heap.size w v52 := by rw [hw]; exact (Below.setCell hbw (by have h := HS.out; (try dsimp only); omega) _)
         replace hacc : Below wc.heap.size wc v52 := by rw [hw]; exact (Below.setCell hacc (by have h := HS.out; (try dsimp only); omega) _)
         replace zz : s + 0 ≤ v52.heap.size := by rw [hw]; simpa using zz
         clear hw
         clear d20 d20f d30 d30f d31 d31f
         clear hS
         (try simp only [Act.put, List.setIfInBounds_toArray, List.set_cons_zero, List.set_cons_succ])
         refine seqE_storeB rfl (by rfl) ?_ seqE_stop
         intro w53 hS
         replace hs := hs.up hS; replace hM1 := hM1.up hS; replace hX2 := hX2.mono hS; replace hX3 := hX3.mono hS; replace hM3 := hM3.up hS; replace hbw := btr hbw hS; replace zz := Nat.le_trans zz (Below.size hS); replace hacc := btr hacc hS
         obtain ⟨⟨d20, d20f⟩, ⟨d30, d30f⟩, ⟨d31, d31f⟩, -⟩ := id hs
         refine ⟨((w53.setCell ⟨b3, 0, none⟩ (.int .i64 2)).setCell ⟨b3, 1, none⟩ (.slice y3 (hWant).length cy3)), (by go_simp; try with_reducible rfl), (fun x => Below (((w53.setCell ⟨b3, 0, none⟩ (.int .i64 2)).setCell ⟨b3, 1, none⟩ (.slice y3 (hWant).length cy3))).heap.size (((w53.setCell ⟨b3, 0, none⟩ (.int .i64 2)).setCell ⟨b3, 1, none⟩ (.slice y3 (hWant).length cy3))) x), Below.refl _ _, ?_⟩
         obtain ⟨v53, hw⟩ : ∃ zW, zW = ((w53.setCell ⟨b3, 0, none⟩ (.int .i64 2)).setCell ⟨b3, 1, none⟩ (.slice y3 (hWant).length cy3)) := ⟨_, rfl⟩
         rw [← hw]
         replace hs : Cells v53 [(b2, 0, .slice p3 (cnew).length cap3), (b3, 0, .int .i64 2), (b3, 1, .slice y3 (hWant).length cy3)] := by rw [hw]; exact ⟨⟨by go_cell, (fz (fz d20f))⟩, ⟨by go_cell, (fz (fz d30f))⟩, ⟨by go_cell, (fz (fz d31f))⟩, trivial⟩
         replace hM1 : MxAt v53 q1 cq1 (hChain) := by rw [hw]; exact hM1.boxM d31 _ _
         replace hX2 : CAt v53 p2 cap2 cnew := by rw [hw]; exact hX2.boxM d31 _ _
         replace hX3 : CAt v53 p3 cap3 (cnew) := by rw [hw]; exact hX3.boxM d31 _ _
         replace hM3 : MxAt v53 y3 cy3 (hWant) := by rw [hw]; exact hM3.boxM d31 _ _
         replace hbw : Below w.heap.size w v53 := by rw [hw]; exact (Below.setCell (Below.setCell hbw (by have h := HS.out; (try dsimp only); omega) _) (by have h := HS.out; (try dsimp only); omega) _)
         replace hacc : Below wc.heap.size wc v53 := by rw [hw]; exact (Below.setCell (Below.setCell hacc (by have h := HS.out; (try dsimp only); omega) _) (by have h := HS.out; (try dsimp only); omega) _)
         replace zz : s + 0 ≤ v53.heap.size := by rw [hw]; simpa using zz
         clear hw
         clear d20 d20f d30 d30f d31 d31f
         clear hS
         (try simp only [Act.put, List.setIfInBounds_toArray, List.set_cons_zero, List.set_cons_succ])
         refine seqE_nil ?_
         intro wz hS
         replace hs := hs.up hS; replace hM1 := hM1.up hS; replace hX2 := hX2.mono hS; replace hX3 := hX3.mono hS; replace hM3 := hM3.up hS; replace hbw := btr hbw hS; replace zz := Nat.le_trans zz (Below.size hS); replace hacc := btr hacc hS; clear hS
         obtain ⟨⟨d20, d20f⟩, ⟨d30, d30f⟩, ⟨d31, d31f⟩, -⟩ := id hs
         go_wp2_with fail
         go_meet
         exact ⟨⟨_, _, rfl, rfl, Bx.at hX3 d20 d20f, ⟨_, _, ⟨⟨d30, d30f⟩, ⟨d31, d31f⟩, trivial⟩, hM3⟩⟩, hacc⟩
        refine seqE_move rfl (by rfl) ?_ seqE_stop
        intro w54 hS
        refine ⟨.pointer (some ⟨w54.heap.size, 0, none⟩), w54.alloc (.cells #[.slice none 0 0] 27), (by go_simp; try with_reducible rfl), ?_⟩
        obtain ⟨b2, hb2⟩ : ∃ b, b = w54.heap.size := ⟨_, rfl⟩
        obtain ⟨v54, hw54⟩ : ∃ zW, zW = w54.alloc (.cells #[.slice none 0 0] 27) := ⟨_, rfl⟩
        rw [← hw54, ← hb2]
        have hbl : Below w54.heap.size w54 v54 := by rw [hw54]; go_grown
        have hge2 : s + 0 ≤ b2 := by rw [hb2]; exact Nat.le_trans zz hS.size
        have hga2 : wc.heap.size ≤ b2 := by rw [hb2]; exact Nat.le_trans hacc.size hS.size
        have hlb3_2 : b3 < b2 := by rw [hb2]; exact Nat.lt_of_lt_of_le (World.block_lt_of_cell? _ _ hs.1.1) hS.size
        refine ⟨(fun x => Below v54.heap.size v54 x), Below.refl _ _, fun x hx => btr (btr hS hbl) hx, ?_⟩
        have hX := btr hS hbl
        replace hs := hs.up hX; replace hM1 := hM1.up hX; replace hbw := btr hbw hX; replace zz := Nat.le_trans zz (Below.size hX); replace hacc := btr hacc hX
        replace hs : Cells v54 [(b2, 0, .slice none 0 0), (b3, 0, .int .i64 0), (b3, 1, .slice none 0 0)] := ⟨⟨by rw [hw54, hb2]; go_cell, by rw [hw54, hb2]; go_cell⟩, hs⟩
        clear hX hS hbl hw54 hb2
        (try simp only [Act.put, List.setIfInBounds_toArray, List.set_cons_zero, List.set_cons_succ])
        refine seqE_call (f := ?_) (args := ?_) rfl (by rfl) ?_ ?_ seqE_stop
        rotate_left 2
        focus (intro w hS; go_simp; first | done | with_reducible rfl | (refine ⟨?_, ?_⟩ <;> with_reducible rfl))
        intro w55 hS
        refine (rnew_is w55).mono ?_
        rintro e v55 ⟨p2, cap2, rfl, hX2, hbl⟩
        refine ⟨_, rfl, (fun x => Below v55.heap.size v55 x), Below.refl _ _, fun x hx => btr (btr hS hbl) hx, ?_⟩
        have hXw := Nat.le_trans zz hS.size; have hXa := Nat.le_trans hacc.size hS.size
        have hX := btr hS hbl
        replace hs := hs.up hX; replace hM1 := hM1.up hX; replace hbw := btr hbw hX; replace zz := Nat.le_trans zz (Below.size hX); replace hacc := btr hacc hX
        clear hX hS hbl hXw hXa
        (try simp only [Act.put, List.setIfInBounds_toArray, List.set_cons_zero, List.set_cons_succ])
        refine seqE_callB (f := ?_) (args := ?_) rfl (by rfl) ?_ ?_ seqE_stop
        rotate_left 2
        focus (intro w hS; go_simp; first | done | with_reducible rfl | (refine ⟨?_, ?_⟩ <;> with_reducible rfl))
        intro w56 hS
        refine (squaring_is (hX2.mono hS) (hM1.up hS) (Below.refl _ _) (by omega) (by omega) h15_good (by rw [cnew_len]; omega) h15_mok h15_sq).mono ?_
        rintro e v56 ⟨p3, cap3, y3, cy3, rfl, hX3, hM3, hbl⟩
        refine ⟨_, rfl, (fun x => Below v56.heap.size v56 x), Below.refl _ _, ?_⟩
        have hXw := Nat.le_trans zz hS.size; have hXa := Nat.le_trans hacc.size hS.size
        have hX := btr hS hbl
        replace hs := hs.up hX; replace hM1 := hM1.up hX; replace hX2 := hX2.mono hX; replace hbw := btr hbw hX; replace zz := Nat.le_trans zz (Below.size hX); replace hacc := btr hacc hX
        clear hX hS hbl hXw hXa
        (try simp only [Act.put, List.setIfInBounds_toArray, List.set_cons_zero, List.set_cons_succ])
        iterate 3 (refine seqE_free (v := ?_) rfl (by rfl) ?_ ?_; rotate_left; (focus (intro w; go_simp; try with_reducible rfl)); (try simp only [Act.put, List.setIfInBounds_toArray, List.set_cons_zero, List.set_cons_succ]))
        refine seqE_storeB rfl (by rfl) ?_ seqE_stop
        intro w57 hS
        replace hs := hs.up hS; replace hM1 := hM1.up hS; replace hX2 := hX2.mono hS; replace hX3 := hX3.mono hS; replace hM3 := hM3.up hS; replace hbw := btr hbw hS; replace zz := Nat.le_trans zz (Below.size hS); replace hacc := btr hacc hS
        obtain ⟨⟨d20, d20f⟩, ⟨d30, d30f⟩, ⟨d31, d31f⟩, -⟩ := id hs
        refine ⟨(w57.setCell ⟨b2, 0, none⟩ (.slice p3 (cnew).length cap3)), (by go_simp; try with_reducible rfl), (fun x => Below ((w57.setCell ⟨b2, 0, none⟩ (.slice p3 (cnew).length cap3))).heap.size ((w57.setCell ⟨b2, 0, none⟩ (.slice p3 (cnew).length cap3))) x), Below.refl _ _, ?_⟩
        obtain ⟨v57, hw⟩ : ∃ zW, zW = (w57.setCell ⟨b2, 0, none⟩ (.slice p3 (cnew).length cap3)) := ⟨_, rfl⟩
        rw [← hw]
        replace hs : Cells v57 [(b2, 0, .slice p3 (cnew).length cap3), (b3, 0, .int .i64 0), (b3, 1, .slice none 0 0)] := by rw [hw]; exact ⟨⟨by go_cell, (fz d20f)⟩, ⟨by go_cell, (fz d30f)⟩, ⟨by go_cell, (fz d31f)⟩, trivial⟩
        replace hM1 : MxAt v57 q1 cq1 (hChain) := by rw [hw]; exact hM1.box d20 _
        replace hX2 : CAt v57 p2 cap2 cnew := by rw [hw]; exact hX2.box d20 _
        replace hX3 : CAt v57 p3 cap3 (cnew) := by rw [hw]; exact hX3.box d20 _
        replace hM3 : MxAt v57 y3 cy3 (hWant) := by rw [hw]; exact hM3.box d20 _
        replace hbw : Below w.heap.size w v57 := by rw [hw]; exact (Below.setCell hbw (by have h := HS.out; (try dsimp only); omega) _)
        replace hacc : Below wc.heap.size wc v57 := by rw [hw]; exact (Below.setCell hacc (by have h := HS.out; (try dsimp only); omega) _)
        replace zz : s + 0 ≤ v57.heap.size := by rw [hw]; simpa using zz
        clear hw
        clear d20 d20f d30 d30f d31 d31f
        clear hS
        (try simp only [Act.put, List.setIfInBounds_toArray, List.set_cons_zero, List.set_cons_succ])
        refine seqE_storeB rfl (by rfl) ?_ seqE_stop
        intro w58 hS
        replace hs := hs.up hS; replace hM1 := hM1.up hS; replace hX2 := hX2.mono hS; replace hX3 := hX3.mono hS; replace hM3 := hM3.up hS; replace hbw := btr hbw hS; replace zz := Nat.le_trans zz (Below.size hS); replace hacc := btr hacc hS
        obtain ⟨⟨d20, d20f⟩, ⟨d30, d30f⟩, ⟨d31, d31f⟩, -⟩ := id hs
        refine ⟨((w58.setCell ⟨b3, 0, none⟩ (.int .i64 2)).setCell ⟨b3, 1, none⟩ (.slice y3 (hWant).length cy3)), (by go_simp; try with_reducible rfl), (fun x => Below (((w58.setCell ⟨b3, 0, none⟩ (.int .i64 2)).setCell ⟨b3, 1, none⟩ (.slice y3 (hWant).length cy3))).heap.size (((w58.setCell ⟨b3, 0, none⟩ (.int .i64 2)).setCell ⟨b3, 1, none⟩ (.slice y3 (hWant).length cy3))) x), Below.refl _ _, ?_⟩
        obtain ⟨v58, hw⟩ : ∃ zW, zW = ((w58.setCell ⟨b3, 0, none⟩ (.int .i64 2)).setCell ⟨b3, 1, none⟩ (.slice y3 (hWant).length cy3)) := ⟨_, rfl⟩
        rw [← hw]
        replace hs : Cells v58 [(b2, 0, .slice p3 (cnew).length cap3), (b3, 0, .int .i64 2), (b3, 1, .slice y3 (hWant).length cy3)] := by rw [hw]; exact ⟨⟨by go_cell, (fz (fz d20f))⟩, ⟨by go_cell, (fz (fz d30f))⟩, ⟨by go_cell, (fz (fz d31f))⟩, trivial⟩
        replace hM1 : MxAt v58 q1 cq1 (hChain) := by rw [hw]; exact hM1.boxM d31 _ _
        replace hX2 : CAt v58 p2 cap2 cnew := by rw [hw]; exact hX2.boxM d31 _ _
        replace hX3 : CAt v58 p3 cap3 (cnew) := by rw [hw]; exact hX3.boxM d31 _ _
        replace hM3 : MxAt v58 y3 cy3 (hWant) := by rw [hw]; exact hM3.boxM d31 _ _
        replace hbw : Below w.heap.size w v58 := by rw [hw]; exact (Below.setCell (Below.setCell hbw (by have h := HS.out; (try dsimp only); omega) _) (by have h := HS.out; (try dsimp only); omega) _)
        replace hacc : Below wc.heap.size wc v58 := by rw [hw]; exact (Below.setCell (Below.setCell hacc (by have h := HS.out; (try dsimp only); omega) _) (by have h := HS.out; (try dsimp only); omega) _)
        replace zz : s + 0 ≤ v58.heap.size := by rw [hw]; simpa using zz
        clear hw
        clear d20 d20f d30 d30f d31 d31f
        clear hS
        (try simp only [Act.put, List.setIfInBounds_toArray, List.set_cons_zero, List.set_cons_succ])
        refine seqE_nil ?_
        intro wz hS
        replace hs := hs.up hS; replace hM1 := hM1.up hS; replace hX2 := hX2.mono hS; replace hX3 := hX3.mono hS; replace hM3 := hM3.up hS; replace hbw := btr hbw hS; replace zz := Nat.le_trans zz (Below.size hS); replace hacc := btr hacc hS; clear hS
        obtain ⟨⟨d20, d20f⟩, ⟨d30, d30f⟩, ⟨d31, d31f⟩, -⟩ := id hs
        go_wp2_with fail
        go_meet
        exact ⟨⟨_, _, rfl, rfl, Bx.at hX3 d20 d20f, ⟨_, _, ⟨⟨d30, d30f⟩, ⟨d31, d31f⟩, trivial⟩, hM3⟩⟩, hacc⟩
    case rest =>
      clear m1 m1f n1 n1f hM1
      obtain ⟨⟨b2, b3, rfl, rfl, hB2, hN3⟩, hst⟩ := hcut
      replace hN1 := hN1.up hst
      replace hW := btr hW hst
      clear hst
      go_upto_region 3 with fail
      obtain ⟨q1, cq1, ⟨⟨m1, m1f⟩, ⟨n1, n1f⟩, -⟩, hM1⟩ := id hN1
      go_cut [4, 5] from 23 to 28 (fun s4 s5 wx => (∃ (b b' : Nat), s4 = .pointer (some ⟨b, 0, none⟩) ∧ s5 = .pointer (some ⟨b', 0, none⟩) ∧ Bx wx b (cnew) ∧ BM wx b' 2 (hWant)) ∧ Below wc.heap.size wc wx)
      case first =>
        as_aux_lemma =>
          obtain ⟨s, hs0⟩ : ∃ s, w.heap.size = s := ⟨_, rfl⟩
          have HS := Lib.hid hs0; clear hs0
          have hbw := hW
          have zz : s + 0 ≤ wc.heap.size := by have := HS.out; have := hW.size; omega
          have hk : Cells wc [(b1, 0, .int .i64 2), (b1, 1, .slice q1 (hChain).length cq1)] := ⟨⟨m1, m1f⟩, ⟨n1, n1f⟩, trivial⟩
          clear m1 m1f n1 n1f
          have hacc : Below wc.heap.size wc wc := Below.refl _ _
          clear hW
          refine wp_region_seqE (fun x => Below wc.heap.size wc x) (.one 1 0 (.alt 0 2 (.alt 2 3 (.one 3 1 (.one 4 1 (.one 5 1 (.alt 6 2 (.alt 7 2 (.alt 8 3 (.alt 9 3 .nil .stop) .stop) .stop) (.alt 7 2 (.alt 6 2 (.alt 8 3 (.alt 9 3 .nil .stop) .stop) .stop) .stop))))) (.alt 6 2 (.alt 2 3 (.one 3 1 (.one 4 1 (.one 5 1 (.alt 7 2 (.alt 8 3 (.alt 9 3 .nil .stop) .stop) .stop)))) (.alt 7 2 (.alt 2 3 (.one 3 1 (.one 4 1 (.one 5 1 (.alt 8 3 (.alt 9 3 .nil .stop) .stop)))) .stop) .stop)) (.alt 7 2 (.alt 2 3 (.one 3 1 (.one 4 1 (.one 5 1 (.alt 6 2 (.alt 8 3 (.alt 9 3 .nil .stop) .stop) .stop)))) (.alt 6 2 (.alt 2 3 (.one 3 1 (.one 4 1 (.one 5 1 (.alt 8 3 (.alt 9 3 .nil .stop) .stop)))) .stop) .stop)) .stop))) (.alt 6 2 (.alt 0 2 (.alt 2 3 (.one 3 1 (.one 4 1 (.one 5 1 (.alt 7 2 (.alt 8 3 (.alt 9 3 .nil .stop) .stop) .stop)))) (.alt 7 2 (.alt 2 3 (.one 3 1 (.one 4 1 (.one 5 1 (.alt 8 3 (.alt 9 3 .nil .stop) .stop)))) .stop) .stop)) (.alt 7 2 (.alt 0 2 (.alt 2 3 (.one 3 1 (.one 4 1 (.one 5 1 (.alt 8 3 (.alt 9 3 .nil .stop) .stop)))) .stop) .stop) .stop)) (.alt 7 2 (.alt 0 2 (.alt 2 3 (.one 3 1 (.one 4 1 (.one 5 1 (.alt 6 2 (.alt 8 3 (.alt 9 3 .nil .stop) .stop) .stop)))) (.alt 6 2 (.alt 2 3 (.one 3 1 (.one 4 1 (.one 5 1 (.alt 8 3 (.alt 9 3 .nil .stop) .stop)))) .stop) .stop)) (.alt 6 2 (.alt 0 2 (.alt 2 3 (.one 3 1 (.one 4 1 (.one 5 1 (.alt 8 3 (.alt 9 3 .nil .stop) .stop)))) .stop) .stop) .stop)) .stop)))) (by kernel_rfl) (by kernel_rfl) (by kernel_rfl) (Below.drew (Below.refl _ _)) ?_
          iterate 1 (refine seqE_pure (v := ?_) rfl (by rfl) ?_ ?_; rotate_left; (focus (intro w hS; obtain ⟨⟨m1, -⟩, ⟨n1, -⟩, -⟩ := hk.up hS; go_simp; try with_reducible rfl)); (try simp only [Act.put, List.setIfInBounds_toArray, List.set_cons_zero, List.set_cons_succ]))
          clear hk
          refine seqE_call (f := ?_) (args := ?_) rfl (by rfl) ?_ ?_ ?_
          rotate_left 2
          focus (intro w hS; go_simp; first | done | with_reducible rfl | (refine ⟨?_, ?_⟩ <;> with_reducible rfl))
          ·
           intro w1 hS
           refine (rnew_is w1).mono ?_
           rintro e v1 ⟨p2, cap2, rfl, hX2, hbl⟩
           refine ⟨_, rfl, (fun x => Below v1.heap.size v1 x), Below.refl _ _, fun x hx => btr (btr hS hbl) hx, ?_⟩
           have hXw := Nat.le_trans zz hS.size; have hXa := Nat.le_trans hacc.size hS.size
           have hX := btr hS hbl
           replace hM1 := hM1.up hX; replace hbw := btr hbw hX; replace zz := Nat.le_trans zz (Below.size hX); replace hacc := btr hacc hX
           clear hX hS hbl hXw hXa
           (try simp only [Act.put, List.setIfInBounds_toArray, List.set_cons_zero, List.set_cons_succ])
           refine seqE_callB (f := ?_) (args := ?_) rfl (by rfl) ?_ ?_ ?_
           rotate_left 2
           focus (intro w hS; go_simp; first | done | with_reducible rfl | (refine ⟨?_, ?_⟩ <;> with_reducible rfl))
           ·
            intro w2 hS
            refine (stepwise_is (hX2.mono hS) (hM1.up hS) (Below.refl _ _) (by omega) (by omega) h15_good (by rw [cnew_len]; omega) h15_mok h15_st).mono ?_
            rintro e v2 ⟨p3, cap3, y3, cy3, rfl, hX3, hM3, hbl⟩
            refine ⟨_, rfl, (fun x => Below v2.heap.size v2 x), Below.refl _ _, ?_⟩
            have hXw := Nat.le_trans zz hS.size; have hXa := Nat.le_trans hacc.size hS.size
            have hX := btr hS hbl
            replace hM1 := hM1.up hX; replace hX2 := hX2.mono hX; replace hbw := btr hbw hX; replace zz := Nat.le_trans zz (Below.size hX); replace hacc := btr hacc hX
            clear hX hS hbl hXw hXa
            (try simp only [Act.put, List.setIfInBounds_toArray, List.set_cons_zero, List.set_cons_succ])
            iterate 3 (refine seqE_free (v := ?_) rfl (by rfl) ?_ ?_; rotate_left; (focus (intro w; go_simp; try with_reducible rfl)); (try simp only [Act.put, List.setIfInBounds_toArray, List.set_cons_zero, List.set_cons_succ]))
            refine seqE_move rfl (by rfl) ?_ ?_
            ·
             intro w3 hS
             refine ⟨.pointer (some ⟨w3.heap.size, 0, none⟩), w3.alloc (.cells #[.slice none 0 0] 27), (by go_simp; try with_reducible rfl), ?_⟩
             obtain ⟨b4, hb4⟩ : ∃ b, b = w3.heap.size := ⟨_, rfl⟩
             obtain ⟨v3, hw3⟩ : ∃ zW, zW = w3.alloc (.cells #[.slice none 0 0] 27) := ⟨_, rfl⟩
             rw [← hw3, ← hb4]
             have hbl : Below w3.heap.size w3 v3 := by rw [hw3]; go_grown
             have hge4 : s + 0 ≤ b4 := by rw [hb4]; exact Nat.le_trans zz hS.size
             have hga4 : wc.heap.size ≤ b4 := by rw [hb4]; exact Nat.le_trans hacc.size hS.size
             refine ⟨(fun x => Below v3.heap.size v3 x), Below.refl _ _, fun x hx => btr (btr hS hbl) hx, ?_⟩
             have hX := btr hS hbl
             replace hM1 := hM1.up hX; replace hX2 := hX2.mono hX; replace hX3 := hX3.mono hX; replace hM3 := hM3.up hX; replace hbw := btr hbw hX; replace zz := Nat.le_trans zz (Below.size hX); replace hacc := btr hacc hX
             have hs : Cells v3 [(b4, 0, .slice none 0 0)] := ⟨⟨by rw [hw3, hb4]; go_cell, by rw [hw3, hb4]; go_cell⟩, trivial⟩
             clear hX hS hbl hw3 hb4
             (try simp only [Act.put, List.setIfInBounds_toArray, List.set_cons_zero, List.set_cons_succ])
             refine seqE_move rfl (by rfl) ?_ seqE_stop
             intro w4 hS
             refine ⟨.pointer (some ⟨w4.heap.size, 0, none⟩), w4.alloc (.cells #[.int .i64 0, .slice none 0 0] 30), (by go_simp; try with_reducible rfl), ?_⟩
             obtain ⟨b5, hb5⟩ : ∃ b, b = w4.heap.size := ⟨_, rfl⟩
             obtain ⟨v4, hw4⟩ : ∃ zW, zW = w4.alloc (.cells #[.int .i64 0, .slice none 0 0] 30) := ⟨_, rfl⟩
             rw [← hw4, ← hb5]
             have hbl : Below w4.heap.size w4 v4 := by rw [hw4]; go_grown
             have hge5 : s + 0 ≤ b5 := by rw [hb5]; exact Nat.le_trans zz hS.size
             have hga5 : wc.heap.size ≤ b5 := by rw [hb5]; exact Nat.le_trans hacc.size hS.size
             have hlb4_5 : b4 < b5 := by rw [hb5]; exact Nat.lt_of_lt_of_le (World.block_lt_of_cell? _ _ hs.1.1) hS.size
             refine ⟨(fun x => Below v4.heap.size v4 x), Below.refl _ _, fun x hx => btr (btr hS hbl) hx, ?_⟩
             have hX := btr hS hbl
             replace hs := hs.up hX; replace hM1 := hM1.up hX; replace hX2 := hX2.mono hX; replace hX3 := hX3.mono hX; replace hM3 := hM3.up hX; replace hbw := btr hbw hX; replace zz := Nat.le_trans zz (Below.size hX); replace hacc := btr hacc hX
             replace hs : Cells v4 [(b5, 0, .int .i64 0), (b5, 1, .slice none 0 0), (b4, 0, .slice none 0 0)] := ⟨⟨by rw [hw4, hb5]; go_cell, by rw [hw4, hb5]; go_cell⟩, ⟨by rw [hw4, hb5]; go_cell, by rw [hw4, hb5]; go_cell⟩, hs⟩
             clear hX hS hbl hw4 hb5
             (try simp only [Act.put, List.setIfInBounds_toArray, List.set_cons_zero, List.set_cons_succ])
             refine seqE_storeB rfl (by rfl) ?_ seqE_stop
             intro w5 hS
             replace hs := hs.up hS; replace hM1 := hM1.up hS; replace hX2 := hX2.mono hS; replace hX3 := hX3.mono hS; replace hM3 := hM3.up hS; replace hbw := btr hbw hS; replace zz := Nat.le_trans zz (Below.size hS); replace hacc := btr hacc hS
             obtain ⟨⟨d50, d50f⟩, ⟨d51, d51f⟩, ⟨d40, d40f⟩, -⟩ := id hs
             refine ⟨(w5.setCell ⟨b4, 0, none⟩ (.slice p3 (cnew).length cap3)), (by go_simp; try with_reducible rfl), (fun x => Below ((w5.setCell ⟨b4, 0, none⟩ (.slice p3 (cnew).length cap3))).heap.size ((w5.setCell ⟨b4, 0, none⟩ (.slice p3 (cnew).length cap3))) x), Below.refl _ _, ?_⟩
             obtain ⟨v5, hw⟩ : ∃ zW, zW = (w5.setCell ⟨b4, 0, none⟩ (.slice p3 (cnew).length cap3)) := ⟨_, rfl⟩
             rw [← hw]
             replace hs : Cells v5 [(b5, 0, .int .i64 0), (b5, 1, .slice none 0 0), (b4, 0, .slice p3 (cnew).length cap3)] := by rw [hw]; exact ⟨⟨by go_cell, (fz d50f)⟩, ⟨by go_cell, (fz d51f)⟩, ⟨by go_cell, (fz d40f)⟩, trivial⟩
             replace hM1 : MxAt v5 q1 cq1 (hChain) := by rw [hw]; exact hM1.box d40 _
             replace hX2 : CAt v5 p2 cap2 cnew := by rw [hw]; exact hX2.box d40 _
             replace hX3 : CAt v5 p3 cap3 (cnew) := by rw [hw]; exact hX3.box d40 _
             replace hM3 : MxAt v5 y3 cy3 (hWant) := by rw [hw]; exact hM3.box d40 _
             replace hbw : Below w.heap.size w v5 := by rw [hw]; exact (Below.setCell hbw (by have h := HS.out; (try dsimp only); omega) _)
             replace hacc : Below wc.heap.size wc v5 := by rw [hw]; exact (Below.setCell hacc (by have h := HS.out; (try dsimp only); omega) _)
             replace zz : s + 0 ≤ v5.heap.size := by rw [hw]; simpa using zz
             clear hw
             clear d50 d50f d51 d51f d40 d40f
             clear hS
             (try simp only [Act.put, List.setIfInBounds_toArray, List.set_cons_zero, List.set_cons_succ])
             refine seqE_storeB rfl (by rfl) ?_ seqE_stop
             intro w6 hS
             replace hs := hs.up hS; replace hM1 := hM1.up hS; replace hX2 := hX2.mono hS; replace hX3 := hX3.mono hS; replace hM3 := hM3.up hS; replace hbw := btr hbw hS; replace zz := Nat.le_trans zz (Below.size hS); replace hacc := btr hacc hS
             obtain ⟨⟨d50, d50f⟩, ⟨d51, d51f⟩, ⟨d40, d40f⟩, -⟩ := id hs
             refine ⟨((w6.setCell ⟨b5, 0, none⟩ (.int .i64 2)).setCell ⟨b5, 1, none⟩ (.slice y3 (hWant).length cy3)), (by go_simp; try with_reducible rfl), (fun x => Below (((w6.setCell ⟨b5, 0, none⟩ (.int .i64 2)).setCell ⟨b5, 1, none⟩ (.slice y3 (hWant).length cy3))).heap.size (((w6.setCell ⟨b5, 0, none⟩ (.int .i64 2)).setCell ⟨b5, 1, none⟩ (.slice y3 (hWant).length cy3))) x), Below.refl _ _, ?_⟩
             obtain ⟨v6, hw⟩ : ∃ zW, zW = ((w6.setCell ⟨b5, 0, none⟩ (.int .i64 2)).setCell ⟨b5, 1, none⟩ (.slice y3 (hWant).length cy3)) := ⟨_, rfl⟩
             rw [← hw]
             replace hs : Cells v6 [(b5, 0, .int .i64 2), (b5, 1, .slice y3 (hWant).length cy3), (b4, 0, .slice p3 (cnew).length cap3)] := by rw [hw]; exact ⟨⟨by go_cell, (fz (fz d50f))⟩, ⟨by go_cell, (fz (fz d51f))⟩, ⟨by go_cell, (fz (fz d40f))⟩, trivial⟩
             replace hM1 : MxAt v6 q1 cq1 (hChain) := by rw [hw]; exact hM1.boxM d51 _ _
             replace hX2 : CAt v6 p2 cap2 cnew := by rw [hw]; exact hX2.boxM d51 _ _
             replace hX3 : CAt v6 p3 cap3 (cnew) := by rw [hw]; exact hX3.boxM d51 _ _
             replace hM3 : MxAt v6 y3 cy3 (hWant) := by rw [hw]; exact hM3.boxM d51 _ _
             replace hbw : Below w.heap.size w v6 := by rw [hw]; exact (Below.setCell (Below.setCell hbw (by have h := HS.out; (try dsimp only); omega) _) (by have h := HS.out; (try dsimp only); omega) _)
             replace hacc : Below wc.heap.size wc v6 := by rw [hw]; exact (Below.setCell (Below.setCell hacc (by have h := HS.out; (try dsimp only); omega) _) (by have h := HS.out; (try dsimp only); omega) _)
             replace zz : s + 0 ≤ v6.heap.size := by rw [hw]; simpa using zz
             clear hw
             clear d50 d50f d51 d51f d40 d40f
             clear hS
             (try simp only [Act.put, List.setIfInBounds_toArray, List.set_cons_zero, List.set_cons_succ])
             refine seqE_nil ?_
             intro wz hS
             replace hs := hs.up hS; replace hM1 := hM1.up hS; replace hX2 := hX2.mono hS; replace hX3 := hX3.mono hS; replace hM3 := hM3.up hS; replace hbw := btr hbw hS; replace zz := Nat.le_trans zz (Below.size hS); replace hacc := btr hacc hS; clear hS
             obtain ⟨⟨d50, d50f⟩, ⟨d51, d51f⟩, ⟨d40, d40f⟩, -⟩ := id hs
             go_wp2_with fail
             go_meet
             exact ⟨⟨_, _, rfl, rfl, Bx.at hX3 d40 d40f, ⟨_, _, ⟨⟨d50, d50f⟩, ⟨d51, d51f⟩, trivial⟩, hM3⟩⟩, hacc⟩
            refine seqE_move rfl (by rfl) ?_ seqE_stop
            intro w7 hS
            refine ⟨.pointer (some ⟨w7.heap.size, 0, none⟩), w7.alloc (.cells #[.int .i64 0, .slice none 0 0] 30), (by go_simp; try with_reducible rfl), ?_⟩
            obtain ⟨b5, hb5⟩ : ∃ b, b = w7.heap.size := ⟨_, rfl⟩
            obtain ⟨v7, hw7⟩ : ∃ zW, zW = w7.alloc (.cells #[.int .i64 0, .slice none 0 0] 30) := ⟨_, rfl⟩
            rw [← hw7, ← hb5]
            have hbl : Below w7.heap.size w7 v7 := by rw [hw7]; go_grown
            have hge5 : s + 0 ≤ b5 := by rw [hb5]; exact Nat.le_trans zz hS.size
            have hga5 : wc.heap.size ≤ b5 := by rw [hb5]; exact Nat.le_trans hacc.size hS.size
            refine ⟨(fun x => Below v7.heap.size v7 x), Below.refl _ _, fun x hx => btr (btr hS hbl) hx, ?_⟩
            have hX := btr hS hbl
            replace hM1 := hM1.up hX; replace hX2 := hX2.mono hX; replace hX3 := hX3.mono hX; replace hM3 := hM3.up hX; replace hbw := btr hbw hX; replace zz := Nat.le_trans zz (Below.size hX); replace hacc := btr hacc hX
            have hs : Cells v7 [(b5, 0, .int .i64 0), (b5, 1, .slice none 0 0)] := ⟨⟨by rw [hw7, hb5]; go_cell, by rw [hw7, hb5]; go_cell⟩, ⟨by rw [hw7, hb5]; go_cell, by rw [hw7, hb5]; go_cell⟩, trivial⟩
            clear hX hS hbl hw7 hb5
            (try simp only [Act.put, List.setIfInBounds_toArray, List.set_cons_zero, List.set_cons_succ])
            refine seqE_move rfl (by rfl) ?_ seqE_stop
            intro w8 hS
            refine ⟨.pointer (some ⟨w8.heap.size, 0, none⟩), w8.alloc (.cells #[.slice none 0 0] 27), (by go_simp; try with_reducible rfl), ?_⟩
            obtain ⟨b4, hb4⟩ : ∃ b, b = w8.heap.size := ⟨_, rfl⟩
            obtain ⟨v8, hw8⟩ : ∃ zW, zW = w8.alloc (.cells #[.slice none 0 0] 27) := ⟨_, rfl⟩
            rw [← hw8, ← hb4]
            have hbl : Below w8.heap.size w8 v8 := by rw [hw8]; go_grown
            have hge4 : s + 0 ≤ b4 := by rw [hb4]; exact Nat.le_trans zz hS.size
            have hga4 : wc.heap.size ≤ b4 := by rw [hb4]; exact Nat.le_trans hacc.size hS.size
            have hlb5_4 : b5 < b4 := by rw [hb4]; exact Nat.lt_of_lt_of_le (World.block_lt_of_cell? _ _ hs.1.1) hS.size
            refine ⟨(fun x => Below v8.heap.size v8 x), Below.refl _ _, fun x hx => btr (btr hS hbl) hx, ?_⟩
            have hX := btr hS hbl
            replace hs := hs.up hX; replace hM1 := hM1.up hX; replace hX2 := hX2.mono hX; replace hX3 := hX3.mono hX; replace hM3 := hM3.up hX; replace hbw := btr hbw hX; replace zz := Nat.le_trans zz (Below.size hX); replace hacc := btr hacc hX
            replace hs : Cells v8 [(b4, 0, .slice none 0 0), (b5, 0, .int .i64 0), (b5, 1, .slice none 0 0)] := ⟨⟨by rw [hw8, hb4]; go_cell, by rw [hw8, hb4]; go_cell⟩, hs⟩
            clear hX hS hbl hw8 hb4
            (try simp only [Act.put, List.setIfInBounds_toArray, List.set_cons_zero, List.set_cons_succ])
            refine seqE_storeB rfl (by rfl) ?_ seqE_stop
            intro w9 hS
            replace hs := hs.up hS; replace hM1 := hM1.up hS; replace hX2 := hX2.mono hS; replace hX3 := hX3.mono hS; replace hM3 := hM3.up hS; replace hbw := btr hbw hS; replace zz := Nat.le_trans zz (Below.size hS); replace hacc := btr hacc hS
            obtain ⟨⟨d40, d40f⟩, ⟨d50, d50f⟩, ⟨d51, d51f⟩, -⟩ := id hs
            refine ⟨(w9.setCell ⟨b4, 0, none⟩ (.slice p3 (cnew).length cap3)), (by go_simp; try with_reducible rfl), (fun x => Below ((w9.setCell ⟨b4, 0, none⟩ (.slice p3 (cnew).length cap3))).heap.size ((w9.setCell ⟨b4, 0, none⟩ (.slice p3 (cnew).length cap3))) x), Below.refl _ _, ?_⟩
            obtain ⟨v9, hw⟩ : ∃ zW, zW = (w9.setCell ⟨b4, 0, none⟩ (.slice p3 (cnew).length cap3)) := ⟨_, rfl⟩
            rw [← hw]
            replace hs : Cells v9 [(b4, 0, .slice p3 (cnew).length cap3), (b5, 0, .int .i64 0), (b5, 1, .slice none 0 0)] := by rw [hw]; exact ⟨⟨by go_cell, (fz d40f)⟩, ⟨by go_cell, (fz d50f)⟩, ⟨by go_cell, (fz d51f)⟩, trivial⟩
            replace hM1 : MxAt v9 q1 cq1 (hChain) := by rw [hw]; exact hM1.box d40 _
            replace hX2 : CAt v9 p2 cap2 cnew := by rw [hw]; exact hX2.box d40 _
            replace hX3 : CAt v9 p3 cap3 (cnew) := by rw [hw]; exact hX3.box d40 _
            replace hM3 : MxAt v9 y3 cy3 (hWant) := by rw [hw]; exact hM3.box d40 _
            replace hbw : Below w.heap.size w v9 := by rw [hw]; exact (Below.setCell hbw (by have h := HS.out; (try dsimp only); omega) _)
            replace hacc : Below wc.heap.size wc v9 := by rw [hw]; exact (Below.setCell hacc (by have h := HS.out; (try dsimp only); omega) _)
            replace zz : s + 0 ≤ v9.heap.size := by rw [hw]; simpa using zz
            clear hw
            clear d40 d40f d50 d50f d51 d51f
            clear hS
            (try simp only [Act.put, List.setIfInBounds_toArray, List.set_cons_zero, List.set_cons_succ])
            refine seqE_storeB rfl (by rfl) ?_ seqE_stop
            intro w10 hS
            replace hs := hs.up hS; replace hM1 := hM1.up hS; replace hX2 := hX2.mono hS; replace hX3 := hX3.mono hS; replace hM3 := hM3.up hS; replace hbw := btr hbw hS; replace zz := Nat.le_trans zz (Below.size hS); replace hacc := btr hacc hS
            obtain ⟨⟨d40, d40f⟩, ⟨d50, d50f⟩, ⟨d51, d51f⟩, -⟩ := id hs
            refine ⟨((w10.setCell ⟨b5, 0, none⟩ (.int .i64 2)).setCell ⟨b5, 1, none⟩ (.slice y3 (hWant).length cy3)), (by go_simp; try with_reducible rfl), (fun x => Below (((w10.setCell ⟨b5, 0, none⟩ (.int .i64 2)).setCell ⟨b5, 1, none⟩ (.slice y3 (hWant).length cy3))).heap.size (((w10.setCell ⟨b5, 0, none⟩ (.int .i64 2)).setCell ⟨b5, 1, none⟩ (.slice y3 (hWant).length cy3))) x), Below.refl _ _, ?_⟩
            obtain ⟨v10, hw⟩ : ∃ zW, zW = ((w10.setCell ⟨b5, 0, none⟩ (.int .i64 2)).setCell ⟨b5, 1, none⟩ (.slice y3 (hWant).length cy3)) := ⟨_, rfl⟩
            rw [← hw]
            replace hs : Cells v10 [(b4, 0, .slice p3 (cnew).length cap3), (b5, 0, .int .i64 2), (b5, 1, .slice y3 (hWant).length cy3)] := by rw [hw]; exact ⟨⟨by go_cell, (fz (fz d40f))⟩, ⟨by go_cell, (fz (fz d50f))⟩, ⟨by go_cell, (fz (fz d51f))⟩, trivial⟩
            replace hM1 : MxAt v10 q1 cq1 (hChain) := by rw [hw]; exact hM1.boxM d51 _ _
            replace hX2 : CAt v10 p2 cap2 cnew := by rw [hw]; exact hX2.boxM d51 _ _
            replace hX3 : CAt v10 p3 cap3 (cnew) := by rw [hw]; exact hX3.boxM d51 _ _
            replace hM3 : MxAt v10 y3 cy3 (hWant) := by rw [hw]; exact hM3.boxM d51 _ _
            replace hbw : Below w.heap.size w v10 := by rw [hw]; exact (Below.setCell (Below.setCell hbw (by have h := HS.out; (try dsimp only); omega) _) (by have h := HS.out; (try dsimp only); omega) _)
            replace hacc : Below wc.heap.size wc v10 := by rw [hw]; exact (Below.setCell (Below.setCell hacc (by have h := HS.out; (try dsimp only); omega) _) (by have h := HS.out; (try dsimp only); omega) _)
            replace zz : s + 0 ≤ v10.heap.size := by rw [hw]; simpa using zz
            clear hw
            clear d40 d40f d50 d50f d51 d51f
            clear hS
            (try simp only [Act.put, List.setIfInBounds_toArray, List.set_cons_zero, List.set_cons_succ])
            refine seqE_nil ?_
            intro wz hS
            replace hs := hs.up hS; replace hM1 := hM1.up hS; replace hX2 := hX2.mono hS; replace hX3 := hX3.mono hS; replace hM3 := hM3.up hS; replace hbw := btr hbw hS; replace zz := Nat.le_trans zz (Below.size hS); replace hacc := btr hacc hS; clear hS
            obtain ⟨⟨d40, d40f⟩, ⟨d50, d50f⟩, ⟨d51, d51f⟩, -⟩ := id hs
            go_wp2_with fail
            go_meet
            exact ⟨⟨_, _, rfl, rfl, Bx.at hX3 d40 d40f, ⟨_, _, ⟨⟨d50, d50f⟩, ⟨d51, d51f⟩, trivial⟩, hM3⟩⟩, hacc⟩
           refine seqE_move rfl (by rfl) ?_ ?_
           ·
            intro w11 hS
            refine ⟨.pointer (some ⟨w11.heap.size, 0, none⟩), w11.alloc (.cells #[.slice none 0 0] 27), (by go_simp; try with_reducible rfl), ?_⟩
            obtain ⟨b4, hb4⟩ : ∃ b, b = w11.heap.size := ⟨_, rfl⟩
            obtain ⟨v11, hw11⟩ : ∃ zW, zW = w11.alloc (.cells #[.slice none 0 0] 27) := ⟨_, rfl⟩
            rw [← hw11, ← hb4]
            have hbl : Below w11.heap.size w11 v11 := by rw [hw11]; go_grown
            have hge4 : s + 0 ≤ b4 := by rw [hb4]; exact Nat.le_trans zz hS.size
            have hga4 : wc.heap.size ≤ b4 := by rw [hb4]; exact Nat.le_trans hacc.size hS.size
            refine ⟨(fun x => Below v11.heap.size v11 x), Below.refl _ _, fun x hx => btr (btr hS hbl) hx, ?_⟩
            have hX := btr hS hbl
            replace hM1 := hM1.up hX; replace hX2 := hX2.mono hX; replace hbw := btr hbw hX; replace zz := Nat.le_trans zz (Below.size hX); replace hacc := btr hacc hX
            have hs : Cells v11 [(b4, 0, .slice none 0 0)] := ⟨⟨by rw [hw11, hb4]; go_cell, by rw [hw11, hb4]; go_cell⟩, trivial⟩
            clear hX hS hbl hw11 hb4
            (try simp only [Act.put, List.setIfInBounds_toArray, List.set_cons_zero, List.set_cons_succ])
            refine seqE_callB (f := ?_) (args := ?_) rfl (by rfl) ?_ ?_ ?_
            rotate_left 2
            focus (intro w hS; go_simp; first | done | with_reducible rfl | (refine ⟨?_, ?_⟩ <;> with_reducible rfl))
            ·
             intro w12 hS
             refine (stepwise_is (hX2.mono hS) (hM1.up hS) (Below.refl _ _) (by omega) (by omega) h15_good (by rw [cnew_len]; omega) h15_mok h15_st).mono ?_
             rintro e v12 ⟨p3, cap3, y3, cy3, rfl, hX3, hM3, hbl⟩
             refine ⟨_, rfl, (fun x => Below v12.heap.size v12 x), Below.refl _ _, ?_⟩
             have hXw := Nat.le_trans zz hS.size; have hXa := Nat.le_trans hacc.size hS.size
             have hX := btr hS hbl
             replace hs := hs.up hX; replace hM1 := hM1.up hX; replace hX2 := hX2.mono hX; replace hbw := btr hbw hX; replace zz := Nat.le_trans zz (Below.size hX); replace hacc := btr hacc hX
             clear hX hS hbl hXw hXa
             (try simp only [Act.put, List.setIfInBounds_toArray, List.set_cons_zero, List.set_cons_succ])
             iterate 3 (refine seqE_free (v := ?_) rfl (by rfl) ?_ ?_; rotate_left; (focus (intro w; go_simp; try with_reducible rfl)); (try simp only [Act.put, List.setIfInBounds_toArray, List.set_cons_zero, List.set_cons_succ]))
             refine seqE_move rfl (by rfl) ?_ seqE_stop
             intro w13 hS
             refine ⟨.pointer (some ⟨w13.heap.size, 0, none⟩), w13.alloc (.cells #[.int .i64 0, .slice none 0 0] 30), (by go_simp; try with_reducible rfl), ?_⟩
             obtain ⟨b5, hb5⟩ : ∃ b, b = w13.heap.size := ⟨_, rfl⟩
             obtain ⟨v13, hw13⟩ : ∃ zW, zW = w13.alloc (.cells #[.int .i64 0, .slice none 0 0] 30) := ⟨_, rfl⟩
             rw [← hw13, ← hb5]
             have hbl : Below w13.heap.size w13 v13 := by rw [hw13]; go_grown
             have hge5 : s + 0 ≤ b5 := by rw [hb5]; exact Nat.le_trans zz hS.size
             have hga5 : wc.heap.size ≤ b5 := by rw [hb5]; exact Nat.le_trans hacc.size hS.size
             have hlb4_5 : b4 < b5 := by rw [hb5]; exact Nat.lt_of_lt_of_le (World.block_lt_of_cell? _ _ hs.1.1) hS.size
             refine ⟨(fun x => Below v13.heap.size v13 x), Below.refl _ _, fun x hx => btr (btr hS hbl) hx, ?_⟩
             have hX := btr hS hbl
             replace hs := hs.up hX; replace hM1 := hM1.up hX; replace hX2 := hX2.mono hX; replace hX3 := hX3.mono hX; replace hM3 := hM3.up hX; replace hbw := btr hbw hX; replace zz := Nat.le_trans zz (Below.size hX); replace hacc := btr hacc hX
             replace hs : Cells v13 [(b5, 0, .int .i64 0), (b5, 1, .slice none 0 0), (b4, 0, .slice none 0 0)] := ⟨⟨by rw [hw13, hb5]; go_cell, by rw [hw13, hb5]; go_cell⟩, ⟨by rw [hw13, hb5]; go_cell, by rw [hw13, hb5]; go_cell⟩, hs⟩
             clear hX hS hbl hw13 hb5
             (try simp only [Act.put, List.setIfInBounds_toArray, List.set_cons_zero, List.set_cons_succ])
             refine seqE_storeB rfl (by rfl) ?_ seqE_stop
             intro w14 hS
             replace hs := hs.up hS; replace hM1 := hM1.up hS; replace hX2 := hX2.mono hS; replace hX3 := hX3.mono hS; replace hM3 := hM3.up hS; replace hbw := btr hbw hS; replace zz := Nat.le_trans zz (Below.size hS); replace hacc := btr hacc hS
             obtain ⟨⟨d50, d50f⟩, ⟨d51, d51f⟩, ⟨d40, d40f⟩, -⟩ := id hs
             refine ⟨(w14.setCell ⟨b4, 0, none⟩ (.slice p3 (cnew).length cap3)), (by go_simp; try with_reducible rfl), (fun x => Below ((w14.setCell ⟨b4, 0, none⟩ (.slice p3 (cnew).length cap3))).heap.size ((w14.setCell ⟨b4, 0, none⟩ (.slice p3 (cnew).length cap3))) x), Below.refl _ _, ?_⟩
             obtain ⟨v14, hw⟩ : ∃ zW, zW = (w14.setCell ⟨b4, 0, none⟩ (.slice p3 (cnew).length cap3)) := ⟨_, rfl⟩
             rw [← hw]
             replace hs : Cells v14 [(b5, 0, .int .i64 0), (b5, 1, .slice none 0 0), (b4, 0, .slice p3 (cnew).length cap3)] := by rw [hw]; exact ⟨⟨by go_cell, (fz d50f)⟩, ⟨by go_cell, (fz d51f)⟩, ⟨by go_cell, (fz d40f)⟩, trivial⟩
             replace hM1 : MxAt v14 q1 cq1 (hChain) := by rw [hw]; exact hM1.box d40 _
             replace hX2 : CAt v14 p2 cap2 cnew := by rw [hw]; exact hX2.box d40 _
             replace hX3 : CAt v14 p3 cap3 (cnew) := by rw [hw]; exact hX3.box d40 _
             replace hM3 : MxAt v14 y3 cy3 (hWant) := by rw [hw]; exact hM3.box d40 _
             replace hbw : Below w.heap.size w v14 := by rw [hw]; exact (Below.setCell hbw (by have h := HS.out; (try dsimp only); omega) _)
             replace hacc : Below wc.heap.size wc v14 := by rw [hw]; exact (Below.setCell hacc (by have h := HS.out; (try dsimp only); omega) _)
             replace zz : s + 0 ≤ v14.heap.size := by rw [hw]; simpa using zz
             clear hw
             clear d50 d50f d51 d51f d40 d40f
             clear hS
             (try simp only [Act.put, List.setIfInBounds_toArray, List.set_cons_zero, List.set_cons_succ])
             refine seqE_storeB rfl (by rfl) ?_ seqE_stop
             intro w15 hS
             replace hs := hs.up hS; replace hM1 := hM1.up hS; replace hX2 := hX2.mono hS; replace hX3 := hX3.mono hS; replace hM3 := hM3.up hS; replace hbw := btr hbw hS; replace zz := Nat.le_trans zz (Below.size hS); replace hacc := btr hacc hS
             obtain ⟨⟨d50, d50f⟩, ⟨d51, d51f⟩, ⟨d40, d40f⟩, -⟩ := id hs
             refine ⟨((w15.setCell ⟨b5, 0, none⟩ (.int .i64 2)).setCell ⟨b5, 1, none⟩ (.slice y3 (hWant).length cy3)), (by go_simp; try with_reducible rfl), (fun x => Below (((w15.setCell ⟨b5, 0, none⟩ (.int .i64 2)).setCell ⟨b5, 1, none⟩ (.slice y3 (hWant).length cy3))).heap.size (((w15.setCell ⟨b5, 0, none⟩ (.int .i64 2)).setCell ⟨b5, 1, none⟩ (.slice y3 (hWant).length cy3))) x), Below.refl _ _, ?_⟩
             obtain ⟨v15, hw⟩ : ∃ zW, zW = ((w15.setCell ⟨b5, 0, none⟩ (.int .i64 2)).setCell ⟨b5, 1, none⟩ (.slice y3 (hWant).length cy3)) := ⟨_, rfl⟩
             rw [← hw]
             replace hs : Cells v15 [(b5, 0, .int .i64 2), (b5, 1, .slice y3 (hWant).length cy3), (b4, 0, .slice p3 (cnew).length cap3)] := by rw [hw]; exact ⟨⟨by go_cell, (fz (fz d50f))⟩, ⟨by go_cell, (fz (fz d51f))⟩, ⟨by go_cell, (fz (fz d40f))⟩, trivial⟩
             replace hM1 : MxAt v15 q1 cq1 (hChain) := by rw [hw]; exact hM1.boxM d51 _ _
             replace hX2 : CAt v15 p2 cap2 cnew := by rw [hw]; exact hX2.boxM d51 _ _
             replace hX3 : CAt v15 p3 cap3 (cnew) := by rw [hw]; exact hX3.boxM d51 _ _
             replace hM3 : MxAt v15 y3 cy3 (hWant) := by rw [hw]; exact hM3.boxM d51 _ _
             replace hbw : Below w.heap.size w v15 := by rw [hw]; exact (Below.setCell (Below.setCell hbw (by have h := HS.out; (try dsimp only); omega) _) (by have h := HS.out; (try dsimp only); omega) _)
             replace hacc : Below wc.heap.size wc v15 := by rw [hw]; exact (Below.setCell (Below.setCell hacc (by have h := HS.out; (try dsimp only); omega) _) (by have h := HS.out; (try dsimp only); omega) _)
             replace zz : s + 0 ≤ v15.heap.size := by rw [hw]; simpa using zz
             clear hw
             clear d50 d50f d51 d51f d40 d40f
             clear hS
             (try simp only [Act.put, List.setIfInBounds_toArray, List.set_cons_zero, List.set_cons_succ])
             refine seqE_nil ?_
             intro wz hS
             replace hs := hs.up hS; replace hM1 := hM1.up hS; replace hX2 := hX2.mono hS; replace hX3 := hX3.mono hS; replace hM3 := hM3.up hS; replace hbw := btr hbw hS; replace zz := Nat.le_trans zz (Below.size hS); replace hacc := btr hacc hS; clear hS
             obtain ⟨⟨d50, d50f⟩, ⟨d51, d51f⟩, ⟨d40, d40f⟩, -⟩ := id hs
             go_wp2_with fail
             go_meet
             exact ⟨⟨_, _, rfl, rfl, Bx.at hX3 d40 d40f, ⟨_, _, ⟨⟨d50, d50f⟩, ⟨d51, d51f⟩, trivial⟩, hM3⟩⟩, hacc⟩
            refine seqE_move rfl (by rfl) ?_ seqE_stop
            intro w16 hS
            refine ⟨.pointer (some ⟨w16.heap.size, 0, none⟩), w16.alloc (.cells #[.int .i64 0, .slice none 0 0] 30), (by go_simp; try with_reducible rfl), ?_⟩
            obtain ⟨b5, hb5⟩ : ∃ b, b = w16.heap.size := ⟨_, rfl⟩
            obtain ⟨v16, hw16⟩ : ∃ zW, zW = w16.alloc (.cells #[.int .i64 0, .slice none 0 0] 30) := ⟨_, rfl⟩
            rw [← hw16, ← hb5]
            have hbl : Below w16.heap.size w16 v16 := by rw [hw16]; go_grown
            have hge5 : s + 0 ≤ b5 := by rw [hb5]; exact Nat.le_trans zz hS.size
            have hga5 : wc.heap.size ≤ b5 := by rw [hb5]; exact Nat.le_trans hacc.size hS.size
            have hlb4_5 : b4 < b5 := by rw [hb5]; exact Nat.lt_of_lt_of_le (World.block_lt_of_cell? _ _ hs.1.1) hS.size
            refine ⟨(fun x => Below v16.heap.size v16 x), Below.refl _ _, fun x hx => btr (btr hS hbl) hx, ?_⟩
            have hX := btr hS hbl
            replace hs := hs.up hX; replace hM1 := hM1.up hX; replace hX2 := hX2.mono hX; replace hbw := btr hbw hX; replace zz := Nat.le_trans zz (Below.size hX); replace hacc := btr hacc hX
            replace hs : Cells v16 [(b5, 0, .int .i64 0), (b5, 1, .slice none 0 0), (b4, 0, .slice none 0 0)] := ⟨⟨by rw [hw16, hb5]; go_cell, by rw [hw16, hb5]; go_cell⟩, ⟨by rw [hw16, hb5]; go_cell, by rw [hw16, hb5]; go_cell⟩, hs⟩
            clear hX hS hbl hw16 hb5
            (try simp only [Act.put, List.setIfInBounds_toArray, List.set_cons_zero, List.set_cons_succ])
            refine seqE_callB (f := ?_) (args := ?_) rfl (by rfl) ?_ ?_ seqE_stop
            rotate_left 2
            focus (intro w hS; go_simp; first | done | with_reducible rfl | (refine ⟨?_, ?_⟩ <;> with_reducible rfl))
            intro w17 hS
            refine (stepwise_is (hX2.mono hS) (hM1.up hS) (Below.refl _ _) (by omega) (by omega) h15_good (by rw [cnew_len]; omega) h15_mok h15_st).mono ?_
            rintro e v17 ⟨p3, cap3, y3, cy3, rfl, hX3, hM3, hbl⟩
            refine ⟨_, rfl, (fun x => Below v17.heap.size v17 x), Below.refl _ _, ?_⟩
            have hXw := Nat.le_trans zz hS.size; have hXa := Nat.le_trans hacc.size hS.size
            have hX := btr hS hbl
            replace hs := hs.up hX; replace hM1 := hM1.up hX; replace hX2 := hX2.mono hX; replace hbw := btr hbw hX; replace zz := Nat.le_trans zz (Below.size hX); replace hacc := btr hacc hX
            clear hX hS hbl hXw hXa
            (try simp only [Act.put, List.setIfInBounds_toArray, List.set_cons_zero, List.set_cons_succ])
            iterate 3 (refine seqE_free (v := ?_) rfl (by rfl) ?_ ?_; rotate_left; (focus (intro w; go_simp; try with_reducible rfl)); (try simp only [Act.put, List.setIfInBounds_toArray, List.set_cons_zero, List.set_cons_succ]))
            refine seqE_storeB rfl (by rfl) ?_ seqE_stop
            intro w18 hS
            replace hs := hs.up hS; replace hM1 := hM1.up hS; replace hX2 := hX2.mono hS; replace hX3 := hX3.mono hS; replace hM3 := hM3.up hS; replace hbw := btr hbw hS; replace zz := Nat.le_trans zz (Below.size hS); replace hacc := btr hacc hS
            obtain ⟨⟨d50, d50f⟩, ⟨d51, d51f⟩, ⟨d40, d40f⟩, -⟩ := id hs
            refine ⟨(w18.setCell ⟨b4, 0, none⟩ (.slice p3 (cnew).length cap3)), (by go_simp; try with_reducible rfl), (fun x => Below ((w18.setCell ⟨b4, 0, none⟩ (.slice p3 (cnew).length cap3))).heap.size ((w18.setCell ⟨b4, 0, none⟩ (.slice p3 (cnew).length cap3))) x), Below.refl _ _, ?_⟩
            obtain ⟨v18, hw⟩ : ∃ zW, zW = (w18.setCell ⟨b4, 0, none⟩ (.slice p3 (cnew).length cap3)) := ⟨_, rfl⟩
            rw [← hw]
            replace hs : Cells v18 [(b5, 0, .int .i64 0), (b5, 1, .slice none 0 0), (b4, 0, .slice p3 (cnew).length cap3)] := by rw [hw]; exact ⟨⟨by go_cell, (fz d50f)⟩, ⟨by go_cell, (fz d51f)⟩, ⟨by go_cell, (fz d40f)⟩, trivial⟩
            replace hM1 : MxAt v18 q1 cq1 (hChain) := by rw [hw]; exact hM1.box d40 _
            replace hX2 : CAt v18 p2 cap2 cnew := by rw [hw]; exact hX2.box d40 _
            replace hX3 : CAt v18 p3 cap3 (cnew) := by rw [hw]; exact hX3.box d40 _
            replace hM3 : MxAt v18 y3 cy3 (hWant) := by rw [hw]; exact hM3.box d40 _
            replace hbw : Below w.heap.size w v18 := by rw [hw]; exact (Below.setCell hbw (by have h := HS.out; (try dsimp only); omega) _)
            replace hacc : Below wc.heap.size wc v18 := by rw [hw]; exact (Below.setCell hacc (by have h := HS.out; (try dsimp only); omega) _)
            replace zz : s + 0 ≤ v18.heap.size := by rw [hw]; simpa using zz
            clear hw
            clear d50 d50f d51 d51f d40 d40f
            clear hS
            (try simp only [Act.put, List.setIfInBounds_toArray, List.set_cons_zero, List.set_cons_succ])
            refine seqE_storeB rfl (by rfl) ?_ seqE_stop
            intro w19 hS
            replace hs := hs.up hS; replace hM1 := hM1.up hS; replace hX2 := hX2.mono hS; replace hX3 := hX3.mono hS; replace hM3 := hM3.up hS; replace hbw := btr hbw hS; replace zz := Nat.le_trans zz (Below.size hS); replace hacc := btr hacc hS
            obtain ⟨⟨d50, d50f⟩, ⟨d51, d51f⟩, ⟨d40, d40f⟩, -⟩ := id hs
            refine ⟨((w19.setCell ⟨b5, 0, none⟩ (.int .i64 2)).setCell ⟨b5, 1, none⟩ (.slice y3 (hWant).length cy3)), (by go_simp; try with_reducible rfl), (fun x => Below (((w19.setCell ⟨b5, 0, none⟩ (.int .i64 2)).setCell ⟨b5, 1, none⟩ (.slice y3 (hWant).length cy3))).heap.size (((w19.setCell ⟨b5, 0, none⟩ (.int .i64 2)).setCell ⟨b5, 1, none⟩ (.slice y3 (hWant).length cy3))) x), Below.refl _ _, ?_⟩
            obtain ⟨v19, hw⟩ : ∃ zW, zW = ((w19.setCell ⟨b5, 0, none⟩ (.int .i64 2)).setCell ⟨b5, 1, none⟩ (.slice y3 (hWant).length cy3)) := ⟨_, rfl⟩
            rw [← hw]
            replace hs : Cells v19 [(b5, 0, .int .i64 2), (b5, 1, .slice y3 (hWant).length cy3), (b4, 0, .slice p3 (cnew).length cap3)] := by rw [hw]; exact ⟨⟨by go_cell, (fz (fz d50f))⟩, ⟨by go_cell, (fz (fz d51f))⟩, ⟨by go_cell, (fz (fz d40f))⟩, trivial⟩
            replace hM1 : MxAt v19 q1 cq1 (hChain) := by rw [hw]; exact hM1.boxM d51 _ _
            replace hX2 : CAt v19 p2 cap2 cnew := by rw [hw]; exact hX2.boxM d51 _ _
            replace hX3 : CAt v19 p3 cap3 (cnew) := by rw [hw]; exact hX3.boxM d51 _ _
            replace hM3 : MxAt v19 y3 cy3 (hWant) := by rw [hw]; exact hM3.boxM d51 _ _
            replace hbw : Below w.heap.size w v19 := by rw [hw]; exact (Below.setCell (Below.setCell hbw (by have h := HS.out; (try dsimp only); omega) _) (by have h := HS.out; (try dsimp only); omega) _)
            replace hacc : Below wc.heap.size wc v19 := by rw [hw]; exact (Below.setCell (Below.setCell hacc (by have h := HS.out; (try dsimp only); omega) _) (by have h := HS.out; (try dsimp only); omega) _)
            replace zz : s + 0 ≤ v19.heap.size := by rw [hw]; simpa using zz
            clear hw
            clear d50 d50f d51 d51f d40 d40f
            clear hS
            (try simp only [Act.put, List.setIfInBounds_toArray, List.set_cons_zero, List.set_cons_succ])
            refine seqE_nil ?_
            intro wz hS
            replace hs := hs.up hS; replace hM1 := hM1.up hS; replace hX2 := hX2.mono hS; replace hX3 := hX3.mono hS; replace hM3 := hM3.up hS; replace hbw := btr hbw hS; replace zz := Nat.le_trans zz (Below.size hS); replace hacc := btr hacc hS; clear hS
            obtain ⟨⟨d50, d50f⟩, ⟨d51, d51f⟩, ⟨d40, d40f⟩, -⟩ := id hs
            go_wp2_with fail
            go_meet
            exact ⟨⟨_, _, rfl, rfl, Bx.at hX3 d40 d40f, ⟨_, _, ⟨⟨d50, d50f⟩, ⟨d51, d51f⟩, trivial⟩, hM3⟩⟩, hacc⟩
           refine seqE_move rfl (by rfl) ?_ seqE_stop
           intro w20 hS
           refine ⟨.pointer (some ⟨w20.heap.size, 0, none⟩), w20.alloc (.cells #[.int .i64 0, .slice none 0 0] 30), (by go_simp; try with_reducible rfl), ?_⟩
           obtain ⟨b5, hb5⟩ : ∃ b, b = w20.heap.size := ⟨_, rfl⟩
           obtain ⟨v20, hw20⟩ : ∃ zW, zW = w20.alloc (.cells #[.int .i64 0, .slice none 0 0] 30) := ⟨_, rfl⟩
           rw [← hw20, ← hb5]
           have hbl : Below w20.heap.size w20 v20 := by rw [hw20]; go_grown
           have hge5 : s + 0 ≤ b5 := by rw [hb5]; exact Nat.le_trans zz hS.size
           have hga5 : wc.heap.size ≤ b5 := by rw [hb5]; exact Nat.le_trans hacc.size hS.size
           refine ⟨(fun x => Below v20.heap.size v20 x), Below.refl _ _, fun x hx => btr (btr hS hbl) hx, ?_⟩
           have hX := btr hS hbl
           replace hM1 := hM1.up hX; replace hX2 := hX2.mono hX; replace hbw := btr hbw hX; replace zz := Nat.le_trans zz (Below.size hX); replace hacc := btr hacc hX
           have hs : Cells v20 [(b5, 0, .int .i64 0), (b5, 1, .slice none 0 0)] := ⟨⟨by rw [hw20, hb5]; go_cell, by rw [hw20, hb5]; go_cell⟩, ⟨by rw [hw20, hb5]; go_cell, by rw [hw20, hb5]; go_cell⟩, trivial⟩
           clear hX hS hbl hw20 hb5
           (try simp only [Act.put, List.setIfInBounds_toArray, List.set_cons_zero, List.set_cons_succ])
           refine seqE_callB (f := ?_) (args := ?_) rfl (by rfl) ?_ ?_ ?_
           rotate_left 2
           focus (intro w hS; go_simp; first | done | with_reducible rfl | (refine ⟨?_, ?_⟩ <;> with_reducible rfl))
           ·
            intro w21 hS
            refine (stepwise_is (hX2.mono hS) (hM1.up hS) (Below.refl _ _) (by omega) (by omega) h15_good (by rw [cnew_len]; omega) h15_mok h15_st).mono ?_
            rintro e v21 ⟨p3, cap3, y3, cy3, rfl, hX3, hM3, hbl⟩
            refine ⟨_, rfl, (fun x => Below v21.heap.size v21 x), Below.refl _ _, ?_⟩
            have hXw := Nat.le_trans zz hS.size; have hXa := Nat.le_trans hacc.size hS.size
            have hX := btr hS hbl
            replace hs := hs.up hX; replace hM1 := hM1.up hX; replace hX2 := hX2.mono hX; replace hbw := btr hbw hX; replace zz := Nat.le_trans zz (Below.size hX); replace hacc := btr hacc hX
            clear hX hS hbl hXw hXa
            (try simp only [Act.put, List.setIfInBounds_toArray, List.set_cons_zero, List.set_cons_succ])
            iterate 3 (refine seqE_free (v := ?_) rfl (by rfl) ?_ ?_; rotate_left; (focus (intro w; go_simp; try with_reducible rfl)); (try simp only [Act.put, List.setIfInBounds_toArray, List.set_cons_zero, List.set_cons_succ]))
            refine seqE_move rfl (by rfl) ?_ seqE_stop
            intro w22 hS
            refine ⟨.pointer (some ⟨w22.heap.size, 0, none⟩), w22.alloc (.cells #[.slice none 0 0] 27), (by go_simp; try with_reducible rfl), ?_⟩
            obtain ⟨b4, hb4⟩ : ∃ b, b = w22.heap.size := ⟨_, rfl⟩
            obtain ⟨v22, hw22⟩ : ∃ zW, zW = w22.alloc (.cells #[.slice none 0 0] 27) := ⟨_, rfl⟩
            rw [← hw22, ← hb4]
            have hbl : Below w22.heap.size w22 v22 := by rw [hw22]; go_grown
            have hge4 : s + 0 ≤ b4 := by rw [hb4]; exact Nat.le_trans zz hS.size
            have hga4 : wc.heap.size ≤ b4 := by rw [hb4]; exact Nat.le_trans hacc.size hS.size
            have hlb5_4 : b5 < b4 := by rw [hb4]; exact Nat.lt_of_lt_of_le (World.block_lt_of_cell? _ _ hs.1.1) hS.size
            refine ⟨(fun x => Below v22.heap.size v22 x), Below.refl _ _, fun x hx => btr (btr hS hbl) hx, ?_⟩
            have hX := btr hS hbl
            replace hs := hs.up hX; replace hM1 := hM1.up hX; replace hX2 := hX2.mono hX; replace hX3 := hX3.mono hX; replace hM3 := hM3.up hX; replace hbw := btr hbw hX; replace zz := Nat.le_trans zz (Below.size hX); replace hacc := btr hacc hX
            replace hs : Cells v22 [(b4, 0, .slice none 0 0), (b5, 0, .int .i64 0), (b5, 1, .slice none 0 0)] := ⟨⟨by rw [hw22, hb4]; go_cell, by rw [hw22, hb4]; go_cell⟩, hs⟩
            clear hX hS hbl hw22 hb4
            (try simp only [Act.put, List.setIfInBounds_toArray, List.set_cons_zero, List.set_cons_succ])
            refine seqE_storeB rfl (by rfl) ?_ seqE_stop
            intro w23 hS
            replace hs := hs.up hS; replace hM1 := hM1.up hS; replace hX2 := hX2.mono hS; replace hX3 := hX3.mono hS; replace hM3 := hM3.up hS; replace hbw := btr hbw hS; replace zz := Nat.le_trans zz (Below.size hS); replace hacc := btr hacc hS
            obtain ⟨⟨d40, d40f⟩, ⟨d50, d50f⟩, ⟨d51, d51f⟩, -⟩ := id hs
            refine ⟨(w23.setCell ⟨b4, 0, none⟩ (.slice p3 (cnew).length cap3)), (by go_simp; try with_reducible rfl), (fun x => Below ((w23.setCell ⟨b4, 0, none⟩ (.slice p3 (cnew).length cap3))).heap.size ((w23.setCell ⟨b4, 0, none⟩ (.slice p3 (cnew).length cap3))) x), Below.refl _ _, ?_⟩
            obtain ⟨v23, hw⟩ : ∃ zW, zW = (w23.setCell ⟨b4, 0, none⟩ (.slice p3 (cnew).length cap3)) := ⟨_, rfl⟩
            rw [← hw]
            replace hs : Cells v23 [(b4, 0, .slice p3 (cnew).length cap3), (b5, 0, .int .i64 0), (b5, 1, .slice none 0 0)] := by rw [hw]; exact ⟨⟨by go_cell, (fz d40f)⟩, ⟨by go_cell, (fz d50f)⟩, ⟨by go_cell, (fz d51f)⟩, trivial⟩
            replace hM1 : MxAt v23 q1 cq1 (hChain) := by rw [hw]; exact hM1.box d40 _
            replace hX2 : CAt v23 p2 cap2 cnew := by rw [hw]; exact hX2.box d40 _
            replace hX3 : CAt v23 p3 cap3 (cnew) := by rw [hw]; exact hX3.box d40 _
            replace hM3 : MxAt v23 y3 cy3 (hWant) := by rw [hw]; exact hM3.box d40 _
            replace hbw : Below w.heap.size w v23 := by rw [hw]; exact (Below.setCell hbw (by have h := HS.out; (try dsimp only); omega) _)
            replace hacc : Below wc.heap.size wc v23 := by rw [hw]; exact (Below.setCell hacc (by have h := HS.out; (try dsimp only); omega) _)
            replace zz : s + 0 ≤ v23.heap.size := by rw [hw]; simpa using zz
            clear hw
            clear d40 d40f d50 d50f d51 d51f
            clear hS
            (try simp only [Act.put, List.setIfInBounds_toArray, List.set_cons_zero, List.set_cons_succ])
            refine seqE_storeB rfl (by rfl) ?_ seqE_stop
            intro w24 hS
            replace hs := hs.up hS; replace hM1 := hM1.up hS; replace hX2 := hX2.mono hS; replace hX3 := hX3.mono hS; replace hM3 := hM3.up hS; replace hbw := btr hbw hS; replace zz := Nat.le_trans zz (Below.size hS); replace hacc := btr hacc hS
            obtain ⟨⟨d40, d40f⟩, ⟨d50, d50f⟩, ⟨d51, d51f⟩, -⟩ := id hs
            refine ⟨((w24.setCell ⟨b5, 0, none⟩ (.int .i64 2)).setCell ⟨b5, 1, none⟩ (.slice y3 (hWant).length cy3)), (by go_simp; try with_reducible rfl), (fun x => Below (((w24.setCell ⟨b5, 0, none⟩ (.int .i64 2)).setCell ⟨b5, 1, none⟩ (.slice y3 (hWant).length cy3))).heap.size (((w24.setCell ⟨b5, 0, none⟩ (.int .i64 2)).setCell ⟨b5, 1, none⟩ (.slice y3 (hWant).length cy3))) x), Below.refl _ _, ?_⟩
            obtain ⟨v24, hw⟩ : ∃ zW, zW = ((w24.setCell ⟨b5, 0, none⟩ (.int .i64 2)).setCell ⟨b5, 1, none⟩ (.slice y3 (hWant).length cy3)) := ⟨_, rfl⟩
            rw [← hw]
            replace hs : Cells v24 [(b4, 0, .slice p3 (cnew).length cap3), (b5, 0, .int .i64 2), (b5, 1, .slice y3 (hWant).length cy3)] := by rw [hw]; exact ⟨⟨by go_cell, (fz (fz d40f))⟩, ⟨by go_cell, (fz (fz d50f))⟩, ⟨by go_cell, (fz (fz d51f))⟩, trivial⟩
            replace hM1 : MxAt v24 q1 cq1 (hChain) := by rw [hw]; exact hM1.boxM d51 _ _
            replace hX2 : CAt v24 p2 cap2 cnew := by rw [hw]; exact hX2.boxM d51 _ _
            replace hX3 : CAt v24 p3 cap3 (cnew) := by rw [hw]; exact hX3.boxM d51 _ _
            replace hM3 : MxAt v24 y3 cy3 (hWant) := by rw [hw]; exact hM3.boxM d51 _ _
            replace hbw : Below w.heap.size w v24 := by rw [hw]; exact (Below.setCell (Below.setCell hbw (by have h := HS.out; (try dsimp only); omega) _) (by have h := HS.out; (try dsimp only); omega) _)
            replace hacc : Below wc.heap.size wc v24 := by rw [hw]; exact (Below.setCell (Below.setCell hacc (by have h := HS.out; (try dsimp only); omega) _) (by have h := HS.out; (try dsimp only); omega) _)
            replace zz : s + 0 ≤ v24.heap.size := by rw [hw]; simpa using zz
            clear hw
            clear d40 d40f d50 d50f d51 d51f
            clear hS
            (try simp only [Act.put, List.setIfInBounds_toArray, List.set_cons_zero, List.set_cons_succ])
            refine seqE_nil ?_
            intro wz hS
            replace hs := hs.up hS; replace hM1 := hM1.up hS; replace hX2 := hX2.mono hS; replace hX3 := hX3.mono hS; replace hM3 := hM3.up hS; replace hbw := btr hbw hS; replace zz := Nat.le_trans zz (Below.size hS); replace hacc := btr hacc hS; clear hS
            obtain ⟨⟨d40, d40f⟩, ⟨d50, d50f⟩, ⟨d51, d51f⟩, -⟩ := id hs
            go_wp2_with fail
            go_meet
            exact ⟨⟨_, _, rfl, rfl, Bx.at hX3 d40 d40f, ⟨_, _, ⟨⟨d50, d50f⟩, ⟨d51, d51f⟩, trivial⟩, hM3⟩⟩, hacc⟩
           refine seqE_move rfl (by rfl) ?_ seqE_stop
           intro w25 hS
           refine ⟨.pointer (some ⟨w25.heap.size, 0, none⟩), w25.alloc (.cells #[.slice none 0 0] 27), (by go_simp; try with_reducible rfl), ?_⟩
           obtain ⟨b4, hb4⟩ : ∃ b, b = w25.heap.size := ⟨_, rfl⟩
           obtain ⟨v25, hw25⟩ : ∃ zW, zW = w25.alloc (.cells #[.slice none 0 0] 27) := ⟨_, rfl⟩
           rw [← hw25, ← hb4]
           have hbl : Below w25.heap.size w25 v25 := by rw [hw25]; go_grown
           have hge4 : s + 0 ≤ b4 := by rw [hb4]; exact Nat.le_trans zz hS.size
           have hga4 : wc.heap.size ≤ b4 := by rw [hb4]; exact Nat.le_trans hacc.size hS.size
           have hlb5_4 : b5 < b4 := by rw [hb4]; exact Nat.lt_of_lt_of_le (World.block_lt_of_cell? _ _ hs.1.1) hS.size
           refine ⟨(fun x => Below v25.heap.size v25 x), Below.refl _ _, fun x hx => btr (btr hS hbl) hx, ?_⟩
           have hX := btr hS hbl
           replace hs := hs.up hX; replace hM1 := hM1.up hX; replace hX2 := hX2.mono hX; replace hbw := btr hbw hX; replace zz := Nat.le_trans zz (Below.size hX); replace hacc := btr hacc hX
           replace hs : Cells v25 [(b4, 0, .slice none 0 0), (b5, 0, .int .i64 0), (b5, 1, .slice none 0 0)] := ⟨⟨by rw [hw25, hb4]; go_cell, by rw [hw25, hb4]; go_cell⟩, hs⟩
           clear hX hS hbl hw25 hb4
           (try simp only [Act.put, List.setIfInBounds_toArray, List.set_cons_zero, List.set_cons_succ])
           refine seqE_callB (f := ?_) (args := ?_) rfl (by rfl) ?_ ?_ seqE_stop
           rotate_left 2
           focus (intro w hS; go_simp; first | done | with_reducible rfl | (refine ⟨?_, ?_⟩ <;> with_reducible rfl))
           intro w26 hS
           refine (stepwise_is (hX2.mono hS) (hM1.up hS) (Below.refl _ _) (by omega) (by omega) h15_good (by rw [cnew_len]; omega) h15_mok h15_st).mono ?_
           rintro e v26 ⟨p3, cap3, y3, cy3, rfl, hX3, hM3, hbl⟩
           refine ⟨_, rfl, (fun x => Below v26.heap.size v26 x), Below.refl _ _, ?_⟩
           have hXw := Nat.le_trans zz hS.size; have hXa := Nat.le_trans hacc.size hS.size
           have hX := btr hS hbl
           replace hs := hs.up hX; replace hM1 := hM1.up hX; replace hX2 := hX2.mono hX; replace hbw := btr hbw hX; replace zz := Nat.le_trans zz (Below.size hX); replace hacc := btr hacc hX
           clear hX hS hbl hXw hXa
           (try simp only [Act.put, List.setIfInBounds_toArray, List.set_cons_zero, List.set_cons_succ])
           iterate 3 (refine seqE_free (v := ?_) rfl (by rfl) ?_ ?_; rotate_left; (focus (intro w; go_simp; try with_reducible rfl)); (try simp only [Act.put, List.setIfInBounds_toArray, List.set_cons_zero, List.set_cons_succ]))
           refine seqE_storeB rfl (by rfl) ?_ seqE_stop
           intro w27 hS
           replace hs := hs.up hS; replace hM1 := hM1.up hS; replace hX2 := hX2.mono hS; replace hX3 := hX3.mono hS; replace hM3 := hM3.up hS; replace hbw := btr hbw hS; replace zz := Nat.le_trans zz (Below.size hS); replace hacc := btr hacc hS
           obtain ⟨⟨d40, d40f⟩, ⟨d50, d50f⟩, ⟨d51, d51f⟩, -⟩ := id hs
           refine ⟨(w27.setCell ⟨b4, 0, none⟩ (.slice p3 (cnew).length cap3)), (by go_simp; try with_reducible rfl), (fun x => Below ((w27.setCell ⟨b4, 0, none⟩ (.slice p3 (cnew).length cap3))).heap.size ((w27.setCell ⟨b4, 0, none⟩ (.slice p3 (cnew).length cap3))) x), Below.refl _ _, ?_⟩
           obtain ⟨v27, hw⟩ : ∃ zW, zW = (w27.setCell ⟨b4, 0, none⟩ (.slice p3 (cnew).length cap3)) := ⟨_, rfl⟩
           rw [← hw]
           replace hs : Cells v27 [(b4, 0, .slice p3 (cnew).length cap3), (b5, 0, .int .i64 0), (b5, 1, .slice none 0 0)] := by rw [hw]; exact ⟨⟨by go_cell, (fz d40f)⟩, ⟨by go_cell, (fz d50f)⟩, ⟨by go_cell, (fz d51f)⟩, trivial⟩
           replace hM1 : MxAt v27 q1 cq1 (hChain) := by rw [hw]; exact hM1.box d40 _
           replace hX2 : CAt v27 p2 cap2 cnew := by rw [hw]; exact hX2.box d40 _
           replace hX3 : CAt v27 p3 cap3 (cnew) := by rw [hw]; exact hX3.box d40 _
           replace hM3 : MxAt v27 y3 cy3 (hWant) := by rw [hw]; exact hM3.box d40 _
           replace hbw : Below w.heap.size w v27 := by rw [hw]; exact (Below.setCell hbw (by have h := HS.out; (try dsimp only); omega) _)
           replace hacc : Below wc.heap.size wc v27 := by rw [hw]; exact (Below.setCell hacc (by have h := HS.out; (try dsimp only); omega) _)
           replace zz : s + 0 ≤ v27.heap.size := by rw [hw]; simpa using zz
           clear hw
           clear d40 d40f d50 d50f d51 d51f
           clear hS
           (try simp only [Act.put, List.setIfInBounds_toArray, List.set_cons_zero, List.set_cons_succ])
           refine seqE_storeB rfl (by rfl) ?_ seqE_stop
           intro w28 hS
           replace hs := hs.up hS; replace hM1 := hM1.up hS; replace hX2 := hX2.mono hS; replace hX3 := hX3.mono hS; replace hM3 := hM3.up hS; replace hbw := btr hbw hS; replace zz := Nat.le_trans zz (Below.size hS); replace hacc := btr hacc hS
           obtain ⟨⟨d40, d40f⟩, ⟨d50, d50f⟩, ⟨d51, d51f⟩, -⟩ := id hs
           refine ⟨((w28.setCell ⟨b5, 0, none⟩ (.int .i64 2)).setCell ⟨b5, 1, none⟩ (.slice y3 (hWant).length cy3)), (by go_simp; try with_reducible rfl), (fun x => Below (((w28.setCell ⟨b5, 0, none⟩ (.int .i64 2)).setCell ⟨b5, 1, none⟩ (.slice y3 (hWant).length cy3))).heap.size (((w28.setCell ⟨b5, 0, none⟩ (.int .i64 2)).setCell ⟨b5, 1, none⟩ (.slice y3 (hWant).length cy3))) x), Below.refl _ _, ?_⟩
           obtain ⟨v28, hw⟩ : ∃ zW, zW = ((w28.setCell ⟨b5, 0, none⟩ (.int .i64 2)).setCell ⟨b5, 1, none⟩ (.slice y3 (hWant).length cy3)) := ⟨_, rfl⟩
           rw [← hw]
           replace hs : Cells v28 [(b4, 0, .slice p3 (cnew).length cap3), (b5, 0, .int .i64 2), (b5, 1, .slice y3 (hWant).length cy3)] := by rw [hw]; exact ⟨⟨by go_cell, (fz (fz d40f))⟩, ⟨by go_cell, (fz (fz d50f))⟩, ⟨by go_cell, (fz (fz d51f))⟩, trivial⟩
           replace hM1 : MxAt v28 q1 cq1 (hChain) := by rw [hw]; exact hM1.boxM d51 _ _
           replace hX2 : CAt v28 p2 cap2 cnew := by rw [hw]; exact hX2.boxM d51 _ _
           replace hX3 : CAt v28 p3 cap3 (cnew) := by rw [hw]; exact hX3.boxM d51 _ _
           replace hM3 : MxAt v28 y3 cy3 (hWant) := by rw [hw]; exact hM3.boxM d51 _ _
           replace hbw : Below w.heap.size w v28 := by rw [hw]; exact (Below.setCell (Below.setCell hbw (by have h := HS.out; (try dsimp only); omega) _) (by have h := HS.out; (try dsimp only); omega) _)
           replace hacc : Below wc.heap.size wc v28 := by rw [hw]; exact (Below.setCell (Below.setCell hacc (by have h := HS.out; (try dsimp only); omega) _) (by have h := HS.out; (try dsimp only); omega) _)
           replace zz : s + 0 ≤ v28.heap.size := by rw [hw]; simpa using zz
           clear hw
           clear d40 d40f d50 d50f d51 d51f
           clear hS
           (try simp only [Act.put, List.setIfInBounds_toArray, List.set_cons_zero, List.set_cons_succ])
           refine seqE_nil ?_
           intro wz hS
           replace hs := hs.up hS; replace hM1 := hM1.up hS; replace hX2 := hX2.mono hS; replace hX3 := hX3.mono hS; replace hM3 := hM3.up hS; replace hbw := btr hbw hS; replace zz := Nat.le_trans zz (Below.size hS); replace hacc := btr hacc hS; clear hS
           obtain ⟨⟨d40, d40f⟩, ⟨d50, d50f⟩, ⟨d51, d51f⟩, -⟩ := id hs
           go_wp2_with fail
           go_meet
           exact ⟨⟨_, _, rfl, rfl, Bx.at hX3 d40 d40f, ⟨_, _, ⟨⟨d50, d50f⟩, ⟨d51, d51f⟩, trivial⟩, hM3⟩⟩, hacc⟩
          refine seqE_move rfl (by rfl) ?_ ?_
          ·
           intro w29 hS
           refine ⟨.pointer (some ⟨w29.heap.size, 0, none⟩), w29.alloc (.cells #[.slice none 0 0] 27), (by go_simp; try with_reducible rfl), ?_⟩
           obtain ⟨b4, hb4⟩ : ∃ b, b = w29.heap.size := ⟨_, rfl⟩
           obtain ⟨v29, hw29⟩ : ∃ zW, zW = w29.alloc (.cells #[.slice none 0 0] 27) := ⟨_, rfl⟩
           rw [← hw29, ← hb4]
           have hbl : Below w29.heap.size w29 v29 := by rw [hw29]; go_grown
           have hge4 : s + 0 ≤ b4 := by rw [hb4]; exact Nat.le_trans zz hS.size
           have hga4 : wc.heap.size ≤ b4 := by rw [hb4]; exact Nat.le_trans hacc.size hS.size
           refine ⟨(fun x => Below v29.heap.size v29 x), Below.refl _ _, fun x hx => btr (btr hS hbl) hx, ?_⟩
           have hX := btr hS hbl
           replace hM1 := hM1.up hX; replace hbw := btr hbw hX; replace zz := Nat.le_trans zz (Below.size hX); replace hacc := btr hacc hX
           have hs : Cells v29 [(b4, 0, .slice none 0 0)] := ⟨⟨by rw [hw29, hb4]; go_cell, by rw [hw29, hb4]; go_cell⟩, trivial⟩
           clear hX hS hbl hw29 hb4
           (try simp only [Act.put, List.setIfInBounds_toArray, List.set_cons_zero, List.set_cons_succ])
           refine seqE_call (f := ?_) (args := ?_) rfl (by rfl) ?_ ?_ ?_
           rotate_left 2
           focus (intro w hS; go_simp; first | done | with_reducible rfl | (refine ⟨?_, ?_⟩ <;> with_reducible rfl))
           ·
            intro w30 hS
            refine (rnew_is w30).mono ?_
            rintro e v30 ⟨p2, cap2, rfl, hX2, hbl⟩
            refine ⟨_, rfl, (fun x => Below v30.heap.size v30 x), Below.refl _ _, fun x hx => btr (btr hS hbl) hx, ?_⟩
            have hXw := Nat.le_trans zz hS.size; have hXa := Nat.le_trans hacc.size hS.size
            have hX := btr hS hbl
            replace hs := hs.up hX; replace hM1 := hM1.up hX; replace hbw := btr hbw hX; replace zz := Nat.le_trans zz (Below.size hX); replace hacc := btr hacc hX
            clear hX hS hbl hXw hXa
            (try simp only [Act.put, List.setIfInBounds_toArray, List.set_cons_zero, List.set_cons_succ])
            refine seqE_callB (f := ?_) (args := ?_) rfl (by rfl) ?_ ?_ ?_
            rotate_left 2
            focus (intro w hS; go_simp; first | done | with_reducible rfl | (refine ⟨?_, ?_⟩ <;> with_reducible rfl))
            ·
             intro w31 hS
             refine (stepwise_is (hX2.mono hS) (hM1.up hS) (Below.refl _ _) (by omega) (by omega) h15_good (by rw [cnew_len]; omega) h15_mok h15_st).mono ?_
             rintro e v31 ⟨p3, cap3, y3, cy3, rfl, hX3, hM3, hbl⟩
             refine ⟨_, rfl, (fun x => Below v31.heap.size v31 x), Below.refl _ _, ?_⟩
             have hXw := Nat.le_trans zz hS.size; have hXa := Nat.le_trans hacc.size hS.size
             have hX := btr hS hbl
             replace hs := hs.up hX; replace hM1 := hM1.up hX; replace hX2 := hX2.mono hX; replace hbw := btr hbw hX; replace zz := Nat.le_trans zz (Below.size hX); replace hacc := btr hacc hX
             clear hX hS hbl hXw hXa
             (try simp only [Act.put, List.setIfInBounds_toArray, List.set_cons_zero, List.set_cons_succ])
             iterate 3 (refine seqE_free (v := ?_) rfl (by rfl) ?_ ?_; rotate_left; (focus (intro w; go_simp; try with_reducible rfl)); (try simp only [Act.put, List.setIfInBounds_toArray, List.set_cons_zero, List.set_cons_succ]))
             refine seqE_move rfl (by rfl) ?_ seqE_stop
             intro w32 hS
             refine ⟨.pointer (some ⟨w32.heap.size, 0, none⟩), w32.alloc (.cells #[.int .i64 0, .slice none 0 0] 30), (by go_simp; try with_reducible rfl), ?_⟩
             obtain ⟨b5, hb5⟩ : ∃ b, b = w32.heap.size := ⟨_, rfl⟩
             obtain ⟨v32, hw32⟩ : ∃ zW, zW = w32.alloc (.cells #[.int .i64 0, .slice none 0 0] 30) := ⟨_, rfl⟩
             rw [← hw32, ← hb5]
             have hbl : Below w32.heap.size w32 v32 := by rw [hw32]; go_grown
             have hge5 : s + 0 ≤ b5 := by rw [hb5]; exact Nat.le_trans zz hS.size
             have hga5 : wc.heap.size ≤ b5 := by rw [hb5]; exact Nat.le_trans hacc.size hS.size
             have hlb4_5 : b4 < b5 := by rw [hb5]; exact Nat.lt_of_lt_of_le (World.block_lt_of_cell? _ _ hs.1.1) hS.size
             refine ⟨(fun x => Below v32.heap.size v32 x), Below.refl _ _, fun x hx => btr (btr hS hbl) hx, ?_⟩
             have hX := btr hS hbl
             replace hs := hs.up hX; replace hM1 := hM1.up hX; replace hX2 := hX2.mono hX; replace hX3 := hX3.mono hX; replace hM3 := hM3.up hX; replace hbw := btr hbw hX; replace zz := Nat.le_trans zz (Below.size hX); replace hacc := btr hacc hX
             replace hs : Cells v32 [(b5, 0, .int .i64 0), (b5, 1, .slice none 0 0), (b4, 0, .slice none 0 0)] := ⟨⟨by rw [hw32, hb5]; go_cell, by rw [hw32, hb5]; go_cell⟩, ⟨by rw [hw32, hb5]; go_cell, by rw [hw32, hb5]; go_cell⟩, hs⟩
             clear hX hS hbl hw32 hb5
             (try simp only [Act.put, List.setIfInBounds_toArray, List.set_cons_zero, List.set_cons_succ])
             refine seqE_storeB rfl (by rfl) ?_ seqE_stop
             intro w33 hS
             replace hs := hs.up hS; replace hM1 := hM1.up hS; replace hX2 := hX2.mono hS; replace hX3 := hX3.mono hS; replace hM3 := hM3.up hS; replace hbw := btr hbw hS; replace zz := Nat.le_trans zz (Below.size hS); replace hacc := btr hacc hS
             obtain ⟨⟨d50, d50f⟩, ⟨d51, d51f⟩, ⟨d40, d40f⟩, -⟩ := id hs
             refine ⟨(w33.setCell ⟨b4, 0, none⟩ (.slice p3 (cnew).length cap3)), (by go_simp; try with_reducible rfl), (fun x => Below ((w33.setCell ⟨b4, 0, none⟩ (.slice p3 (cnew).length cap3))).heap.size ((w33.setCell ⟨b4, 0, none⟩ (.slice p3 (cnew).length cap3))) x), Below.refl _ _, ?_⟩
             obtain ⟨v33, hw⟩ : ∃ zW, zW = (w33.setCell ⟨b4, 0, none⟩ (.slice p3 (cnew).length cap3)) := ⟨_, rfl⟩
             rw [← hw]
             replace hs : Cells v33 [(b5, 0, .int .i64 0), (b5, 1, .slice none 0 0), (b4, 0, .slice p3 (cnew).length cap3)] := by rw [hw]; exact ⟨⟨by go_cell, (fz d50f)⟩, ⟨by go_cell, (fz d51f)⟩, ⟨by go_cell, (fz d40f)⟩, trivial⟩
             replace hM1 : MxAt v33 q1 cq1 (hChain) := by rw [hw]; exact hM1.box d40 _
             replace hX2 : CAt v33 p2 cap2 cnew := by rw [hw]; exact hX2.box d40 _
             replace hX3 : CAt v33 p3 cap3 (cnew) := by rw [hw]; exact hX3.box d40 _
             replace hM3 : MxAt v33 y3 cy3 (hWant) := by rw [hw]; exact hM3.box d40 _
             replace hbw : Below w.heap.size w v33 := by rw [hw]; exact (Below.setCell hbw (by have h := HS.out; (try dsimp only); omega) _)
             replace hacc : Below wc.heap.size wc v33 := by rw [hw]; exact (Below.setCell hacc (by have h := HS.out; (try dsimp only); omega) _)
             replace zz : s + 0 ≤ v33.heap.size := by rw [hw]; simpa using zz
             clear hw
             clear d50 d50f d51 d51f d40 d40f
             clear hS
             (try simp only [Act.put, List.setIfInBounds_toArray, List.set_cons_zero, List.set_cons_succ])
             refine seqE_storeB rfl (by rfl) ?_ seqE_stop
             intro w34 hS
             replace hs := hs.up hS; replace hM1 := hM1.up hS; replace hX2 := hX2.mono hS; replace hX3 := hX3.mono hS; replace hM3 := hM3.up hS; replace hbw := btr hbw hS; replace zz := Nat.le_trans zz (Below.size hS); replace hacc := btr hacc hS
             obtain ⟨⟨d50, d50f⟩, ⟨d51, d51f⟩, ⟨d40, d40f⟩, -⟩ := id hs
             refine ⟨((w34.setCell ⟨b5, 0, none⟩ (.int .i64 2)).setCell ⟨b5, 1, none⟩ (.slice y3 (hWant).length cy3)), (by go_simp; try with_reducible rfl), (fun x => Below (((w34.setCell ⟨b5, 0, none⟩ (.int .i64 2)).setCell ⟨b5, 1, none⟩ (.slice y3 (hWant).length cy3))).heap.size (((w34.setCell ⟨b5, 0, none⟩ (.int .i64 2)).setCell ⟨b5, 1, none⟩ (.slice y3 (hWant).length cy3))) x), Below.refl _ _, ?_⟩
             obtain ⟨v34, hw⟩ : ∃ zW, zW = ((w34.setCell ⟨b5, 0, none⟩ (.int .i64 2)).setCell ⟨b5, 1, none⟩ (.slice y3 (hWant).length cy3)) := ⟨_, rfl⟩
             rw [← hw]
             replace hs : Cells v34 [(b5, 0, .int .i64 2), (b5, 1, .slice y3 (hWant).length cy3), (b4, 0, .slice p3 (cnew).length cap3)] := by rw [hw]; exact ⟨⟨by go_cell, (fz (fz d50f))⟩, ⟨by go_cell, (fz (fz d51f))⟩, ⟨by go_cell, (fz (fz d40f))⟩, trivial⟩
             replace hM1 : MxAt v34 q1 cq1 (hChain) := by rw [hw]; exact hM1.boxM d51 _ _
             replace hX2 : CAt v34 p2 cap2 cnew := by rw [hw]; exact hX2.boxM d51 _ _
             replace hX3 : CAt v34 p3 cap3 (cnew) := by rw [hw]; exact hX3.boxM d51 _ _
             replace hM3 : MxAt v34 y3 cy3 (hWant) := by rw [hw]; exact hM3.boxM d51 _ _
             replace hbw : Below w.heap.size w v34 := by rw [hw]; exact (Below.setCell (Below.setCell hbw (by have h := HS.out; (try dsimp only); omega) _) (by have h := HS.out; (try dsimp only); omega) _)
             replace hacc : Below wc.heap.size wc v34 := by rw [hw]; exact (Below.setCell (Below.setCell hacc (by have h := HS.out; (try dsimp only); omega) _) (by have h := HS.out; (try dsimp only); omega) _)
             replace zz : s + 0 ≤ v34.heap.size := by rw [hw]; simpa using zz
             clear hw
             clear d50 d50f d51 d51f d40 d40f
             clear hS
             (try simp only [Act.put, List.setIfInBounds_toArray, List.set_cons_zero, List.set_cons_succ])
             refine seqE_nil ?_
             intro wz hS
             replace hs := hs.up hS; replace hM1 := hM1.up hS; replace hX2 := hX2.mono hS; replace hX3 := hX3.mono hS; replace hM3 := hM3.up hS; replace hbw := btr hbw hS; replace zz := Nat.le_trans zz (Below.size hS); replace hacc := btr hacc hS; clear hS
             obtain ⟨⟨d50, d50f⟩, ⟨d51, d51f⟩, ⟨d40, d40f⟩, -⟩ := id hs
             go_wp2_with fail
             go_meet
             exact ⟨⟨_, _, rfl, rfl, Bx.at hX3 d40 d40f, ⟨_, _, ⟨⟨d50, d50f⟩, ⟨d51, d51f⟩, trivial⟩, hM3⟩⟩, hacc⟩
            refine seqE_move rfl (by rfl) ?_ seqE_stop
            intro w35 hS
            refine ⟨.pointer (some ⟨w35.heap.size, 0, none⟩), w35.alloc (.cells #[.int .i64 0, .slice none 0 0] 30), (by go_simp; try with_reducible rfl), ?_⟩
            obtain ⟨b5, hb5⟩ : ∃ b, b = w35.heap.size := ⟨_, rfl⟩
            obtain ⟨v35, hw35⟩ : ∃ zW, zW = w35.alloc (.cells #[.int .i64 0, .slice none 0 0] 30) := ⟨_, rfl⟩
            rw [← hw35, ← hb5]
            have hbl : Below w35.heap.size w35 v35 := by rw [hw35]; go_grown
            have hge5 : s + 0 ≤ b5 := by rw [hb5]; exact Nat.le_trans zz hS.size
            have hga5 : wc.heap.size ≤ b5 := by rw [hb5]; exact Nat.le_trans hacc.size hS.size
            have hlb4_5 : b4 < b5 := by rw [hb5]; exact Nat.lt_of_lt_of_le (World.block_lt_of_cell? _ _ hs.1.1) hS.size
            refine ⟨(fun x => Below v35.heap.size v35 x), Below.refl _ _, fun x hx => btr (btr hS hbl) hx, ?_⟩
            have hX := btr hS hbl
            replace hs := hs.up hX; replace hM1 := hM1.up hX; replace hX2 := hX2.mono hX; replace hbw := btr hbw hX; replace zz := Nat.le_trans zz (Below.size hX); replace hacc := btr hacc hX
            replace hs : Cells v35 [(b5, 0, .int .i64 0), (b5, 1, .slice none 0 0), (b4, 0, .slice none 0 0)] := ⟨⟨by rw [hw35, hb5]; go_cell, by rw [hw35, hb5]; go_cell⟩, ⟨by rw [hw35, hb5]; go_cell, by rw [hw35, hb5]; go_cell⟩, hs⟩
            clear hX hS hbl hw35 hb5
            (try simp only [Act.put, List.setIfInBounds_toArray, List.set_cons_zero, List.set_cons_succ])
            refine seqE_callB (f := ?_) (args := ?_) rfl (by rfl) ?_ ?_ seqE_stop
            rotate_left 2
            focus (intro w hS; go_simp; first | done | with_reducible rfl | (refine ⟨?_, ?_⟩ <;> with_reducible rfl))
            intro w36 hS
            refine (stepwise_is (hX2.mono hS) (hM1.up hS) (Below.refl _ _) (by omega) (by omega) h15_good (by rw [cnew_len]; omega) h15_mok h15_st).mono ?_
            rintro e v36 ⟨p3, cap3, y3, cy3, rfl, hX3, hM3, hbl⟩
            refine ⟨_, rfl, (fun x => Below v36.heap.size v36 x), Below.refl _ _, ?_⟩
            have hXw := Nat.le_trans zz hS.size; have hXa := Nat.le_trans hacc.size hS.size
            have hX := btr hS hbl
            replace hs := hs.up hX; replace hM1 := hM1.up hX; replace hX2 := hX2.mono hX; replace hbw := btr hbw hX; replace zz := Nat.le_trans zz (Below.size hX); replace hacc := btr hacc hX
            clear hX hS hbl hXw hXa
            (try simp only [Act.put, List.setIfInBounds_toArray, List.set_cons_zero, List.set_cons_succ])
            iterate 3 (refine seqE_free (v := ?_) rfl (by rfl) ?_ ?_; rotate_left; (focus (intro w; go_simp; try with_reducible rfl)); (try simp only [Act.put, List.setIfInBounds_toArray, List.set_cons_zero, List.set_cons_succ]))
            refine seqE_storeB rfl (by rfl) ?_ seqE_stop
            intro w37 hS
            replace hs := hs.up hS; replace hM1 := hM1.up hS; replace hX2 := hX2.mono hS; replace hX3 := hX3.mono hS; replace hM3 := hM3.up hS; replace hbw := btr hbw hS; replace zz := Nat.le_trans zz (Below.size hS); replace hacc := btr hacc hS
            obtain ⟨⟨d50, d50f⟩, ⟨d51, d51f⟩, ⟨d40, d40f⟩, -⟩ := id hs
            refine ⟨(w37.setCell ⟨b4, 0, none⟩ (.slice p3 (cnew).length cap3)), (by go_simp; try with_reducible rfl), (fun x => Below ((w37.setCell ⟨b4, 0, none⟩ (.slice p3 (cnew).length cap3))).heap.size ((w37.setCell ⟨b4, 0, none⟩ (.slice p3 (cnew).length cap3))) x), Below.refl _ _, ?_⟩
            obtain ⟨v37, hw⟩ : ∃ zW, zW = (w37.setCell ⟨b4, 0, none⟩ (.slice p3 (cnew).length cap3)) := ⟨_, rfl⟩
            rw [← hw]
            replace hs : Cells v37 [(b5, 0, .int .i64 0), (b5, 1, .slice none 0 0), (b4, 0, .slice p3 (cnew).length cap3)] := by rw [hw]; exact ⟨⟨by go_cell, (fz d50f)⟩, ⟨by go_cell, (fz d51f)⟩, ⟨by go_cell, (fz d40f)⟩, trivial⟩
            replace hM1 : MxAt v37 q1 cq1 (hChain) := by rw [hw]; exact hM1.box d40 _
            replace hX2 : CAt v37 p2 cap2 cnew := by rw [hw]; exact hX2.box d40 _
            replace hX3 : CAt v37 p3 cap3 (cnew) := by rw [hw]; exact hX3.box d40 _
            replace hM3 : MxAt v37 y3 cy3 (hWant) := by rw [hw]; exact hM3.box d40 _
            replace hbw : Below w.heap.size w v37 := by rw [hw]; exact (Below.setCell hbw (by have h := HS.out; (try dsimp only); omega) _)
            replace hacc : Below wc.heap.size wc v37 := by rw [hw]; exact (Below.setCell hacc (by have h := HS.out; (try dsimp only); omega) _)
            replace zz : s + 0 ≤ v37.heap.size := by rw [hw]; simpa using zz
            clear hw
            clear d50 d50f d51 d51f d40 d40f
            clear hS
            (try simp only [Act.put, List.setIfInBounds_toArray, List.set_cons_zero, List.set_cons_succ])
            refine seqE_storeB rfl (by rfl) ?_ seqE_stop
            intro w38 hS
            replace hs := hs.up hS; replace hM1 := hM1.up hS; replace hX2 := hX2.mono hS; replace hX3 := hX3.mono hS; replace hM3 := hM3.up hS; replace hbw := btr hbw hS; replace zz := Nat.le_trans zz (Below.size hS); replace hacc := btr hacc hS
            obtain ⟨⟨d50, d50f⟩, ⟨d51, d51f⟩, ⟨d40, d40f⟩, -⟩ := id hs
            refine ⟨((w38.setCell ⟨b5, 0, none⟩ (.int .i64 2)).setCell ⟨b5, 1, none⟩ (.slice y3 (hWant).length cy3)), (by go_simp; try with_reducible rfl), (fun x => Below (((w38.setCell ⟨b5, 0, none⟩ (.int .i64 2)).setCell ⟨b5, 1, none⟩ (.slice y3 (hWant).length cy3))).heap.size (((w38.setCell ⟨b5, 0, none⟩ (.int .i64 2)).setCell ⟨b5, 1, none⟩ (.slice y3 (hWant).length cy3))) x), Below.refl _ _, ?_⟩
            obtain ⟨v38, hw⟩ : ∃ zW, zW = ((w38.setCell ⟨b5, 0, none⟩ (.int .i64 2)).setCell ⟨b5, 1, none⟩ (.slice y3 (hWant).length cy3)) := ⟨_, rfl⟩
            rw [← hw]
            replace hs : Cells v38 [(b5, 0, .int .i64 2), (b5, 1, .slice y3 (hWant).length cy3), (b4, 0, .slice p3 (cnew).length cap3)] := by rw [hw]; exact ⟨⟨by go_cell, (fz (fz d50f))⟩, ⟨by go_cell, (fz (fz d51f))⟩, ⟨by go_cell, (fz (fz d40f))⟩, trivial⟩
            replace hM1 : MxAt v38 q1 cq1 (hChain) := by rw [hw]; exact hM1.boxM d51 _ _
            replace hX2 : CAt v38 p2 cap2 cnew := by rw [hw]; exact hX2.boxM d51 _ _
            replace hX3 : CAt v38 p3 cap3 (cnew) := by rw [hw]; exact hX3.boxM d51 _ _
            replace hM3 : MxAt v38 y3 cy3 (hWant) := by rw [hw]; exact hM3.boxM d51 _ _
            replace hbw : Below w.heap.size w v38 := by rw [hw]; exact (Below.setCell (Below.setCell hbw (by have h := HS.out; (try dsimp only); omega) _) (by have h := HS.out; (try dsimp only); omega) _)
            replace hacc : Below wc.heap.size wc v38 := by rw [hw]; exact (Below.setCell (Below.setCell hacc (by have h := HS.out; (try dsimp only); omega) _) (by have h := HS.out; (try dsimp only); omega) _)
            replace zz : s + 0 ≤ v38.heap.size := by rw [hw]; simpa using zz
            clear hw
            clear d50 d50f d51 d51f d40 d40f
            clear hS
            (try simp only [Act.put, List.setIfInBounds_toArray, List.set_cons_zero, List.set_cons_succ])
            refine seqE_nil ?_
            intro wz hS
            replace hs := hs.up hS; replace hM1 := hM1.up hS; replace hX2 := hX2.mono hS; replace hX3 := hX3.mono hS; replace hM3 := hM3.up hS; replace hbw := btr hbw hS; replace zz := Nat.le_trans zz (Below.size hS); replace hacc := btr hacc hS; clear hS
            obtain ⟨⟨d50, d50f⟩, ⟨d51, d51f⟩, ⟨d40, d40f⟩, -⟩ := id hs
            go_wp2_with fail
            go_meet
            exact ⟨⟨_, _, rfl, rfl, Bx.at hX3 d40 d40f, ⟨_, _, ⟨⟨d50, d50f⟩, ⟨d51, d51f⟩, trivial⟩, hM3⟩⟩, hacc⟩
           refine seqE_move rfl (by rfl) ?_ seqE_stop
           intro w39 hS
           refine ⟨.pointer (some ⟨w39.heap.size, 0, none⟩), w39.alloc (.cells #[.int .i64 0, .slice none 0 0] 30), (by go_simp; try with_reducible rfl), ?_⟩
           obtain ⟨b5, hb5⟩ : ∃ b, b = w39.heap.size := ⟨_, rfl⟩
           obtain ⟨v39, hw39⟩ : ∃ zW, zW = w39.alloc (.cells #[.int .i64 0, .slice none 0 0] 30) := ⟨_, rfl⟩
           rw [← hw39, ← hb5]
           have hbl : Below w39.heap.size w39 v39 := by rw [hw39]; go_grown
           have hge5 : s + 0 ≤ b5 := by rw [hb5]; exact Nat.le_trans zz hS.size
           have hga5 : wc.heap.size ≤ b5 := by rw [hb5]; exact Nat.le_trans hacc.size hS.size
           have hlb4_5 : b4 < b5 := by rw [hb5]; exact Nat.lt_of_lt_of_le (World.block_lt_of_cell? _ _ hs.1.1) hS.size
           refine ⟨(fun x => Below v39.heap.size v39 x), Below.refl _ _, fun x hx => btr (btr hS hbl) hx, ?_⟩
           have hX := btr hS hbl
           replace hs := hs.up hX; replace hM1 := hM1.up hX; replace hbw := btr hbw hX; replace zz := Nat.le_trans zz (Below.size hX); replace hacc := btr hacc hX
           replace hs : Cells v39 [(b5, 0, .int .i64 0), (b5, 1, .slice none 0 0), (b4, 0, .slice none 0 0)] := ⟨⟨by rw [hw39, hb5]; go_cell, by rw [hw39, hb5]; go_cell⟩, ⟨by rw [hw39, hb5]; go_cell, by rw [hw39, hb5]; go_cell⟩, hs⟩
           clear hX hS hbl hw39 hb5
           (try simp only [Act.put, List.setIfInBounds_toArray, List.set_cons_zero, List.set_cons_succ])
           refine seqE_call (f := ?_) (args := ?_) rfl (by rfl) ?_ ?_ seqE_stop
           rotate_left 2
           focus (intro w hS; go_simp; first | done | with_reducible rfl | (refine ⟨?_, ?_⟩ <;> with_reducible rfl))
           intro w40 hS
           refine (rnew_is w40).mono ?_
           rintro e v40 ⟨p2, cap2, rfl, hX2, hbl⟩
           refine ⟨_, rfl, (fun x => Below v40.heap.size v40 x), Below.refl _ _, fun x hx => btr (btr hS hbl) hx, ?_⟩
           have hXw := Nat.le_trans zz hS.size; have hXa := Nat.le_trans hacc.size hS.size
           have hX := btr hS hbl
           replace hs := hs.up hX; replace hM1 := hM1.up hX; replace hbw := btr hbw hX; replace zz := Nat.le_trans zz (Below.size hX); replace hacc := btr hacc hX
           clear hX hS hbl hXw hXa
           (try simp only [Act.put, List.setIfInBounds_toArray, List.set_cons_zero, List.set_cons_succ])
           refine seqE_callB (f := ?_) (args := ?_) rfl (by rfl) ?_ ?_ seqE_stop
           rotate_left 2
           focus (intro w hS; go_simp; first | done | with_reducible rfl | (refine ⟨?_, ?_⟩ <;> with_reducible rfl))
           intro w41 hS
           refine (stepwise_is (hX2.mono hS) (hM1.up hS) (Below.refl _ _) (by omega) (by omega) h15_good (by rw [cnew_len]; omega) h15_mok h15_st).mono ?_
           rintro e v41 ⟨p3, cap3, y3, cy3, rfl, hX3, hM3, hbl⟩
           refine ⟨_, rfl, (fun x => Below v41.heap.size v41 x), Below.refl _ _, ?_⟩
           have hXw := Nat.le_trans zz hS.size; have hXa := Nat.le_trans hacc.size hS.size
           have hX := btr hS hbl
           replace hs := hs.up hX; replace hM1 := hM1.up hX; replace hX2 := hX2.mono hX; replace hbw := btr hbw hX; replace zz := Nat.le_trans zz (Below.size hX); replace hacc := btr hacc hX
           clear hX hS hbl hXw hXa
           (try simp only [Act.put, List.setIfInBounds_toArray, List.set_cons_zero, List.set_cons_succ])
           iterate 3 (refine seqE_free (v := ?_) rfl (by rfl) ?_ ?_; rotate_left; (focus (intro w; go_simp; try with_reducible rfl)); (try simp only [Act.put, List.setIfInBounds_toArray, List.set_cons_zero, List.set_cons_succ]))
           refine seqE_storeB rfl (by rfl) ?_ seqE_stop
           intro w42 hS
           replace hs := hs.up hS; replace hM1 := hM1.up hS; replace hX2 := hX2.mono hS; replace hX3 := hX3.mono hS; replace hM3 := hM3.up hS; replace hbw := btr hbw hS; replace zz := Nat.le_trans zz (Below.size hS); replace hacc := btr hacc hS
           obtain ⟨⟨d50, d50f⟩, ⟨d51, d51f⟩, ⟨d40, d40f⟩, -⟩ := id hs
           refine ⟨(w42.setCell ⟨b4, 0, none⟩ (.slice p3 (cnew).length cap3)), (by go_simp; try with_reducible rfl), (fun x => Below ((w42.setCell ⟨b4, 0, none⟩ (.slice p3 (cnew).length cap3))).heap.size ((w42.setCell ⟨b4, 0, none⟩ (.slice p3 (cnew).length cap3))) x), Below.refl _ _, ?_⟩
           obtain ⟨v42, hw⟩ : ∃ zW, zW = (w42.setCell ⟨b4, 0, none⟩ (.slice p3 (cnew).length cap3)) := ⟨_, rfl⟩
           rw [← hw]
           replace hs : Cells v42 [(b5, 0, .int .i64 0), (b5, 1, .slice none 0 0), (b4, 0, .slice p3 (cnew).length cap3)] := by rw [hw]; exact ⟨⟨by go_cell, (fz d50f)⟩, ⟨by go_cell, (fz d51f)⟩, ⟨by go_cell, (fz d40f)⟩, trivial⟩
           replace hM1 : MxAt v42 q1 cq1 (hChain) := by rw [hw]; exact hM1.box d40 _
           replace hX2 : CAt v42 p2 cap2 cnew := by rw [hw]; exact hX2.box d40 _
           replace hX3 : CAt v42 p3 cap3 (cnew) := by rw [hw]; exact hX3.box d40 _
           replace hM3 : MxAt v42 y3 cy3 (hWant) := by rw [hw]; exact hM3.box d40 _
           replace hbw : Below w.heap.size w v42 := by rw [hw]; exact (Below.setCell hbw (by have h := HS.out; (try dsimp only); omega) _)
           replace hacc : Below wc.heap.size wc v42 := by rw [hw]; exact (Below.setCell hacc (by have h := HS.out; (try dsimp only); omega) _)
           replace zz : s + 0 ≤ v42.heap.size := by rw [hw]; simpa using zz
           clear hw
           clear d50 d50f d51 d51f d40 d40f
           clear hS
           (try simp only [Act.put, List.setIfInBounds_toArray, List.set_cons_zero, List.set_cons_succ])
           refine seqE_storeB rfl (by rfl) ?_ seqE_stop
           intro w43 hS
           replace hs := hs.up hS; replace hM1 := hM1.up hS; replace hX2 := hX2.mono hS; replace hX3 := hX3.mono hS; replace hM3 := hM3.up hS; replace hbw := btr hbw hS; replace zz := Nat.le_trans zz (Below.size hS); replace hacc := btr hacc hS
           obtain ⟨⟨d50, d50f⟩, ⟨d51, d51f⟩, ⟨d40, d40f⟩, -⟩ := id hs
           refine ⟨((w43.setCell ⟨b5, 0, none⟩ (.int .i64 2)).setCell ⟨b5, 1, none⟩ (.slice y3 (hWant).length cy3)), (by go_simp; try with_reducible rfl), (fun x => Below (((w43.setCell ⟨b5, 0, none⟩ (.int .i64 2)).setCell ⟨b5, 1, none⟩ (.slice y3 (hWant).length cy3))).heap.size (((w43.setCell ⟨b5, 0, none⟩ (.int .i64 2)).setCell ⟨b5, 1, none⟩ (.slice y3 (hWant).length cy3))) x), Below.refl _ _, ?_⟩
           obtain ⟨v43, hw⟩ : ∃ zW, zW = ((w43.setCell ⟨b5, 0, none⟩ (.int .i64 2)).setCell ⟨b5, 1, none⟩ (.slice y3 (hWant).length cy3)) := ⟨_, rfl⟩
           rw [← hw]
           replace hs : Cells v43 [(b5, 0, .int .i64 2), (b5, 1, .slice y3 (hWant).length cy3), (b4, 0, .slice p3 (cnew).length cap3)] := by rw [hw]; exact ⟨⟨by go_cell, (fz (fz d50f))⟩, ⟨by go_cell, (fz (fz d51f))⟩, ⟨by go_cell, (fz (fz d40f))⟩, trivial⟩
           replace hM1 : MxAt v43 q1 cq1 (hChain) := by rw [hw]; exact hM1.boxM d51 _ _
           replace hX2 : CAt v43 p2 cap2 cnew := by rw [hw]; exact hX2.boxM d51 _ _
           replace hX3 : CAt v43 p3 cap3 (cnew) := by rw [hw]; exact hX3.boxM d51 _ _
           replace hM3 : MxAt v43 y3 cy3 (hWant) := by rw [hw]; exact hM3.boxM d51 _ _
           replace hbw : Below w.heap.size w v43 := by rw [hw]; exact (Below.setCell (Below.setCell hbw (by have h := HS.out; (try dsimp only); omega) _) (by have h := HS.out; (try dsimp only); omega) _)
           replace hacc : Below wc.heap.size wc v43 := by rw [hw]; exact (Below.setCell (Below.setCell hacc (by have h := HS.out; (try dsimp only); omega) _) (by have h := HS.out; (try dsimp only); omega) _)
           replace zz : s + 0 ≤ v43.heap.size := by rw [hw]; simpa using zz
           clear hw
           clear d50 d50f d51 d51f d40 d40f
           clear hS
           (try simp only [Act.put, List.setIfInBounds_toArray, List.set_cons_zero, List.set_cons_succ])
           refine seqE_nil ?_
           intro wz hS
           replace hs := hs.up hS; replace hM1 := hM1.up hS; replace hX2 := hX2.mono hS; replace hX3 := hX3.mono hS; replace hM3 := hM3.up hS; replace hbw := btr hbw hS; replace zz := Nat.le_trans zz (Below.size hS); replace hacc := btr hacc hS; clear hS
           obtain ⟨⟨d50, d50f⟩, ⟨d51, d51f⟩, ⟨d40, d40f⟩, -⟩ := id hs
           go_wp2_with fail
           go_meet
           exact ⟨⟨_, _, rfl, rfl, Bx.at hX3 d40 d40f, ⟨_, _, ⟨⟨d50, d50f⟩, ⟨d51, d51f⟩, trivial⟩, hM3⟩⟩, hacc⟩
          refine seqE_move rfl (by rfl) ?_ seqE_stop
          intro w44 hS
          refine ⟨.pointer (some ⟨w44.heap.size, 0, none⟩), w44.alloc (.cells #[.int .i64 0, .slice none 0 0] 30), (by go_simp; try with_reducible rfl), ?_⟩
          obtain ⟨b5, hb5⟩ : ∃ b, b = w44.heap.size := ⟨_, rfl⟩
          obtain ⟨v44, hw44⟩ : ∃ zW, zW = w44.alloc (.cells #[.int .i64 0, .slice none 0 0] 30) := ⟨_, rfl⟩
          rw [← hw44, ← hb5]
          have hbl : Below w44.heap.size w44 v44 := by rw [hw44]; go_grown
          have hge5 : s + 0 ≤ b5 := by rw [hb5]; exact Nat.le_trans zz hS.size
          have hga5 : wc.heap.size ≤ b5 := by rw [hb5]; exact Nat.le_trans hacc.size hS.size
          refine ⟨(fun x => Below v44.heap.size v44 x), Below.refl _ _, fun x hx => btr (btr hS hbl) hx, ?_⟩
          have hX := btr hS hbl
          replace hM1 := hM1.up hX; replace hbw := btr hbw hX; replace zz := Nat.le_trans zz (Below.size hX); replace hacc := btr hacc hX
          have hs : Cells v44 [(b5, 0, .int .i64 0), (b5, 1, .slice none 0 0)] := ⟨⟨by rw [hw44, hb5]; go_cell, by rw [hw44, hb5]; go_cell⟩, ⟨by rw [hw44, hb5]; go_cell, by rw [hw44, hb5]; go_cell⟩, trivial⟩
          clear hX hS hbl hw44 hb5
          (try simp only [Act.put, List.setIfInBounds_toArray, List.set_cons_zero, List.set_cons_succ])
          refine seqE_call (f := ?_) (args := ?_) rfl (by rfl) ?_ ?_ ?_
          rotate_left 2
          focus (intro w hS; go_simp; first | done | with_reducible rfl | (refine ⟨?_, ?_⟩ <;> with_reducible rfl))
          ·
           intro w45 hS
           refine (rnew_is w45).mono ?_
           rintro e v45 ⟨p2, cap2, rfl, hX2, hbl⟩
           refine ⟨_, rfl, (fun x => Below v45.heap.size v45 x), Below.refl _ _, fun x hx => btr (btr hS hbl) hx, ?_⟩
           have hXw := Nat.le_trans zz hS.size; have hXa := Nat.le_trans hacc.size hS.size
           have hX := btr hS hbl
           replace hs := hs.up hX; replace hM1 := hM1.up hX; replace hbw := btr hbw hX; replace zz := Nat.le_trans zz (Below.size hX); replace hacc := btr hacc hX
           clear hX hS hbl hXw hXa
           (try simp only [Act.put, List.setIfInBounds_toArray, List.set_cons_zero, List.set_cons_succ])
           refine seqE_callB (f := ?_) (args := ?_) rfl (by rfl) ?_ ?_ ?_
           rotate_left 2
           focus (intro w hS; go_simp; first | done | with_reducible rfl | (refine ⟨?_, ?_⟩ <;> with_reducible rfl))
           ·
            intro w46 hS
            refine (stepwise_is (hX2.mono hS) (hM1.up hS) (Below.refl _ _) (by omega) (by omega) h15_good (by rw [cnew_len]; omega) h15_mok h15_st).mono ?_
            rintro e v46 ⟨p3, cap3, y3, cy3, rfl, hX3, hM3, hbl⟩
            refine ⟨_, rfl, (fun x => Below v46.heap.size v46 x), Below.refl _ _, ?_⟩
            have hXw := Nat.le_trans zz hS.size; have hXa := Nat.le_trans hacc.size hS.size
            have hX := btr hS hbl
            replace hs := hs.up hX; replace hM1 := hM1.up hX; replace hX2 := hX2.mono hX; replace hbw := btr hbw hX; replace zz := Nat.le_trans zz (Below.size hX); replace hacc := btr hacc hX
            clear hX hS hbl hXw hXa
            (try simp only [Act.put, List.setIfInBounds_toArray, List.set_cons_zero, List.set_cons_succ])
            iterate 3 (refine seqE_free (v := ?_) rfl (by rfl) ?_ ?_; rotate_left; (focus (intro w; go_simp; try with_reducible rfl)); (try simp only [Act.put, List.setIfInBounds_toArray, List.set_cons_zero, List.set_cons_succ]))
            refine seqE_move rfl (by rfl) ?_ seqE_stop
            intro w47 hS
            refine ⟨.pointer (some ⟨w47.heap.size, 0, none⟩), w47.alloc (.cells #[.slice none 0 0] 27), (by go_simp; try with_reducible rfl), ?_⟩
            obtain ⟨b4, hb4⟩ : ∃ b, b = w47.heap.size := ⟨_, rfl⟩
            obtain ⟨v47, hw47⟩ : ∃ zW, zW = w47.alloc (.cells #[.slice none 0 0] 27) := ⟨_, rfl⟩
            rw [← hw47, ← hb4]
            have hbl : Below w47.heap.size w47 v47 := by rw [hw47]; go_grown
            have hge4 : s + 0 ≤ b4 := by rw [hb4]; exact Nat.le_trans zz hS.size
            have hga4 : wc.heap.size ≤ b4 := by rw [hb4]; exact Nat.le_trans hacc.size hS.size
            have hlb5_4 : b5 < b4 := by rw [hb4]; exact Nat.lt_of_lt_of_le (World.block_lt_of_cell? _ _ hs.1.1) hS.size
            refine ⟨(fun x => Below v47.heap.size v47 x), Below.refl _ _, fun x hx => btr (btr hS hbl) hx, ?_⟩
            have hX := btr hS hbl
            replace hs := hs.up hX; replace hM1 := hM1.up hX; replace hX2 := hX2.mono hX; replace hX3 := hX3.mono hX; replace hM3 := hM3.up hX; replace hbw := btr hbw hX; replace zz := Nat.le_trans zz (Below.size hX); replace hacc := btr hacc hX
            replace hs : Cells v47 [(b4, 0, .slice none 0 0), (b5, 0, .int .i64 0), (b5, 1, .slice none 0 0)] := ⟨⟨by rw [hw47, hb4]; go_cell, by rw [hw47, hb4]; go_cell⟩, hs⟩
            clear hX hS hbl hw47 hb4
            (try simp only [Act.put, List.setIfInBounds_toArray, List.set_cons_zero, List.set_cons_succ])
            refine seqE_storeB rfl (by rfl) ?_ seqE_stop
            intro w48 hS
            replace hs := hs.up hS; replace hM1 := hM1.up hS; replace hX2 := hX2.mono hS; replace hX3 := hX3.mono hS; replace hM3 := hM3.up hS; replace hbw := btr hbw hS; replace zz := Nat.le_trans zz (Below.size hS); replace hacc := btr hacc hS
            obtain ⟨⟨d40, d40f⟩, ⟨d50, d50f⟩, ⟨d51, d51f⟩, -⟩ := id hs
            refine ⟨(w48.setCell ⟨b4, 0, none⟩ (.slice p3 (cnew).length cap3)), (by go_simp; try with_reducible rfl), (fun x => Below ((w48.setCell ⟨b4, 0, none⟩ (.slice p3 (cnew).length cap3))).heap.size ((w48.setCell ⟨b4, 0, none⟩ (.slice p3 (cnew).length cap3))) x), Below.refl _ _, ?_⟩
            obtain ⟨v48, hw⟩ : ∃ zW, zW = (w48.setCell ⟨b4, 0, none⟩ (.slice p3 (cnew).length cap3)) := ⟨_, rfl⟩
            rw [← hw]
            replace hs : Cells v48 [(b4, 0, .slice p3 (cnew).length cap3), (b5, 0, .int .i64 0), (b5, 1, .slice none 0 0)] := by rw [hw]; exact ⟨⟨by go_cell, (fz d40f)⟩, ⟨by go_cell, (fz d50f)⟩, ⟨by go_cell, (fz d51f)⟩, trivial⟩
            replace hM1 : MxAt v48 q1 cq1 (hChain) := by rw [hw]; exact hM1.box d40 _
            replace hX2 : CAt v48 p2 cap2 cnew := by rw [hw]; exact hX2.box d40 _
            replace hX3 : CAt v48 p3 cap3 (cnew) := by rw [hw]; exact hX3.box d40 _
            replace hM3 : MxAt v48 y3 cy3 (hWant) := by rw [hw]; exact hM3.box d40 _
            replace hbw : Below w.heap.size w v48 := by rw [hw]; exact (Below.setCell hbw (by have h := HS.out; (try dsimp only); omega) _)
            replace hacc : Below wc.heap.size wc v48 := by rw [hw]; exact (Below.setCell hacc (by have h := HS.out; (try dsimp only); omega) _)
            replace zz : s + 0 ≤ v48.heap.size := by rw [hw]; simpa using zz
            clear hw
            clear d40 d40f d50 d50f d51 d51f
            clear hS
            (try simp only [Act.put, List.setIfInBounds_toArray, List.set_cons_zero, List.set_cons_succ])
            refine seqE_storeB rfl (by rfl) ?_ seqE_stop
            intro w49 hS
            replace hs := hs.up hS; replace hM1 := hM1.up hS; replace hX2 := hX2.mono hS; replace hX3 := hX3.mono hS; replace hM3 := hM3.up hS; replace hbw := btr hbw hS; replace zz := Nat.le_trans zz (Below.size hS); replace hacc := btr hacc hS
            obtain ⟨⟨d40, d40f⟩, ⟨d50, d50f⟩, ⟨d51, d51f⟩, -⟩ := id hs
            refine ⟨((w49.setCell ⟨b5, 0, none⟩ (.int .i64 2)).setCell ⟨b5, 1, none⟩ (.slice y3 (hWant).length cy3)), (by go_simp; try with_reducible rfl), (fun x => Below (((w49.setCell ⟨b5, 0, none⟩ (.int .i64 2)).setCell ⟨b5, 1, none⟩ (.slice y3 (hWant).length cy3))).heap.size (((w49.setCell ⟨b5, 0, none⟩ (.int .i64 2)).setCell ⟨b5, 1, none⟩ (.slice y3 (hWant).length cy3))) x), Below.refl _ _, ?_⟩
            obtain ⟨v49, hw⟩ : ∃ zW, zW = ((w49.setCell ⟨b5, 0, none⟩ (.int .i64 2)).setCell ⟨b5, 1, none⟩ (.slice y3 (hWant).length cy3)) := ⟨_, rfl⟩
            rw [← hw]
            replace hs : Cells v49 [(b4, 0, .slice p3 (cnew).length cap3), (b5, 0, .int .i64 2), (b5, 1, .slice y3 (hWant).length cy3)] := by rw [hw]; exact ⟨⟨by go_cell, (fz (fz d40f))⟩, ⟨by go_cell, (fz (fz d50f))⟩, ⟨by go_cell, (fz (fz d51f))⟩, trivial⟩
            replace hM1 : MxAt v49 q1 cq1 (hChain) := by rw [hw]; exact hM1.boxM d51 _ _
            replace hX2 : CAt v49 p2 cap2 cnew := by rw [hw]; exact hX2.boxM d51 _ _
            replace hX3 : CAt v49 p3 cap3 (cnew) := by rw [hw]; exact hX3.boxM d51 _ _
            replace hM3 : MxAt v49 y3 cy3 (hWant) := by rw [hw]; exact hM3.boxM d51 _ _
            replace hbw : Below w.heap.size w v49 := by rw [hw]; exact (Below.setCell (Below.setCell hbw (by have h := HS.out; (try dsimp only); omega) _) (by have h := HS.out; (try dsimp only); omega) _)
            replace hacc : Below wc.heap.size wc v49 := by rw [hw]; exact (Below.setCell (Below.setCell hacc (by have h := HS.out; (try dsimp only); omega) _) (by have h := HS.out; (try dsimp only); omega) _)
            replace zz : s + 0 ≤ v49.heap.size := by rw [hw]; simpa using zz
            clear hw
            clear d40 d40f d50 d50f d51 d51f
            clear hS
            (try simp only [Act.put, List.setIfInBounds_toArray, List.set_cons_zero, List.set_cons_succ])
            refine seqE_nil ?_
            intro wz hS
            replace hs := hs.up hS; replace hM1 := hM1.up hS; replace hX2 := hX2.mono hS; replace hX3 := hX3.mono hS; replace hM3 := hM3.up hS; replace hbw := btr hbw hS; replace zz := Nat.le_trans zz (Below.size hS); replace hacc := btr hacc hS; clear hS
            obtain ⟨⟨d40, d40f⟩, ⟨d50, d50f⟩, ⟨d51, d51f⟩, -⟩ := id hs
            go_wp2_with fail
            go_meet
            exact ⟨⟨_, _, rfl, rfl, Bx.at hX3 d40 d40f, ⟨_, _, ⟨⟨d50, d50f⟩, ⟨d51, d51f⟩, trivial⟩, hM3⟩⟩, hacc⟩
           refine seqE_move rfl (by rfl) ?_ seqE_stop
           intro w50 hS
           refine ⟨.pointer (some ⟨w50.heap.size, 0, none⟩), w50.alloc (.cells #[.slice none 0 0] 27), (by go_simp; try with_reducible rfl), ?_⟩
           obtain ⟨b4, hb4⟩ : ∃ b, b = w50.heap.size := ⟨_, rfl⟩
           obtain ⟨v50, hw50⟩ : ∃ zW, zW = w50.alloc (.cells #[.slice none 0 0] 27) := ⟨_, rfl⟩
           rw [← hw50, ← hb4]
           have hbl : Below w50.heap.size w50 v50 := by rw [hw50]; go_grown
           have hge4 : s + 0 ≤ b4 := by rw [hb4]; exact Nat.le_trans zz hS.size
           have hga4 : wc.heap.size ≤ b4 := by rw [hb4]; exact Nat.le_trans hacc.size hS.size
           have hlb5_4 : b5 < b4 := by rw [hb4]; exact Nat.lt_of_lt_of_le (World.block_lt_of_cell? _ _ hs.1.1) hS.size
           refine ⟨(fun x => Below v50.heap.size v50 x), Below.refl _ _, fun x hx => btr (btr hS hbl) hx, ?_⟩
           have hX := btr hS hbl
           replace hs := hs.up hX; replace hM1 := hM1.up hX; replace hX2 := hX2.mono hX; replace hbw := btr hbw hX; replace zz := Nat.le_trans zz (Below.size hX); replace hacc := btr hacc hX
           replace hs : Cells v50 [(b4, 0, .slice none 0 0), (b5, 0, .int .i64 0), (b5, 1, .slice none 0 0)] := ⟨⟨by rw [hw50, hb4]; go_cell, by rw [hw50, hb4]; go_cell⟩, hs⟩
           clear hX hS hbl hw50 hb4
           (try simp only [Act.put, List.setIfInBounds_toArray, List.set_cons_zero, List.set_cons_succ])
           refine seqE_callB (f := ?_) (args := ?_) rfl (by rfl) ?_ ?_ seqE_stop
           rotate_left 2
           focus (intro w hS; go_simp; first | done | with_reducible rfl | (refine ⟨?_, ?_⟩ <;> with_reducible rfl))
           intro w51 hS
           refine (stepwise_is (hX2.mono hS) (hM1.up hS) (Below.refl _ _) (by omega) (by omega) h15_good (by rw [cnew_len]; omega) h15_mok h15_st).mono ?_
           rintro e v51 ⟨p3, cap3, y3, cy3, rfl, hX3, hM3, hbl⟩
           refine ⟨_, rfl, (fun x => Below v51.heap.size v51 x), Below.refl _ _, ?_⟩
           have hXw := Nat.le_trans zz hS.size; have hXa := Nat.le_trans hacc.size hS.size
           have hX := btr hS hbl
           replace hs := hs.up hX; replace hM1 := hM1.up hX; replace hX2 := hX2.mono hX; replace hbw := btr hbw hX; replace zz := Nat.le_trans zz (Below.size hX); replace hacc := btr hacc hX
           clear hX hS hbl hXw hXa
           (try simp only [Act.put, List.setIfInBounds_toArray, List.set_cons_zero, List.set_cons_succ])
           iterate 3 (refine seqE_free (v := ?_) rfl (by rfl) ?_ ?_; rotate_left; (focus (intro w; go_simp; try with_reducible rfl)); (try simp only [Act.put, List.setIfInBounds_toArray, List.set_cons_zero, List.set_cons_succ]))
           refine seqE_storeB rfl (by rfl) ?_ seqE_stop
           intro w52 hS
           replace hs := hs.up hS; replace hM1 := hM1.up hS; replace hX2 := hX2.mono hS; replace hX3 := hX3.mono hS; replace hM3 := hM3.up hS; replace hbw := btr hbw hS; replace zz := Nat.le_trans zz (Below.size hS); replace hacc := btr hacc hS
           obtain ⟨⟨d40, d40f⟩, ⟨d50, d50f⟩, ⟨d51, d51f⟩, -⟩ := id hs
           refine ⟨(w52.setCell ⟨b4, 0, none⟩ (.slice p3 (cnew).length cap3)), (by go_simp; try with_reducible rfl), (fun x => Below ((w52.setCell ⟨b4, 0, none⟩ (.slice p3 (cnew).length cap3))).heap.size ((w52.setCell ⟨b4, 0, none⟩ (.slice p3 (cnew).length cap3))) x), Below.refl _ _, ?_⟩
           obtain ⟨v52, hw⟩ : ∃ zW, zW = (w52.setCell ⟨b4, 0, none⟩ (.slice p3 (cnew).length cap3)) := ⟨_, rfl⟩
           rw [← hw]
           replace hs : Cells v52 [(b4, 0, .slice p3 (cnew).length cap3), (b5, 0, .int .i64 0), (b5, 1, .slice none 0 0)] := by rw [hw]; exact ⟨⟨by go_cell, (fz d40f)⟩, ⟨by go_cell, (fz d50f)⟩, ⟨by go_cell, (fz d51f)⟩, trivial⟩
           replace hM1 : MxAt v52 q1 cq1 (hChain) := by rw [hw]; exact hM1.box d40 _
           replace hX2 : CAt v52 p2 cap2 cnew := by rw [hw]; exact hX2.box d40 _
           replace hX3 : CAt v52 p3 cap3 (cnew) := by rw [hw]; exact hX3.box d40 _
           replace hM3 : MxAt v52 y3 cy3 (hWant) := by rw [hw]; exact hM3.box d40 _
           replace hbw : Below w.heap.size w v52 := by rw [hw]; exact (Below.setCell hbw (by have h := HS.out; (try dsimp only); omega) _)
           replace hacc : Below wc.heap.size wc v52 := by rw [hw]; exact (Below.setCell hacc (by have h := HS.out; (try dsimp only); omega) _)
           replace zz : s + 0 ≤ v52.heap.size := by rw [hw]; simpa using zz
           clear hw
           clear d40 d40f d50 d50f d51 d51f
           clear hS
           (try simp only [Act.put, List.setIfInBounds_toArray, List.set_cons_zero, List.set_cons_succ])
           refine seqE_storeB rfl (by rfl) ?_ seqE_stop
           intro w53 hS
           replace hs := hs.up hS; replace hM1 := hM1.up hS; replace hX2 := hX2.mono hS; replace hX3 := hX3.mono hS; replace hM3 := hM3.up hS; replace hbw := btr hbw hS; replace zz := Nat.le_trans zz (Below.size hS); replace hacc := btr hacc hS
           obtain ⟨⟨d40, d40f⟩, ⟨d50, d50f⟩, ⟨d51, d51f⟩, -⟩ := id hs
           refine ⟨((w53.setCell ⟨b5, 0, none⟩ (.int .i64 2)).setCell ⟨b5, 1, none⟩ (.slice y3 (hWant).length cy3)), (by go_simp; try with_reducible rfl), (fun x => Below (((w53.setCell ⟨b5, 0, none⟩ (.int .i64 2)).setCell ⟨b5, 1, none⟩ (.slice y3 (hWant).length cy3))).heap.size (((w53.setCell ⟨b5, 0, none⟩ (.int .i64 2)).setCell ⟨b5, 1, none⟩ (.slice y3 (hWant).length cy3))) x), Below.refl _ _, ?_⟩
           obtain ⟨v53, hw⟩ : ∃ zW, zW = ((w53.setCell ⟨b5, 0, none⟩ (.int .i64 2)).setCell ⟨b5, 1, none⟩ (.slice y3 (hWant).length cy3)) := ⟨_, rfl⟩
           rw [← hw]
           replace hs : Cells v53 [(b4, 0, .slice p3 (cnew).length cap3), (b5, 0, .int .i64 2), (b5, 1, .slice y3 (hWant).length cy3)] := by rw [hw]; exact ⟨⟨by go_cell, (fz (fz d40f))⟩, ⟨by go_cell, (fz (fz d50f))⟩, ⟨by go_cell, (fz (fz d51f))⟩, trivial⟩
           replace hM1 : MxAt v53 q1 cq1 (hChain) := by rw [hw]; exact hM1.boxM d51 _ _
           replace hX2 : CAt v53 p2 cap2 cnew := by rw [hw]; exact hX2.boxM d51 _ _
           replace hX3 : CAt v53 p3 cap3 (cnew) := by rw [hw]; exact hX3.boxM d51 _ _
           replace hM3 : MxAt v53 y3 cy3 (hWant) := by rw [hw]; exact hM3.boxM d51 _ _
           replace hbw : Below w.heap.size w v53 := by rw [hw]; exact (Below.setCell (Below.setCell hbw (by have h := HS.out; (try dsimp only); omega) _) (by have h := HS.out; (try dsimp only); omega) _)
           replace hacc : Below wc.heap.size wc v53 := by rw [hw]; exact (Below.setCell (Below.setCell hacc (by have h := HS.out; (try dsimp only); omega) _) (by have h := HS.out; (try dsimp only); omega) _)
           replace zz : s + 0 ≤ v53.heap.size := by rw [hw]; simpa using zz
           clear hw
           clear d40 d40f d50 d50f d51 d51f
           clear hS
           (try simp only [Act.put, List.setIfInBounds_toArray, List.set_cons_zero, List.set_cons_succ])
           refine seqE_nil ?_
           intro wz hS
           replace hs := hs.up hS; replace hM1 := hM1.up hS; replace hX2 := hX2.mono hS; replace hX3 := hX3.mono hS; replace hM3 := hM3.up hS; replace hbw := btr hbw hS; replace zz := Nat.le_trans zz (Below.size hS); replace hacc := btr hacc hS; clear hS
           obtain ⟨⟨d40, d40f⟩, ⟨d50, d50f⟩, ⟨d51, d51f⟩, -⟩ := id hs
           go_wp2_with fail
           go_meet
           exact ⟨⟨_, _, rfl, rfl, Bx.at hX3 d40 d40f, ⟨_, _, ⟨⟨d50, d50f⟩, ⟨d51, d51f⟩, trivial⟩, hM3⟩⟩, hacc⟩
          refine seqE_move rfl (by rfl) ?_ seqE_stop
          intro w54 hS
          refine ⟨.pointer (some ⟨w54.heap.size, 0, none⟩), w54.alloc (.cells #[.slice none 0 0] 27), (by go_simp; try with_reducible rfl), ?_⟩
          obtain ⟨b4, hb4⟩ : ∃ b, b = w54.heap.size := ⟨_, rfl⟩
          obtain ⟨v54, hw54⟩ : ∃ zW, zW = w54.alloc (.cells #[.slice none 0 0] 27) := ⟨_, rfl⟩
          rw [← hw54, ← hb4]
          have hbl : Below w54.heap.size w54 v54 := by rw [hw54]; go_grown
          have hge4 : s + 0 ≤ b4 := by rw [hb4]; exact Nat.le_trans zz hS.size
          have hga4 : wc.heap.size ≤ b4 := by rw [hb4]; exact Nat.le_trans hacc.size hS.size
          have hlb5_4 : b5 < b4 := by rw [hb4]; exact Nat.lt_of_lt_of_le (World.block_lt_of_cell? _ _ hs.1.1) hS.size
          refine ⟨(fun x => Below v54.heap.size v54 x), Below.refl _ _, fun x hx => btr (btr hS hbl) hx, ?_⟩
          have hX := btr hS hbl
          replace hs := hs.up hX; replace hM1 := hM1.up hX; replace hbw := btr hbw hX; replace zz := Nat.le_trans zz (Below.size hX); replace hacc := btr hacc hX
          replace hs : Cells v54 [(b4, 0, .slice none 0 0), (b5, 0, .int .i64 0), (b5, 1, .slice none 0 0)] := ⟨⟨by rw [hw54, hb4]; go_cell, by rw [hw54, hb4]; go_cell⟩, hs⟩
          clear hX hS hbl hw54 hb4
          (try simp only [Act.put, List.setIfInBounds_toArray, List.set_cons_zero, List.set_cons_succ])
          refine seqE_call (f := ?_) (args := ?_) rfl (by rfl) ?_ ?_ seqE_stop
          rotate_left 2
          focus (intro w hS; go_simp; first | done | with_reducible rfl | (refine ⟨?_, ?_⟩ <;> with_reducible rfl))
          intro w55 hS
          refine (rnew_is w55).mono ?_
          rintro e v55 ⟨p2, cap2, rfl, hX2, hbl⟩
          refine ⟨_, rfl, (fun x => Below v55.heap.size v55 x), Below.refl _ _, fun x hx => btr (btr hS hbl) hx, ?_⟩
          have hXw := Nat.le_trans zz hS.size; have hXa := Nat.le_trans hacc.size hS.size
          have hX := btr hS hbl
          replace hs := hs.up hX; replace hM1 := hM1.up hX; replace hbw := btr hbw hX; replace zz := Nat.le_trans zz (Below.size hX); replace hacc := btr hacc hX
          clear hX hS hbl hXw hXa
          (try simp only [Act.put, List.setIfInBounds_toArray, List.set_cons_zero, List.set_cons_succ])
          refine seqE_callB (f := ?_) (args := ?_) rfl (by rfl) ?_ ?_ seqE_stop
          rotate_left 2
          focus (intro w hS; go_simp; first | done | with_reducible rfl | (refine ⟨?_, ?_⟩ <;> with_reducible rfl))
          intro w56 hS
          refine (stepwise_is (hX2.mono hS) (hM1.up hS) (Below.refl _ _) (by omega) (by omega) h15_good (by rw [cnew_len]; omega) h15_mok h15_st).mono ?_
          rintro e v56 ⟨p3, cap3, y3, cy3, rfl, hX3, hM3, hbl⟩
          refine ⟨_, rfl, (fun x => Below v56.heap.size v56 x), Below.refl _ _, ?_⟩
          have hXw := Nat.le_trans zz hS.size; have hXa := Nat.le_trans hacc.size hS.size
          have hX := btr hS hbl
          replace hs := hs.up hX; replace hM1 := hM1.up hX; replace hX2 := hX2.mono hX; replace hbw := btr hbw hX; replace zz := Nat.le_trans zz (Below.size hX); replace hacc := btr hacc hX
          clear hX hS hbl hXw hXa
          (try simp only [Act.put, List.setIfInBounds_toArray, List.set_cons_zero, List.set_cons_succ])
          iterate 3 (refine seqE_free (v := ?_) rfl (by rfl) ?_ ?_; rotate_left; (focus (intro w; go_simp; try with_reducible rfl)); (try simp only [Act.put, List.setIfInBounds_toArray, List.set_cons_zero, List.set_cons_succ]))
          refine seqE_storeB rfl (by rfl) ?_ seqE_stop
          intro w57 hS
          replace hs := hs.up hS; replace hM1 := hM1.up hS; replace hX2 := hX2.mono hS; replace hX3 := hX3.mono hS; replace hM3 := hM3.up hS; replace hbw := btr hbw hS; replace zz := Nat.le_trans zz (Below.size hS); replace hacc := btr hacc hS
          obtain ⟨⟨d40, d40f⟩, ⟨d50, d50f⟩, ⟨d51, d51f⟩, -⟩ := id hs
          refine ⟨(w57.setCell ⟨b4, 0, none⟩ (.slice p3 (cnew).length cap3)), (by go_simp; try with_reducible rfl), (fun x => Below ((w57.setCell ⟨b4, 0, none⟩ (.slice p3 (cnew).length cap3))).heap.size ((w57.setCell ⟨b4, 0, none⟩ (.slice p3 (cnew).length cap3))) x), Below.refl _ _, ?_⟩
          obtain ⟨v57, hw⟩ : ∃ zW, zW = (w57.setCell ⟨b4, 0, none⟩ (.slice p3 (cnew).length cap3)) := ⟨_, rfl⟩
          rw [← hw]
          replace hs : Cells v57 [(b4, 0, .slice p3 (cnew).length cap3), (b5, 0, .int .i64 0), (b5, 1, .slice none 0 0)] := by rw [hw]; exact ⟨⟨by go_cell, (fz d40f)⟩, ⟨by go_cell, (fz d50f)⟩, ⟨by go_cell, (fz d51f)⟩, trivial⟩
          replace hM1 : MxAt v57 q1 cq1 (hChain) := by rw [hw]; exact hM1.box d40 _
          replace hX2 : CAt v57 p2 cap2 cnew := by rw [hw]; exact hX2.box d40 _
          replace hX3 : CAt v57 p3 cap3 (cnew) := by rw [hw]; exact hX3.box d40 _
          replace hM3 : MxAt v57 y3 cy3 (hWant) := by rw [hw]; exact hM3.box d40 _
          replace hbw : Below w.heap.size w v57 := by rw [hw]; exact (Below.setCell hbw (by have h := HS.out; (try dsimp only); omega) _)
          replace hacc : Below wc.heap.size wc v57 := by rw [hw]; exact (Below.setCell hacc (by have h := HS.out; (try dsimp only); omega) _)
          replace zz : s + 0 ≤ v57.heap.size := by rw [hw]; simpa using zz
          clear hw
          clear d40 d40f d50 d50f d51 d51f
          clear hS
          (try simp only [Act.put, List.setIfInBounds_toArray, List.set_cons_zero, List.set_cons_succ])
          refine seqE_storeB rfl (by rfl) ?_ seqE_stop
          intro w58 hS
          replace hs := hs.up hS; replace hM1 := hM1.up hS; replace hX2 := hX2.mono hS; replace hX3 := hX3.mono hS; replace hM3 := hM3.up hS; replace hbw := btr hbw hS; replace zz := Nat.le_trans zz (Below.size hS); replace hacc := btr hacc hS
          obtain ⟨⟨d40, d40f⟩, ⟨d50, d50f⟩, ⟨d51, d51f⟩, -⟩ := id hs
          refine ⟨((w58.setCell ⟨b5, 0, none⟩ (.int .i64 2)).setCell ⟨b5, 1, none⟩ (.slice y3 (hWant).length cy3)), (by go_simp; try with_reducible rfl), (fun x => Below (((w58.setCell ⟨b5, 0, none⟩ (.int .i64 2)).setCell ⟨b5, 1, none⟩ (.slice y3 (hWant).length cy3))).heap.size (((w58.setCell ⟨b5, 0, none⟩ (.int .i64 2)).setCell ⟨b5, 1, none⟩ (.slice y3 (hWant).length cy3))) x), Below.refl _ _, ?_⟩
          obtain ⟨v58, hw⟩ : ∃ zW, zW = ((w58.setCell ⟨b5, 0, none⟩ (.int .i64 2)).setCell ⟨b5, 1, none⟩ (.slice y3 (hWant).length cy3)) := ⟨_, rfl⟩
          rw [← hw]
          replace hs : Cells v58 [(b4, 0, .slice p3 (cnew).length cap3), (b5, 0, .int .i64 2), (b5, 1, .slice y3 (hWant).length cy3)] := by rw [hw]; exact ⟨⟨by go_cell, (fz (fz d40f))⟩, ⟨by go_cell, (fz (fz d50f))⟩, ⟨by go_cell, (fz (fz d51f))⟩, trivial⟩
          replace hM1 : MxAt v58 q1 cq1 (hChain) := by rw [hw]; exact hM1.boxM d51 _ _
          replace hX2 : CAt v58 p2 cap2 cnew := by rw [hw]; exact hX2.boxM d51 _ _
          replace hX3 : CAt v58 p3 cap3 (cnew) := by rw [hw]; exact hX3.boxM d51 _ _
          replace hM3 : MxAt v58 y3 cy3 (hWant) := by rw [hw]; exact hM3.boxM d51 _ _
          replace hbw : Below w.heap.size w v58 := by rw [hw]; exact (Below.setCell (Below.setCell hbw (by have h := HS.out; (try dsimp only); omega) _) (by have h := HS.out; (try dsimp only); omega) _)
          replace hacc : Below wc.heap.size wc v58 := by rw [hw]; exact (Below.setCell (Below.setCell hacc (by have h := HS.out; (try dsimp only); omega) _) (by have h := HS.out; (try dsimp only); omega) _)
          replace zz : s + 0 ≤ v58.heap.size := by rw [hw]; simpa using zz
          clear hw
          clear d40 d40f d50 d50f d51 d51f
          clear hS
          (try simp only [Act.put, List.setIfInBounds_toArray, List.set_cons_zero, List.set_cons_succ])
          refine seqE_nil ?_
          intro wz hS
          replace hs := hs.up hS; replace hM1 := hM1.up hS; replace hX2 := hX2.mono hS; replace hX3 := hX3.mono hS; replace hM3 := hM3.up hS; replace hbw := btr hbw hS; replace zz := Nat.le_trans zz (Below.size hS); replace hacc := btr hacc hS; clear hS
          obtain ⟨⟨d40, d40f⟩, ⟨d50, d50f⟩, ⟨d51, d51f⟩, -⟩ := id hs
          go_wp2_with fail
          go_meet
          exact ⟨⟨_, _, rfl, rfl, Bx.at hX3 d40 d40f, ⟨_, _, ⟨⟨d50, d50f⟩, ⟨d51, d51f⟩, trivial⟩, hM3⟩⟩, hacc⟩
      case rest =>
        clear m1 m1f n1 n1f hM1
        obtain ⟨⟨b4, b5, rfl, rfl, hB4, hN5⟩, hst⟩ := hcut
        replace hN1 := hN1.up hst
        replace hB2 := hB2.up hst
        replace hN3 := hN3.up hst
        replace hW := btr hW hst
        clear hst
        go_upto_region 4 with fail
        obtain ⟨q1, cq1, ⟨⟨m1, m1f⟩, ⟨n1, n1f⟩, -⟩, hM1⟩ := id hN1
        go_cut [6, 7] from 29 to 34 (fun s6 s7 wx => (∃ (b : Nat), s6 = .pointer (some ⟨b, 0, none⟩) ∧ s7 = .int .i64 0 ∧ Bx wx b cnew) ∧ Below wc.heap.size wc wx)
        case first =>
          as_aux_lemma =>
            obtain ⟨s, hs0⟩ : ∃ s, w.heap.size = s := ⟨_, rfl⟩
            have HS := Lib.hid hs0; clear hs0
            have hbw := hW
            have zz : s + 0 ≤ wc.heap.size := by have := HS.out; have := hW.size; omega
            have hk : Cells wc [(b1, 0, .int .i64 2), (b1, 1, .slice q1 (hChain).length cq1)] := ⟨⟨m1, m1f⟩, ⟨n1, n1f⟩, trivial⟩
            clear m1 m1f n1 n1f
            have hacc : Below wc.heap.size wc wc := Below.refl _ _
            clear hW
            refine wp_region_seqE (fun x => Below wc.heap.size wc x) (.one 1 0 (.alt 0 2 (.alt 2 3 (.one 3 1 (.one 4 1 (.one 5 1 (.alt 6 2 (.alt 7 3 (.one 8 1 .nil) .stop) .stop)))) (.alt 6 2 (.alt 2 3 (.one 3 1 (.one 4 1 (.one 5 1 (.alt 7 3 (.one 8 1 .nil) .stop)))) .stop) .stop)) (.alt 6 2 (.alt 0 2 (.alt 2 3 (.one 3 1 (.one 4 1 (.one 5 1 (.alt 7 3 (.one 8 1 .nil) .stop)))) .stop) .stop) .stop))) (by kernel_rfl) (by kernel_rfl) (by kernel_rfl) (Below.drew (Below.refl _ _)) ?_
            iterate 1 (refine seqE_pure (v := ?_) rfl (by rfl) ?_ ?_; rotate_left; (focus (intro w hS; obtain ⟨⟨m1, -⟩, ⟨n1, -⟩, -⟩ := hk.up hS; go_simp; try with_reducible rfl)); (try simp only [Act.put, List.setIfInBounds_toArray, List.set_cons_zero, List.set_cons_succ]))
            clear hk
            refine seqE_call (f := ?_) (args := ?_) rfl (by rfl) ?_ ?_ ?_
            rotate_left 2
            focus (intro w hS; go_simp; first | done | with_reducible rfl | (refine ⟨?_, ?_⟩ <;> with_reducible rfl))
            ·
             intro w1 hS
             refine (rnew_is w1).mono ?_
             rintro e v1 ⟨p2, cap2, rfl, hX2, hbl⟩
             refine ⟨_, rfl, (fun x => Below v1.heap.size v1 x), Below.refl _ _, fun x hx => btr (btr hS hbl) hx, ?_⟩
             have hXw := Nat.le_trans zz hS.size; have hXa := Nat.le_trans hacc.size hS.size
             have hX := btr hS hbl
             replace hM1 := hM1.up hX; replace hbw := btr hbw hX; replace zz := Nat.le_trans zz (Below.size hX); replace hacc := btr hacc hX
             clear hX hS hbl hXw hXa
             (try simp only [Act.put, List.setIfInBounds_toArray, List.set_cons_zero, List.set_cons_succ])
             refine seqE_callB (f := ?_) (args := ?_) rfl (by rfl) ?_ ?_ ?_
             rotate_left 2
             focus (intro w hS; go_simp; first | done | with_reducible rfl | (refine ⟨?_, ?_⟩ <;> with_reducible rfl))
             ·
              intro w2 hS
              refine (acyclic_is (hX2.mono hS) (hM1.up hS) (Below.refl _ _) (by omega) (by omega) h15_good (by rw [cnew_len]; omega) h15_mok h15_ac).mono ?_
              rintro e v2 ⟨p3, cap3, rfl, hX3, hbl⟩
              refine ⟨_, rfl, (fun x => Below v2.heap.size v2 x), Below.refl _ _, ?_⟩
              have hXw := Nat.le_trans zz hS.size; have hXa := Nat.le_trans hacc.size hS.size
              have hX := btr hS hbl
              replace hM1 := hM1.up hX; replace hX2 := hX2.mono hX; replace hbw := btr hbw hX; replace zz := Nat.le_trans zz (Below.size hX); replace hacc := btr hacc hX
              clear hX hS hbl hXw hXa
              (try simp only [Act.put, List.setIfInBounds_toArray, List.set_cons_zero, List.set_cons_succ])
              iterate 3 (refine seqE_free (v := ?_) rfl (by rfl) ?_ ?_; rotate_left; (focus (intro w; go_simp; try with_reducible rfl)); (try simp only [Act.put, List.setIfInBounds_toArray, List.set_cons_zero, List.set_cons_succ]))
              refine seqE_move rfl (by rfl) ?_ seqE_stop
              intro w3 hS
              refine ⟨.pointer (some ⟨w3.heap.size, 0, none⟩), w3.alloc (.cells #[.slice none 0 0] 27), (by go_simp; try with_reducible rfl), ?_⟩
              obtain ⟨b6, hb6⟩ : ∃ b, b = w3.heap.size := ⟨_, rfl⟩
              obtain ⟨v3, hw3⟩ : ∃ zW, zW = w3.alloc (.cells #[.slice none 0 0] 27) := ⟨_, rfl⟩
              rw [← hw3, ← hb6]
              have hbl : Below w3.heap.size w3 v3 := by rw [hw3]; go_grown
              have hge6 : s + 0 ≤ b6 := by rw [hb6]; exact Nat.le_trans zz hS.size
              have hga6 : wc.heap.size ≤ b6 := by rw [hb6]; exact Nat.le_trans hacc.size hS.size
              refine ⟨(fun x => Below v3.heap.size v3 x), Below.refl _ _, fun x hx => btr (btr hS hbl) hx, ?_⟩
              have hX := btr hS hbl
              replace hM1 := hM1.up hX; replace hX2 := hX2.mono hX; replace hX3 := hX3.mono hX; replace hbw := btr hbw hX; replace zz := Nat.le_trans zz (Below.size hX); replace hacc := btr hacc hX
              have hs : Cells v3 [(b6, 0, .slice none 0 0)] := ⟨⟨by rw [hw3, hb6]; go_cell, by rw [hw3, hb6]; go_cell⟩, trivial⟩
              clear hX hS hbl hw3 hb6
              (try simp only [Act.put, List.setIfInBounds_toArray, List.set_cons_zero, List.set_cons_succ])
              refine seqE_storeB rfl (by rfl) ?_ seqE_stop
              intro w4 hS
              replace hs := hs.up hS; replace hM1 := hM1.up hS; replace hX2 := hX2.mono hS; replace hX3 := hX3.mono hS; replace hbw := btr hbw hS; replace zz := Nat.le_trans zz (Below.size hS); replace hacc := btr hacc hS
              obtain ⟨⟨d60, d60f⟩, -⟩ := id hs
              refine ⟨(w4.setCell ⟨b6, 0, none⟩ (.slice p3 cnew.length cap3)), (by go_simp; try with_reducible rfl), (fun x => Below ((w4.setCell ⟨b6, 0, none⟩ (.slice p3 cnew.length cap3))).heap.size ((w4.setCell ⟨b6, 0, none⟩ (.slice p3 cnew.length cap3))) x), Below.refl _ _, ?_⟩
              obtain ⟨v4, hw⟩ : ∃ zW, zW = (w4.setCell ⟨b6, 0, none⟩ (.slice p3 cnew.length cap3)) := ⟨_, rfl⟩
              rw [← hw]
              replace hs : Cells v4 [(b6, 0, .slice p3 cnew.length cap3)] := by rw [hw]; exact ⟨⟨by go_cell, (fz d60f)⟩, trivial⟩
              replace hM1 : MxAt v4 q1 cq1 (hChain) := by rw [hw]; exact hM1.box d60 _
              replace hX2 : CAt v4 p2 cap2 cnew := by rw [hw]; exact hX2.box d60 _
              replace hX3 : CAt v4 p3 cap3 cnew := by rw [hw]; exact hX3.box d60 _
              replace hbw : Below w.heap.size w v4 := by rw [hw]; exact (Below.setCell hbw (by have h := HS.out; (try dsimp only); omega) _)
              replace hacc : Below wc.heap.size wc v4 := by rw [hw]; exact (Below.setCell hacc (by have h := HS.out; (try dsimp only); omega) _)
              replace zz : s + 0 ≤ v4.heap.size := by rw [hw]; simpa using zz
              clear hw
              clear d60 d60f
              clear hS
              (try simp only [Act.put, List.setIfInBounds_toArray, List.set_cons_zero, List.set_cons_succ])
              iterate 1 (refine seqE_free (v := ?_) rfl (by rfl) ?_ ?_; rotate_left; (focus (intro w; go_simp; try with_reducible rfl)); (try simp only [Act.put, List.setIfInBounds_toArray, List.set_cons_zero, List.set_cons_succ]))
              refine seqE_nil ?_
              intro wz hS
              replace hs := hs.up hS; replace hM1 := hM1.up hS; replace hX2 := hX2.mono hS; replace hX3 := hX3.mono hS; replace hbw := btr hbw hS; replace zz := Nat.le_trans zz (Below.size hS); replace hacc := btr hacc hS; clear hS
              obtain ⟨⟨d60, d60f⟩, -⟩ := id hs
              go_wp2_with fail
              go_meet
              exact ⟨⟨_, rfl, rfl, Bx.at hX3 d60 d60f⟩, hacc⟩
             refine seqE_move rfl (by rfl) ?_ seqE_stop
             intro w5 hS
             refine ⟨.pointer (some ⟨w5.heap.size, 0, none⟩), w5.alloc (.cells #[.slice none 0 0] 27), (by go_simp; try with_reducible rfl), ?_⟩
             obtain ⟨b6, hb6⟩ : ∃ b, b = w5.heap.size := ⟨_, rfl⟩
             obtain ⟨v5, hw5⟩ : ∃ zW, zW = w5.alloc (.cells #[.slice none 0 0] 27) := ⟨_, rfl⟩
             rw [← hw5, ← hb6]
             have hbl : Below w5.heap.size w5 v5 := by rw [hw5]; go_grown
             have hge6 : s + 0 ≤ b6 := by rw [hb6]; exact Nat.le_trans zz hS.size
             have hga6 : wc.heap.size ≤ b6 := by rw [hb6]; exact Nat.le_trans hacc.size hS.size
             refine ⟨(fun x => Below v5.heap.size v5 x), Below.refl _ _, fun x hx => btr (btr hS hbl) hx, ?_⟩
             have hX := btr hS hbl
             replace hM1 := hM1.up hX; replace hX2 := hX2.mono hX; replace hbw := btr hbw hX; replace zz := Nat.le_trans zz (Below.size hX); replace hacc := btr hacc hX
             have hs : Cells v5 [(b6, 0, .slice none 0 0)] := ⟨⟨by rw [hw5, hb6]; go_cell, by rw [hw5, hb6]; go_cell⟩, trivial⟩
             clear hX hS hbl hw5 hb6
             (try simp only [Act.put, List.setIfInBounds_toArray, List.set_cons_zero, List.set_cons_succ])
             refine seqE_callB (f := ?_) (args := ?_) rfl (by rfl) ?_ ?_ seqE_stop
             rotate_left 2
             focus (intro w hS; go_simp; first | done | with_reducible rfl | (refine ⟨?_, ?_⟩ <;> with_reducible rfl))
             intro w6 hS
             refine (acyclic_is (hX2.mono hS) (hM1.up hS) (Below.refl _ _) (by omega) (by omega) h15_good (by rw [cnew_len]; omega) h15_mok h15_ac).mono ?_
             rintro e v6 ⟨p3, cap3, rfl, hX3, hbl⟩
             refine ⟨_, rfl, (fun x => Below v6.heap.size v6 x), Below.refl _ _, ?_⟩
             have hXw := Nat.le_trans zz hS.size; have hXa := Nat.le_trans hacc.size hS.size
             have hX := btr hS hbl
             replace hs := hs.up hX; replace hM1 := hM1.up hX; replace hX2 := hX2.mono hX; replace hbw := btr hbw hX; replace zz := Nat.le_trans zz (Below.size hX); replace hacc := btr hacc hX
             clear hX hS hbl hXw hXa
             (try simp only [Act.put, List.setIfInBounds_toArray, List.set_cons_zero, List.set_cons_succ])
             iterate 3 (refine seqE_free (v := ?_) rfl (by rfl) ?_ ?_; rotate_left; (focus (intro w; go_simp; try with_reducible rfl)); (try simp only [Act.put, List.setIfInBounds_toArray, List.set_cons_zero, List.set_cons_succ]))
             refine seqE_storeB rfl (by rfl) ?_ seqE_stop
             intro w7 hS
             replace hs := hs.up hS; replace hM1 := hM1.up hS; replace hX2 := hX2.mono hS; replace hX3 := hX3.mono hS; replace hbw := btr hbw hS; replace zz := Nat.le_trans zz (Below.size hS); replace hacc := btr hacc hS
             obtain ⟨⟨d60, d60f⟩, -⟩ := id hs
             refine ⟨(w7.setCell ⟨b6, 0, none⟩ (.slice p3 cnew.length cap3)), (by go_simp; try with_reducible rfl), (fun x => Below ((w7.setCell ⟨b6, 0, none⟩ (.slice p3 cnew.length cap3))).heap.size ((w7.setCell ⟨b6, 0, none⟩ (.slice p3 cnew.length cap3))) x), Below.refl _ _, ?_⟩
             obtain ⟨v7, hw⟩ : ∃ zW, zW = (w7.setCell ⟨b6, 0, none⟩ (.slice p3 cnew.length cap3)) := ⟨_, rfl⟩
             rw [← hw]
             replace hs : Cells v7 [(b6, 0, .slice p3 cnew.length cap3)] := by rw [hw]; exact ⟨⟨by go_cell, (fz d60f)⟩, trivial⟩
             replace hM1 : MxAt v7 q1 cq1 (hChain) := by rw [hw]; exact hM1.box d60 _
             replace hX2 : CAt v7 p2 cap2 cnew := by rw [hw]; exact hX2.box d60 _
             replace hX3 : CAt v7 p3 cap3 cnew := by rw [hw]; exact hX3.box d60 _
             replace hbw : Below w.heap.size w v7 := by rw [hw]; exact (Below.setCell hbw (by have h := HS.out; (try dsimp only); omega) _)
             replace hacc : Below wc.heap.size wc v7 := by rw [hw]; exact (Below.setCell hacc (by have h := HS.out; (try dsimp only); omega) _)
             replace zz : s + 0 ≤ v7.heap.size := by rw [hw]; simpa using zz
             clear hw
             clear d60 d60f
             clear hS
             (try simp only [Act.put, List.setIfInBounds_toArray, List.set_cons_zero, List.set_cons_succ])
             iterate 1 (refine seqE_free (v := ?_) rfl (by rfl) ?_ ?_; rotate_left; (focus (intro w; go_simp; try with_reducible rfl)); (try simp only [Act.put, List.setIfInBounds_toArray, List.set_cons_zero, List.set_cons_succ]))
             refine seqE_nil ?_
             intro wz hS
             replace hs := hs.up hS; replace hM1 := hM1.up hS; replace hX2 := hX2.mono hS; replace hX3 := hX3.mono hS; replace hbw := btr hbw hS; replace zz := Nat.le_trans zz (Below.size hS); replace hacc := btr hacc hS; clear hS
             obtain ⟨⟨d60, d60f⟩, -⟩ := id hs
             go_wp2_with fail
             go_meet
             exact ⟨⟨_, rfl, rfl, Bx.at hX3 d60 d60f⟩, hacc⟩
            refine seqE_move rfl (by rfl) ?_ seqE_stop
            intro w8 hS
            refine ⟨.pointer (some ⟨w8.heap.size, 0, none⟩), w8.alloc (.cells #[.slice none 0 0] 27), (by go_simp; try with_reducible rfl), ?_⟩
            obtain ⟨b6, hb6⟩ : ∃ b, b = w8.heap.size := ⟨_, rfl⟩
            obtain ⟨v8, hw8⟩ : ∃ zW, zW = w8.alloc (.cells #[.slice none 0 0] 27) := ⟨_, rfl⟩
            rw [← hw8, ← hb6]
            have hbl : Below w8.heap.size w8 v8 := by rw [hw8]; go_grown
            have hge6 : s + 0 ≤ b6 := by rw [hb6]; exact Nat.le_trans zz hS.size
            have hga6 : wc.heap.size ≤ b6 := by rw [hb6]; exact Nat.le_trans hacc.size hS.size
            refine ⟨(fun x => Below v8.heap.size v8 x), Below.refl _ _, fun x hx => btr (btr hS hbl) hx, ?_⟩
            have hX := btr hS hbl
            replace hM1 := hM1.up hX; replace hbw := btr hbw hX; replace zz := Nat.le_trans zz (Below.size hX); replace hacc := btr hacc hX
            have hs : Cells v8 [(b6, 0, .slice none 0 0)] := ⟨⟨by rw [hw8, hb6]; go_cell, by rw [hw8, hb6]; go_cell⟩, trivial⟩
            clear hX hS hbl hw8 hb6
            (try simp only [Act.put, List.setIfInBounds_toArray, List.set_cons_zero, List.set_cons_succ])
            refine seqE_call (f := ?_) (args := ?_) rfl (by rfl) ?_ ?_ seqE_stop
            rotate_left 2
            focus (intro w hS; go_simp; first | done | with_reducible rfl | (refine ⟨?_, ?_⟩ <;> with_reducible rfl))
            intro w9 hS
            refine (rnew_is w9).mono ?_
            rintro e v9 ⟨p2, cap2, rfl, hX2, hbl⟩
            refine ⟨_, rfl, (fun x => Below v9.heap.size v9 x), Below.refl _ _, fun x hx => btr (btr hS hbl) hx, ?_⟩
            have hXw := Nat.le_trans zz hS.size; have hXa := Nat.le_trans hacc.size hS.size
            have hX := btr hS hbl
            replace hs := hs.up hX; replace hM1 := hM1.up hX; replace hbw := btr hbw hX; replace zz := Nat.le_trans zz (Below.size hX); replace hacc := btr hacc hX
            clear hX hS hbl hXw hXa
            (try simp only [Act.put, List.setIfInBounds_toArray, List.set_cons_zero, List.set_cons_succ])
            refine seqE_callB (f := ?_) (args := ?_) rfl (by rfl) ?_ ?_ seqE_stop
            rotate_left 2
            focus (intro w hS; go_simp; first | done | with_reducible rfl | (refine ⟨?_, ?_⟩ <;> with_reducible rfl))
            intro w10 hS
            refine (acyclic_is (hX2.mono hS) (hM1.up hS) (Below.refl _ _) (by omega) (by omega) h15_good (by rw [cnew_len]; omega) h15_mok h15_ac).mono ?_
            rintro e v10 ⟨p3, cap3, rfl, hX3, hbl⟩
            refine ⟨_, rfl, (fun x => Below v10.heap.size v10 x), Below.refl _ _, ?_⟩
            have hXw := Nat.le_trans zz hS.size; have hXa := Nat.le_trans hacc.size hS.size
            have hX := btr hS hbl
            replace hs := hs.up hX; replace hM1 := hM1.up hX; replace hX2 := hX2.mono hX; replace hbw := btr hbw hX; replace zz := Nat.le_trans zz (Below.size hX); replace hacc := btr hacc hX
            clear hX hS hbl hXw hXa
            (try simp only [Act.put, List.setIfInBounds_toArray, List.set_cons_zero, List.set_cons_succ])
            iterate 3 (refine seqE_free (v := ?_) rfl (by rfl) ?_ ?_; rotate_left; (focus (intro w; go_simp; try with_reducible rfl)); (try simp only [Act.put, List.setIfInBounds_toArray, List.set_cons_zero, List.set_cons_succ]))
            refine seqE_storeB rfl (by rfl) ?_ seqE_stop
            intro w11 hS
            replace hs := hs.up hS; replace hM1 := hM1.up hS; replace hX2 := hX2.mono hS; replace hX3 := hX3.mono hS; replace hbw := btr hbw hS; replace zz := Nat.le_trans zz (Below.size hS); replace hacc := btr hacc hS
            obtain ⟨⟨d60, d60f⟩, -⟩ := id hs
            refine ⟨(w11.setCell ⟨b6, 0, none⟩ (.slice p3 cnew.length cap3)), (by go_simp; try with_reducible rfl), (fun x => Below ((w11.setCell ⟨b6, 0, none⟩ (.slice p3 cnew.length cap3))).heap.size ((w11.setCell ⟨b6, 0, none⟩ (.slice p3 cnew.length cap3))) x), Below.refl _ _, ?_⟩
            obtain ⟨v11, hw⟩ : ∃ zW, zW = (w11.setCell ⟨b6, 0, none⟩ (.slice p3 cnew.length cap3)) := ⟨_, rfl⟩
            rw [← hw]
            replace hs : Cells v11 [(b6, 0, .slice p3 cnew.length cap3)] := by rw [hw]; exact ⟨⟨by go_cell, (fz d60f)⟩, trivial⟩
            replace hM1 : MxAt v11 q1 cq1 (hChain) := by rw [hw]; exact hM1.box d60 _
            replace hX2 : CAt v11 p2 cap2 cnew := by rw [hw]; exact hX2.box d60 _
            replace hX3 : CAt v11 p3 cap3 cnew := by rw [hw]; exact hX3.box d60 _
            replace hbw : Below w.heap.size w v11 := by rw [hw]; exact (Below.setCell hbw (by have h := HS.out; (try dsimp only); omega) _)
            replace hacc : Below wc.heap.size wc v11 := by rw [hw]; exact (Below.setCell hacc (by have h := HS.out; (try dsimp only); omega) _)
            replace zz : s + 0 ≤ v11.heap.size := by rw [hw]; simpa using zz
            clear hw
            clear d60 d60f
            clear hS
            (try simp only [Act.put, List.setIfInBounds_toArray, List.set_cons_zero, List.set_cons_succ])
            iterate 1 (refine seqE_free (v := ?_) rfl (by rfl) ?_ ?_; rotate_left; (focus (intro w; go_simp; try with_reducible rfl)); (try simp only [Act.put, List.setIfInBounds_toArray, List.set_cons_zero, List.set_cons_succ]))
            refine seqE_nil ?_
            intro wz hS
            replace hs := hs.up hS; replace hM1 := hM1.up hS; replace hX2 := hX2.mono hS; replace hX3 := hX3.mono hS; replace hbw := btr hbw hS; replace zz := Nat.le_trans zz (Below.size hS); replace hacc := btr hacc hS; clear hS
            obtain ⟨⟨d60, d60f⟩, -⟩ := id hs
            go_wp2_with fail
            go_meet
            exact ⟨⟨_, rfl, rfl, Bx.at hX3 d60 d60f⟩, hacc⟩
        case rest =>
          clear m1 m1f n1 n1f hM1
          obtain ⟨⟨b6, rfl, rfl, hB6⟩, hst⟩ := hcut
          replace hN1 := hN1.up hst
          replace hB2 := hB2.up hst
          replace hN3 := hN3.up hst
          replace hB4 := hB4.up hst
          replace hN5 := hN5.up hst
          replace hW := btr hW hst
          clear hst
          clear hN1
          go_upto_region 5 with fail
          go_cut [8, 9] from 35 to 39 (fun s8 s9 wx => (∃ (b : Nat), s8 = .pointer (some ⟨b, 0, none⟩) ∧ s9 = .int .i64 2 ∧ Bx wx b hE) ∧ Below wc.heap.size wc wx)
          case first =>
            as_aux_lemma =>
              go_wp2_with (first | (go_at_call 31; refine (rnew_is _).mono ?_; rintro e w1 ⟨p1, cap1, rfl, hC1, hb1⟩) | (go_at_call 76; refine (input_is (c := hE) (r := 2) hC1 (Below.refl _ _) h15_in (by rw [cnew_len]; omega)).mono ?_; rintro e w2 ⟨p2, cap2, rfl, hC2, hbl⟩))
              go_meet
              exact ⟨⟨_, rfl, rfl, Bx.new hC2 _⟩, bal (btr hb1 hbl) _⟩
          case rest =>
            obtain ⟨⟨b8, rfl, rfl, hB8⟩, hst⟩ := hcut
            replace hB2 := hB2.up hst
            replace hN3 := hN3.up hst
            replace hB4 := hB4.up hst
            replace hN5 := hN5.up hst
            replace hB6 := hB6.up hst
            replace hW := btr hW hst
            clear hst
            go_upto_region 6 with fail
            go_cut [10] from 40 to 44 (fun s10 wx => (∃ (b : Nat), s10 = .pointer (some ⟨b, 0, none⟩) ∧ BM wx b 2 hLoop) ∧ Below wc.heap.size wc wx)
            case first =>
              as_aux_lemma =>
                go_wp2_with fail
                go_meet
                exact ⟨⟨_, rfl, BM.newAt (MxAt.lit2 ⟨1, 0⟩ ⟨2, 2⟩ _ _) _ (by simp)⟩, by go_grown⟩
            case rest =>
              obtain ⟨⟨b10, rfl, hN10⟩, hst⟩ := hcut
              replace hB2 := hB2.up hst
              replace hN3 := hN3.up hst
              replace hB4 := hB4.up hst
              replace hN5 := hN5.up hst
              replace hB6 := hB6.up hst
              replace hB8 := hB8.up hst
              replace hW := btr hW hst
              clear hst
              go_upto_region 7 with fail
              obtain ⟨p8, c8, k8, k8f, hC8⟩ := id hB8
              obtain ⟨q10, cq10, ⟨⟨m10, m10f⟩, ⟨n10, n10f⟩, -⟩, hM10⟩ := id hN10
              go_cut [11, 12] from 45 to 50 (fun s11 s12 wx => (∃ (b : Nat), s11 = .pointer (some ⟨b, 0, none⟩) ∧ s12 = .int .i64 3 ∧ Bx wx b hE) ∧ Below wc.heap.size wc wx)
              case first =>
                as_aux_lemma =>
                  go_wp2_with (first | (go_at_call 24; refine (acyclic_is (c := hE) (n := 2) hC8 hM10 (Below.refl _ _) (by omega) (by omega) h15_goodE (by decide) h15_mok2 h15_ac2).mono ?_; rintro e w2 ⟨p2, cap2, rfl, hC2, hbl⟩))
                  go_meet
                  exact ⟨⟨_, rfl, rfl, Bx.new hC2 _⟩, bal hbl _⟩
              case rest =>
                clear k8 k8f hC8
                obtain ⟨⟨b11, rfl, rfl, hB11⟩, hst⟩ := hcut
                replace hB2 := hB2.up hst
                replace hN3 := hN3.up hst
                replace hB4 := hB4.up hst
                replace hN5 := hN5.up hst
                replace hB6 := hB6.up hst
                replace hB8 := hB8.up hst
                replace hN10 := hN10.up hst
                replace hW := btr hW hst
                clear hst
                clear m10 m10f n10 n10f hM10
                clear hB8 hN10
                go_upto_region 8 with fail
                go_cut [13] from 51 to 52 (fun s13 wx => (∃ (b : Nat), s13 = .pointer (some ⟨b, 0, none⟩) ∧ BR wx b 2 [1, 2, 5]) ∧ Below wc.heap.size wc wx)
                case first =>
                  as_aux_lemma =>
                    go_wp2_with fail
                    go_meet
                    exact ⟨⟨_, rfl, BR.newAt (SI.lit3 1 2 5 _ _) _ (by simp)⟩, by go_grown⟩
                case rest =>
                  obtain ⟨⟨b13, rfl, hN13⟩, hst⟩ := hcut
                  replace hB2 := hB2.up hst
                  replace hN3 := hN3.up hst
                  replace hB4 := hB4.up hst
                  replace hN5 := hN5.up hst
                  replace hB6 := hB6.up hst
                  replace hB11 := hB11.up hst
                  replace hW := btr hW hst
                  clear hst
                  go_upto_region 9 with fail
                  obtain ⟨p2, c2, k2, k2f, hC2⟩ := id hB2
                  obtain ⟨p4, c4, k4, k4f, hC4⟩ := id hB4
                  obtain ⟨p11, c11, k11, k11f, hC11⟩ := id hB11
                  obtain ⟨q3, cq3, ⟨⟨m3, m3f⟩, ⟨n3, n3f⟩, -⟩, hM3⟩ := id hN3
                  obtain ⟨q5, cq5, ⟨⟨m5, m5f⟩, ⟨n5, n5f⟩, -⟩, hM5⟩ := id hN5
                  obtain ⟨q13, cq13, ⟨⟨m13, m13f⟩, ⟨n13, n13f⟩, -⟩, hM13⟩ := id hN13
                  have hcl1 := cnew_len1
                  obtain ⟨s, hs0⟩ : ∃ s, w.heap.size = s := ⟨_, rfl⟩
                  have HS := Lib.hid hs0; clear hs0
                  have hbw := hW
                  have zz : s + 0 ≤ wc.heap.size := by have := HS.out; have := hW.size; omega
                  have hk : Cells wc [(b2, 0, .slice p2 (cnew).length c2), (b4, 0, .slice p4 (cnew).length c4), (b11, 0, .slice p11 (hE).length c11), (b3, 0, .int .i64 2), (b3, 1, .slice q3 (hWant).length cq3), (b5, 0, .int .i64 2), (b5, 1, .slice q5 (hWant).length cq5), (b13, 0, .int .i64 2), (b13, 1, .slice q13 ([1, 2, 5]).length cq13)] := ⟨⟨k2, k2f⟩, ⟨k4, k4f⟩, ⟨k11, k11f⟩, ⟨m3, m3f⟩, ⟨n3, n3f⟩, ⟨m5, m5f⟩, ⟨n5, n5f⟩, ⟨m13, m13f⟩, ⟨n13, n13f⟩, trivial⟩
                  clear k2 k2f k4 k4f k11 k11f m3 m3f n3 n3f m5 m5f n5 n5f m13 m13f n13 n13f
                  have hacc : Below wc.heap.size wc wc := Below.refl _ _
                  clear hW
                  refine wp_region_seqE (fun x => Below wc.heap.size wc x) (.one 0 0 (.one 1 0 (.one 3 0 (.alt 2 2 (.alt 4 2 (.one 5 1 (.one 6 0 (.one 7 0 (.one 9 0 (.alt 8 2 (.alt 10 2 (.one 11 1 (.one 12 1 (.one 13 1 (.one 14 0 (.one 15 1 (.one 16 1 (.one 17 1 (.one 18 1 (.one 19 1 (.one 20 0 (.one 21 1 (.one 22 1 (.one 23 1 (.one 24 1 (.one 25 1 (.one 26 1 (.one 27 1 (.one 28 1 (.one 29 0 (.one 31 1 (.alt 30 2 (.alt 32 2 (.one 33 1 (.one 34 1 (.one 35 0 (.one 37 1 (.alt 36 2 (.alt 38 2 (.one 39 1 (.one 40 1 (.one 41 1 .nil))) .stop) .stop))))) .stop) .stop))))))))))))))))))))) .stop) .stop))))) .stop) .stop)))) (by kernel_rfl) (by kernel_rfl) (by kernel_rfl) (Below.drew (Below.refl _ _)) ?_
                  iterate 3 (refine seqE_pure (v := ?_) rfl (by rfl) ?_ ?_; rotate_left; (focus (intro w hS; obtain ⟨⟨k2, -⟩, ⟨k4, -⟩, ⟨k11, -⟩, ⟨m3, -⟩, ⟨n3, -⟩, ⟨m5, -⟩, ⟨n5, -⟩, ⟨m13, -⟩, ⟨n13, -⟩, -⟩ := hk.up hS; go_simp; try with_reducible rfl)); (try simp only [Act.put, List.setIfInBounds_toArray, List.set_cons_zero, List.set_cons_succ]))
                  refine seqE_call (f := ?_) (args := ?_) rfl (by rfl) ?_ ?_ seqE_stop
                  rotate_left 2
                  focus (intro w hS; go_simp; first | done | with_reducible rfl | (refine ⟨?_, ?_⟩ <;> with_reducible rfl))
                  intro w1 hS
                  refine (mvalue_is (V := []) (nv := 0) (hC2.mono hS) (hM3.up hS) (bools_nil _) h15_good.wf (by rw [cnew_len]; omega) (by decide) rfl (by omega) h15_val).mono ?_
                  rintro e v1 ⟨y1, cy1, rfl, hR1, hbl⟩
                  refine ⟨_, rfl, (fun x => Below v1.heap.size v1 x), Below.refl _ _, fun x hx => btr (btr hS hbl) hx, ?_⟩
                  have hXw := Nat.le_trans zz hS.size; have hXa := Nat.le_trans hacc.size hS.size
                  have hX := btr hS hbl
                  replace hk := hk.up hX; replace hC2 := hC2.mono hX; replace hC4 := hC4.mono hX; replace hC11 := hC11.mono hX; replace hM3 := hM3.up hX; replace hM5 := hM5.up hX; replace hM13 := hM13.up hX; replace hbw := btr hbw hX; replace zz := Nat.le_trans zz (Below.size hX); replace hacc := btr hacc hX
                  clear hX hS hbl hXw hXa
                  (try simp only [Act.put, List.setIfInBounds_toArray, List.set_cons_zero, List.set_cons_succ])
                  refine seqE_keep (v := .bool true) (f := ?_) (args := ?_) rfl (by rfl) ?_ ?_ ?_ seqE_stop
                  rotate_left 2
                  focus (intro w hS; go_simp; first | done | with_reducible rfl | (refine ⟨?_, ?_⟩ <;> with_reducible rfl))
                  focus (intro w hS; refine (requal_is (hR1.up hS) (hM13.up hS) rfl).mono ?_; rintro e w2 ⟨rfl, hbl⟩; exact ⟨rfl, btr hS hbl⟩)
                  (try simp only [Act.put, List.setIfInBounds_toArray, List.set_cons_zero, List.set_cons_succ])
                  iterate 4 (first | (refine seqE_free (v := ?_) rfl (by rfl) ?_ ?_; rotate_left; (focus (intro w; go_simp; try with_reducible rfl)); (try simp only [Act.put, List.setIfInBounds_toArray, List.set_cons_zero, List.set_cons_succ])) | (refine seqE_pure (v := ?_) rfl (by rfl) ?_ ?_; rotate_left; (focus (intro w hS; obtain ⟨⟨k2, -⟩, ⟨k4, -⟩, ⟨k11, -⟩, ⟨m3, -⟩, ⟨n3, -⟩, ⟨m5, -⟩, ⟨n5, -⟩, ⟨m13, -⟩, ⟨n13, -⟩, -⟩ := hk.up hS; go_simp; try with_reducible rfl)); (try simp only [Act.put, List.setIfInBounds_toArray, List.set_cons_zero, List.set_cons_succ])))
                  refine seqE_call (f := ?_) (args := ?_) rfl (by rfl) ?_ ?_ seqE_stop
                  rotate_left 2
                  focus (intro w hS; go_simp; first | done | with_reducible rfl | (refine ⟨?_, ?_⟩ <;> with_reducible rfl))
                  intro w3 hS
                  refine (mvalue_is (V := []) (nv := 0) (hC4.mono hS) (hM5.up hS) (bools_nil _) h15_good.wf (by rw [cnew_len]; omega) (by decide) rfl (by omega) h15_val).mono ?_
                  rintro e v3 ⟨y2, cy2, rfl, hR2, hbl⟩
                  refine ⟨_, rfl, (fun x => Below v3.heap.size v3 x), Below.refl _ _, fun x hx => btr (btr hS hbl) hx, ?_⟩
                  have hXw := Nat.le_trans zz hS.size; have hXa := Nat.le_trans hacc.size hS.size
                  have hX := btr hS hbl
                  replace hk := hk.up hX; replace hC2 := hC2.mono hX; replace hC4 := hC4.mono hX; replace hC11 := hC11.mono hX; replace hM3 := hM3.up hX; replace hM5 := hM5.up hX; replace hM13 := hM13.up hX; replace hR1 := hR1.up hX; replace hbw := btr hbw hX; replace zz := Nat.le_trans zz (Below.size hX); replace hacc := btr hacc hX
                  clear hX hS hbl hXw hXa
                  (try simp only [Act.put, List.setIfInBounds_toArray, List.set_cons_zero, List.set_cons_succ])
                  refine seqE_keep (v := .bool true) (f := ?_) (args := ?_) rfl (by rfl) ?_ ?_ ?_ seqE_stop
                  rotate_left 2
                  focus (intro w hS; go_simp; first | done | with_reducible rfl | (refine ⟨?_, ?_⟩ <;> with_reducible rfl))
                  focus (intro w hS; refine (requal_is (hR2.up hS) (hM13.up hS) rfl).mono ?_; rintro e w2 ⟨rfl, hbl⟩; exact ⟨rfl, btr hS hbl⟩)
                  (try simp only [Act.put, List.setIfInBounds_toArray, List.set_cons_zero, List.set_cons_succ])
                  iterate 20 (first | (refine seqE_free (v := ?_) rfl (by rfl) ?_ ?_; rotate_left; (focus (intro w; go_simp; try with_reducible rfl)); (try simp only [Act.put, List.setIfInBounds_toArray, List.set_cons_zero, List.set_cons_succ])) | (refine seqE_pure (v := ?_) rfl (by rfl) ?_ ?_; rotate_left; (focus (intro w hS; obtain ⟨⟨k2, -⟩, ⟨k4, -⟩, ⟨k11, -⟩, ⟨m3, -⟩, ⟨n3, -⟩, ⟨m5, -⟩, ⟨n5, -⟩, ⟨m13, -⟩, ⟨n13, -⟩, -⟩ := hk.up hS; go_simp; try with_reducible rfl)); (try simp only [Act.put, List.setIfInBounds_toArray, List.set_cons_zero, List.set_cons_succ])))
                  refine seqE_move rfl (by rfl) ?_ seqE_stop
                  intro w5 hS
                  refine ⟨.slice (some ⟨w5.heap.size, 0, none⟩) 1 1, w5.alloc (.cells #[.bool false] 4), (by go_simp; try with_reducible rfl), ?_⟩
                  obtain ⟨b83, hb83⟩ : ∃ b, b = w5.heap.size := ⟨_, rfl⟩
                  obtain ⟨v5, hw5⟩ : ∃ zW, zW = w5.alloc (.cells #[.bool false] 4) := ⟨_, rfl⟩
                  rw [← hw5, ← hb83]
                  have hbl : Below w5.heap.size w5 v5 := by rw [hw5]; go_grown
                  refine ⟨(fun x => Below v5.heap.size v5 x), Below.refl _ _, fun x hx => btr (btr hS hbl) hx, ?_⟩
                  have hX := btr hS hbl
                  replace hk := hk.up hX; replace hC2 := hC2.mono hX; replace hC4 := hC4.mono hX; replace hC11 := hC11.mono hX; replace hM3 := hM3.up hX; replace hM5 := hM5.up hX; replace hM13 := hM13.up hX; replace hR1 := hR1.up hX; replace hR2 := hR2.up hX; replace hbw := btr hbw hX; replace zz := Nat.le_trans zz (Below.size hX); replace hacc := btr hacc hX
                  have hV83 : BoolsAt v5 (some ⟨b83, 0, none⟩) [false] := by rw [hw5, hb83]; exact bools_lit false _ _
                  clear hX hS hbl hw5 hb83
                  (try simp only [Act.put, List.setIfInBounds_toArray, List.set_cons_zero, List.set_cons_succ])
                  refine seqE_keep (v := .bool true) (f := ?_) (args := ?_) rfl (by rfl) ?_ ?_ ?_ seqE_stop
                  rotate_left 2
                  focus (intro w hS; go_simp; first | done | with_reducible rfl | (refine ⟨?_, ?_⟩ <;> with_reducible rfl))
                  focus (intro w hS; refine (eval_is (vals := [false]) (n := 1) (hC11.mono hS) (Below.refl _ _) (hV83.mono hS) h15_goodE.wf h15_ev1 rfl (by decide) (by decide)).mono ?_; rintro e w2 ⟨rfl, hbl⟩; exact ⟨rfl, btr hS hbl⟩)
                  (try simp only [Act.put, List.setIfInBounds_toArray, List.set_cons_zero, List.set_cons_succ])
                  iterate 4 (first | (refine seqE_free (v := ?_) rfl (by rfl) ?_ ?_; rotate_left; (focus (intro w; go_simp; try with_reducible rfl)); (try simp only [Act.put, List.setIfInBounds_toArray, List.set_cons_zero, List.set_cons_succ])) | (refine seqE_pure (v := ?_) rfl (by rfl) ?_ ?_; rotate_left; (focus (intro w hS; obtain ⟨⟨k2, -⟩, ⟨k4, -⟩, ⟨k11, -⟩, ⟨m3, -⟩, ⟨n3, -⟩, ⟨m5, -⟩, ⟨n5, -⟩, ⟨m13, -⟩, ⟨n13, -⟩, -⟩ := hk.up hS; go_simp; try with_reducible rfl)); (try simp only [Act.put, List.setIfInBounds_toArray, List.set_cons_zero, List.set_cons_succ])))
                  clear hk
                  refine seqE_move rfl (by rfl) ?_ seqE_stop
                  intro w7 hS
                  refine ⟨.slice (some ⟨w7.heap.size, 0, none⟩) 1 1, w7.alloc (.cells #[.bool true] 4), (by go_simp; try with_reducible rfl), ?_⟩
                  obtain ⟨b89, hb89⟩ : ∃ b, b = w7.heap.size := ⟨_, rfl⟩
                  obtain ⟨v7, hw7⟩ : ∃ zW, zW = w7.alloc (.cells #[.bool true] 4) := ⟨_, rfl⟩
                  rw [← hw7, ← hb89]
                  have hbl : Below w7.heap.size w7 v7 := by rw [hw7]; go_grown
                  refine ⟨(fun x => Below v7.heap.size v7 x), Below.refl _ _, fun x hx => btr (btr hS hbl) hx, ?_⟩
                  have hX := btr hS hbl
                  replace hC2 := hC2.mono hX; replace hC4 := hC4.mono hX; replace hC11 := hC11.mono hX; replace hM3 := hM3.up hX; replace hM5 := hM5.up hX; replace hM13 := hM13.up hX; replace hR1 := hR1.up hX; replace hR2 := hR2.up hX; replace hV83 := hV83.mono hX; replace hbw := btr hbw hX; replace zz := Nat.le_trans zz (Below.size hX); replace hacc := btr hacc hX
                  have hV89 : BoolsAt v7 (some ⟨b89, 0, none⟩) [true] := by rw [hw7, hb89]; exact bools_lit true _ _
                  clear hX hS hbl hw7 hb89
                  (try simp only [Act.put, List.setIfInBounds_toArray, List.set_cons_zero, List.set_cons_succ])
                  refine seqE_keep (v := .bool false) (f := ?_) (args := ?_) rfl (by rfl) ?_ ?_ ?_ seqE_stop
                  rotate_left 2
                  focus (intro w hS; go_simp; first | done | with_reducible rfl | (refine ⟨?_, ?_⟩ <;> with_reducible rfl))
                  focus (intro w hS; refine (eval_is (vals := [true]) (n := 1) (hC11.mono hS) (Below.refl _ _) (hV89.mono hS) h15_goodE.wf h15_ev2 rfl (by decide) (by decide)).mono ?_; rintro e w2 ⟨rfl, hbl⟩; exact ⟨rfl, btr hS hbl⟩)
                  (try simp only [Act.put, List.setIfInBounds_toArray, List.set_cons_zero, List.set_cons_succ])
                  iterate 3 (refine seqE_free (v := ?_) rfl (by rfl) ?_ ?_; rotate_left; (focus (intro w; go_simp; try with_reducible rfl)); (try simp only [Act.put, List.setIfInBounds_toArray, List.set_cons_zero, List.set_cons_succ]))
                  refine seqE_nil ?_
                  intro wz hS
                  replace hC2 := hC2.mono hS; replace hC4 := hC4.mono hS; replace hC11 := hC11.mono hS; replace hM3 := hM3.up hS; replace hM5 := hM5.up hS; replace hM13 := hM13.up hS; replace hR1 := hR1.up hS; replace hR2 := hR2.up hS; replace hV83 := hV83.mono hS; replace hV89 := hV89.mono hS; replace hbw := btr hbw hS; replace zz := Nat.le_trans zz (Below.size hS); replace hacc := btr hacc hS; clear hS
                  go_wp2_with fail
                  go_ret
                  exact ⟨rfl, hbw⟩
end Go.Proofs.Ytadilppdlbhjnaa
