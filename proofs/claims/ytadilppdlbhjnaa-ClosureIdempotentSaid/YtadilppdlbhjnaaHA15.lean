/- Walk of law 15's head. -/
import Derived.Test.YtadilppdlbhjnaaLR
namespace Go.Proofs.Ytadilppdlbhjnaa
set_option linter.unusedSimpArgs false
set_option linter.unusedVariables false
open Go.RowKit

def hChain : List Cell := [⟨1, 0⟩, ⟨5, 0⟩]
def hWant : List Cell := [⟨1, 0⟩, ⟨2, 0⟩, ⟨5, 0⟩]
def hE : List Gate := [⟨0, 0, 0⟩, ⟨1, 1, 0⟩]
def hLoop : List Cell := [⟨1, 0⟩, ⟨2, 2⟩]
theorem h15_const : mConst [1, 5] = hChain := by decide
theorem h15_sq : mSquaring cnew 3 hChain = (cnew, hWant) := by decide +kernel
theorem h15_st : mStepwise cnew 3 hChain = (cnew, hWant) := by decide +kernel
theorem h15_ac : mAcyclic cnew 3 hChain = (cnew, 0) := by decide +kernel
theorem h15_in : cinput cnew 1 = (hE, 2) := by decide +kernel
theorem h15_ac2 : mAcyclic hE 2 hLoop = (hE, 3) := by decide +kernel
theorem h15_good : Good cnew := good_new
theorem h15_goodE : Good hE := (show (cinput cnew 1).1 = hE by rw [h15_in]) ▸ (keeps_input (v := 1) good_new (by decide) (by decide) (by decide)).good
theorem h15_mok : MOk cnew ((3 * 3 : Nat) : Int) hChain := ⟨by simp [Sorted, hChain], by decide, by decide⟩
theorem h15_mok2 : MOk hE ((2 * 2 : Nat) : Int) hLoop := ⟨by simp [Sorted, hLoop], by decide, by decide⟩
theorem h15_val : mValue cnew [] hWant = [1, 2, 5] := by decide +kernel
theorem h15_ev1 : ceval hE [false] 3 = true := by decide +kernel
theorem h15_ev2 : ceval hE [true] 3 = false := by decide +kernel
theorem cnew_len : cnew.length = 1 := by decide
theorem cnew_len1 : ((cnew.length : Int) == 1) = true := by decide

set_option maxRecDepth 100000 in
set_option maxHeartbeats 8000000 in
theorem head15_any (w : World) : Calls Try.prog 16 #[] w (RetB w true) := by
  have hW : Below w.heap.size w w := Below.refl _ _
  go_enter Try.func16, Try.ntmps16
  go_upto_region 1 with fail
  go_cut [1] from 14 to 16 (fun s1 wx => (∃ (b : Nat), s1 = .pointer (some ⟨b, 0, none⟩) ∧ BM wx b 2 hChain) ∧ Below w.heap.size w wx)
  case first =>
    as_aux_lemma =>
      go_wp2_with (first | (go_at_call 29; refine (const_is (l := [1, 5]) (m := hChain) (SI.lit2 1 5 _ _) (by simp) h15_const).mono ?_; rintro e w2 ⟨p2, cap2, rfl, hM2, hbl⟩))
      go_meet
      exact ⟨⟨_, rfl, BM.newAt hM2 _ rfl⟩, bal (btr (by go_grown) hbl) _⟩
  case rest =>
    obtain ⟨⟨b1, rfl, hN1⟩, hst⟩ := hcut
    replace hW := btr hW hst
    clear hst
    go_upto_region 2 with fail
    obtain ⟨q1, cq1, ⟨⟨m1, m1f⟩, ⟨n1, n1f⟩, -⟩, hM1⟩ := id hN1
    go_cut [2, 3] from 17 to 22 (fun s2 s3 wx => (∃ (b b' : Nat), s2 = .pointer (some ⟨b, 0, none⟩) ∧ s3 = .pointer (some ⟨b', 0, none⟩) ∧ Bx wx b (cnew) ∧ BM wx b' 2 (hWant)) ∧ Below wc.heap.size wc wx)
    case first =>
      as_aux_lemma =>
        obtain ⟨s, hs0⟩ : ∃ s, wc.heap.size = s := ⟨_, rfl⟩
        have HS := Lib.hid hs0; clear hs0
        obtain ⟨tab, htab⟩ : ∃ t : Nat → Ent, t = tabL [(0, eC cnew), (2, eCM cnew 2 hWant), (6, eVC s), (7, eVM s)] := ⟨_, rfl⟩
        refine wp_region_tab wc tab [(0, 1), (1, 0), (2, 1), (3, 0), (4, 0), (6, 1), (7, 1), (5, 2)] (.alt 8 3 (.alt 9 3 .nil .stop) .stop) (by kernel_rfl) (by kernel_rfl) (by kernel_rfl) (Below.drew (Below.refl _ _)) ?_
        refine seqX_call (e := eC cnew) (f := ?_) (args := ?_) (by rw [htab]; rfl) rfl (by rfl) ?_ ?_ ?_
        rotate_left 2
        · (intro w; go_simp; first | done | with_reducible rfl | (refine ⟨?_, ?_⟩ <;> with_reducible rfl))
        · (intro w hS hF; refine (rnew_is w).mono ?_; intro e w' h; exact h.x)
        rintro ⟨p18, c18, q18, d18, b18⟩
        (try dsimp only [eCM, eC, eCI, eM, eR, eS, eX, eB, eK, eVC, eVM])
        (try simp only [Act.put, List.setIfInBounds_toArray, List.set_cons_zero, List.set_cons_succ])
        refine seqX_pure (v := ?_) rfl (by rfl) ?_ ?_
        rotate_left
        · (intro w hS hF; have kk := oldcell hS m1 (World.block_lt_of_cell? _ _ m1); have kk2 := oldcell hS n1 (World.block_lt_of_cell? _ _ n1); go_simp; try with_reducible rfl)
        (try simp only [Act.put, List.setIfInBounds_toArray, List.set_cons_zero, List.set_cons_succ])
        refine seqX_call (e := eCM cnew 2 hWant) (f := ?_) (args := ?_) (by rw [htab]; rfl) rfl (by rfl) ?_ ?_ ?_
        rotate_left 2
        · (intro w; go_simp; first | done | with_reducible rfl | (refine ⟨?_, ?_⟩ <;> with_reducible rfl))
        · (intro w hS hF; have f1 : CAt w p18 c18 cnew := hF 0 (by kernel_rfl); refine (squaring_is f1 (hM1.up hS) (Below.refl _ _) (by omega) (by omega) h15_good (by rw [cnew_len]; omega) h15_mok h15_sq).mono ?_; intro e w' h; exact RetCM.x h)
        rintro ⟨p20, c20, q20, d20, b20⟩
        (try dsimp only [eCM, eC, eCI, eM, eR, eS, eX, eB, eK, eVC, eVM])
        (try simp only [Act.put, List.setIfInBounds_toArray, List.set_cons_zero, List.set_cons_succ])
        refine seqX_pure (v := ?_) rfl (by rfl) ?_ ?_
        rotate_left
        · (intro w hS hF; go_simp; try with_reducible rfl)
        (try simp only [Act.put, List.setIfInBounds_toArray, List.set_cons_zero, List.set_cons_succ])
        refine seqX_pure (v := ?_) rfl (by rfl) ?_ ?_
        rotate_left
        · (intro w hS hF; go_simp; try with_reducible rfl)
        (try simp only [Act.put, List.setIfInBounds_toArray, List.set_cons_zero, List.set_cons_succ])
        refine seqX_move (e := eVC s) (by rw [htab]; rfl) rfl (by rfl) ?_ ?_
        · (intro w hS; exact ⟨⟨none, 0, none, 0, w.heap.size⟩, w.alloc (.cells #[.slice none 0 0] 27), (by go_simp; try with_reducible rfl), by go_grown, Nat.le_trans (Nat.le_of_eq HS.out.symm) hS.size, ⟨⟨by go_cell, by go_cell⟩, trivial⟩⟩)
        rintro ⟨p2, c2, q2, d2, b2⟩
        (try dsimp only [eCM, eC, eCI, eM, eR, eS, eX, eB, eK, eVC, eVM])
        (try simp only [Act.put, List.setIfInBounds_toArray, List.set_cons_zero, List.set_cons_succ])
        refine seqX_move (e := eVM s) (by rw [htab]; rfl) rfl (by rfl) ?_ ?_
        · (intro w hS; exact ⟨⟨none, 0, none, 0, w.heap.size⟩, w.alloc (.cells #[.int .i64 0, .slice none 0 0] 30), (by go_simp; try with_reducible rfl), by go_grown, Nat.le_trans (Nat.le_of_eq HS.out.symm) hS.size, ⟨⟨by go_cell, by go_cell⟩, ⟨by go_cell, by go_cell⟩, trivial⟩⟩)
        rintro ⟨p3, c3, q3, d3, b3⟩
        (try dsimp only [eCM, eC, eCI, eM, eR, eS, eX, eB, eK, eVC, eVM])
        (try simp only [Act.put, List.setIfInBounds_toArray, List.set_cons_zero, List.set_cons_succ])
        refine seqX_free (v := ?_) rfl (by rfl) ?_ ?_
        rotate_left
        · (intro w; go_simp; try with_reducible rfl)
        (try simp only [Act.put, List.setIfInBounds_toArray, List.set_cons_zero, List.set_cons_succ])
        refine seqX_nil ?_
        refine seqE_storeB rfl (by rfl) ?_ seqE_stop
        intro w hS
        obtain ⟨ga, ca⟩ : s ≤ b2 ∧ Cells w [(b2, 0, .slice none 0 0)] := hS.2 6
        obtain ⟨gm, cm⟩ : s ≤ b3 ∧ Cells w [(b3, 0, .int .i64 0), (b3, 1, .slice none 0 0)] := hS.2 7
        obtain ⟨fc, fm⟩ : CAt w p20 c20 (cnew) ∧ MxAt w q20 d20 (hWant) := hS.2 2
        have ht : TLm s wc b2 b3 p20 c20 (cnew) q20 d20 (hWant) w := ⟨hS.1, HS.out, ga, gm, ca, cm, fc, fm⟩
        obtain ⟨⟨u1, u1f⟩, -⟩ := ca
        refine ⟨w.setCell ⟨b2, 0, none⟩ (.slice p20 (cnew).length c20), (by go_simp; try with_reducible rfl), fun x => T2m s wc b2 b3 (cnew) q20 d20 (hWant) x, ht.s1, ?_⟩
        (try simp only [Act.put, List.setIfInBounds_toArray, List.set_cons_zero, List.set_cons_succ])
        refine seqE_storeB rfl (by rfl) ?_ seqE_stop
        intro w hS
        obtain ⟨⟨u0, u0f⟩, ⟨u1, u1f⟩, -⟩ := hS.cm
        refine ⟨(w.setCell ⟨b3, 0, none⟩ (.int .i64 2)).setCell ⟨b3, 1, none⟩ (.slice q20 (hWant).length d20), (by go_simp; try with_reducible rfl), fun x => Bx x b2 (cnew) ∧ BM x b3 2 (hWant) ∧ Below wc.heap.size wc x, hS.s2, ?_⟩
        (try simp only [Act.put, List.setIfInBounds_toArray, List.set_cons_zero, List.set_cons_succ])
        refine seqE_nil ?_
        intro w hS
        go_wp2_with fail
        go_meet
        exact ⟨⟨_, _, rfl, rfl, hS.1, hS.2.1⟩, hS.2.2⟩
    case rest =>
      clear m1 m1f n1 n1f hM1
      obtain ⟨⟨b2, b3, rfl, rfl, hB2, hN3⟩, hst⟩ := hcut
      replace hN1 := hN1.up hst
      replace hW := btr hW hst
      clear hst
      go_upto_region 3 with fail
      obtain ⟨q1, cq1, ⟨⟨m1, m1f⟩, ⟨n1, n1f⟩, -⟩, hM1⟩ := id hN1
      go_cut [4, 5] from 23 to 28 (fun s4 s5 wx => (∃ (b b' : Nat), s4 = .pointer (some ⟨b, 0, none⟩) ∧ s5 = .pointer (some ⟨b', 0, none⟩) ∧ Bx wx b (cnew) ∧ BM wx b' 2 (hWant)) ∧ Below wc.heap.size wc wx)
      case first =>
        as_aux_lemma =>
          obtain ⟨s, hs0⟩ : ∃ s, wc.heap.size = s := ⟨_, rfl⟩
          have HS := Lib.hid hs0; clear hs0
          obtain ⟨tab, htab⟩ : ∃ t : Nat → Ent, t = tabL [(0, eC cnew), (2, eCM cnew 2 hWant), (6, eVC s), (7, eVM s)] := ⟨_, rfl⟩
          refine wp_region_tab wc tab [(0, 1), (1, 0), (2, 1), (3, 0), (4, 0), (6, 1), (7, 1), (5, 2)] (.alt 8 3 (.alt 9 3 .nil .stop) .stop) (by kernel_rfl) (by kernel_rfl) (by kernel_rfl) (Below.drew (Below.refl _ _)) ?_
          refine seqX_call (e := eC cnew) (f := ?_) (args := ?_) (by rw [htab]; rfl) rfl (by rfl) ?_ ?_ ?_
          rotate_left 2
          · (intro w; go_simp; first | done | with_reducible rfl | (refine ⟨?_, ?_⟩ <;> with_reducible rfl))
          · (intro w hS hF; refine (rnew_is w).mono ?_; intro e w' h; exact h.x)
          rintro ⟨p24, c24, q24, d24, b24⟩
          (try dsimp only [eCM, eC, eCI, eM, eR, eS, eX, eB, eK, eVC, eVM])
          (try simp only [Act.put, List.setIfInBounds_toArray, List.set_cons_zero, List.set_cons_succ])
          refine seqX_pure (v := ?_) rfl (by rfl) ?_ ?_
          rotate_left
          · (intro w hS hF; have kk := oldcell hS m1 (World.block_lt_of_cell? _ _ m1); have kk2 := oldcell hS n1 (World.block_lt_of_cell? _ _ n1); go_simp; try with_reducible rfl)
          (try simp only [Act.put, List.setIfInBounds_toArray, List.set_cons_zero, List.set_cons_succ])
          refine seqX_call (e := eCM cnew 2 hWant) (f := ?_) (args := ?_) (by rw [htab]; rfl) rfl (by rfl) ?_ ?_ ?_
          rotate_left 2
          · (intro w; go_simp; first | done | with_reducible rfl | (refine ⟨?_, ?_⟩ <;> with_reducible rfl))
          · (intro w hS hF; have f1 : CAt w p24 c24 cnew := hF 0 (by kernel_rfl); refine (stepwise_is f1 (hM1.up hS) (Below.refl _ _) (by omega) (by omega) h15_good (by rw [cnew_len]; omega) h15_mok h15_st).mono ?_; intro e w' h; exact RetCM.x h)
          rintro ⟨p26, c26, q26, d26, b26⟩
          (try dsimp only [eCM, eC, eCI, eM, eR, eS, eX, eB, eK, eVC, eVM])
          (try simp only [Act.put, List.setIfInBounds_toArray, List.set_cons_zero, List.set_cons_succ])
          refine seqX_pure (v := ?_) rfl (by rfl) ?_ ?_
          rotate_left
          · (intro w hS hF; go_simp; try with_reducible rfl)
          (try simp only [Act.put, List.setIfInBounds_toArray, List.set_cons_zero, List.set_cons_succ])
          refine seqX_pure (v := ?_) rfl (by rfl) ?_ ?_
          rotate_left
          · (intro w hS hF; go_simp; try with_reducible rfl)
          (try simp only [Act.put, List.setIfInBounds_toArray, List.set_cons_zero, List.set_cons_succ])
          refine seqX_move (e := eVC s) (by rw [htab]; rfl) rfl (by rfl) ?_ ?_
          · (intro w hS; exact ⟨⟨none, 0, none, 0, w.heap.size⟩, w.alloc (.cells #[.slice none 0 0] 27), (by go_simp; try with_reducible rfl), by go_grown, Nat.le_trans (Nat.le_of_eq HS.out.symm) hS.size, ⟨⟨by go_cell, by go_cell⟩, trivial⟩⟩)
          rintro ⟨p4, c4, q4, d4, b4⟩
          (try dsimp only [eCM, eC, eCI, eM, eR, eS, eX, eB, eK, eVC, eVM])
          (try simp only [Act.put, List.setIfInBounds_toArray, List.set_cons_zero, List.set_cons_succ])
          refine seqX_move (e := eVM s) (by rw [htab]; rfl) rfl (by rfl) ?_ ?_
          · (intro w hS; exact ⟨⟨none, 0, none, 0, w.heap.size⟩, w.alloc (.cells #[.int .i64 0, .slice none 0 0] 30), (by go_simp; try with_reducible rfl), by go_grown, Nat.le_trans (Nat.le_of_eq HS.out.symm) hS.size, ⟨⟨by go_cell, by go_cell⟩, ⟨by go_cell, by go_cell⟩, trivial⟩⟩)
          rintro ⟨p5, c5, q5, d5, b5⟩
          (try dsimp only [eCM, eC, eCI, eM, eR, eS, eX, eB, eK, eVC, eVM])
          (try simp only [Act.put, List.setIfInBounds_toArray, List.set_cons_zero, List.set_cons_succ])
          refine seqX_free (v := ?_) rfl (by rfl) ?_ ?_
          rotate_left
          · (intro w; go_simp; try with_reducible rfl)
          (try simp only [Act.put, List.setIfInBounds_toArray, List.set_cons_zero, List.set_cons_succ])
          refine seqX_nil ?_
          refine seqE_storeB rfl (by rfl) ?_ seqE_stop
          intro w hS
          obtain ⟨ga, ca⟩ : s ≤ b4 ∧ Cells w [(b4, 0, .slice none 0 0)] := hS.2 6
          obtain ⟨gm, cm⟩ : s ≤ b5 ∧ Cells w [(b5, 0, .int .i64 0), (b5, 1, .slice none 0 0)] := hS.2 7
          obtain ⟨fc, fm⟩ : CAt w p26 c26 (cnew) ∧ MxAt w q26 d26 (hWant) := hS.2 2
          have ht : TLm s wc b4 b5 p26 c26 (cnew) q26 d26 (hWant) w := ⟨hS.1, HS.out, ga, gm, ca, cm, fc, fm⟩
          obtain ⟨⟨u1, u1f⟩, -⟩ := ca
          refine ⟨w.setCell ⟨b4, 0, none⟩ (.slice p26 (cnew).length c26), (by go_simp; try with_reducible rfl), fun x => T2m s wc b4 b5 (cnew) q26 d26 (hWant) x, ht.s1, ?_⟩
          (try simp only [Act.put, List.setIfInBounds_toArray, List.set_cons_zero, List.set_cons_succ])
          refine seqE_storeB rfl (by rfl) ?_ seqE_stop
          intro w hS
          obtain ⟨⟨u0, u0f⟩, ⟨u1, u1f⟩, -⟩ := hS.cm
          refine ⟨(w.setCell ⟨b5, 0, none⟩ (.int .i64 2)).setCell ⟨b5, 1, none⟩ (.slice q26 (hWant).length d26), (by go_simp; try with_reducible rfl), fun x => Bx x b4 (cnew) ∧ BM x b5 2 (hWant) ∧ Below wc.heap.size wc x, hS.s2, ?_⟩
          (try simp only [Act.put, List.setIfInBounds_toArray, List.set_cons_zero, List.set_cons_succ])
          refine seqE_nil ?_
          intro w hS
          go_wp2_with fail
          go_meet
          exact ⟨⟨_, _, rfl, rfl, hS.1, hS.2.1⟩, hS.2.2⟩
      case rest =>
        clear m1 m1f n1 n1f hM1
        obtain ⟨⟨b4, b5, rfl, rfl, hB4, hN5⟩, hst⟩ := hcut
        replace hN1 := hN1.up hst
        replace hB2 := hB2.up hst
        replace hN3 := hN3.up hst
        replace hW := btr hW hst
        clear hst
        go_upto_region 4 with fail
        obtain ⟨q1, cq1, ⟨⟨m1, m1f⟩, ⟨n1, n1f⟩, -⟩, hM1⟩ := id hN1
        go_cut [6, 7] from 29 to 34 (fun s6 s7 wx => (∃ (b : Nat), s6 = .pointer (some ⟨b, 0, none⟩) ∧ s7 = .int .i64 0 ∧ Bx wx b cnew) ∧ Below wc.heap.size wc wx)
        case first =>
          as_aux_lemma =>
            obtain ⟨s, hs0⟩ : ∃ s, wc.heap.size = s := ⟨_, rfl⟩
            have HS := Lib.hid hs0; clear hs0
            obtain ⟨tab, htab⟩ : ∃ t : Nat → Ent, t = tabL [(0, eC cnew), (2, eCI cnew 0), (6, eVC s)] := ⟨_, rfl⟩
            refine wp_region_tab wc tab [(0, 1), (1, 0), (2, 1), (3, 0), (4, 0), (6, 1), (5, 2)] (.alt 7 3 (.one 8 1 .nil) .stop) (by kernel_rfl) (by kernel_rfl) (by kernel_rfl) (Below.drew (Below.refl _ _)) ?_
            refine seqX_call (e := eC cnew) (f := ?_) (args := ?_) (by rw [htab]; rfl) rfl (by rfl) ?_ ?_ ?_
            rotate_left 2
            · (intro w; go_simp; first | done | with_reducible rfl | (refine ⟨?_, ?_⟩ <;> with_reducible rfl))
            · (intro w hS hF; refine (rnew_is w).mono ?_; intro e w' h; exact h.x)
            rintro ⟨p30, c30, q30, d30, b30⟩
            (try dsimp only [eCM, eC, eCI, eM, eR, eS, eX, eB, eK, eVC, eVM])
            (try simp only [Act.put, List.setIfInBounds_toArray, List.set_cons_zero, List.set_cons_succ])
            refine seqX_pure (v := ?_) rfl (by rfl) ?_ ?_
            rotate_left
            · (intro w hS hF; have kk := oldcell hS m1 (World.block_lt_of_cell? _ _ m1); have kk2 := oldcell hS n1 (World.block_lt_of_cell? _ _ n1); go_simp; try with_reducible rfl)
            (try simp only [Act.put, List.setIfInBounds_toArray, List.set_cons_zero, List.set_cons_succ])
            refine seqX_call (e := eCI cnew 0) (f := ?_) (args := ?_) (by rw [htab]; rfl) rfl (by rfl) ?_ ?_ ?_
            rotate_left 2
            · (intro w; go_simp; first | done | with_reducible rfl | (refine ⟨?_, ?_⟩ <;> with_reducible rfl))
            · (intro w hS hF; have f1 : CAt w p30 c30 cnew := hF 0 (by kernel_rfl); refine (acyclic_is f1 (hM1.up hS) (Below.refl _ _) (by omega) (by omega) h15_good (by rw [cnew_len]; omega) h15_mok h15_ac).mono ?_; intro e w' h; exact RetC.x h)
            rintro ⟨p32, c32, q32, d32, b32⟩
            (try dsimp only [eCM, eC, eCI, eM, eR, eS, eX, eB, eK, eVC, eVM])
            (try simp only [Act.put, List.setIfInBounds_toArray, List.set_cons_zero, List.set_cons_succ])
            refine seqX_pure (v := ?_) rfl (by rfl) ?_ ?_
            rotate_left
            · (intro w hS hF; go_simp; try with_reducible rfl)
            (try simp only [Act.put, List.setIfInBounds_toArray, List.set_cons_zero, List.set_cons_succ])
            refine seqX_pure (v := ?_) rfl (by rfl) ?_ ?_
            rotate_left
            · (intro w hS hF; go_simp; try with_reducible rfl)
            (try simp only [Act.put, List.setIfInBounds_toArray, List.set_cons_zero, List.set_cons_succ])
            refine seqX_move (e := eVC s) (by rw [htab]; rfl) rfl (by rfl) ?_ ?_
            · (intro w hS; exact ⟨⟨none, 0, none, 0, w.heap.size⟩, w.alloc (.cells #[.slice none 0 0] 27), (by go_simp; try with_reducible rfl), by go_grown, Nat.le_trans (Nat.le_of_eq HS.out.symm) hS.size, ⟨⟨by go_cell, by go_cell⟩, trivial⟩⟩)
            rintro ⟨p6, c6, q6, d6, b6⟩
            (try dsimp only [eCM, eC, eCI, eM, eR, eS, eX, eB, eK, eVC, eVM])
            (try simp only [Act.put, List.setIfInBounds_toArray, List.set_cons_zero, List.set_cons_succ])
            refine seqX_free (v := ?_) rfl (by rfl) ?_ ?_
            rotate_left
            · (intro w; go_simp; try with_reducible rfl)
            (try simp only [Act.put, List.setIfInBounds_toArray, List.set_cons_zero, List.set_cons_succ])
            refine seqX_nil ?_
            refine seqE_storeB rfl (by rfl) ?_ seqE_stop
            intro w hS
            obtain ⟨ga, ca⟩ : s ≤ b6 ∧ Cells w [(b6, 0, .slice none 0 0)] := hS.2 6
            have fc : CAt w p32 c32 (cnew) := hS.2 2
            have ht := one_s1 hS.1 HS.out ga ca fc
            obtain ⟨⟨u1, u1f⟩, -⟩ := ca
            refine ⟨w.setCell ⟨b6, 0, none⟩ (.slice p32 (cnew).length c32), (by go_simp; try with_reducible rfl), fun x => Bx x b6 (cnew) ∧ Below wc.heap.size wc x, ht, ?_⟩
            (try simp only [Act.put, List.setIfInBounds_toArray, List.set_cons_zero, List.set_cons_succ])
            refine seqE_free (v := ?_) rfl (by rfl) ?_ ?_
            rotate_left
            · (intro w; go_simp; try with_reducible rfl)
            (try simp only [Act.put, List.setIfInBounds_toArray, List.set_cons_zero, List.set_cons_succ])
            refine seqE_nil ?_
            intro w hS
            go_wp2_with fail
            go_meet
            exact ⟨⟨_, rfl, rfl, hS.1⟩, hS.2⟩
        case rest =>
          clear m1 m1f n1 n1f hM1
          obtain ⟨⟨b6, rfl, rfl, hB6⟩, hst⟩ := hcut
          replace hN1 := hN1.up hst
          replace hB2 := hB2.up hst
          replace hN3 := hN3.up hst
          replace hB4 := hB4.up hst
          replace hN5 := hN5.up hst
          replace hW := btr hW hst
          clear hst
          clear hN1
          go_upto_region 5 with fail
          go_cut [8, 9] from 35 to 39 (fun s8 s9 wx => (∃ (b : Nat), s8 = .pointer (some ⟨b, 0, none⟩) ∧ s9 = .int .i64 2 ∧ Bx wx b hE) ∧ Below wc.heap.size wc wx)
          case first =>
            as_aux_lemma =>
              go_wp2_with (first | (go_at_call 31; refine (rnew_is _).mono ?_; rintro e w1 ⟨p1, cap1, rfl, hC1, hb1⟩) | (go_at_call 76; refine (input_is (c := hE) (r := 2) hC1 (Below.refl _ _) h15_in (by rw [cnew_len]; omega)).mono ?_; rintro e w2 ⟨p2, cap2, rfl, hC2, hbl⟩))
              go_meet
              exact ⟨⟨_, rfl, rfl, Bx.new hC2 _⟩, bal (btr hb1 hbl) _⟩
          case rest =>
            obtain ⟨⟨b8, rfl, rfl, hB8⟩, hst⟩ := hcut
            replace hB2 := hB2.up hst
            replace hN3 := hN3.up hst
            replace hB4 := hB4.up hst
            replace hN5 := hN5.up hst
            replace hB6 := hB6.up hst
            replace hW := btr hW hst
            clear hst
            go_upto_region 6 with fail
            go_cut [10] from 40 to 44 (fun s10 wx => (∃ (b : Nat), s10 = .pointer (some ⟨b, 0, none⟩) ∧ BM wx b 2 hLoop) ∧ Below wc.heap.size wc wx)
            case first =>
              as_aux_lemma =>
                go_wp2_with fail
                go_meet
                exact ⟨⟨_, rfl, BM.newAt (MxAt.lit2 ⟨1, 0⟩ ⟨2, 2⟩ _ _) _ (by simp)⟩, by go_grown⟩
            case rest =>
              obtain ⟨⟨b10, rfl, hN10⟩, hst⟩ := hcut
              replace hB2 := hB2.up hst
              replace hN3 := hN3.up hst
              replace hB4 := hB4.up hst
              replace hN5 := hN5.up hst
              replace hB6 := hB6.up hst
              replace hB8 := hB8.up hst
              replace hW := btr hW hst
              clear hst
              go_upto_region 7 with fail
              obtain ⟨p8, c8, k8, k8f, hC8⟩ := id hB8
              obtain ⟨q10, cq10, ⟨⟨m10, m10f⟩, ⟨n10, n10f⟩, -⟩, hM10⟩ := id hN10
              go_cut [11, 12] from 45 to 50 (fun s11 s12 wx => (∃ (b : Nat), s11 = .pointer (some ⟨b, 0, none⟩) ∧ s12 = .int .i64 3 ∧ Bx wx b hE) ∧ Below wc.heap.size wc wx)
              case first =>
                as_aux_lemma =>
                  go_wp2_with (first | (go_at_call 24; refine (acyclic_is (c := hE) (n := 2) hC8 hM10 (Below.refl _ _) (by omega) (by omega) h15_goodE (by decide) h15_mok2 h15_ac2).mono ?_; rintro e w2 ⟨p2, cap2, rfl, hC2, hbl⟩))
                  go_meet
                  exact ⟨⟨_, rfl, rfl, Bx.new hC2 _⟩, bal hbl _⟩
              case rest =>
                clear k8 k8f hC8
                obtain ⟨⟨b11, rfl, rfl, hB11⟩, hst⟩ := hcut
                replace hB2 := hB2.up hst
                replace hN3 := hN3.up hst
                replace hB4 := hB4.up hst
                replace hN5 := hN5.up hst
                replace hB6 := hB6.up hst
                replace hB8 := hB8.up hst
                replace hN10 := hN10.up hst
                replace hW := btr hW hst
                clear hst
                clear m10 m10f n10 n10f hM10
                clear hB8 hN10
                go_upto_region 8 with fail
                go_cut [13] from 51 to 52 (fun s13 wx => (∃ (b : Nat), s13 = .pointer (some ⟨b, 0, none⟩) ∧ BR wx b 2 [1, 2, 5]) ∧ Below wc.heap.size wc wx)
                case first =>
                  as_aux_lemma =>
                    go_wp2_with fail
                    go_meet
                    exact ⟨⟨_, rfl, BR.newAt (SI.lit3 1 2 5 _ _) _ (by simp)⟩, by go_grown⟩
                case rest =>
                  obtain ⟨⟨b13, rfl, hN13⟩, hst⟩ := hcut
                  replace hB2 := hB2.up hst
                  replace hN3 := hN3.up hst
                  replace hB4 := hB4.up hst
                  replace hN5 := hN5.up hst
                  replace hB6 := hB6.up hst
                  replace hB11 := hB11.up hst
                  replace hW := btr hW hst
                  clear hst
                  go_upto_region 9 with fail
                  obtain ⟨p2, c2, k2, k2f, hC2⟩ := id hB2
                  obtain ⟨p4, c4, k4, k4f, hC4⟩ := id hB4
                  obtain ⟨p11, c11, k11, k11f, hC11⟩ := id hB11
                  obtain ⟨q3, cq3, ⟨⟨m3, m3f⟩, ⟨n3, n3f⟩, -⟩, hM3⟩ := id hN3
                  obtain ⟨q5, cq5, ⟨⟨m5, m5f⟩, ⟨n5, n5f⟩, -⟩, hM5⟩ := id hN5
                  obtain ⟨q13, cq13, ⟨⟨m13, m13f⟩, ⟨n13, n13f⟩, -⟩, hM13⟩ := id hN13
                  have hcl1 := cnew_len1
                  obtain ⟨s, hs0⟩ : ∃ s, w.heap.size = s := ⟨_, rfl⟩
                  have HS := Lib.hid hs0; clear hs0
                  have hbw := hW
                  have zz : s + 0 ≤ wc.heap.size := by have := HS.out; have := hW.size; omega
                  have hk : Cells wc [(b2, 0, .slice p2 (cnew).length c2), (b4, 0, .slice p4 (cnew).length c4), (b11, 0, .slice p11 (hE).length c11), (b3, 0, .int .i64 2), (b3, 1, .slice q3 (hWant).length cq3), (b5, 0, .int .i64 2), (b5, 1, .slice q5 (hWant).length cq5), (b13, 0, .int .i64 2), (b13, 1, .slice q13 ([1, 2, 5]).length cq13)] := ⟨⟨k2, k2f⟩, ⟨k4, k4f⟩, ⟨k11, k11f⟩, ⟨m3, m3f⟩, ⟨n3, n3f⟩, ⟨m5, m5f⟩, ⟨n5, n5f⟩, ⟨m13, m13f⟩, ⟨n13, n13f⟩, trivial⟩
                  clear k2 k2f k4 k4f k11 k11f m3 m3f n3 n3f m5 m5f n5 n5f m13 m13f n13 n13f
                  have hacc : Below wc.heap.size wc wc := Below.refl _ _
                  clear hW
                  refine wp_region_seqE (fun x => Below wc.heap.size wc x) (.one 0 0 (.one 1 0 (.one 3 0 (.alt 2 2 (.alt 4 2 (.one 5 1 (.one 6 0 (.one 7 0 (.one 9 0 (.alt 8 2 (.alt 10 2 (.one 11 1 (.one 12 1 (.one 13 1 (.one 14 0 (.one 15 1 (.one 16 1 (.one 17 1 (.one 18 1 (.one 19 1 (.one 20 0 (.one 21 1 (.one 22 1 (.one 23 1 (.one 24 1 (.one 25 1 (.one 26 1 (.one 27 1 (.one 28 1 (.one 29 0 (.one 31 1 (.alt 30 2 (.alt 32 2 (.one 33 1 (.one 34 1 (.one 35 0 (.one 37 1 (.alt 36 2 (.alt 38 2 (.one 39 1 (.one 40 1 (.one 41 1 .nil))) .stop) .stop))))) .stop) .stop))))))))))))))))))))) .stop) .stop))))) .stop) .stop)))) (by kernel_rfl) (by kernel_rfl) (by kernel_rfl) (Below.drew (Below.refl _ _)) ?_
                  iterate 3 (refine seqE_pure (v := ?_) rfl (by rfl) ?_ ?_; rotate_left; (focus (intro w hS; obtain ⟨⟨k2, -⟩, ⟨k4, -⟩, ⟨k11, -⟩, ⟨m3, -⟩, ⟨n3, -⟩, ⟨m5, -⟩, ⟨n5, -⟩, ⟨m13, -⟩, ⟨n13, -⟩, -⟩ := hk.up hS; go_simp; try with_reducible rfl)); (try simp only [Act.put, List.setIfInBounds_toArray, List.set_cons_zero, List.set_cons_succ]))
                  refine seqE_call (f := ?_) (args := ?_) rfl (by rfl) ?_ ?_ seqE_stop
                  rotate_left 2
                  focus (intro w hS; go_simp; first | done | with_reducible rfl | (refine ⟨?_, ?_⟩ <;> with_reducible rfl))
                  intro w1 hS
                  refine (mvalue_is (V := []) (nv := 0) (hC2.mono hS) (hM3.up hS) (bools_nil _) h15_good.wf (by rw [cnew_len]; omega) (by decide) rfl (by omega) h15_val).mono ?_
                  rintro e v1 ⟨y1, cy1, rfl, hR1, hbl⟩
                  refine ⟨_, rfl, (fun x => Below v1.heap.size v1 x), Below.refl _ _, fun x hx => btr (btr hS hbl) hx, ?_⟩
                  have hXw := Nat.le_trans zz hS.size; have hXa := Nat.le_trans hacc.size hS.size
                  have hX := btr hS hbl
                  replace hk := hk.up hX; replace hC2 := hC2.mono hX; replace hC4 := hC4.mono hX; replace hC11 := hC11.mono hX; replace hM3 := hM3.up hX; replace hM5 := hM5.up hX; replace hM13 := hM13.up hX; replace hbw := btr hbw hX; replace zz := Nat.le_trans zz (Below.size hX); replace hacc := btr hacc hX
                  clear hX hS hbl hXw hXa
                  (try simp only [Act.put, List.setIfInBounds_toArray, List.set_cons_zero, List.set_cons_succ])
                  refine seqE_keep (v := .bool true) (f := ?_) (args := ?_) rfl (by rfl) ?_ ?_ ?_ seqE_stop
                  rotate_left 2
                  focus (intro w hS; go_simp; first | done | with_reducible rfl | (refine ⟨?_, ?_⟩ <;> with_reducible rfl))
                  focus (intro w hS; refine (requal_is (hR1.up hS) (hM13.up hS) rfl).mono ?_; rintro e w2 ⟨rfl, hbl⟩; exact ⟨rfl, btr hS hbl⟩)
                  (try simp only [Act.put, List.setIfInBounds_toArray, List.set_cons_zero, List.set_cons_succ])
                  iterate 4 (first | (refine seqE_free (v := ?_) rfl (by rfl) ?_ ?_; rotate_left; (focus (intro w; go_simp; try with_reducible rfl)); (try simp only [Act.put, List.setIfInBounds_toArray, List.set_cons_zero, List.set_cons_succ])) | (refine seqE_pure (v := ?_) rfl (by rfl) ?_ ?_; rotate_left; (focus (intro w hS; obtain ⟨⟨k2, -⟩, ⟨k4, -⟩, ⟨k11, -⟩, ⟨m3, -⟩, ⟨n3, -⟩, ⟨m5, -⟩, ⟨n5, -⟩, ⟨m13, -⟩, ⟨n13, -⟩, -⟩ := hk.up hS; go_simp; try with_reducible rfl)); (try simp only [Act.put, List.setIfInBounds_toArray, List.set_cons_zero, List.set_cons_succ])))
                  refine seqE_call (f := ?_) (args := ?_) rfl (by rfl) ?_ ?_ seqE_stop
                  rotate_left 2
                  focus (intro w hS; go_simp; first | done | with_reducible rfl | (refine ⟨?_, ?_⟩ <;> with_reducible rfl))
                  intro w3 hS
                  refine (mvalue_is (V := []) (nv := 0) (hC4.mono hS) (hM5.up hS) (bools_nil _) h15_good.wf (by rw [cnew_len]; omega) (by decide) rfl (by omega) h15_val).mono ?_
                  rintro e v3 ⟨y2, cy2, rfl, hR2, hbl⟩
                  refine ⟨_, rfl, (fun x => Below v3.heap.size v3 x), Below.refl _ _, fun x hx => btr (btr hS hbl) hx, ?_⟩
                  have hXw := Nat.le_trans zz hS.size; have hXa := Nat.le_trans hacc.size hS.size
                  have hX := btr hS hbl
                  replace hk := hk.up hX; replace hC2 := hC2.mono hX; replace hC4 := hC4.mono hX; replace hC11 := hC11.mono hX; replace hM3 := hM3.up hX; replace hM5 := hM5.up hX; replace hM13 := hM13.up hX; replace hR1 := hR1.up hX; replace hbw := btr hbw hX; replace zz := Nat.le_trans zz (Below.size hX); replace hacc := btr hacc hX
                  clear hX hS hbl hXw hXa
                  (try simp only [Act.put, List.setIfInBounds_toArray, List.set_cons_zero, List.set_cons_succ])
                  refine seqE_keep (v := .bool true) (f := ?_) (args := ?_) rfl (by rfl) ?_ ?_ ?_ seqE_stop
                  rotate_left 2
                  focus (intro w hS; go_simp; first | done | with_reducible rfl | (refine ⟨?_, ?_⟩ <;> with_reducible rfl))
                  focus (intro w hS; refine (requal_is (hR2.up hS) (hM13.up hS) rfl).mono ?_; rintro e w2 ⟨rfl, hbl⟩; exact ⟨rfl, btr hS hbl⟩)
                  (try simp only [Act.put, List.setIfInBounds_toArray, List.set_cons_zero, List.set_cons_succ])
                  iterate 20 (first | (refine seqE_free (v := ?_) rfl (by rfl) ?_ ?_; rotate_left; (focus (intro w; go_simp; try with_reducible rfl)); (try simp only [Act.put, List.setIfInBounds_toArray, List.set_cons_zero, List.set_cons_succ])) | (refine seqE_pure (v := ?_) rfl (by rfl) ?_ ?_; rotate_left; (focus (intro w hS; obtain ⟨⟨k2, -⟩, ⟨k4, -⟩, ⟨k11, -⟩, ⟨m3, -⟩, ⟨n3, -⟩, ⟨m5, -⟩, ⟨n5, -⟩, ⟨m13, -⟩, ⟨n13, -⟩, -⟩ := hk.up hS; go_simp; try with_reducible rfl)); (try simp only [Act.put, List.setIfInBounds_toArray, List.set_cons_zero, List.set_cons_succ])))
                  refine seqE_move rfl (by rfl) ?_ seqE_stop
                  intro w5 hS
                  refine ⟨.slice (some ⟨w5.heap.size, 0, none⟩) 1 1, w5.alloc (.cells #[.bool false] 4), (by go_simp; try with_reducible rfl), ?_⟩
                  obtain ⟨b83, hb83⟩ : ∃ b, b = w5.heap.size := ⟨_, rfl⟩
                  obtain ⟨v5, hw5⟩ : ∃ zW, zW = w5.alloc (.cells #[.bool false] 4) := ⟨_, rfl⟩
                  rw [← hw5, ← hb83]
                  have hbl : Below w5.heap.size w5 v5 := by rw [hw5]; go_grown
                  refine ⟨(fun x => Below v5.heap.size v5 x), Below.refl _ _, fun x hx => btr (btr hS hbl) hx, ?_⟩
                  have hX := btr hS hbl
                  replace hk := hk.up hX; replace hC2 := hC2.mono hX; replace hC4 := hC4.mono hX; replace hC11 := hC11.mono hX; replace hM3 := hM3.up hX; replace hM5 := hM5.up hX; replace hM13 := hM13.up hX; replace hR1 := hR1.up hX; replace hR2 := hR2.up hX; replace hbw := btr hbw hX; replace zz := Nat.le_trans zz (Below.size hX); replace hacc := btr hacc hX
                  have hV83 : BoolsAt v5 (some ⟨b83, 0, none⟩) [false] := by rw [hw5, hb83]; exact bools_lit false _ _
                  clear hX hS hbl hw5 hb83
                  (try simp only [Act.put, List.setIfInBounds_toArray, List.set_cons_zero, List.set_cons_succ])
                  refine seqE_keep (v := .bool true) (f := ?_) (args := ?_) rfl (by rfl) ?_ ?_ ?_ seqE_stop
                  rotate_left 2
                  focus (intro w hS; go_simp; first | done | with_reducible rfl | (refine ⟨?_, ?_⟩ <;> with_reducible rfl))
                  focus (intro w hS; refine (eval_is (vals := [false]) (n := 1) (hC11.mono hS) (Below.refl _ _) (hV83.mono hS) h15_goodE.wf h15_ev1 rfl (by decide) (by decide)).mono ?_; rintro e w2 ⟨rfl, hbl⟩; exact ⟨rfl, btr hS hbl⟩)
                  (try simp only [Act.put, List.setIfInBounds_toArray, List.set_cons_zero, List.set_cons_succ])
                  iterate 4 (first | (refine seqE_free (v := ?_) rfl (by rfl) ?_ ?_; rotate_left; (focus (intro w; go_simp; try with_reducible rfl)); (try simp only [Act.put, List.setIfInBounds_toArray, List.set_cons_zero, List.set_cons_succ])) | (refine seqE_pure (v := ?_) rfl (by rfl) ?_ ?_; rotate_left; (focus (intro w hS; obtain ⟨⟨k2, -⟩, ⟨k4, -⟩, ⟨k11, -⟩, ⟨m3, -⟩, ⟨n3, -⟩, ⟨m5, -⟩, ⟨n5, -⟩, ⟨m13, -⟩, ⟨n13, -⟩, -⟩ := hk.up hS; go_simp; try with_reducible rfl)); (try simp only [Act.put, List.setIfInBounds_toArray, List.set_cons_zero, List.set_cons_succ])))
                  clear hk
                  refine seqE_move rfl (by rfl) ?_ seqE_stop
                  intro w7 hS
                  refine ⟨.slice (some ⟨w7.heap.size, 0, none⟩) 1 1, w7.alloc (.cells #[.bool true] 4), (by go_simp; try with_reducible rfl), ?_⟩
                  obtain ⟨b89, hb89⟩ : ∃ b, b = w7.heap.size := ⟨_, rfl⟩
                  obtain ⟨v7, hw7⟩ : ∃ zW, zW = w7.alloc (.cells #[.bool true] 4) := ⟨_, rfl⟩
                  rw [← hw7, ← hb89]
                  have hbl : Below w7.heap.size w7 v7 := by rw [hw7]; go_grown
                  refine ⟨(fun x => Below v7.heap.size v7 x), Below.refl _ _, fun x hx => btr (btr hS hbl) hx, ?_⟩
                  have hX := btr hS hbl
                  replace hC2 := hC2.mono hX; replace hC4 := hC4.mono hX; replace hC11 := hC11.mono hX; replace hM3 := hM3.up hX; replace hM5 := hM5.up hX; replace hM13 := hM13.up hX; replace hR1 := hR1.up hX; replace hR2 := hR2.up hX; replace hV83 := hV83.mono hX; replace hbw := btr hbw hX; replace zz := Nat.le_trans zz (Below.size hX); replace hacc := btr hacc hX
                  have hV89 : BoolsAt v7 (some ⟨b89, 0, none⟩) [true] := by rw [hw7, hb89]; exact bools_lit true _ _
                  clear hX hS hbl hw7 hb89
                  (try simp only [Act.put, List.setIfInBounds_toArray, List.set_cons_zero, List.set_cons_succ])
                  refine seqE_keep (v := .bool false) (f := ?_) (args := ?_) rfl (by rfl) ?_ ?_ ?_ seqE_stop
                  rotate_left 2
                  focus (intro w hS; go_simp; first | done | with_reducible rfl | (refine ⟨?_, ?_⟩ <;> with_reducible rfl))
                  focus (intro w hS; refine (eval_is (vals := [true]) (n := 1) (hC11.mono hS) (Below.refl _ _) (hV89.mono hS) h15_goodE.wf h15_ev2 rfl (by decide) (by decide)).mono ?_; rintro e w2 ⟨rfl, hbl⟩; exact ⟨rfl, btr hS hbl⟩)
                  (try simp only [Act.put, List.setIfInBounds_toArray, List.set_cons_zero, List.set_cons_succ])
                  iterate 3 (refine seqE_free (v := ?_) rfl (by rfl) ?_ ?_; rotate_left; (focus (intro w; go_simp; try with_reducible rfl)); (try simp only [Act.put, List.setIfInBounds_toArray, List.set_cons_zero, List.set_cons_succ]))
                  refine seqE_nil ?_
                  intro wz hS
                  replace hC2 := hC2.mono hS; replace hC4 := hC4.mono hS; replace hC11 := hC11.mono hS; replace hM3 := hM3.up hS; replace hM5 := hM5.up hS; replace hM13 := hM13.up hS; replace hR1 := hR1.up hS; replace hR2 := hR2.up hS; replace hV83 := hV83.mono hS; replace hV89 := hV89.mono hS; replace hbw := btr hbw hS; replace zz := Nat.le_trans zz (Below.size hS); replace hacc := btr hacc hS; clear hS
                  go_wp2_with fail
                  go_ret
                  exact ⟨rfl, hbw⟩
end Go.Proofs.Ytadilppdlbhjnaa
