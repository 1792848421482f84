/- Walk of layer 15: the reference's Acyclic. -/
import Derived.Test.YtadilppdlbhjnaaN5
namespace Go.Proofs.Ytadilppdlbhjnaa
set_option linter.unusedSimpArgs false
set_option linter.unusedVariables false
open Go.RowKit

theorem acTo_ok {n : Nat} {m : List Cell} {c : List Gate} {N : Int} (hg : Good c) (hm : MOk c N m) : ∀ k, c.length + k ≤ 20000 → Grow c (acTo n m c k).1 k ∧ In (acTo n m c k).1 (acTo n m c k).2
  | 0, _ => ⟨.refl hg _, in_0 hg.ne⟩
  | k + 1, hl => by
    obtain ⟨h1, h2⟩ := acTo_ok hg hm k (by omega)
    have h3 := h1.len
    obtain ⟨g1, g2, _⟩ := ok_but.one h1.good (by omega) h2 (((hm.mat_in' hg _).up h1) : In (acTo n m c k).1 (mat m ((k : Int) * n + k)))
    exact ⟨h1.trans g1, g2⟩
theorem at15_is {m : List Cell} {ar rank y : Int} {p : Option Addr} {cap : Nat} {w : World} (h : MxAt w p cap m) (hl : m.length ≤ 20000) (e : mat m rank = y) : Calls Try.prog 84 #[.agg #[.int .i64 ar, .slice p m.length cap], .int .i64 rank] w fun e w' => e = .returned (.int .i64 y) ∧ Below w.heap.size w w' := by
  subst e; exact rat15_any m ar rank p cap w h hl

set_option maxRecDepth 100000 in
set_option maxHeartbeats 4000000 in
theorem racyclic_any (c : List Gate) (a : List Cell) (n : Nat) (p pa : Option Addr) (cap ca : Nat) (w : World) (hC : CAt w p cap c) (hA : MxAt w pa ca a) (hn0 : 0 < n) (hn : n ≤ 4) (hg : Good c) (hl : c.length + 2400 ≤ 20000) (ha : MOk c ((n * n : Nat) : Int) a) :
    Calls Try.prog 25 #[.agg #[.slice p c.length cap], .int .i64 n, .agg #[.int .i64 2, .slice pa a.length ca]] w (RetCF w p (mAcyclic c n a).1 (mAcyclic c n a).2) := by
 obtain ⟨s, hs0⟩ : ∃ s, w.heap.size = s := ⟨_, rfl⟩
 obtain ⟨W2, hW2⟩ : ∃ W2, W2 = (((w.alloc (.cells #[.slice p c.length cap] 27)).alloc (.cells #[.int .i64 2, .slice pa a.length ca] 30)).alloc (.cells #[.slice none 0 0] 27)) := ⟨_, rfl⟩
 have hbw : Below w.heap.size w W2 := by rw [hW2]; go_grown
 have zz : s + 3 ≤ W2.heap.size := by rw [hW2, ← hs0]; simp
 have hk : Cells W2 [(s, 0, .slice p c.length cap), (s + 1, 0, .int .i64 2), (s + 1, 1, .slice pa a.length ca), (s + 2, 0, .slice none 0 0)] := by rw [hW2, ← hs0]; exact ⟨⟨by go_cell, by go_cell⟩, ⟨by go_cell, by go_cell⟩, ⟨by go_cell, by go_cell⟩, ⟨by go_cell, by go_cell⟩, trivial⟩
 have HW2 := Lib.hid hW2; have HS := Lib.hid hs0
 clear hW2 hs0
 have hc0 : 0 < c.length := hg.ne
 have oC : Off s 3 p := Off.old (by rw [← HS.out]; exact hC.lt hc0)
 have oM : Off s 3 pa := Off.old (by rw [← HS.out]; exact hA.lt)
 obtain ⟨D, J, hDJ⟩ : ∃ D J, mSmaller c n a = (D, J) := ⟨_, _, rfl⟩
 obtain ⟨gD, mJ⟩ := smaller_ok hn hg (by omega) ha
 rw [hDJ] at gD mJ; dsimp only at gD mJ
 have hDl := gD.len; have hJl := mJ.len
 have hnn : n * n ≤ 16 := Nat.mul_le_mul hn hn
 have hD0 : 0 < D.length := gD.good.ne
 have AO := Lib.hid (fun k h => acTo_ok (n := n) gD.good mJ k h)
 have HDJ := Lib.hid hDJ; have GD := Lib.hid gD.good; have MJ := Lib.hid mJ
 have HC := Lib.hid hC; have HA := Lib.hid hA; have HMA := Lib.hid ha; have HG := Lib.hid hg
 clear hA ha hg hC hDJ gD mJ
 go_enter Try.func25, Try.ntmps25
 go_upto_region 1 with fail
 rw [← HW2.out]
 simp only [HS.out, Nat.add_assoc, Nat.reduceAdd]
 obtain ⟨⟨y00, y00f⟩, ⟨y10, y10f⟩, ⟨y11, y11f⟩, ⟨y20, y20f⟩, -⟩ := id hk
 go_upto_region 2 with (first | (go_at_call 23; refine ((rsmaller_any c a n p pa cap ca _ (HC.out.mono hbw) (HA.out.up hbw) hn0 hn HG.out hl HMA.out).mono fun e w' h => RetCMF.eq h HDJ.out).mono ?_; rintro e w2 ⟨pd, cd, pj, cj, rfl, hC, hJ, hbl, frD, frJ⟩; have oC := Off.fresh frD oC zz; have oJ := Off.fresh frJ oM zz; have FD := Lib.hid (show Fresh w p pd from Fresh.up frD (by have h := HS.out; omega)); replace hk := hk.up hbl; replace hbw := btr hbw hbl; replace zz := Nat.le_trans zz (Below.size hbl); clear hbl frD frJ; clear y00 y00f y10 y10f y11 y11f y20 y20f; obtain ⟨⟨y00, y00f⟩, ⟨y10, y10f⟩, ⟨y11, y11f⟩, ⟨y20, y20f⟩, -⟩ := id hk))
 have ltC := hC.lt hD0; have ltJ := hJ.lt
 obtain ⟨w3, hw⟩ : ∃ zW, zW = ((w2.alloc (.cells #[.slice pd D.length cd] 27)).alloc (.cells #[.int .i64 2, .slice pj J.length cj] 30)) := ⟨_, rfl⟩
 rw [← hw]
 obtain ⟨b8, hb8⟩ : ∃ zW, zW = w2.heap.size := ⟨_, rfl⟩
 obtain ⟨b9, hb9⟩ : ∃ zW, zW = w2.heap.size + 1 := ⟨_, rfl⟩
 rw [← hb9]
 rw [← hb8]
 have hbl : Below w2.heap.size w2 w3 := by rw [hw]; go_grown
 have hge8 : s + 3 ≤ b8 := by rw [hb8]; omega
 have hgw8 : w2.heap.size ≤ b8 := by rw [hb8]; omega
 have hge9 : s + 3 ≤ b9 := by rw [hb9]; omega
 have hgw9 : w2.heap.size ≤ b9 := by rw [hb9]; omega
 have hlt9 : b8 < b9 := by rw [hb8, hb9]; omega
 clear y00 y00f y10 y10f y11 y11f y20 y20f
 replace hk := hk.up hbl; replace hC := hC.mono hbl; replace hJ := hJ.up hbl; replace hbw := btr hbw hbl; replace zz := Nat.le_trans zz (Below.size hbl)
 have hs : Cells w3 [(b8, 0, .slice pd D.length cd), (b9, 0, .int .i64 2), (b9, 1, .slice pj J.length cj)] := ⟨⟨by rw [hw, hb8]; go_cell, by rw [hw, hb8]; go_cell⟩, ⟨by rw [hw, hb9]; go_cell, by rw [hw, hb9]; go_cell⟩, ⟨by rw [hw, hb9]; go_cell, by rw [hw, hb9]; go_cell⟩, trivial⟩
 clear hbl hw hb8 hb9
 replace hk : Cells w3 [(b9, 0, .int .i64 2), (b9, 1, .slice pj J.length cj), (s, 0, .slice p c.length cap), (s + 1, 0, .int .i64 2), (s + 1, 1, .slice pa a.length ca), (s + 2, 0, .slice none 0 0)] := ⟨hs.2.1, hs.2.2.1, hk⟩
 replace hs : Cells w3 [(b8, 0, .slice pd D.length cd)] := ⟨hs.1, trivial⟩
 have oCb : ∀ ad, pd = some ad → b8 ≠ ad.block := fun ad h e => by have := ltC ad h; omega
 have oJb : ∀ ad, pj = some ad → b8 ≠ ad.block := fun ad h e => by have := ltJ ad h; omega
 clear ltC ltJ
 obtain ⟨⟨d80, d80f⟩, -⟩ := id hs
 obtain ⟨⟨d90, d90f⟩, ⟨d91, d91f⟩, ⟨y00, y00f⟩, ⟨y10, y10f⟩, ⟨y11, y11f⟩, ⟨y20, y20f⟩, -⟩ := id hk
 go_wp2_with fail
 have hb8 : b8 < w3.heap.size := World.block_lt_of_cell? _ _ hs.1.1
 go_loopg [10, 11] n (fun N s10 s11 wr => ∃ K : Nat, ∃ C : List Gate, ∃ r : Int, ∃ pc : Option Addr, ∃ cc : Nat, s10 = .int .i64 r ∧ s11 = .int .i64 K ∧ K ≤ n ∧ N = n - K ∧ acTo n J D K = (C, r) ∧ Off s 3 pc ∧ (∀ ad, pc = some ad → b8 ≠ ad.block) ∧ Fresh w p pc ∧ b8 < wr.heap.size ∧ Cells wr [(b8, 0, .slice pc C.length cc)] ∧ Cells wr [(b9, 0, .int .i64 2), (b9, 1, .slice pj J.length cj), (s, 0, .slice p c.length cap), (s + 1, 0, .int .i64 2), (s + 1, 1, .slice pa a.length ca), (s + 2, 0, .slice none 0 0)] ∧ MxAt wr pj cj J ∧ CAt wr pc cc C ∧ Below w.heap.size w wr ∧ s + 3 ≤ wr.heap.size)
 case atStart => exact ⟨0, D, 0, pd, cd, rfl, rfl, by omega, rfl, rfl, oC, oCb, FD.out, hb8, hs, hk, hJ, hC, hbw, zz⟩
 case round =>
  clear hs hk hJ hC hbw zz oC oCb hb8
  obtain ⟨K, C, r, pc, cc, rfl, rfl, hK, hN, hrun, oC, oCb, frC, hb8, hs, hk, hJ, hC, hbw, zz⟩ := hrel
  obtain ⟨gC, iR⟩ := AO.out K (by omega)
  rw [hrun] at gC iR; dsimp only at gC iR
  have hCl := gC.len; have hCg := gC.ge
  have i1 := iR.1; have i2 := iR.2
  have GC := Lib.hid gC
  have HN := Lib.hid hN; have HR := Lib.hid hrun; have FC := Lib.hid frC; clear hN hrun frC gC iR
  by_cases hlt : K < n
  case neg =>
   obtain rfl : K = n := by omega
   have HF := Lib.hid (show mAcyclic c K a = (C, r) by unfold mAcyclic; rw [HDJ.out]; exact HR.out)
   clear d80 d80f d90 d90f d91 d91f y00 y00f y10 y10f y11 y11f y20 y20f
   obtain ⟨⟨d80, d80f⟩, -⟩ := id hs
   obtain ⟨⟨d90, d90f⟩, ⟨d91, d91f⟩, ⟨y00, y00f⟩, ⟨y10, y10f⟩, ⟨y11, y11f⟩, ⟨y20, y20f⟩, -⟩ := id hk
   go_wp2_with fail
   obtain ⟨W9, hW9⟩ : ∃ W9, W9 = wr.setCell ⟨s + 2, 0, none⟩ (.slice pc C.length cc) := ⟨_, rfl⟩
   rw [← hW9]
   have e0 : W9.cell? ⟨s + 2, 0, none⟩ = some (.slice pc C.length cc) := by rw [hW9]; go_cell
   replace hC : CAt W9 pc cc C := by rw [hW9]; exact hC.set (oC.ne (by omega) (by omega)) _
   have B9 : Below w.heap.size w W9 := by
     rw [hW9]
     exact Below.setCell hbw (by have h := HS.out; dsimp only; omega) _
   clear hW9
   rw [HF.out]
   refine bodyPost_ret (by simp [results, Try.results25, go_sem, e0]; try rfl) rfl ?_
   exact ⟨_, _, rfl, hC, B9, FC.out⟩
  case pos =>
   have hKn : (K : Int) < (n : Int) := by omega
   have hK12 : (K : Int) < 12 := by omega
   have hkn : (K : Int) * (n : Int) ≤ 16 := Int.mul_le_mul (show (K : Int) ≤ 4 by omega) (show (n : Int) ≤ 4 by omega) (by omega) (by omega)
   have hkn0 : 0 ≤ (K : Int) * (n : Int) := Int.mul_nonneg (by omega) (by omega)
   obtain ⟨q, hq⟩ : ∃ zW, (K : Int) * (n : Int) = zW := ⟨_, rfl⟩
   rw [hq] at hkn hkn0
   have e1 : IntKind.i64.wrap ((K : Int) * (n : Int)) = q := by rw [hq, IntWalk.i64_in]; omega
   have e2 : IntKind.i64.wrap (q + (K : Int)) = q + (K : Int) := by rw [IntWalk.i64_in]; omega
   obtain ⟨Q, hQ⟩ : ∃ zW, mat J (q + (K : Int)) = zW := ⟨_, rfl⟩
   have iQ := (MJ.out.mat_in' GD.out (q + (K : Int))).up GC.out
   rw [hQ] at iQ
   have i3 := iQ.1; have i4 := iQ.2
   have hn1 : cnot Q ≤ 9223372036854775807 := by unfold cnot; split <;> (try split) <;> omega
   obtain ⟨E, x, hE1⟩ : ∃ E x, cbut C r Q = (E, x) := ⟨_, _, rfl⟩
   have HE1 := Lib.hid hE1; have HQ := Lib.hid hQ; have Hq := Lib.hid hq
   clear hE1 hQ hq iQ
   clear d80 d80f d90 d90f d91 d91f y00 y00f y10 y10f y11 y11f y20 y20f
   obtain ⟨⟨d80, d80f⟩, -⟩ := id hs
   obtain ⟨⟨d90, d90f⟩, ⟨d91, d91f⟩, ⟨y00, y00f⟩, ⟨y10, y10f⟩, ⟨y11, y11f⟩, ⟨y20, y20f⟩, -⟩ := id hk
   go_upto_region 6 with fail
   go_cut [12, 13] from 30 to 43 (fun s12 s13 wx => ∃ (bd : Nat) (pe : Option Addr) (ce : Nat), s12 = .pointer (some ⟨bd, 0, none⟩) ∧ s13 = .int .i64 x ∧ wx.cell? ⟨bd, 0, none⟩ = some (.slice pe E.length ce) ∧ CAt wx pe ce E ∧ Off s 3 pe ∧ (∀ ad, pe = some ad → b8 ≠ ad.block) ∧ Fresh w p pe ∧ Below wr.heap.size wr wx)
   case first =>
    as_aux_lemma =>
     have hacc : Below wr.heap.size wr wr := Below.refl _ _
     clear d80 d80f d90 d90f d91 d91f y00 y00f y10 y10f y11 y11f y20 y20f
     refine wp_region_seqE (fun x => Below wr.heap.size wr x) (.one 0 0 (.one 1 1 (.one 2 0 (.one 3 1 (.one 4 1 (.one 5 1 (.one 6 1 (.one 7 1 (.alt 8 2 (.one 9 1 (.alt 10 3 (.one 11 1 (.one 12 1 (.one 13 1 (.alt 14 2 (.alt 15 3 (.one 16 1 .nil) .stop) .stop)))) (.alt 14 2 (.alt 10 3 (.one 11 1 (.one 12 1 (.one 13 1 (.alt 15 3 (.one 16 1 .nil) .stop)))) .stop) .stop))) (.alt 14 2 (.alt 8 2 (.one 9 1 (.alt 10 3 (.one 11 1 (.one 12 1 (.one 13 1 (.alt 15 3 (.one 16 1 .nil) .stop)))) .stop)) .stop) .stop)))))))))) (by kernel_rfl) (by kernel_rfl) (by kernel_rfl) (Below.drew (Below.refl _ _)) ?_
     iterate 8 (first | (refine seqE_free (v := ?_) rfl (by rfl) ?_ ?_; rotate_left; (focus (intro w; go_simp; try with_reducible rfl)); (try simp only [Act.put, List.setIfInBounds_toArray, List.set_cons_zero, List.set_cons_succ])) | (refine seqE_pure (v := ?_) rfl (by rfl) ?_ ?_; rotate_left; (focus (intro w hS; obtain ⟨⟨d80, -⟩, -⟩ := hs.up hS; obtain ⟨⟨d90, -⟩, ⟨d91, -⟩, -⟩ := hk.up hS; go_simp; try with_reducible rfl)); (try simp only [Act.put, List.setIfInBounds_toArray, List.set_cons_zero, List.set_cons_succ])))
     clear hs
     clear hk
     refine seqE_keep (v := .int .i64 Q) (f := ?_) (args := ?_) rfl (by rfl) ?_ ?_ ?_ ?_
     rotate_left 2
     focus (intro w hS; go_simp; first | done | with_reducible rfl | (refine ⟨?_, ?_⟩ <;> with_reducible rfl))
     focus (intro w hS; refine (at15_is (hJ.up hS) (by omega) HQ.out).mono ?_; rintro e w2 ⟨rfl, hbl⟩; exact ⟨rfl, btr hS hbl⟩)
     ·
      (try simp only [Act.put, List.setIfInBounds_toArray, List.set_cons_zero, List.set_cons_succ])
      refine seqE_fcall (v := .int .i64 (cnot Q)) (f := ?_) (args := ?_) rfl (by rfl) ?_ ?_ ?_
      rotate_left 2
      focus (intro w; go_simp; first | done | with_reducible rfl | (refine ⟨?_, ?_⟩ <;> with_reducible rfl))
      focus (intro w; exact rnot_any Q w (by omega))
      (try simp only [Act.put, List.setIfInBounds_toArray, List.set_cons_zero, List.set_cons_succ])
      refine seqE_callB (f := ?_) (args := ?_) rfl (by rfl) ?_ ?_ ?_
      rotate_left 2
      focus (intro w hS; go_simp; first | done | with_reducible rfl | (refine ⟨?_, ?_⟩ <;> with_reducible rfl))
      ·
       intro w2 hS
       refine (rand_fr (hC.mono hS) (by omega) hn1 (by omega) HE1.out).mono ?_
       rintro e v2 ⟨pe, ce, rfl, hE, hbl, frE⟩
       refine ⟨_, rfl, (fun x => Below v2.heap.size v2 x), Below.refl _ _, ?_⟩
       have hXw := Nat.le_trans zz hS.size; have hXa := Nat.le_trans hacc.size hS.size
       have hX := btr hS hbl
       replace hJ := hJ.up hX; replace hC := hC.mono hX; replace hbw := btr hbw hX; replace zz := Nat.le_trans zz (Below.size hX); replace hacc := btr hacc hX
       have oE : Off s 3 pe := Off.fresh frE oC hXw
       have oEb : ∀ ad, pe = some ad → b8 ≠ ad.block := fun ad h e => Fresh.ne frE (fun a h e => oCb a h e.symm) (Nat.lt_of_lt_of_le hb8 hXa) ad h e.symm
       have FE := Lib.hid (Fresh.trans FC.out frE (by have h := HS.out; have h2 := hXw; omega))
       clear frE
       clear hX hS hbl hXw hXa
       (try simp only [Act.put, List.setIfInBounds_toArray, List.set_cons_zero, List.set_cons_succ])
       iterate 3 (refine seqE_free (v := ?_) rfl (by rfl) ?_ ?_; rotate_left; (focus (intro w; go_simp; try with_reducible rfl)); (try simp only [Act.put, List.setIfInBounds_toArray, List.set_cons_zero, List.set_cons_succ]))
       refine seqE_move rfl (by rfl) ?_ seqE_stop
       intro w3 hS
       refine ⟨.pointer (some ⟨w3.heap.size, 0, none⟩), w3.alloc (.cells #[.slice none 0 0] 27), (by go_simp; try with_reducible rfl), ?_⟩
       obtain ⟨b12, hb12⟩ : ∃ b, b = w3.heap.size := ⟨_, rfl⟩
       obtain ⟨v3, hw3⟩ : ∃ zW, zW = w3.alloc (.cells #[.slice none 0 0] 27) := ⟨_, rfl⟩
       rw [← hw3, ← hb12]
       have hbl : Below w3.heap.size w3 v3 := by rw [hw3]; go_grown
       have hge12 : s + 3 ≤ b12 := by rw [hb12]; exact Nat.le_trans zz hS.size
       have hga12 : wr.heap.size ≤ b12 := by rw [hb12]; exact Nat.le_trans hacc.size hS.size
       refine ⟨(fun x => Below v3.heap.size v3 x), Below.refl _ _, fun x hx => btr (btr hS hbl) hx, ?_⟩
       have hX := btr hS hbl
       replace hJ := hJ.up hX; replace hC := hC.mono hX; replace hE := hE.mono hX; replace hbw := btr hbw hX; replace zz := Nat.le_trans zz (Below.size hX); replace hacc := btr hacc hX
       have hs : Cells v3 [(b12, 0, .slice none 0 0)] := ⟨⟨by rw [hw3, hb12]; go_cell, by rw [hw3, hb12]; go_cell⟩, trivial⟩
       clear hX hS hbl hw3 hb12
       (try simp only [Act.put, List.setIfInBounds_toArray, List.set_cons_zero, List.set_cons_succ])
       refine seqE_storeB rfl (by rfl) ?_ seqE_stop
       intro w4 hS
       replace hs := hs.up hS; replace hJ := hJ.up hS; replace hC := hC.mono hS; replace hE := hE.mono hS; replace hbw := btr hbw hS; replace zz := Nat.le_trans zz (Below.size hS); replace hacc := btr hacc hS
       obtain ⟨⟨d120, d120f⟩, -⟩ := id hs
       refine ⟨(w4.setCell ⟨b12, 0, none⟩ (.slice pe E.length ce)), (by go_simp; try with_reducible rfl), (fun x => Below ((w4.setCell ⟨b12, 0, none⟩ (.slice pe E.length ce))).heap.size ((w4.setCell ⟨b12, 0, none⟩ (.slice pe E.length ce))) x), Below.refl _ _, ?_⟩
       obtain ⟨v4, hw⟩ : ∃ zW, zW = (w4.setCell ⟨b12, 0, none⟩ (.slice pe E.length ce)) := ⟨_, rfl⟩
       rw [← hw]
       replace hs : Cells v4 [(b12, 0, .slice pe E.length ce)] := by rw [hw]; exact ⟨⟨by go_cell, (fz d120f)⟩, trivial⟩
       replace hJ : MxAt v4 pj cj J := by rw [hw]; exact hJ.box d120 _
       replace hC : CAt v4 pc cc C := by rw [hw]; exact hC.box d120 _
       replace hE : CAt v4 pe ce E := by rw [hw]; exact hE.box d120 _
       replace hbw : Below w.heap.size w v4 := by rw [hw]; exact (Below.setCell hbw (by have h := HS.out; (try dsimp only); omega) _)
       replace hacc : Below wr.heap.size wr v4 := by rw [hw]; exact (Below.setCell hacc (by have h := HS.out; (try dsimp only); omega) _)
       replace zz : s + 3 ≤ v4.heap.size := by rw [hw]; simpa using zz
       clear hw
       clear d120 d120f
       clear hS
       (try simp only [Act.put, List.setIfInBounds_toArray, List.set_cons_zero, List.set_cons_succ])
       iterate 1 (refine seqE_free (v := ?_) rfl (by rfl) ?_ ?_; rotate_left; (focus (intro w; go_simp; try with_reducible rfl)); (try simp only [Act.put, List.setIfInBounds_toArray, List.set_cons_zero, List.set_cons_succ]))
       refine seqE_nil ?_
       intro wz hS
       replace hs := hs.up hS; replace hJ := hJ.up hS; replace hC := hC.mono hS; replace hE := hE.mono hS; replace hbw := btr hbw hS; replace zz := Nat.le_trans zz (Below.size hS); replace hacc := btr hacc hS; clear hS
       obtain ⟨⟨d120, d120f⟩, -⟩ := id hs
       go_wp2_with fail
       go_meet
       exact ⟨_, _, _, rfl, rfl, d120, hE, oE, oEb, FE.out, hacc⟩
      refine seqE_move rfl (by rfl) ?_ seqE_stop
      intro w5 hS
      refine ⟨.pointer (some ⟨w5.heap.size, 0, none⟩), w5.alloc (.cells #[.slice none 0 0] 27), (by go_simp; try with_reducible rfl), ?_⟩
      obtain ⟨b12, hb12⟩ : ∃ b, b = w5.heap.size := ⟨_, rfl⟩
      obtain ⟨v5, hw5⟩ : ∃ zW, zW = w5.alloc (.cells #[.slice none 0 0] 27) := ⟨_, rfl⟩
      rw [← hw5, ← hb12]
      have hbl : Below w5.heap.size w5 v5 := by rw [hw5]; go_grown
      have hge12 : s + 3 ≤ b12 := by rw [hb12]; exact Nat.le_trans zz hS.size
      have hga12 : wr.heap.size ≤ b12 := by rw [hb12]; exact Nat.le_trans hacc.size hS.size
      refine ⟨(fun x => Below v5.heap.size v5 x), Below.refl _ _, fun x hx => btr (btr hS hbl) hx, ?_⟩
      have hX := btr hS hbl
      replace hJ := hJ.up hX; replace hC := hC.mono hX; replace hbw := btr hbw hX; replace zz := Nat.le_trans zz (Below.size hX); replace hacc := btr hacc hX
      have hs : Cells v5 [(b12, 0, .slice none 0 0)] := ⟨⟨by rw [hw5, hb12]; go_cell, by rw [hw5, hb12]; go_cell⟩, trivial⟩
      clear hX hS hbl hw5 hb12
      (try simp only [Act.put, List.setIfInBounds_toArray, List.set_cons_zero, List.set_cons_succ])
      refine seqE_callB (f := ?_) (args := ?_) rfl (by rfl) ?_ ?_ seqE_stop
      rotate_left 2
      focus (intro w hS; go_simp; first | done | with_reducible rfl | (refine ⟨?_, ?_⟩ <;> with_reducible rfl))
      intro w6 hS
      refine (rand_fr (hC.mono hS) (by omega) hn1 (by omega) HE1.out).mono ?_
      rintro e v6 ⟨pe, ce, rfl, hE, hbl, frE⟩
      refine ⟨_, rfl, (fun x => Below v6.heap.size v6 x), Below.refl _ _, ?_⟩
      have hXw := Nat.le_trans zz hS.size; have hXa := Nat.le_trans hacc.size hS.size
      have hX := btr hS hbl
      replace hs := hs.up hX; replace hJ := hJ.up hX; replace hC := hC.mono hX; replace hbw := btr hbw hX; replace zz := Nat.le_trans zz (Below.size hX); replace hacc := btr hacc hX
      have oE : Off s 3 pe := Off.fresh frE oC hXw
      have oEb : ∀ ad, pe = some ad → b8 ≠ ad.block := fun ad h e => Fresh.ne frE (fun a h e => oCb a h e.symm) (Nat.lt_of_lt_of_le hb8 hXa) ad h e.symm
      have FE := Lib.hid (Fresh.trans FC.out frE (by have h := HS.out; have h2 := hXw; omega))
      clear frE
      clear hX hS hbl hXw hXa
      (try simp only [Act.put, List.setIfInBounds_toArray, List.set_cons_zero, List.set_cons_succ])
      iterate 3 (refine seqE_free (v := ?_) rfl (by rfl) ?_ ?_; rotate_left; (focus (intro w; go_simp; try with_reducible rfl)); (try simp only [Act.put, List.setIfInBounds_toArray, List.set_cons_zero, List.set_cons_succ]))
      refine seqE_storeB rfl (by rfl) ?_ seqE_stop
      intro w7 hS
      replace hs := hs.up hS; replace hJ := hJ.up hS; replace hC := hC.mono hS; replace hE := hE.mono hS; replace hbw := btr hbw hS; replace zz := Nat.le_trans zz (Below.size hS); replace hacc := btr hacc hS
      obtain ⟨⟨d120, d120f⟩, -⟩ := id hs
      refine ⟨(w7.setCell ⟨b12, 0, none⟩ (.slice pe E.length ce)), (by go_simp; try with_reducible rfl), (fun x => Below ((w7.setCell ⟨b12, 0, none⟩ (.slice pe E.length ce))).heap.size ((w7.setCell ⟨b12, 0, none⟩ (.slice pe E.length ce))) x), Below.refl _ _, ?_⟩
      obtain ⟨v7, hw⟩ : ∃ zW, zW = (w7.setCell ⟨b12, 0, none⟩ (.slice pe E.length ce)) := ⟨_, rfl⟩
      rw [← hw]
      replace hs : Cells v7 [(b12, 0, .slice pe E.length ce)] := by rw [hw]; exact ⟨⟨by go_cell, (fz d120f)⟩, trivial⟩
      replace hJ : MxAt v7 pj cj J := by rw [hw]; exact hJ.box d120 _
      replace hC : CAt v7 pc cc C := by rw [hw]; exact hC.box d120 _
      replace hE : CAt v7 pe ce E := by rw [hw]; exact hE.box d120 _
      replace hbw : Below w.heap.size w v7 := by rw [hw]; exact (Below.setCell hbw (by have h := HS.out; (try dsimp only); omega) _)
      replace hacc : Below wr.heap.size wr v7 := by rw [hw]; exact (Below.setCell hacc (by have h := HS.out; (try dsimp only); omega) _)
      replace zz : s + 3 ≤ v7.heap.size := by rw [hw]; simpa using zz
      clear hw
      clear d120 d120f
      clear hS
      (try simp only [Act.put, List.setIfInBounds_toArray, List.set_cons_zero, List.set_cons_succ])
      iterate 1 (refine seqE_free (v := ?_) rfl (by rfl) ?_ ?_; rotate_left; (focus (intro w; go_simp; try with_reducible rfl)); (try simp only [Act.put, List.setIfInBounds_toArray, List.set_cons_zero, List.set_cons_succ]))
      refine seqE_nil ?_
      intro wz hS
      replace hs := hs.up hS; replace hJ := hJ.up hS; replace hC := hC.mono hS; replace hE := hE.mono hS; replace hbw := btr hbw hS; replace zz := Nat.le_trans zz (Below.size hS); replace hacc := btr hacc hS; clear hS
      obtain ⟨⟨d120, d120f⟩, -⟩ := id hs
      go_wp2_with fail
      go_meet
      exact ⟨_, _, _, rfl, rfl, d120, hE, oE, oEb, FE.out, hacc⟩
     refine seqE_move rfl (by rfl) ?_ seqE_stop
     intro w8 hS
     refine ⟨.pointer (some ⟨w8.heap.size, 0, none⟩), w8.alloc (.cells #[.slice none 0 0] 27), (by go_simp; try with_reducible rfl), ?_⟩
     obtain ⟨b12, hb12⟩ : ∃ b, b = w8.heap.size := ⟨_, rfl⟩
     obtain ⟨v8, hw8⟩ : ∃ zW, zW = w8.alloc (.cells #[.slice none 0 0] 27) := ⟨_, rfl⟩
     rw [← hw8, ← hb12]
     have hbl : Below w8.heap.size w8 v8 := by rw [hw8]; go_grown
     have hge12 : s + 3 ≤ b12 := by rw [hb12]; exact Nat.le_trans zz hS.size
     have hga12 : wr.heap.size ≤ b12 := by rw [hb12]; exact Nat.le_trans hacc.size hS.size
     refine ⟨(fun x => Below v8.heap.size v8 x), Below.refl _ _, fun x hx => btr (btr hS hbl) hx, ?_⟩
     have hX := btr hS hbl
     replace hJ := hJ.up hX; replace hC := hC.mono hX; replace hbw := btr hbw hX; replace zz := Nat.le_trans zz (Below.size hX); replace hacc := btr hacc hX
     have hs : Cells v8 [(b12, 0, .slice none 0 0)] := ⟨⟨by rw [hw8, hb12]; go_cell, by rw [hw8, hb12]; go_cell⟩, trivial⟩
     clear hX hS hbl hw8 hb12
     (try simp only [Act.put, List.setIfInBounds_toArray, List.set_cons_zero, List.set_cons_succ])
     refine seqE_keep (v := .int .i64 Q) (f := ?_) (args := ?_) rfl (by rfl) ?_ ?_ ?_ seqE_stop
     rotate_left 2
     focus (intro w hS; go_simp; first | done | with_reducible rfl | (refine ⟨?_, ?_⟩ <;> with_reducible rfl))
     focus (intro w hS; refine (at15_is (hJ.up hS) (by omega) HQ.out).mono ?_; rintro e w2 ⟨rfl, hbl⟩; exact ⟨rfl, btr hS hbl⟩)
     (try simp only [Act.put, List.setIfInBounds_toArray, List.set_cons_zero, List.set_cons_succ])
     refine seqE_fcall (v := .int .i64 (cnot Q)) (f := ?_) (args := ?_) rfl (by rfl) ?_ ?_ ?_
     rotate_left 2
     focus (intro w; go_simp; first | done | with_reducible rfl | (refine ⟨?_, ?_⟩ <;> with_reducible rfl))
     focus (intro w; exact rnot_any Q w (by omega))
     (try simp only [Act.put, List.setIfInBounds_toArray, List.set_cons_zero, List.set_cons_succ])
     refine seqE_callB (f := ?_) (args := ?_) rfl (by rfl) ?_ ?_ seqE_stop
     rotate_left 2
     focus (intro w hS; go_simp; first | done | with_reducible rfl | (refine ⟨?_, ?_⟩ <;> with_reducible rfl))
     intro w10 hS
     refine (rand_fr (hC.mono hS) (by omega) hn1 (by omega) HE1.out).mono ?_
     rintro e v10 ⟨pe, ce, rfl, hE, hbl, frE⟩
     refine ⟨_, rfl, (fun x => Below v10.heap.size v10 x), Below.refl _ _, ?_⟩
     have hXw := Nat.le_trans zz hS.size; have hXa := Nat.le_trans hacc.size hS.size
     have hX := btr hS hbl
     replace hs := hs.up hX; replace hJ := hJ.up hX; replace hC := hC.mono hX; replace hbw := btr hbw hX; replace zz := Nat.le_trans zz (Below.size hX); replace hacc := btr hacc hX
     have oE : Off s 3 pe := Off.fresh frE oC hXw
     have oEb : ∀ ad, pe = some ad → b8 ≠ ad.block := fun ad h e => Fresh.ne frE (fun a h e => oCb a h e.symm) (Nat.lt_of_lt_of_le hb8 hXa) ad h e.symm
     have FE := Lib.hid (Fresh.trans FC.out frE (by have h := HS.out; have h2 := hXw; omega))
     clear frE
     clear hX hS hbl hXw hXa
     (try simp only [Act.put, List.setIfInBounds_toArray, List.set_cons_zero, List.set_cons_succ])
     iterate 3 (refine seqE_free (v := ?_) rfl (by rfl) ?_ ?_; rotate_left; (focus (intro w; go_simp; try with_reducible rfl)); (try simp only [Act.put, List.setIfInBounds_toArray, List.set_cons_zero, List.set_cons_succ]))
     refine seqE_storeB rfl (by rfl) ?_ seqE_stop
     intro w11 hS
     replace hs := hs.up hS; replace hJ := hJ.up hS; replace hC := hC.mono hS; replace hE := hE.mono hS; replace hbw := btr hbw hS; replace zz := Nat.le_trans zz (Below.size hS); replace hacc := btr hacc hS
     obtain ⟨⟨d120, d120f⟩, -⟩ := id hs
     refine ⟨(w11.setCell ⟨b12, 0, none⟩ (.slice pe E.length ce)), (by go_simp; try with_reducible rfl), (fun x => Below ((w11.setCell ⟨b12, 0, none⟩ (.slice pe E.length ce))).heap.size ((w11.setCell ⟨b12, 0, none⟩ (.slice pe E.length ce))) x), Below.refl _ _, ?_⟩
     obtain ⟨v11, hw⟩ : ∃ zW, zW = (w11.setCell ⟨b12, 0, none⟩ (.slice pe E.length ce)) := ⟨_, rfl⟩
     rw [← hw]
     replace hs : Cells v11 [(b12, 0, .slice pe E.length ce)] := by rw [hw]; exact ⟨⟨by go_cell, (fz d120f)⟩, trivial⟩
     replace hJ : MxAt v11 pj cj J := by rw [hw]; exact hJ.box d120 _
     replace hC : CAt v11 pc cc C := by rw [hw]; exact hC.box d120 _
     replace hE : CAt v11 pe ce E := by rw [hw]; exact hE.box d120 _
     replace hbw : Below w.heap.size w v11 := by rw [hw]; exact (Below.setCell hbw (by have h := HS.out; (try dsimp only); omega) _)
     replace hacc : Below wr.heap.size wr v11 := by rw [hw]; exact (Below.setCell hacc (by have h := HS.out; (try dsimp only); omega) _)
     replace zz : s + 3 ≤ v11.heap.size := by rw [hw]; simpa using zz
     clear hw
     clear d120 d120f
     clear hS
     (try simp only [Act.put, List.setIfInBounds_toArray, List.set_cons_zero, List.set_cons_succ])
     iterate 1 (refine seqE_free (v := ?_) rfl (by rfl) ?_ ?_; rotate_left; (focus (intro w; go_simp; try with_reducible rfl)); (try simp only [Act.put, List.setIfInBounds_toArray, List.set_cons_zero, List.set_cons_succ]))
     refine seqE_nil ?_
     intro wz hS
     replace hs := hs.up hS; replace hJ := hJ.up hS; replace hC := hC.mono hS; replace hE := hE.mono hS; replace hbw := btr hbw hS; replace zz := Nat.le_trans zz (Below.size hS); replace hacc := btr hacc hS; clear hS
     obtain ⟨⟨d120, d120f⟩, -⟩ := id hs
     go_wp2_with fail
     go_meet
     exact ⟨_, _, _, rfl, rfl, d120, hE, oE, oEb, FE.out, hacc⟩
   case rest =>
    obtain ⟨bd, pe, ce, rfl, rfl, e0, hE, oE, oEb, frE, hst⟩ := hcut
    replace hs := hs.up hst; replace hk := hk.up hst; replace hJ := hJ.up hst; replace hC := hC.mono hst; replace hbw := btr hbw hst; replace zz := Nat.le_trans zz (Below.size hst); replace hb8 := Nat.lt_of_lt_of_le hb8 hst.size; have FE := Lib.hid frE; clear hst frE hC
    clear d80 d80f d90 d90f d91 d91f y00 y00f y10 y10f y11 y11f y20 y20f
    obtain ⟨⟨d80, d80f⟩, -⟩ := id hs
    obtain ⟨⟨d90, d90f⟩, ⟨d91, d91f⟩, ⟨y00, y00f⟩, ⟨y10, y10f⟩, ⟨y11, y11f⟩, ⟨y20, y20f⟩, -⟩ := id hk
    go_upto_region 8 with fail
    replace hb8 : b8 < (wc.setCell ⟨b8, 0, none⟩ (.slice pe E.length ce)).heap.size := by simpa using hb8
    obtain ⟨w8, hw⟩ : ∃ zW, zW = (wc.setCell ⟨b8, 0, none⟩ (.slice pe E.length ce)) := ⟨_, rfl⟩
    rw [← hw]
    replace hs : Cells w8 [(b8, 0, .slice pe E.length ce)] := by rw [hw]; exact ⟨⟨by go_cell, (fz d80f)⟩, trivial⟩
    replace hk : Cells w8 [(b9, 0, .int .i64 2), (b9, 1, .slice pj J.length cj), (s, 0, .slice p c.length cap), (s + 1, 0, .int .i64 2), (s + 1, 1, .slice pa a.length ca), (s + 2, 0, .slice none 0 0)] := by rw [hw]; exact (hk.far (by simp <;> omega))
    replace hJ : MxAt w8 pj cj J := by rw [hw]; exact hJ.box d80 _
    replace hE : CAt w8 pe ce E := by rw [hw]; exact hE.box d80 _
    replace hbw : Below w.heap.size w w8 := by rw [hw]; exact (Below.setCell hbw (by have h := HS.out; (try dsimp only); omega) _)
    replace zz : s + 3 ≤ w8.heap.size := by rw [hw]; simpa using zz
    clear hw
    clear d80 d80f d90 d90f d91 d91f y00 y00f y10 y10f y11 y11f y20 y20f
    replace hb8 : b8 < w8.heap.size := World.block_lt_of_cell? _ _ hs.1.1
    clear e0
    obtain ⟨⟨d80, d80f⟩, -⟩ := id hs
    obtain ⟨⟨d90, d90f⟩, ⟨d91, d91f⟩, ⟨y00, y00f⟩, ⟨y10, y10f⟩, ⟨y11, y11f⟩, ⟨y20, y20f⟩, -⟩ := id hk
    go_wp2_with fail
    go_roundg (n - (K + 1))
    case measure => (have := HN.out; omega)
    case rel => exact ⟨K + 1, E, x, pe, ce, rfl, by go_num, by omega, rfl, by show cbut _ _ _ = _; rw [HR.out]; dsimp only; rw [Hq.out, HQ.out]; exact HE1.out, oE, oEb, FE.out, hb8, hs, hk, hJ, hE, hbw, zz⟩
end Go.Proofs.Ytadilppdlbhjnaa
