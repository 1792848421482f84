import Derived.Test.YtadilppdlbhjnaaMH
namespace Go.Proofs.Ytadilppdlbhjnaa
set_option linter.unusedSimpArgs false
set_option linter.unusedVariables false
open Go.RowKit
set_option maxRecDepth 100000 in
set_option maxHeartbeats 4000000 in
theorem runion_any (c : List Gate) (a b : List Cell) (ar1 ar2 : Int) (p pa pb : Option Addr) (cap ca cb : Nat) (w : World) (hC : CAt w p cap c) (hA : MxAt w pa ca a) (hD : MxAt w pb cb b)
 (ra : ∀ x ∈ a, x.ref ≤ 100000) (rb : ∀ x ∈ b, x.ref ≤ 100000) (hl : c.length + (a.length + b.length) ≤ 20000) (hc0 : 0 < c.length) :
 Calls Try.prog 49 #[.agg #[.slice p c.length cap], .agg #[.int .i64 ar1, .slice pa a.length ca], .agg #[.int .i64 ar2, .slice pb b.length cb]] w (RetCMF w p none (zrun cor (rtri a b) (c, [])).1 ar1 (zrun cor (rtri a b) (c, [])).2) := by
 obtain ⟨s, hs0⟩ : ∃ s, w.heap.size = s := ⟨_, rfl⟩
 obtain ⟨W2, hW2⟩ : ∃ W2, W2 = ((((((w.alloc (.cells #[.slice p c.length cap] 27)).alloc (.cells #[.int .i64 ar1, .slice pa a.length ca] 30)).alloc (.cells #[.int .i64 ar2, .slice pb b.length cb] 30)).alloc (.cells #[.slice none 0 0] 27)).alloc (.cells #[.int .i64 0, .slice none 0 0] 30)).alloc (.cells #[.int .i64 ar1, .slice none 0 0] 30)) := ⟨_, rfl⟩
 have hbw : Below w.heap.size w W2 := by rw [hW2]; go_grown
 have zz : s + 6 ≤ W2.heap.size := by rw [hW2, ← hs0]; simp
 have hs : Cells W2 [(s, 0, .slice p c.length cap), (s + 5, 0, .int .i64 ar1), (s + 5, 1, .slice none 0 0)] := by rw [hW2, ← hs0]; exact ⟨⟨by go_cell, by go_cell⟩, ⟨by go_cell, by go_cell⟩, ⟨by go_cell, by go_cell⟩, trivial⟩
 have hk : Cells W2 [(s + 1, 0, .int .i64 ar1), (s + 1, 1, .slice pa a.length ca), (s + 2, 0, .int .i64 ar2), (s + 2, 1, .slice pb b.length cb), (s + 3, 0, .slice none 0 0), (s + 4, 0, .int .i64 0), (s + 4, 1, .slice none 0 0)] := by rw [hW2, ← hs0]; exact ⟨⟨by go_cell, by go_cell⟩, ⟨by go_cell, by go_cell⟩, ⟨by go_cell, by go_cell⟩, ⟨by go_cell, by go_cell⟩, ⟨by go_cell, by go_cell⟩, ⟨by go_cell, by go_cell⟩, ⟨by go_cell, by go_cell⟩, trivial⟩
 have HW2 := Lib.hid hW2; have HS := Lib.hid hs0
 clear hW2 hs0
 have oC : Off s 6 p := Off.old (by rw [← HS.out]; exact hC.lt hc0)
 have HA := Lib.hid hA; have HD := Lib.hid hD; have RA := Lib.hid ra; have RB := Lib.hid rb; clear hA hD ra rb
 replace hC : CAt W2 p cap c := hC.mono hbw
 have hM : MxAt W2 none 0 [] := MxAt.nil _
 go_enter Try.func49, Try.ntmps49
 go_upto_region 2 with fail
 rw [← HW2.out]
 simp only [HS.out, Nat.add_assoc, Nat.reduceAdd]
 obtain ⟨⟨y00, y00f⟩, ⟨y50, y50f⟩, ⟨y51, y51f⟩, -⟩ := id hs
 obtain ⟨⟨y10, y10f⟩, ⟨y11, y11f⟩, ⟨y20, y20f⟩, ⟨y21, y21f⟩, ⟨y30, y30f⟩, ⟨y40, y40f⟩, ⟨y41, y41f⟩, -⟩ := id hk
 have hml := mranks_len a b
 go_wp2_with (first | (go_at_call 105; refine (ranks_any a b ar1 ar2 pa pb ca cb _ (HA.out.up hbw) (HD.out.up hbw) (by omega) (by omega)).mono ?_; rintro e w3 ⟨q, cq, rfl, hL, hbl, oL⟩; replace oL : Off s 6 q := Off.ge oL zz; replace hs := hs.up hbl; replace hk := hk.up hbl; replace hC := hC.mono hbl; replace hM := hM.up hbl; replace hbw := btr hbw hbl; replace zz := Nat.le_trans zz (Below.size hbl); clear hbl))
 go_loopg [10] (mranks a b).length (fun N s10 wr => ∃ K : Nat, ∃ C : List Gate, ∃ M : List Cell, ∃ pc : Option Addr, ∃ cc : Nat, ∃ pm : Option Addr, ∃ cm : Nat, s10 = .int .i64 K ∧ K ≤ (mranks a b).length ∧ N = (mranks a b).length - K ∧ zrun cor ((rtri a b).take K) (c, []) = (C, M) ∧ Off s 6 pc ∧ Off s 6 pm ∧ Fresh w p pc ∧ Fresh w none pm ∧ Cells wr [(s, 0, .slice pc C.length cc), (s + 5, 0, .int .i64 ar1), (s + 5, 1, .slice pm M.length cm)] ∧ Cells wr [(s + 1, 0, .int .i64 ar1), (s + 1, 1, .slice pa a.length ca), (s + 2, 0, .int .i64 ar2), (s + 2, 1, .slice pb b.length cb), (s + 3, 0, .slice none 0 0), (s + 4, 0, .int .i64 0), (s + 4, 1, .slice none 0 0)] ∧ SI wr q cq (mranks a b) ∧ CAt wr pc cc C ∧ MxAt wr pm cm M ∧ Below w.heap.size w wr ∧ s + 6 ≤ wr.heap.size)
 case atStart => exact ⟨0, c, [], p, cap, none, 0, rfl, by omega, rfl, rfl, oC, Off.none _ _, .inl rfl, .inl rfl, hs, hk, hL, hC, hM, hbw, zz⟩
 obtain ⟨K, C, M, pc, cc, pm, cm, rfl, hK, hN, hrun, oC, oM, frC, frM, hs, hk, hL, hC, hM, hbw, zz⟩ := hrel
 obtain ⟨hCl, hMl⟩ := zrun_lens cor_len hrun
 have HN := Lib.hid hN; have HR := Lib.hid hrun; have FC := Lib.hid frC; have FM := Lib.hid frM; clear hN hrun frC frM
 by_cases hlt : K < (mranks a b).length
 case neg =>
  obtain rfl : K = (mranks a b).length := by omega
  have HF := Lib.hid (show zrun cor (rtri a b) (c, []) = (C, M) by have := HR.out; rw [List.take_of_length_le (by rw [rtri_len]; exact Nat.le_refl _)] at this; exact this)
  clear y00 y00f y50 y50f y51 y51f y10 y10f y11 y11f y20 y20f y21 y21f y30 y30f y40 y40f y41 y41f
  obtain ⟨⟨y00, y00f⟩, ⟨y50, y50f⟩, ⟨y51, y51f⟩, -⟩ := id hs
  obtain ⟨⟨y10, y10f⟩, ⟨y11, y11f⟩, ⟨y20, y20f⟩, ⟨y21, y21f⟩, ⟨y30, y30f⟩, ⟨y40, y40f⟩, ⟨y41, y41f⟩, -⟩ := id hk
  go_upto_region 9 with fail
  go_region
  go_wp2_with fail
  obtain ⟨W9, hW9⟩ : ∃ W9, W9 = (((wr.setCell ⟨s + 3, 0, none⟩ (.slice pc C.length cc)).setCell ⟨s + 4, 0, none⟩ (.int .i64 (ar1))).setCell ⟨s + 4, 1, none⟩ (.slice pm M.length cm)).drew := ⟨_, rfl⟩
  rw [← hW9]
  have e0 : W9.cell? ⟨s + 3, 0, none⟩ = some (.slice pc C.length cc) := by rw [hW9]; go_cell
  have e1 : W9.cell? ⟨s + 4, 0, none⟩ = some (.int .i64 (ar1)) := by rw [hW9]; go_cell
  have e2 : W9.cell? ⟨s + 4, 1, none⟩ = some (.slice pm M.length cm) := by rw [hW9]; go_cell
  replace hC : CAt W9 pc cc C := by rw [hW9]; exact (((hC.set (oC.ne (by omega) (by omega)) _).set (oC.ne (by omega) (by omega)) _).set (oC.ne (by omega) (by omega)) _).mono (Below.drew (Below.refl _ _))
  replace hM : MxAt W9 pm cm M := by rw [hW9]; exact (((hM.set (oM.ne (by omega) (by omega)) _).set (oM.ne (by omega) (by omega)) _).set (oM.ne (by omega) (by omega)) _).up (Below.drew (Below.refl _ _))
  have B9 : Below w.heap.size w W9 := by
   rw [hW9]
   refine Below.drew ?_
   iterate 3 refine Below.setCell ?_ (by have h := HS.out; (try dsimp only); omega) _
   exact hbw
  clear hW9
  rw [HF.out]
  refine bodyPost_ret (by simp [results, Try.results49, go_sem, e0, e1, e2]; try rfl) rfl ?_
  exact ⟨_, _, _, _, rfl, hC, hM, B9, FC.out, FM.out⟩
 have hlt0 : (0 : Int) ≤ (K : Int) := by omega
 have hlt1 : (K : Int) < ((mranks a b).length : Int) := by omega
 obtain ⟨r, hr⟩ : ∃ r, (mranks a b)[K]? = some r := ⟨_, List.getElem?_eq_getElem hlt⟩
 obtain ⟨bq, oq, rfl, hbq, j0⟩ := int_cell hL.at' hr
 have HT := Lib.hid (rtri_get hr)
 have hp1 := mat_le RA.out r
 have hq1 := mat_le RB.out r
 obtain ⟨P, hP⟩ : ∃ P, mat a r = P := ⟨_, rfl⟩
 obtain ⟨Q, hQ⟩ : ∃ Q, mat b r = Q := ⟨_, rfl⟩
 rw [hP] at hp1; rw [hQ] at hq1
 have HP := Lib.hid hP; have HQ := Lib.hid hQ
 clear hr hP hQ
 have hbo := oL _ rfl
 dsimp only at hbo
 obtain ⟨dd, x, hop⟩ : ∃ dd x, cor C P Q = (dd, x) := ⟨_, _, rfl⟩
 have HOP := Lib.hid hop; clear hop
 clear y00 y00f y50 y50f y51 y51f y10 y10f y11 y11f y20 y20f y21 y21f y30 y30f y40 y40f y41 y41f
 obtain ⟨⟨y00, y00f⟩, ⟨y50, y50f⟩, ⟨y51, y51f⟩, -⟩ := id hs
 obtain ⟨⟨y10, y10f⟩, ⟨y11, y11f⟩, ⟨y20, y20f⟩, ⟨y21, y21f⟩, ⟨y30, y30f⟩, ⟨y40, y40f⟩, ⟨y41, y41f⟩, -⟩ := id hk
 go_upto_region 6 with fail
 go_cut [11, 12] from 25 to 41 (fun s11 s12 wx => ∃ (bd : Nat) (pd : Option Addr) (cd : Nat), s11 = .pointer (some ⟨bd, 0, none⟩) ∧ s12 = .int .i64 x ∧ wx.cell? ⟨bd, 0, none⟩ = some (.slice pd dd.length cd) ∧ CAt wx pd cd dd ∧ Off s 6 pd ∧ Fresh w p pd ∧ Below wr.heap.size wr wx)
 case first =>
  as_aux_lemma =>
   have hacc : Below wr.heap.size wr wr := Below.refl _ _
   clear y00 y00f y50 y50f y51 y51f y10 y10f y11 y11f y20 y20f y21 y21f y30 y30f y40 y40f y41 y41f
   obtain ⟨⟨y00, y00f⟩, -, -, -⟩ := hs
   have hs : Cells wr [(s, 0, .slice pc C.length cc)] := ⟨⟨y00, y00f⟩, trivial⟩
   clear y00 y00f
   refine wp_region_seqE (fun x => Below wr.heap.size wr x) (.one 0 0 (.one 1 0 (.one 2 1 (.one 3 1 (.one 4 1 (.one 5 0 (.one 7 0 (.one 8 1 (.one 9 1 (.one 10 1 (.one 11 0 (.alt 6 2 (.alt 12 2 (.alt 13 3 (.one 14 1 (.one 15 1 (.one 16 1 (.alt 17 2 (.alt 18 3 (.one 19 1 .nil) .stop) .stop)))) (.alt 17 2 (.alt 13 3 (.one 14 1 (.one 15 1 (.one 16 1 (.alt 18 3 (.one 19 1 .nil) .stop)))) .stop) .stop)) (.alt 17 2 (.alt 12 2 (.alt 13 3 (.one 14 1 (.one 15 1 (.one 16 1 (.alt 18 3 (.one 19 1 .nil) .stop)))) .stop) .stop) .stop)) (.alt 17 2 (.alt 6 2 (.alt 12 2 (.alt 13 3 (.one 14 1 (.one 15 1 (.one 16 1 (.alt 18 3 (.one 19 1 .nil) .stop)))) .stop) .stop) .stop) .stop))))))))))))) (by kernel_rfl) (by kernel_rfl) (by kernel_rfl) (Below.drew (Below.refl _ _)) ?_
   iterate 11 ((first | (refine seqE_free (v := ?_) rfl (by rfl) ?_ ?_; rotate_left; (focus (intro w; go_simp; try with_reducible rfl))) | (refine seqE_pure (v := ?_) rfl (by rfl) ?_ ?_; rotate_left; (focus (intro w hS; obtain ⟨⟨y00, -⟩, -⟩ := hs.up hS; obtain ⟨⟨y10, -⟩, ⟨y11, -⟩, ⟨y20, -⟩, ⟨y21, -⟩, -⟩ := hk.up hS; have j0 := zD hS j0; go_simp; try with_reducible rfl)))); (try simp only [Act.put, zA, zB, zC]))
   clear hs
   clear hk
   clear j0
   refine seqE_keep (v := .int .i64 P) (f := ?_) (args := ?_) rfl (by rfl) ?_ ?_ ?_ ?_
   rotate_left 2
   focus (intro w hS; go_simp; first | done | with_reducible rfl | (refine ⟨?_, ?_⟩ <;> with_reducible rfl))
   focus (intro w hS; refine (at_is (HA.out.up (btr hbw hS)) (by omega) HP.out).mono ?_; rintro e w2 ⟨rfl, hbl⟩; exact ⟨rfl, btr hS hbl⟩)
   ·
    (try simp only [Act.put, zA, zB, zC])
    refine seqE_keep (v := .int .i64 Q) (f := ?_) (args := ?_) rfl (by rfl) ?_ ?_ ?_ ?_
    rotate_left 2
    focus (intro w hS; go_simp; first | done | with_reducible rfl | (refine ⟨?_, ?_⟩ <;> with_reducible rfl))
    focus (intro w hS; refine (at_is (HD.out.up (btr hbw hS)) (by omega) HQ.out).mono ?_; rintro e w2 ⟨rfl, hbl⟩; exact ⟨rfl, btr hS hbl⟩)
    ·
     (try simp only [Act.put, zA, zB, zC])
     refine seqE_callB (f := ?_) (args := ?_) rfl (by rfl) ?_ ?_ ?_
     rotate_left 2
     focus (intro w hS; go_simp; first | done | with_reducible rfl | (refine ⟨?_, ?_⟩ <;> with_reducible rfl))
     ·
      intro w3 hS
      refine (ror_fr (hC.mono hS) (by omega) (by omega) (by omega) HOP.out).mono ?_
      rintro e v3 ⟨pd, cd, rfl, hE, hbl, frE⟩
      refine ⟨_, rfl, (fun x => Below v3.heap.size v3 x), Below.refl _ _, ?_⟩
      have hXw := Nat.le_trans zz hS.size; have hXa := Nat.le_trans hacc.size hS.size
      have hX := btr hS hbl
      replace hC := hC.mono hX; replace hbw := btr hbw hX; replace zz := Nat.le_trans zz (Below.size hX); replace hacc := btr hacc hX
      have oE : Off s 6 pd := Off.fresh frE oC hXw
      have FE := Lib.hid (Fresh.trans FC.out frE (by have h := HS.out; have h2 := hXw; omega))
      clear frE
      clear hX hS hbl hXw hXa
      (try simp only [Act.put, zA, zB, zC])
      iterate 3 (refine seqE_free (v := ?_) rfl (by rfl) ?_ ?_; rotate_left; (focus (intro w; go_simp; try with_reducible rfl)); (try simp only [Act.put, zA, zB, zC]))
      refine seqE_move rfl (by rfl) ?_ seqE_stop
      intro w4 hS
      refine ⟨.pointer (some ⟨w4.heap.size, 0, none⟩), w4.alloc (.cells #[.slice none 0 0] 27), (by go_simp; try with_reducible rfl), ?_⟩
      obtain ⟨b11, hb11⟩ : ∃ b, b = w4.heap.size := ⟨_, rfl⟩
      obtain ⟨v4, hw4⟩ : ∃ zW, zW = w4.alloc (.cells #[.slice none 0 0] 27) := ⟨_, rfl⟩
      rw [← hw4, ← hb11]
      have hbl : Below w4.heap.size w4 v4 := by rw [hw4]; go_grown
      have hge11 : s + 6 ≤ b11 := by rw [hb11]; exact Nat.le_trans zz hS.size
      have hga11 : wr.heap.size ≤ b11 := by rw [hb11]; exact Nat.le_trans hacc.size hS.size
      refine ⟨(fun x => Below v4.heap.size v4 x), Below.refl _ _, fun x hx => btr (btr hS hbl) hx, ?_⟩
      have hX := btr hS hbl
      replace hC := hC.mono hX; replace hE := hE.mono hX; replace hbw := btr hbw hX; replace zz := Nat.le_trans zz (Below.size hX); replace hacc := btr hacc hX
      have hs : Cells v4 [(b11, 0, .slice none 0 0)] := ⟨⟨by rw [hw4, hb11]; go_cell, by rw [hw4, hb11]; go_cell⟩, trivial⟩
      clear hX hS hbl hw4 hb11
      (try simp only [Act.put, zA, zB, zC])
      refine seqE_storeB rfl (by rfl) ?_ seqE_stop
      intro w5 hS
      replace hs := hs.up hS; replace hC := hC.mono hS; replace hE := hE.mono hS; replace hbw := btr hbw hS; replace zz := Nat.le_trans zz (Below.size hS); replace hacc := btr hacc hS
      obtain ⟨⟨d110, d110f⟩, -⟩ := id hs
      refine ⟨(w5.setCell ⟨b11, 0, none⟩ (.slice pd dd.length cd)), (by go_simp; try with_reducible rfl), (fun x => Below ((w5.setCell ⟨b11, 0, none⟩ (.slice pd dd.length cd))).heap.size ((w5.setCell ⟨b11, 0, none⟩ (.slice pd dd.length cd))) x), Below.refl _ _, ?_⟩
      obtain ⟨v5, hw⟩ : ∃ zW, zW = (w5.setCell ⟨b11, 0, none⟩ (.slice pd dd.length cd)) := ⟨_, rfl⟩
      rw [← hw]
      replace hs : Cells v5 [(b11, 0, .slice pd dd.length cd)] := by rw [hw]; exact ⟨⟨by go_cell, (fz d110f)⟩, trivial⟩
      replace hC : CAt v5 pc cc C := by rw [hw]; exact hC.box d110 _
      replace hE : CAt v5 pd cd dd := by rw [hw]; exact hE.box d110 _
      replace hbw : Below w.heap.size w v5 := by rw [hw]; exact (Below.setCell hbw (by have h := HS.out; (try dsimp only); omega) _)
      replace hacc : Below wr.heap.size wr v5 := by rw [hw]; exact (Below.setCell hacc (by have h := HS.out; (try dsimp only); omega) _)
      replace zz : s + 6 ≤ v5.heap.size := by rw [hw]; simpa using zz
      clear hw
      clear d110 d110f
      clear hS
      (try simp only [Act.put, zA, zB, zC])
      iterate 1 (refine seqE_free (v := ?_) rfl (by rfl) ?_ ?_; rotate_left; (focus (intro w; go_simp; try with_reducible rfl)); (try simp only [Act.put, zA, zB, zC]))
      refine seqE_nil ?_
      intro wz hS
      replace hs := hs.up hS; replace hC := hC.mono hS; replace hE := hE.mono hS; replace hbw := btr hbw hS; replace zz := Nat.le_trans zz (Below.size hS); replace hacc := btr hacc hS; clear hS
      obtain ⟨⟨d110, d110f⟩, -⟩ := id hs
      go_wp2_with fail
      go_meet
      exact ⟨_, _, _, rfl, rfl, d110, hE, oE, FE.out, hacc⟩
     refine seqE_move rfl (by rfl) ?_ seqE_stop
     intro w6 hS
     refine ⟨.pointer (some ⟨w6.heap.size, 0, none⟩), w6.alloc (.cells #[.slice none 0 0] 27), (by go_simp; try with_reducible rfl), ?_⟩
     obtain ⟨b11, hb11⟩ : ∃ b, b = w6.heap.size := ⟨_, rfl⟩
     obtain ⟨v6, hw6⟩ : ∃ zW, zW = w6.alloc (.cells #[.slice none 0 0] 27) := ⟨_, rfl⟩
     rw [← hw6, ← hb11]
     have hbl : Below w6.heap.size w6 v6 := by rw [hw6]; go_grown
     have hge11 : s + 6 ≤ b11 := by rw [hb11]; exact Nat.le_trans zz hS.size
     have hga11 : wr.heap.size ≤ b11 := by rw [hb11]; exact Nat.le_trans hacc.size hS.size
     refine ⟨(fun x => Below v6.heap.size v6 x), Below.refl _ _, fun x hx => btr (btr hS hbl) hx, ?_⟩
     have hX := btr hS hbl
     replace hC := hC.mono hX; replace hbw := btr hbw hX; replace zz := Nat.le_trans zz (Below.size hX); replace hacc := btr hacc hX
     have hs : Cells v6 [(b11, 0, .slice none 0 0)] := ⟨⟨by rw [hw6, hb11]; go_cell, by rw [hw6, hb11]; go_cell⟩, trivial⟩
     clear hX hS hbl hw6 hb11
     (try simp only [Act.put, zA, zB, zC])
     refine seqE_callB (f := ?_) (args := ?_) rfl (by rfl) ?_ ?_ seqE_stop
     rotate_left 2
     focus (intro w hS; go_simp; first | done | with_reducible rfl | (refine ⟨?_, ?_⟩ <;> with_reducible rfl))
     intro w7 hS
     refine (ror_fr (hC.mono hS) (by omega) (by omega) (by omega) HOP.out).mono ?_
     rintro e v7 ⟨pd, cd, rfl, hE, hbl, frE⟩
     refine ⟨_, rfl, (fun x => Below v7.heap.size v7 x), Below.refl _ _, ?_⟩
     have hXw := Nat.le_trans zz hS.size; have hXa := Nat.le_trans hacc.size hS.size
     have hX := btr hS hbl
     replace hs := hs.up hX; replace hC := hC.mono hX; replace hbw := btr hbw hX; replace zz := Nat.le_trans zz (Below.size hX); replace hacc := btr hacc hX
     have oE : Off s 6 pd := Off.fresh frE oC hXw
     have FE := Lib.hid (Fresh.trans FC.out frE (by have h := HS.out; have h2 := hXw; omega))
     clear frE
     clear hX hS hbl hXw hXa
     (try simp only [Act.put, zA, zB, zC])
     iterate 3 (refine seqE_free (v := ?_) rfl (by rfl) ?_ ?_; rotate_left; (focus (intro w; go_simp; try with_reducible rfl)); (try simp only [Act.put, zA, zB, zC]))
     refine seqE_storeB rfl (by rfl) ?_ seqE_stop
     intro w8 hS
     replace hs := hs.up hS; replace hC := hC.mono hS; replace hE := hE.mono hS; replace hbw := btr hbw hS; replace zz := Nat.le_trans zz (Below.size hS); replace hacc := btr hacc hS
     obtain ⟨⟨d110, d110f⟩, -⟩ := id hs
     refine ⟨(w8.setCell ⟨b11, 0, none⟩ (.slice pd dd.length cd)), (by go_simp; try with_reducible rfl), (fun x => Below ((w8.setCell ⟨b11, 0, none⟩ (.slice pd dd.length cd))).heap.size ((w8.setCell ⟨b11, 0, none⟩ (.slice pd dd.length cd))) x), Below.refl _ _, ?_⟩
     obtain ⟨v8, hw⟩ : ∃ zW, zW = (w8.setCell ⟨b11, 0, none⟩ (.slice pd dd.length cd)) := ⟨_, rfl⟩
     rw [← hw]
     replace hs : Cells v8 [(b11, 0, .slice pd dd.length cd)] := by rw [hw]; exact ⟨⟨by go_cell, (fz d110f)⟩, trivial⟩
     replace hC : CAt v8 pc cc C := by rw [hw]; exact hC.box d110 _
     replace hE : CAt v8 pd cd dd := by rw [hw]; exact hE.box d110 _
     replace hbw : Below w.heap.size w v8 := by rw [hw]; exact (Below.setCell hbw (by have h := HS.out; (try dsimp only); omega) _)
     replace hacc : Below wr.heap.size wr v8 := by rw [hw]; exact (Below.setCell hacc (by have h := HS.out; (try dsimp only); omega) _)
     replace zz : s + 6 ≤ v8.heap.size := by rw [hw]; simpa using zz
     clear hw
     clear d110 d110f
     clear hS
     (try simp only [Act.put, zA, zB, zC])
     iterate 1 (refine seqE_free (v := ?_) rfl (by rfl) ?_ ?_; rotate_left; (focus (intro w; go_simp; try with_reducible rfl)); (try simp only [Act.put, zA, zB, zC]))
     refine seqE_nil ?_
     intro wz hS
     replace hs := hs.up hS; replace hC := hC.mono hS; replace hE := hE.mono hS; replace hbw := btr hbw hS; replace zz := Nat.le_trans zz (Below.size hS); replace hacc := btr hacc hS; clear hS
     obtain ⟨⟨d110, d110f⟩, -⟩ := id hs
     go_wp2_with fail
     go_meet
     exact ⟨_, _, _, rfl, rfl, d110, hE, oE, FE.out, hacc⟩
    refine seqE_move rfl (by rfl) ?_ seqE_stop
    intro w9 hS
    refine ⟨.pointer (some ⟨w9.heap.size, 0, none⟩), w9.alloc (.cells #[.slice none 0 0] 27), (by go_simp; try with_reducible rfl), ?_⟩
    obtain ⟨b11, hb11⟩ : ∃ b, b = w9.heap.size := ⟨_, rfl⟩
    obtain ⟨v9, hw9⟩ : ∃ zW, zW = w9.alloc (.cells #[.slice none 0 0] 27) := ⟨_, rfl⟩
    rw [← hw9, ← hb11]
    have hbl : Below w9.heap.size w9 v9 := by rw [hw9]; go_grown
    have hge11 : s + 6 ≤ b11 := by rw [hb11]; exact Nat.le_trans zz hS.size
    have hga11 : wr.heap.size ≤ b11 := by rw [hb11]; exact Nat.le_trans hacc.size hS.size
    refine ⟨(fun x => Below v9.heap.size v9 x), Below.refl _ _, fun x hx => btr (btr hS hbl) hx, ?_⟩
    have hX := btr hS hbl
    replace hC := hC.mono hX; replace hbw := btr hbw hX; replace zz := Nat.le_trans zz (Below.size hX); replace hacc := btr hacc hX
    have hs : Cells v9 [(b11, 0, .slice none 0 0)] := ⟨⟨by rw [hw9, hb11]; go_cell, by rw [hw9, hb11]; go_cell⟩, trivial⟩
    clear hX hS hbl hw9 hb11
    (try simp only [Act.put, zA, zB, zC])
    refine seqE_keep (v := .int .i64 Q) (f := ?_) (args := ?_) rfl (by rfl) ?_ ?_ ?_ seqE_stop
    rotate_left 2
    focus (intro w hS; go_simp; first | done | with_reducible rfl | (refine ⟨?_, ?_⟩ <;> with_reducible rfl))
    focus (intro w hS; refine (at_is (HD.out.up (btr hbw hS)) (by omega) HQ.out).mono ?_; rintro e w2 ⟨rfl, hbl⟩; exact ⟨rfl, btr hS hbl⟩)
    (try simp only [Act.put, zA, zB, zC])
    refine seqE_callB (f := ?_) (args := ?_) rfl (by rfl) ?_ ?_ seqE_stop
    rotate_left 2
    focus (intro w hS; go_simp; first | done | with_reducible rfl | (refine ⟨?_, ?_⟩ <;> with_reducible rfl))
    intro w11 hS
    refine (ror_fr (hC.mono hS) (by omega) (by omega) (by omega) HOP.out).mono ?_
    rintro e v11 ⟨pd, cd, rfl, hE, hbl, frE⟩
    refine ⟨_, rfl, (fun x => Below v11.heap.size v11 x), Below.refl _ _, ?_⟩
    have hXw := Nat.le_trans zz hS.size; have hXa := Nat.le_trans hacc.size hS.size
    have hX := btr hS hbl
    replace hs := hs.up hX; replace hC := hC.mono hX; replace hbw := btr hbw hX; replace zz := Nat.le_trans zz (Below.size hX); replace hacc := btr hacc hX
    have oE : Off s 6 pd := Off.fresh frE oC hXw
    have FE := Lib.hid (Fresh.trans FC.out frE (by have h := HS.out; have h2 := hXw; omega))
    clear frE
    clear hX hS hbl hXw hXa
    (try simp only [Act.put, zA, zB, zC])
    iterate 3 (refine seqE_free (v := ?_) rfl (by rfl) ?_ ?_; rotate_left; (focus (intro w; go_simp; try with_reducible rfl)); (try simp only [Act.put, zA, zB, zC]))
    refine seqE_storeB rfl (by rfl) ?_ seqE_stop
    intro w12 hS
    replace hs := hs.up hS; replace hC := hC.mono hS; replace hE := hE.mono hS; replace hbw := btr hbw hS; replace zz := Nat.le_trans zz (Below.size hS); replace hacc := btr hacc hS
    obtain ⟨⟨d110, d110f⟩, -⟩ := id hs
    refine ⟨(w12.setCell ⟨b11, 0, none⟩ (.slice pd dd.length cd)), (by go_simp; try with_reducible rfl), (fun x => Below ((w12.setCell ⟨b11, 0, none⟩ (.slice pd dd.length cd))).heap.size ((w12.setCell ⟨b11, 0, none⟩ (.slice pd dd.length cd))) x), Below.refl _ _, ?_⟩
    obtain ⟨v12, hw⟩ : ∃ zW, zW = (w12.setCell ⟨b11, 0, none⟩ (.slice pd dd.length cd)) := ⟨_, rfl⟩
    rw [← hw]
    replace hs : Cells v12 [(b11, 0, .slice pd dd.length cd)] := by rw [hw]; exact ⟨⟨by go_cell, (fz d110f)⟩, trivial⟩
    replace hC : CAt v12 pc cc C := by rw [hw]; exact hC.box d110 _
    replace hE : CAt v12 pd cd dd := by rw [hw]; exact hE.box d110 _
    replace hbw : Below w.heap.size w v12 := by rw [hw]; exact (Below.setCell hbw (by have h := HS.out; (try dsimp only); omega) _)
    replace hacc : Below wr.heap.size wr v12 := by rw [hw]; exact (Below.setCell hacc (by have h := HS.out; (try dsimp only); omega) _)
    replace zz : s + 6 ≤ v12.heap.size := by rw [hw]; simpa using zz
    clear hw
    clear d110 d110f
    clear hS
    (try simp only [Act.put, zA, zB, zC])
    iterate 1 (refine seqE_free (v := ?_) rfl (by rfl) ?_ ?_; rotate_left; (focus (intro w; go_simp; try with_reducible rfl)); (try simp only [Act.put, zA, zB, zC]))
    refine seqE_nil ?_
    intro wz hS
    replace hs := hs.up hS; replace hC := hC.mono hS; replace hE := hE.mono hS; replace hbw := btr hbw hS; replace zz := Nat.le_trans zz (Below.size hS); replace hacc := btr hacc hS; clear hS
    obtain ⟨⟨d110, d110f⟩, -⟩ := id hs
    go_wp2_with fail
    go_meet
    exact ⟨_, _, _, rfl, rfl, d110, hE, oE, FE.out, hacc⟩
   refine seqE_move rfl (by rfl) ?_ seqE_stop
   intro w13 hS
   refine ⟨.pointer (some ⟨w13.heap.size, 0, none⟩), w13.alloc (.cells #[.slice none 0 0] 27), (by go_simp; try with_reducible rfl), ?_⟩
   obtain ⟨b11, hb11⟩ : ∃ b, b = w13.heap.size := ⟨_, rfl⟩
   obtain ⟨v13, hw13⟩ : ∃ zW, zW = w13.alloc (.cells #[.slice none 0 0] 27) := ⟨_, rfl⟩
   rw [← hw13, ← hb11]
   have hbl : Below w13.heap.size w13 v13 := by rw [hw13]; go_grown
   have hge11 : s + 6 ≤ b11 := by rw [hb11]; exact Nat.le_trans zz hS.size
   have hga11 : wr.heap.size ≤ b11 := by rw [hb11]; exact Nat.le_trans hacc.size hS.size
   refine ⟨(fun x => Below v13.heap.size v13 x), Below.refl _ _, fun x hx => btr (btr hS hbl) hx, ?_⟩
   have hX := btr hS hbl
   replace hC := hC.mono hX; replace hbw := btr hbw hX; replace zz := Nat.le_trans zz (Below.size hX); replace hacc := btr hacc hX
   have hs : Cells v13 [(b11, 0, .slice none 0 0)] := ⟨⟨by rw [hw13, hb11]; go_cell, by rw [hw13, hb11]; go_cell⟩, trivial⟩
   clear hX hS hbl hw13 hb11
   (try simp only [Act.put, zA, zB, zC])
   refine seqE_keep (v := .int .i64 P) (f := ?_) (args := ?_) rfl (by rfl) ?_ ?_ ?_ seqE_stop
   rotate_left 2
   focus (intro w hS; go_simp; first | done | with_reducible rfl | (refine ⟨?_, ?_⟩ <;> with_reducible rfl))
   focus (intro w hS; refine (at_is (HA.out.up (btr hbw hS)) (by omega) HP.out).mono ?_; rintro e w2 ⟨rfl, hbl⟩; exact ⟨rfl, btr hS hbl⟩)
   (try simp only [Act.put, zA, zB, zC])
   refine seqE_keep (v := .int .i64 Q) (f := ?_) (args := ?_) rfl (by rfl) ?_ ?_ ?_ seqE_stop
   rotate_left 2
   focus (intro w hS; go_simp; first | done | with_reducible rfl | (refine ⟨?_, ?_⟩ <;> with_reducible rfl))
   focus (intro w hS; refine (at_is (HD.out.up (btr hbw hS)) (by omega) HQ.out).mono ?_; rintro e w2 ⟨rfl, hbl⟩; exact ⟨rfl, btr hS hbl⟩)
   (try simp only [Act.put, zA, zB, zC])
   refine seqE_callB (f := ?_) (args := ?_) rfl (by rfl) ?_ ?_ seqE_stop
   rotate_left 2
   focus (intro w hS; go_simp; first | done | with_reducible rfl | (refine ⟨?_, ?_⟩ <;> with_reducible rfl))
   intro w16 hS
   refine (ror_fr (hC.mono hS) (by omega) (by omega) (by omega) HOP.out).mono ?_
   rintro e v16 ⟨pd, cd, rfl, hE, hbl, frE⟩
   refine ⟨_, rfl, (fun x => Below v16.heap.size v16 x), Below.refl _ _, ?_⟩
   have hXw := Nat.le_trans zz hS.size; have hXa := Nat.le_trans hacc.size hS.size
   have hX := btr hS hbl
   replace hs := hs.up hX; replace hC := hC.mono hX; replace hbw := btr hbw hX; replace zz := Nat.le_trans zz (Below.size hX); replace hacc := btr hacc hX
   have oE : Off s 6 pd := Off.fresh frE oC hXw
   have FE := Lib.hid (Fresh.trans FC.out frE (by have h := HS.out; have h2 := hXw; omega))
   clear frE
   clear hX hS hbl hXw hXa
   (try simp only [Act.put, zA, zB, zC])
   iterate 3 (refine seqE_free (v := ?_) rfl (by rfl) ?_ ?_; rotate_left; (focus (intro w; go_simp; try with_reducible rfl)); (try simp only [Act.put, zA, zB, zC]))
   refine seqE_storeB rfl (by rfl) ?_ seqE_stop
   intro w17 hS
   replace hs := hs.up hS; replace hC := hC.mono hS; replace hE := hE.mono hS; replace hbw := btr hbw hS; replace zz := Nat.le_trans zz (Below.size hS); replace hacc := btr hacc hS
   obtain ⟨⟨d110, d110f⟩, -⟩ := id hs
   refine ⟨(w17.setCell ⟨b11, 0, none⟩ (.slice pd dd.length cd)), (by go_simp; try with_reducible rfl), (fun x => Below ((w17.setCell ⟨b11, 0, none⟩ (.slice pd dd.length cd))).heap.size ((w17.setCell ⟨b11, 0, none⟩ (.slice pd dd.length cd))) x), Below.refl _ _, ?_⟩
   obtain ⟨v17, hw⟩ : ∃ zW, zW = (w17.setCell ⟨b11, 0, none⟩ (.slice pd dd.length cd)) := ⟨_, rfl⟩
   rw [← hw]
   replace hs : Cells v17 [(b11, 0, .slice pd dd.length cd)] := by rw [hw]; exact ⟨⟨by go_cell, (fz d110f)⟩, trivial⟩
   replace hC : CAt v17 pc cc C := by rw [hw]; exact hC.box d110 _
   replace hE : CAt v17 pd cd dd := by rw [hw]; exact hE.box d110 _
   replace hbw : Below w.heap.size w v17 := by rw [hw]; exact (Below.setCell hbw (by have h := HS.out; (try dsimp only); omega) _)
   replace hacc : Below wr.heap.size wr v17 := by rw [hw]; exact (Below.setCell hacc (by have h := HS.out; (try dsimp only); omega) _)
   replace zz : s + 6 ≤ v17.heap.size := by rw [hw]; simpa using zz
   clear hw
   clear d110 d110f
   clear hS
   (try simp only [Act.put, zA, zB, zC])
   iterate 1 (refine seqE_free (v := ?_) rfl (by rfl) ?_ ?_; rotate_left; (focus (intro w; go_simp; try with_reducible rfl)); (try simp only [Act.put, zA, zB, zC]))
   refine seqE_nil ?_
   intro wz hS
   replace hs := hs.up hS; replace hC := hC.mono hS; replace hE := hE.mono hS; replace hbw := btr hbw hS; replace zz := Nat.le_trans zz (Below.size hS); replace hacc := btr hacc hS; clear hS
   obtain ⟨⟨d110, d110f⟩, -⟩ := id hs
   go_wp2_with fail
   go_meet
   exact ⟨_, _, _, rfl, rfl, d110, hE, oE, FE.out, hacc⟩
 obtain ⟨bd, pd, cd, rfl, rfl, e0, hE, oE, frE, hst⟩ := hcut
 replace hs := hs.up hst; replace hk := hk.up hst; replace hL := hL.up hst; replace hC := hC.mono hst; replace hM := hM.up hst; replace hbw := btr hbw hst; replace zz := Nat.le_trans zz (Below.size hst); replace j0 := zD hst j0; have FE := Lib.hid frE; clear hst frE
 clear y00 y00f y50 y50f y51 y51f y10 y10f y11 y11f y20 y20f y21 y21f y30 y30f y40 y40f y41 y41f
 obtain ⟨⟨y00, y00f⟩, ⟨y50, y50f⟩, ⟨y51, y51f⟩, -⟩ := id hs
 obtain ⟨⟨y10, y10f⟩, ⟨y11, y11f⟩, ⟨y20, y20f⟩, ⟨y21, y21f⟩, ⟨y30, y30f⟩, ⟨y40, y40f⟩, ⟨y41, y41f⟩, -⟩ := id hk
 go_upto_region 8 with fail
 obtain ⟨w8, hw⟩ : ∃ zW, zW = (wc.setCell ⟨s, 0, none⟩ (.slice pd dd.length cd)) := ⟨_, rfl⟩
 rw [← hw]
 replace hs : Cells w8 [(s, 0, .slice pd dd.length cd), (s + 5, 0, .int .i64 ar1), (s + 5, 1, .slice pm M.length cm)] := by rw [hw]; exact ⟨⟨by go_cell, (fz y00f)⟩, ⟨by go_cell, (fz y50f)⟩, ⟨by go_cell, (fz y51f)⟩, trivial⟩
 replace hk : Cells w8 [(s + 1, 0, .int .i64 ar1), (s + 1, 1, .slice pa a.length ca), (s + 2, 0, .int .i64 ar2), (s + 2, 1, .slice pb b.length cb), (s + 3, 0, .slice none 0 0), (s + 4, 0, .int .i64 0), (s + 4, 1, .slice none 0 0)] := by rw [hw]; exact (hk.far (by simp <;> omega))
 replace hL : SI w8 (some ⟨bq, oq, none⟩) cq (mranks a b) := by rw [hw]; exact hL.box y00 _
 replace hM : MxAt w8 pm cm M := by rw [hw]; exact hM.box y00 _
 replace hE : CAt w8 pd cd dd := by rw [hw]; exact hE.box y00 _
 replace j0 : w8.cell? ⟨bq, oq + K, none⟩ = some (.int .i64 r) := by rw [hw]; exact (keep_far j0 (by first | omega | (dsimp only; omega)))
 replace hbw : Below w.heap.size w w8 := by rw [hw]; exact (Below.setCell hbw (by have h := HS.out; (try dsimp only); omega) _)
 replace zz : s + 6 ≤ w8.heap.size := by rw [hw]; simpa using zz
 clear hw
 clear y00 y00f y50 y50f y51 y51f y10 y10f y11 y11f y20 y20f y21 y21f y30 y30f y40 y40f y41 y41f
 clear e0
 obtain ⟨M2, hM2⟩ : ∃ m, put M r x = m := ⟨_, rfl⟩
 have HM2 := Lib.hid hM2; clear hM2
 refine wp_region_seqE (fun x => Below w8.heap.size w8 x) (.one 0 0 (.one 1 1 (.one 2 1 (.one 3 1 (.one 4 0 (.one 5 1 (.alt 6 3 (.alt 7 3 .nil .stop) .stop))))))) (by kernel_rfl) (by kernel_rfl) (by kernel_rfl) (Below.drew (Below.refl _ _)) ?_
 iterate 6 ((first | (refine seqE_free (v := ?_) rfl (by rfl) ?_ ?_; rotate_left; (focus (intro w; go_simp; try with_reducible rfl))) | (refine seqE_pure (v := ?_) rfl (by rfl) ?_ ?_; rotate_left; (focus (intro w hS; obtain ⟨-, ⟨y50, -⟩, ⟨y51, -⟩, -⟩ := hs.up hS; have j0 := zD hS j0; go_simp; try with_reducible rfl)))); (try simp only [Act.put, zA, zB, zC]))
 refine seqE_callB (f := ?_) (args := ?_) rfl (by rfl) ?_ ?_ seqE_stop
 rotate_left 2
 focus (intro w hS; go_simp; first | done | with_reducible rfl | (refine ⟨?_, ?_⟩ <;> with_reducible rfl))
 intro w1 hS
 refine (with_is (hM.up hS) (by omega) HM2.out).mono ?_
 rintro e v1 ⟨pn, cn, rfl, hN, hbl, frN⟩
 refine ⟨_, rfl, (fun x => Below v1.heap.size v1 x), Below.refl _ _, ?_⟩
 have hXw := Nat.le_trans zz hS.size
 have hX := btr hS hbl; replace j0 := zD hX j0
 replace hs := hs.up hX; replace hk := hk.up hX; replace hL := hL.up hX; replace hM := hM.up hX; replace hE := hE.mono hX; replace hbw := btr hbw hX; replace zz := Nat.le_trans zz (Below.size hX)
 have oN : Off s 6 pn := Off.fresh frN oM hXw
 have FN := Lib.hid (Fresh.trans FM.out frN (by have h := HS.out; have h2 := hXw; omega))
 clear frN
 clear hX hS hbl hXw
 (try simp only [Act.put, zA, zB, zC])
 refine seqE_storeB rfl (by rfl) ?_ seqE_stop
 intro w2 hS; replace j0 := zD hS j0
 replace hs := hs.up hS; replace hk := hk.up hS; replace hL := hL.up hS; replace hM := hM.up hS; replace hE := hE.mono hS; replace hN := hN.up hS; replace hbw := btr hbw hS; replace zz := Nat.le_trans zz (Below.size hS)
 obtain ⟨⟨y00, y00f⟩, ⟨y50, y50f⟩, ⟨y51, y51f⟩, -⟩ := id hs
 obtain ⟨⟨y10, y10f⟩, ⟨y11, y11f⟩, ⟨y20, y20f⟩, ⟨y21, y21f⟩, ⟨y30, y30f⟩, ⟨y40, y40f⟩, ⟨y41, y41f⟩, -⟩ := id hk
 refine ⟨((w2.setCell ⟨s + 5, 0, none⟩ (.int .i64 ar1)).setCell ⟨s + 5, 1, none⟩ (.slice pn M2.length cn)), (by go_simp; try with_reducible rfl), (fun x => Below (((w2.setCell ⟨s + 5, 0, none⟩ (.int .i64 ar1)).setCell ⟨s + 5, 1, none⟩ (.slice pn M2.length cn))).heap.size (((w2.setCell ⟨s + 5, 0, none⟩ (.int .i64 ar1)).setCell ⟨s + 5, 1, none⟩ (.slice pn M2.length cn))) x), Below.refl _ _, ?_⟩
 obtain ⟨v2, hw⟩ : ∃ zW, zW = ((w2.setCell ⟨s + 5, 0, none⟩ (.int .i64 ar1)).setCell ⟨s + 5, 1, none⟩ (.slice pn M2.length cn)) := ⟨_, rfl⟩
 rw [← hw]
 replace hs : Cells v2 [(s, 0, .slice pd dd.length cd), (s + 5, 0, .int .i64 ar1), (s + 5, 1, .slice pn M2.length cn)] := by rw [hw]; exact ⟨⟨by go_cell, (fz (fz y00f))⟩, ⟨by go_cell, (fz (fz y50f))⟩, ⟨by go_cell, (fz (fz y51f))⟩, trivial⟩
 replace hk : Cells v2 [(s + 1, 0, .int .i64 ar1), (s + 1, 1, .slice pa a.length ca), (s + 2, 0, .int .i64 ar2), (s + 2, 1, .slice pb b.length cb), (s + 3, 0, .slice none 0 0), (s + 4, 0, .int .i64 0), (s + 4, 1, .slice none 0 0)] := by rw [hw]; exact ((hk.far (by simp <;> omega)).far (by simp <;> omega))
 replace hL : SI v2 (some ⟨bq, oq, none⟩) cq (mranks a b) := by rw [hw]; exact ((hL.set (oL.ne (by omega) (by omega)) _).set (oL.ne (by omega) (by omega)) _)
 replace hM : MxAt v2 pm cm M := by rw [hw]; exact ((hM.set (oM.ne (by omega) (by omega)) _).set (oM.ne (by omega) (by omega)) _)
 replace hE : CAt v2 pd cd dd := by rw [hw]; exact ((hE.set (oE.ne (by omega) (by omega)) _).set (oE.ne (by omega) (by omega)) _)
 replace hN : MxAt v2 pn cn M2 := by rw [hw]; exact ((hN.set (oN.ne (by omega) (by omega)) _).set (oN.ne (by omega) (by omega)) _)
 replace j0 : v2.cell? ⟨bq, oq + K, none⟩ = some (.int .i64 r) := by rw [hw]; exact (keep_far (keep_far j0 (by first | omega | (dsimp only; omega))) (by first | omega | (dsimp only; omega)))
 replace hbw : Below w.heap.size w v2 := by rw [hw]; exact (Below.setCell (Below.setCell hbw (by have h := HS.out; (try dsimp only); omega) _) (by have h := HS.out; (try dsimp only); omega) _)
 replace zz : s + 6 ≤ v2.heap.size := by rw [hw]; simpa using zz
 clear hw
 clear y00 y00f y50 y50f y51 y51f y10 y10f y11 y11f y20 y20f y21 y21f y30 y30f y40 y40f y41 y41f
 clear hS
 (try simp only [Act.put, zA, zB, zC])
 refine seqE_nil ?_
 intro wz hS; replace j0 := zD hS j0
 replace hs := hs.up hS; replace hk := hk.up hS; replace hL := hL.up hS; replace hM := hM.up hS; replace hE := hE.mono hS; replace hN := hN.up hS; replace hbw := btr hbw hS; replace zz := Nat.le_trans zz (Below.size hS); clear hS
 go_wp2_with fail
 go_roundg ((mranks a b).length - (K + 1))
 case measure => (have := HN.out; omega)
 case rel => exact ⟨K + 1, dd, M2, pd, cd, pn, cn, by go_num, by omega, rfl, by rw [zrun_take (d := dd) (y := x) HT.out HR.out (by show cor C (mat a r) (mat b r) = _; rw [HP.out, HQ.out]; exact HOP.out)]; exact congrArg (Prod.mk dd) HM2.out, oE, oN, FE.out, FN.out, hs, hk, hL, hE, hN, hbw, zz⟩
set_option maxRecDepth 100000 in
set_option maxHeartbeats 4000000 in
theorem rinter_any (c : List Gate) (a b : List Cell) (ar1 ar2 : Int) (p pa pb : Option Addr) (cap ca cb : Nat) (w : World) (hC : CAt w p cap c) (hA : MxAt w pa ca a) (hD : MxAt w pb cb b)
 (ra : ∀ x ∈ a, x.ref ≤ 100000) (rb : ∀ x ∈ b, x.ref ≤ 100000) (hl : c.length + (a.length + b.length) ≤ 20000) (hc0 : 0 < c.length) :
 Calls Try.prog 51 #[.agg #[.slice p c.length cap], .agg #[.int .i64 ar1, .slice pa a.length ca], .agg #[.int .i64 ar2, .slice pb b.length cb]] w (RetCMF w p none (zrun cand (itri a b) (c, [])).1 ar1 (zrun cand (itri a b) (c, [])).2) := by
 obtain ⟨s, hs0⟩ : ∃ s, w.heap.size = s := ⟨_, rfl⟩
 obtain ⟨W2, hW2⟩ : ∃ W2, W2 = ((((((w.alloc (.cells #[.slice p c.length cap] 27)).alloc (.cells #[.int .i64 ar1, .slice pa a.length ca] 30)).alloc (.cells #[.int .i64 ar2, .slice pb b.length cb] 30)).alloc (.cells #[.slice none 0 0] 27)).alloc (.cells #[.int .i64 0, .slice none 0 0] 30)).alloc (.cells #[.int .i64 ar1, .slice none 0 0] 30)) := ⟨_, rfl⟩
 have hbw : Below w.heap.size w W2 := by rw [hW2]; go_grown
 have zz : s + 6 ≤ W2.heap.size := by rw [hW2, ← hs0]; simp
 have hs : Cells W2 [(s, 0, .slice p c.length cap), (s + 5, 0, .int .i64 ar1), (s + 5, 1, .slice none 0 0)] := by rw [hW2, ← hs0]; exact ⟨⟨by go_cell, by go_cell⟩, ⟨by go_cell, by go_cell⟩, ⟨by go_cell, by go_cell⟩, trivial⟩
 have hk : Cells W2 [(s + 1, 0, .int .i64 ar1), (s + 1, 1, .slice pa a.length ca), (s + 2, 0, .int .i64 ar2), (s + 2, 1, .slice pb b.length cb), (s + 3, 0, .slice none 0 0), (s + 4, 0, .int .i64 0), (s + 4, 1, .slice none 0 0)] := by rw [hW2, ← hs0]; exact ⟨⟨by go_cell, by go_cell⟩, ⟨by go_cell, by go_cell⟩, ⟨by go_cell, by go_cell⟩, ⟨by go_cell, by go_cell⟩, ⟨by go_cell, by go_cell⟩, ⟨by go_cell, by go_cell⟩, ⟨by go_cell, by go_cell⟩, trivial⟩
 have HW2 := Lib.hid hW2; have HS := Lib.hid hs0
 clear hW2 hs0
 have oC : Off s 6 p := Off.old (by rw [← HS.out]; exact hC.lt hc0)
 have HA := Lib.hid hA; have HD := Lib.hid hD; have RA := Lib.hid ra; have RB := Lib.hid rb; clear hA hD ra rb
 replace hC : CAt W2 p cap c := hC.mono hbw
 have hM : MxAt W2 none 0 [] := MxAt.nil _
 go_enter Try.func51, Try.ntmps51
 go_upto_region 2 with fail
 rw [← HW2.out]
 simp only [HS.out, Nat.add_assoc, Nat.reduceAdd]
 obtain ⟨⟨y00, y00f⟩, ⟨y50, y50f⟩, ⟨y51, y51f⟩, -⟩ := id hs
 obtain ⟨⟨y10, y10f⟩, ⟨y11, y11f⟩, ⟨y20, y20f⟩, ⟨y21, y21f⟩, ⟨y30, y30f⟩, ⟨y40, y40f⟩, ⟨y41, y41f⟩, -⟩ := id hk
 go_wp2_with fail
 go_loopg [9] a.length (fun N s9 wr => ∃ K : Nat, ∃ C : List Gate, ∃ M : List Cell, ∃ pc : Option Addr, ∃ cc : Nat, ∃ pm : Option Addr, ∃ cm : Nat, s9 = .int .i64 K ∧ K ≤ a.length ∧ N = a.length - K ∧ zrun cand ((itri a b).take K) (c, []) = (C, M) ∧ Off s 6 pc ∧ Off s 6 pm ∧ Fresh w p pc ∧ Fresh w none pm ∧ Cells wr [(s, 0, .slice pc C.length cc), (s + 5, 0, .int .i64 ar1), (s + 5, 1, .slice pm M.length cm)] ∧ Cells wr [(s + 1, 0, .int .i64 ar1), (s + 1, 1, .slice pa a.length ca), (s + 2, 0, .int .i64 ar2), (s + 2, 1, .slice pb b.length cb), (s + 3, 0, .slice none 0 0), (s + 4, 0, .int .i64 0), (s + 4, 1, .slice none 0 0)] ∧ CAt wr pc cc C ∧ MxAt wr pm cm M ∧ Below w.heap.size w wr ∧ s + 6 ≤ wr.heap.size)
 case atStart => exact ⟨0, c, [], p, cap, none, 0, rfl, by omega, rfl, rfl, oC, Off.none _ _, .inl rfl, .inl rfl, hs, hk, hC, hM, hbw, zz⟩
 obtain ⟨K, C, M, pc, cc, pm, cm, rfl, hK, hN, hrun, oC, oM, frC, frM, hs, hk, hC, hM, hbw, zz⟩ := hrel
 obtain ⟨hCl, hMl⟩ := zrun_lens cand_len hrun
 have HN := Lib.hid hN; have HR := Lib.hid hrun; have FC := Lib.hid frC; have FM := Lib.hid frM; clear hN hrun frC frM
 by_cases hlt : K < a.length
 case neg =>
  obtain rfl : K = a.length := by omega
  have HF := Lib.hid (show zrun cand (itri a b) (c, []) = (C, M) by have := HR.out; rw [List.take_of_length_le (by rw [itri_len]; exact Nat.le_refl _)] at this; exact this)
  clear y00 y00f y50 y50f y51 y51f y10 y10f y11 y11f y20 y20f y21 y21f y30 y30f y40 y40f y41 y41f
  obtain ⟨⟨y00, y00f⟩, ⟨y50, y50f⟩, ⟨y51, y51f⟩, -⟩ := id hs
  obtain ⟨⟨y10, y10f⟩, ⟨y11, y11f⟩, ⟨y20, y20f⟩, ⟨y21, y21f⟩, ⟨y30, y30f⟩, ⟨y40, y40f⟩, ⟨y41, y41f⟩, -⟩ := id hk
  go_upto_region 8 with fail
  go_region
  go_wp2_with fail
  obtain ⟨W9, hW9⟩ : ∃ W9, W9 = (((wr.setCell ⟨s + 3, 0, none⟩ (.slice pc C.length cc)).setCell ⟨s + 4, 0, none⟩ (.int .i64 (ar1))).setCell ⟨s + 4, 1, none⟩ (.slice pm M.length cm)).drew := ⟨_, rfl⟩
  rw [← hW9]
  have e0 : W9.cell? ⟨s + 3, 0, none⟩ = some (.slice pc C.length cc) := by rw [hW9]; go_cell
  have e1 : W9.cell? ⟨s + 4, 0, none⟩ = some (.int .i64 (ar1)) := by rw [hW9]; go_cell
  have e2 : W9.cell? ⟨s + 4, 1, none⟩ = some (.slice pm M.length cm) := by rw [hW9]; go_cell
  replace hC : CAt W9 pc cc C := by rw [hW9]; exact (((hC.set (oC.ne (by omega) (by omega)) _).set (oC.ne (by omega) (by omega)) _).set (oC.ne (by omega) (by omega)) _).mono (Below.drew (Below.refl _ _))
  replace hM : MxAt W9 pm cm M := by rw [hW9]; exact (((hM.set (oM.ne (by omega) (by omega)) _).set (oM.ne (by omega) (by omega)) _).set (oM.ne (by omega) (by omega)) _).up (Below.drew (Below.refl _ _))
  have B9 : Below w.heap.size w W9 := by
   rw [hW9]
   refine Below.drew ?_
   iterate 3 refine Below.setCell ?_ (by have h := HS.out; (try dsimp only); omega) _
   exact hbw
  clear hW9
  rw [HF.out]
  refine bodyPost_ret (by simp [results, Try.results51, go_sem, e0, e1, e2]; try rfl) rfl ?_
  exact ⟨_, _, _, _, rfl, hC, hM, B9, FC.out, FM.out⟩
 have hlt0 : (0 : Int) ≤ (K : Int) := by omega
 have hlt1 : (K : Int) < (a.length : Int) := by omega
 obtain ⟨z, hr⟩ : ∃ z, a[K]? = some z := ⟨_, List.getElem?_eq_getElem hlt⟩
 obtain ⟨r, P⟩ := z
 have hp1 : P ≤ 100000 := RA.out _ (List.mem_of_getElem? hr)
 obtain ⟨bq, oq, rfl, hbq, j0, j1⟩ := cell_cells (HA.out.up hbw).at' hr
 dsimp only at j0 j1
 have HT := Lib.hid (itri_get (b := b) hr)
 have hq1 := mat_le RB.out r
 obtain ⟨Q, hQ⟩ : ∃ Q, mat b r = Q := ⟨_, rfl⟩
 rw [hQ] at hq1
 have HQ := Lib.hid hQ
 have hbo : bq < s := by have := HA.out.lt _ rfl; have := HS.out; dsimp only at *; omega
 clear hr hQ
 obtain ⟨dd, x, hop⟩ : ∃ dd x, cand C P Q = (dd, x) := ⟨_, _, rfl⟩
 have HOP := Lib.hid hop; clear hop
 clear y00 y00f y50 y50f y51 y51f y10 y10f y11 y11f y20 y20f y21 y21f y30 y30f y40 y40f y41 y41f
 obtain ⟨⟨y00, y00f⟩, ⟨y50, y50f⟩, ⟨y51, y51f⟩, -⟩ := id hs
 obtain ⟨⟨y10, y10f⟩, ⟨y11, y11f⟩, ⟨y20, y20f⟩, ⟨y21, y21f⟩, ⟨y30, y30f⟩, ⟨y40, y40f⟩, ⟨y41, y41f⟩, -⟩ := id hk
 go_upto_region 5 with fail
 go_cut [10, 11] from 22 to 40 (fun s10 s11 wx => ∃ (bd : Nat) (pd : Option Addr) (cd : Nat), s10 = .pointer (some ⟨bd, 0, none⟩) ∧ s11 = .int .i64 x ∧ wx.cell? ⟨bd, 0, none⟩ = some (.slice pd dd.length cd) ∧ CAt wx pd cd dd ∧ Off s 6 pd ∧ Fresh w p pd ∧ Below wr.heap.size wr wx)
 case first =>
  as_aux_lemma =>
   have hacc : Below wr.heap.size wr wr := Below.refl _ _
   clear y00 y00f y50 y50f y51 y51f y10 y10f y11 y11f y20 y20f y21 y21f y30 y30f y40 y40f y41 y41f
   obtain ⟨⟨y00, y00f⟩, -, -, -⟩ := hs
   have hs : Cells wr [(s, 0, .slice pc C.length cc)] := ⟨⟨y00, y00f⟩, trivial⟩
   clear y00 y00f
   refine wp_region_seqE (fun x => Below wr.heap.size wr x) (.one 0 0 (.one 1 1 (.one 2 0 (.one 3 1 (.one 4 1 (.one 5 1 (.one 6 0 (.one 7 0 (.one 8 1 (.one 9 0 (.one 10 1 (.one 11 1 (.one 12 1 (.one 13 0 (.alt 14 2 (.alt 15 3 (.one 16 1 (.one 17 1 (.one 18 1 (.alt 19 2 (.alt 20 3 (.one 21 1 .nil) .stop) .stop)))) (.alt 19 2 (.alt 15 3 (.one 16 1 (.one 17 1 (.one 18 1 (.alt 20 3 (.one 21 1 .nil) .stop)))) .stop) .stop)) (.alt 19 2 (.alt 14 2 (.alt 15 3 (.one 16 1 (.one 17 1 (.one 18 1 (.alt 20 3 (.one 21 1 .nil) .stop)))) .stop) .stop) .stop)))))))))))))))) (by kernel_rfl) (by kernel_rfl) (by kernel_rfl) (Below.drew (Below.refl _ _)) ?_
   iterate 14 ((first | (refine seqE_free (v := ?_) rfl (by rfl) ?_ ?_; rotate_left; (focus (intro w; go_simp; try with_reducible rfl))) | (refine seqE_pure (v := ?_) rfl (by rfl) ?_ ?_; rotate_left; (focus (intro w hS; obtain ⟨⟨y00, -⟩, -⟩ := hs.up hS; obtain ⟨-, ⟨y11, -⟩, ⟨y20, -⟩, ⟨y21, -⟩, -⟩ := hk.up hS; have j0 := zD hS j0; have j1 := zD hS j1; go_simp; try with_reducible rfl)))); (try simp only [Act.put, zA, zB, zC]))
   clear hs
   clear hk
   clear j0 j1
   refine seqE_keep (v := .int .i64 Q) (f := ?_) (args := ?_) rfl (by rfl) ?_ ?_ ?_ ?_
   rotate_left 2
   focus (intro w hS; go_simp; first | done | with_reducible rfl | (refine ⟨?_, ?_⟩ <;> with_reducible rfl))
   focus (intro w hS; refine (at_is (HD.out.up (btr hbw hS)) (by omega) HQ.out).mono ?_; rintro e w2 ⟨rfl, hbl⟩; exact ⟨rfl, btr hS hbl⟩)
   ·
    (try simp only [Act.put, zA, zB, zC])
    refine seqE_callB (f := ?_) (args := ?_) rfl (by rfl) ?_ ?_ ?_
    rotate_left 2
    focus (intro w hS; go_simp; first | done | with_reducible rfl | (refine ⟨?_, ?_⟩ <;> with_reducible rfl))
    ·
     intro w2 hS
     refine (rand_fr (hC.mono hS) (by omega) (by omega) (by omega) HOP.out).mono ?_
     rintro e v2 ⟨pd, cd, rfl, hE, hbl, frE⟩
     refine ⟨_, rfl, (fun x => Below v2.heap.size v2 x), Below.refl _ _, ?_⟩
     have hXw := Nat.le_trans zz hS.size; have hXa := Nat.le_trans hacc.size hS.size
     have hX := btr hS hbl
     replace hC := hC.mono hX; replace hbw := btr hbw hX; replace zz := Nat.le_trans zz (Below.size hX); replace hacc := btr hacc hX
     have oE : Off s 6 pd := Off.fresh frE oC hXw
     have FE := Lib.hid (Fresh.trans FC.out frE (by have h := HS.out; have h2 := hXw; omega))
     clear frE
     clear hX hS hbl hXw hXa
     (try simp only [Act.put, zA, zB, zC])
     iterate 3 (refine seqE_free (v := ?_) rfl (by rfl) ?_ ?_; rotate_left; (focus (intro w; go_simp; try with_reducible rfl)); (try simp only [Act.put, zA, zB, zC]))
     refine seqE_move rfl (by rfl) ?_ seqE_stop
     intro w3 hS
     refine ⟨.pointer (some ⟨w3.heap.size, 0, none⟩), w3.alloc (.cells #[.slice none 0 0] 27), (by go_simp; try with_reducible rfl), ?_⟩
     obtain ⟨b10, hb10⟩ : ∃ b, b = w3.heap.size := ⟨_, rfl⟩
     obtain ⟨v3, hw3⟩ : ∃ zW, zW = w3.alloc (.cells #[.slice none 0 0] 27) := ⟨_, rfl⟩
     rw [← hw3, ← hb10]
     have hbl : Below w3.heap.size w3 v3 := by rw [hw3]; go_grown
     have hge10 : s + 6 ≤ b10 := by rw [hb10]; exact Nat.le_trans zz hS.size
     have hga10 : wr.heap.size ≤ b10 := by rw [hb10]; exact Nat.le_trans hacc.size hS.size
     refine ⟨(fun x => Below v3.heap.size v3 x), Below.refl _ _, fun x hx => btr (btr hS hbl) hx, ?_⟩
     have hX := btr hS hbl
     replace hC := hC.mono hX; replace hE := hE.mono hX; replace hbw := btr hbw hX; replace zz := Nat.le_trans zz (Below.size hX); replace hacc := btr hacc hX
     have hs : Cells v3 [(b10, 0, .slice none 0 0)] := ⟨⟨by rw [hw3, hb10]; go_cell, by rw [hw3, hb10]; go_cell⟩, trivial⟩
     clear hX hS hbl hw3 hb10
     (try simp only [Act.put, zA, zB, zC])
     refine seqE_storeB rfl (by rfl) ?_ seqE_stop
     intro w4 hS
     replace hs := hs.up hS; replace hC := hC.mono hS; replace hE := hE.mono hS; replace hbw := btr hbw hS; replace zz := Nat.le_trans zz (Below.size hS); replace hacc := btr hacc hS
     obtain ⟨⟨d100, d100f⟩, -⟩ := id hs
     refine ⟨(w4.setCell ⟨b10, 0, none⟩ (.slice pd dd.length cd)), (by go_simp; try with_reducible rfl), (fun x => Below ((w4.setCell ⟨b10, 0, none⟩ (.slice pd dd.length cd))).heap.size ((w4.setCell ⟨b10, 0, none⟩ (.slice pd dd.length cd))) x), Below.refl _ _, ?_⟩
     obtain ⟨v4, hw⟩ : ∃ zW, zW = (w4.setCell ⟨b10, 0, none⟩ (.slice pd dd.length cd)) := ⟨_, rfl⟩
     rw [← hw]
     replace hs : Cells v4 [(b10, 0, .slice pd dd.length cd)] := by rw [hw]; exact ⟨⟨by go_cell, (fz d100f)⟩, trivial⟩
     replace hC : CAt v4 pc cc C := by rw [hw]; exact hC.box d100 _
     replace hE : CAt v4 pd cd dd := by rw [hw]; exact hE.box d100 _
     replace hbw : Below w.heap.size w v4 := by rw [hw]; exact (Below.setCell hbw (by have h := HS.out; (try dsimp only); omega) _)
     replace hacc : Below wr.heap.size wr v4 := by rw [hw]; exact (Below.setCell hacc (by have h := HS.out; (try dsimp only); omega) _)
     replace zz : s + 6 ≤ v4.heap.size := by rw [hw]; simpa using zz
     clear hw
     clear d100 d100f
     clear hS
     (try simp only [Act.put, zA, zB, zC])
     iterate 1 (refine seqE_free (v := ?_) rfl (by rfl) ?_ ?_; rotate_left; (focus (intro w; go_simp; try with_reducible rfl)); (try simp only [Act.put, zA, zB, zC]))
     refine seqE_nil ?_
     intro wz hS
     replace hs := hs.up hS; replace hC := hC.mono hS; replace hE := hE.mono hS; replace hbw := btr hbw hS; replace zz := Nat.le_trans zz (Below.size hS); replace hacc := btr hacc hS; clear hS
     obtain ⟨⟨d100, d100f⟩, -⟩ := id hs
     go_wp2_with fail
     go_meet
     exact ⟨_, _, _, rfl, rfl, d100, hE, oE, FE.out, hacc⟩
    refine seqE_move rfl (by rfl) ?_ seqE_stop
    intro w5 hS
    refine ⟨.pointer (some ⟨w5.heap.size, 0, none⟩), w5.alloc (.cells #[.slice none 0 0] 27), (by go_simp; try with_reducible rfl), ?_⟩
    obtain ⟨b10, hb10⟩ : ∃ b, b = w5.heap.size := ⟨_, rfl⟩
    obtain ⟨v5, hw5⟩ : ∃ zW, zW = w5.alloc (.cells #[.slice none 0 0] 27) := ⟨_, rfl⟩
    rw [← hw5, ← hb10]
    have hbl : Below w5.heap.size w5 v5 := by rw [hw5]; go_grown
    have hge10 : s + 6 ≤ b10 := by rw [hb10]; exact Nat.le_trans zz hS.size
    have hga10 : wr.heap.size ≤ b10 := by rw [hb10]; exact Nat.le_trans hacc.size hS.size
    refine ⟨(fun x => Below v5.heap.size v5 x), Below.refl _ _, fun x hx => btr (btr hS hbl) hx, ?_⟩
    have hX := btr hS hbl
    replace hC := hC.mono hX; replace hbw := btr hbw hX; replace zz := Nat.le_trans zz (Below.size hX); replace hacc := btr hacc hX
    have hs : Cells v5 [(b10, 0, .slice none 0 0)] := ⟨⟨by rw [hw5, hb10]; go_cell, by rw [hw5, hb10]; go_cell⟩, trivial⟩
    clear hX hS hbl hw5 hb10
    (try simp only [Act.put, zA, zB, zC])
    refine seqE_callB (f := ?_) (args := ?_) rfl (by rfl) ?_ ?_ seqE_stop
    rotate_left 2
    focus (intro w hS; go_simp; first | done | with_reducible rfl | (refine ⟨?_, ?_⟩ <;> with_reducible rfl))
    intro w6 hS
    refine (rand_fr (hC.mono hS) (by omega) (by omega) (by omega) HOP.out).mono ?_
    rintro e v6 ⟨pd, cd, rfl, hE, hbl, frE⟩
    refine ⟨_, rfl, (fun x => Below v6.heap.size v6 x), Below.refl _ _, ?_⟩
    have hXw := Nat.le_trans zz hS.size; have hXa := Nat.le_trans hacc.size hS.size
    have hX := btr hS hbl
    replace hs := hs.up hX; replace hC := hC.mono hX; replace hbw := btr hbw hX; replace zz := Nat.le_trans zz (Below.size hX); replace hacc := btr hacc hX
    have oE : Off s 6 pd := Off.fresh frE oC hXw
    have FE := Lib.hid (Fresh.trans FC.out frE (by have h := HS.out; have h2 := hXw; omega))
    clear frE
    clear hX hS hbl hXw hXa
    (try simp only [Act.put, zA, zB, zC])
    iterate 3 (refine seqE_free (v := ?_) rfl (by rfl) ?_ ?_; rotate_left; (focus (intro w; go_simp; try with_reducible rfl)); (try simp only [Act.put, zA, zB, zC]))
    refine seqE_storeB rfl (by rfl) ?_ seqE_stop
    intro w7 hS
    replace hs := hs.up hS; replace hC := hC.mono hS; replace hE := hE.mono hS; replace hbw := btr hbw hS; replace zz := Nat.le_trans zz (Below.size hS); replace hacc := btr hacc hS
    obtain ⟨⟨d100, d100f⟩, -⟩ := id hs
    refine ⟨(w7.setCell ⟨b10, 0, none⟩ (.slice pd dd.length cd)), (by go_simp; try with_reducible rfl), (fun x => Below ((w7.setCell ⟨b10, 0, none⟩ (.slice pd dd.length cd))).heap.size ((w7.setCell ⟨b10, 0, none⟩ (.slice pd dd.length cd))) x), Below.refl _ _, ?_⟩
    obtain ⟨v7, hw⟩ : ∃ zW, zW = (w7.setCell ⟨b10, 0, none⟩ (.slice pd dd.length cd)) := ⟨_, rfl⟩
    rw [← hw]
    replace hs : Cells v7 [(b10, 0, .slice pd dd.length cd)] := by rw [hw]; exact ⟨⟨by go_cell, (fz d100f)⟩, trivial⟩
    replace hC : CAt v7 pc cc C := by rw [hw]; exact hC.box d100 _
    replace hE : CAt v7 pd cd dd := by rw [hw]; exact hE.box d100 _
    replace hbw : Below w.heap.size w v7 := by rw [hw]; exact (Below.setCell hbw (by have h := HS.out; (try dsimp only); omega) _)
    replace hacc : Below wr.heap.size wr v7 := by rw [hw]; exact (Below.setCell hacc (by have h := HS.out; (try dsimp only); omega) _)
    replace zz : s + 6 ≤ v7.heap.size := by rw [hw]; simpa using zz
    clear hw
    clear d100 d100f
    clear hS
    (try simp only [Act.put, zA, zB, zC])
    iterate 1 (refine seqE_free (v := ?_) rfl (by rfl) ?_ ?_; rotate_left; (focus (intro w; go_simp; try with_reducible rfl)); (try simp only [Act.put, zA, zB, zC]))
    refine seqE_nil ?_
    intro wz hS
    replace hs := hs.up hS; replace hC := hC.mono hS; replace hE := hE.mono hS; replace hbw := btr hbw hS; replace zz := Nat.le_trans zz (Below.size hS); replace hacc := btr hacc hS; clear hS
    obtain ⟨⟨d100, d100f⟩, -⟩ := id hs
    go_wp2_with fail
    go_meet
    exact ⟨_, _, _, rfl, rfl, d100, hE, oE, FE.out, hacc⟩
   refine seqE_move rfl (by rfl) ?_ seqE_stop
   intro w8 hS
   refine ⟨.pointer (some ⟨w8.heap.size, 0, none⟩), w8.alloc (.cells #[.slice none 0 0] 27), (by go_simp; try with_reducible rfl), ?_⟩
   obtain ⟨b10, hb10⟩ : ∃ b, b = w8.heap.size := ⟨_, rfl⟩
   obtain ⟨v8, hw8⟩ : ∃ zW, zW = w8.alloc (.cells #[.slice none 0 0] 27) := ⟨_, rfl⟩
   rw [← hw8, ← hb10]
   have hbl : Below w8.heap.size w8 v8 := by rw [hw8]; go_grown
   have hge10 : s + 6 ≤ b10 := by rw [hb10]; exact Nat.le_trans zz hS.size
   have hga10 : wr.heap.size ≤ b10 := by rw [hb10]; exact Nat.le_trans hacc.size hS.size
   refine ⟨(fun x => Below v8.heap.size v8 x), Below.refl _ _, fun x hx => btr (btr hS hbl) hx, ?_⟩
   have hX := btr hS hbl
   replace hC := hC.mono hX; replace hbw := btr hbw hX; replace zz := Nat.le_trans zz (Below.size hX); replace hacc := btr hacc hX
   have hs : Cells v8 [(b10, 0, .slice none 0 0)] := ⟨⟨by rw [hw8, hb10]; go_cell, by rw [hw8, hb10]; go_cell⟩, trivial⟩
   clear hX hS hbl hw8 hb10
   (try simp only [Act.put, zA, zB, zC])
   refine seqE_keep (v := .int .i64 Q) (f := ?_) (args := ?_) rfl (by rfl) ?_ ?_ ?_ seqE_stop
   rotate_left 2
   focus (intro w hS; go_simp; first | done | with_reducible rfl | (refine ⟨?_, ?_⟩ <;> with_reducible rfl))
   focus (intro w hS; refine (at_is (HD.out.up (btr hbw hS)) (by omega) HQ.out).mono ?_; rintro e w2 ⟨rfl, hbl⟩; exact ⟨rfl, btr hS hbl⟩)
   (try simp only [Act.put, zA, zB, zC])
   refine seqE_callB (f := ?_) (args := ?_) rfl (by rfl) ?_ ?_ seqE_stop
   rotate_left 2
   focus (intro w hS; go_simp; first | done | with_reducible rfl | (refine ⟨?_, ?_⟩ <;> with_reducible rfl))
   intro w10 hS
   refine (rand_fr (hC.mono hS) (by omega) (by omega) (by omega) HOP.out).mono ?_
   rintro e v10 ⟨pd, cd, rfl, hE, hbl, frE⟩
   refine ⟨_, rfl, (fun x => Below v10.heap.size v10 x), Below.refl _ _, ?_⟩
   have hXw := Nat.le_trans zz hS.size; have hXa := Nat.le_trans hacc.size hS.size
   have hX := btr hS hbl
   replace hs := hs.up hX; replace hC := hC.mono hX; replace hbw := btr hbw hX; replace zz := Nat.le_trans zz (Below.size hX); replace hacc := btr hacc hX
   have oE : Off s 6 pd := Off.fresh frE oC hXw
   have FE := Lib.hid (Fresh.trans FC.out frE (by have h := HS.out; have h2 := hXw; omega))
   clear frE
   clear hX hS hbl hXw hXa
   (try simp only [Act.put, zA, zB, zC])
   iterate 3 (refine seqE_free (v := ?_) rfl (by rfl) ?_ ?_; rotate_left; (focus (intro w; go_simp; try with_reducible rfl)); (try simp only [Act.put, zA, zB, zC]))
   refine seqE_storeB rfl (by rfl) ?_ seqE_stop
   intro w11 hS
   replace hs := hs.up hS; replace hC := hC.mono hS; replace hE := hE.mono hS; replace hbw := btr hbw hS; replace zz := Nat.le_trans zz (Below.size hS); replace hacc := btr hacc hS
   obtain ⟨⟨d100, d100f⟩, -⟩ := id hs
   refine ⟨(w11.setCell ⟨b10, 0, none⟩ (.slice pd dd.length cd)), (by go_simp; try with_reducible rfl), (fun x => Below ((w11.setCell ⟨b10, 0, none⟩ (.slice pd dd.length cd))).heap.size ((w11.setCell ⟨b10, 0, none⟩ (.slice pd dd.length cd))) x), Below.refl _ _, ?_⟩
   obtain ⟨v11, hw⟩ : ∃ zW, zW = (w11.setCell ⟨b10, 0, none⟩ (.slice pd dd.length cd)) := ⟨_, rfl⟩
   rw [← hw]
   replace hs : Cells v11 [(b10, 0, .slice pd dd.length cd)] := by rw [hw]; exact ⟨⟨by go_cell, (fz d100f)⟩, trivial⟩
   replace hC : CAt v11 pc cc C := by rw [hw]; exact hC.box d100 _
   replace hE : CAt v11 pd cd dd := by rw [hw]; exact hE.box d100 _
   replace hbw : Below w.heap.size w v11 := by rw [hw]; exact (Below.setCell hbw (by have h := HS.out; (try dsimp only); omega) _)
   replace hacc : Below wr.heap.size wr v11 := by rw [hw]; exact (Below.setCell hacc (by have h := HS.out; (try dsimp only); omega) _)
   replace zz : s + 6 ≤ v11.heap.size := by rw [hw]; simpa using zz
   clear hw
   clear d100 d100f
   clear hS
   (try simp only [Act.put, zA, zB, zC])
   iterate 1 (refine seqE_free (v := ?_) rfl (by rfl) ?_ ?_; rotate_left; (focus (intro w; go_simp; try with_reducible rfl)); (try simp only [Act.put, zA, zB, zC]))
   refine seqE_nil ?_
   intro wz hS
   replace hs := hs.up hS; replace hC := hC.mono hS; replace hE := hE.mono hS; replace hbw := btr hbw hS; replace zz := Nat.le_trans zz (Below.size hS); replace hacc := btr hacc hS; clear hS
   obtain ⟨⟨d100, d100f⟩, -⟩ := id hs
   go_wp2_with fail
   go_meet
   exact ⟨_, _, _, rfl, rfl, d100, hE, oE, FE.out, hacc⟩
 obtain ⟨bd, pd, cd, rfl, rfl, e0, hE, oE, frE, hst⟩ := hcut
 replace hs := hs.up hst; replace hk := hk.up hst; replace hC := hC.mono hst; replace hM := hM.up hst; replace hbw := btr hbw hst; replace zz := Nat.le_trans zz (Below.size hst); replace j0 := zD hst j0; replace j1 := zD hst j1; have FE := Lib.hid frE; clear hst frE
 clear y00 y00f y50 y50f y51 y51f y10 y10f y11 y11f y20 y20f y21 y21f y30 y30f y40 y40f y41 y41f
 obtain ⟨⟨y00, y00f⟩, ⟨y50, y50f⟩, ⟨y51, y51f⟩, -⟩ := id hs
 obtain ⟨⟨y10, y10f⟩, ⟨y11, y11f⟩, ⟨y20, y20f⟩, ⟨y21, y21f⟩, ⟨y30, y30f⟩, ⟨y40, y40f⟩, ⟨y41, y41f⟩, -⟩ := id hk
 go_upto_region 7 with fail
 obtain ⟨w8, hw⟩ : ∃ zW, zW = (wc.setCell ⟨s, 0, none⟩ (.slice pd dd.length cd)) := ⟨_, rfl⟩
 rw [← hw]
 replace hs : Cells w8 [(s, 0, .slice pd dd.length cd), (s + 5, 0, .int .i64 ar1), (s + 5, 1, .slice pm M.length cm)] := by rw [hw]; exact ⟨⟨by go_cell, (fz y00f)⟩, ⟨by go_cell, (fz y50f)⟩, ⟨by go_cell, (fz y51f)⟩, trivial⟩
 replace hk : Cells w8 [(s + 1, 0, .int .i64 ar1), (s + 1, 1, .slice (some ⟨bq, oq, none⟩) a.length ca), (s + 2, 0, .int .i64 ar2), (s + 2, 1, .slice pb b.length cb), (s + 3, 0, .slice none 0 0), (s + 4, 0, .int .i64 0), (s + 4, 1, .slice none 0 0)] := by rw [hw]; exact (hk.far (by simp <;> omega))
 replace hM : MxAt w8 pm cm M := by rw [hw]; exact hM.box y00 _
 replace hE : CAt w8 pd cd dd := by rw [hw]; exact hE.box y00 _
 replace j0 : w8.cell? ⟨bq, oq + K * 2, none⟩ = some (.int .i64 r) := by rw [hw]; exact (keep_far j0 (by first | omega | (dsimp only; omega)))
 replace j1 : w8.cell? ⟨bq, oq + K * 2 + 1, none⟩ = some (.int .i64 P) := by rw [hw]; exact (keep_far j1 (by first | omega | (dsimp only; omega)))
 replace hbw : Below w.heap.size w w8 := by rw [hw]; exact (Below.setCell hbw (by have h := HS.out; (try dsimp only); omega) _)
 replace zz : s + 6 ≤ w8.heap.size := by rw [hw]; simpa using zz
 clear hw
 clear y00 y00f y50 y50f y51 y51f y10 y10f y11 y11f y20 y20f y21 y21f y30 y30f y40 y40f y41 y41f
 clear e0
 obtain ⟨M2, hM2⟩ : ∃ m, put M r x = m := ⟨_, rfl⟩
 have HM2 := Lib.hid hM2; clear hM2
 refine wp_region_seqE (fun x => Below w8.heap.size w8 x) (.one 0 0 (.one 1 1 (.one 2 0 (.one 3 1 (.one 4 1 (.one 5 1 (.one 6 0 (.one 7 1 (.alt 8 3 (.alt 9 3 .nil .stop) .stop))))))))) (by kernel_rfl) (by kernel_rfl) (by kernel_rfl) (Below.drew (Below.refl _ _)) ?_
 iterate 8 ((first | (refine seqE_free (v := ?_) rfl (by rfl) ?_ ?_; rotate_left; (focus (intro w; go_simp; try with_reducible rfl))) | (refine seqE_pure (v := ?_) rfl (by rfl) ?_ ?_; rotate_left; (focus (intro w hS; obtain ⟨-, ⟨y50, -⟩, ⟨y51, -⟩, -⟩ := hs.up hS; obtain ⟨-, ⟨y11, -⟩, -⟩ := hk.up hS; have j0 := zD hS j0; have j1 := zD hS j1; go_simp; try with_reducible rfl)))); (try simp only [Act.put, zA, zB, zC]))
 refine seqE_callB (f := ?_) (args := ?_) rfl (by rfl) ?_ ?_ seqE_stop
 rotate_left 2
 focus (intro w hS; go_simp; first | done | with_reducible rfl | (refine ⟨?_, ?_⟩ <;> with_reducible rfl))
 intro w1 hS
 refine (with_is (hM.up hS) (by omega) HM2.out).mono ?_
 rintro e v1 ⟨pn, cn, rfl, hN, hbl, frN⟩
 refine ⟨_, rfl, (fun x => Below v1.heap.size v1 x), Below.refl _ _, ?_⟩
 have hXw := Nat.le_trans zz hS.size
 have hX := btr hS hbl; replace j0 := zD hX j0; replace j1 := zD hX j1
 replace hs := hs.up hX; replace hk := hk.up hX; replace hM := hM.up hX; replace hE := hE.mono hX; replace hbw := btr hbw hX; replace zz := Nat.le_trans zz (Below.size hX)
 have oN : Off s 6 pn := Off.fresh frN oM hXw
 have FN := Lib.hid (Fresh.trans FM.out frN (by have h := HS.out; have h2 := hXw; omega))
 clear frN
 clear hX hS hbl hXw
 (try simp only [Act.put, zA, zB, zC])
 refine seqE_storeB rfl (by rfl) ?_ seqE_stop
 intro w2 hS; replace j0 := zD hS j0; replace j1 := zD hS j1
 replace hs := hs.up hS; replace hk := hk.up hS; replace hM := hM.up hS; replace hE := hE.mono hS; replace hN := hN.up hS; replace hbw := btr hbw hS; replace zz := Nat.le_trans zz (Below.size hS)
 obtain ⟨⟨y00, y00f⟩, ⟨y50, y50f⟩, ⟨y51, y51f⟩, -⟩ := id hs
 obtain ⟨⟨y10, y10f⟩, ⟨y11, y11f⟩, ⟨y20, y20f⟩, ⟨y21, y21f⟩, ⟨y30, y30f⟩, ⟨y40, y40f⟩, ⟨y41, y41f⟩, -⟩ := id hk
 refine ⟨((w2.setCell ⟨s + 5, 0, none⟩ (.int .i64 ar1)).setCell ⟨s + 5, 1, none⟩ (.slice pn M2.length cn)), (by go_simp; try with_reducible rfl), (fun x => Below (((w2.setCell ⟨s + 5, 0, none⟩ (.int .i64 ar1)).setCell ⟨s + 5, 1, none⟩ (.slice pn M2.length cn))).heap.size (((w2.setCell ⟨s + 5, 0, none⟩ (.int .i64 ar1)).setCell ⟨s + 5, 1, none⟩ (.slice pn M2.length cn))) x), Below.refl _ _, ?_⟩
 obtain ⟨v2, hw⟩ : ∃ zW, zW = ((w2.setCell ⟨s + 5, 0, none⟩ (.int .i64 ar1)).setCell ⟨s + 5, 1, none⟩ (.slice pn M2.length cn)) := ⟨_, rfl⟩
 rw [← hw]
 replace hs : Cells v2 [(s, 0, .slice pd dd.length cd), (s + 5, 0, .int .i64 ar1), (s + 5, 1, .slice pn M2.length cn)] := by rw [hw]; exact ⟨⟨by go_cell, (fz (fz y00f))⟩, ⟨by go_cell, (fz (fz y50f))⟩, ⟨by go_cell, (fz (fz y51f))⟩, trivial⟩
 replace hk : Cells v2 [(s + 1, 0, .int .i64 ar1), (s + 1, 1, .slice (some ⟨bq, oq, none⟩) a.length ca), (s + 2, 0, .int .i64 ar2), (s + 2, 1, .slice pb b.length cb), (s + 3, 0, .slice none 0 0), (s + 4, 0, .int .i64 0), (s + 4, 1, .slice none 0 0)] := by rw [hw]; exact ((hk.far (by simp <;> omega)).far (by simp <;> omega))
 replace hM : MxAt v2 pm cm M := by rw [hw]; exact ((hM.set (oM.ne (by omega) (by omega)) _).set (oM.ne (by omega) (by omega)) _)
 replace hE : CAt v2 pd cd dd := by rw [hw]; exact ((hE.set (oE.ne (by omega) (by omega)) _).set (oE.ne (by omega) (by omega)) _)
 replace hN : MxAt v2 pn cn M2 := by rw [hw]; exact ((hN.set (oN.ne (by omega) (by omega)) _).set (oN.ne (by omega) (by omega)) _)
 replace j0 : v2.cell? ⟨bq, oq + K * 2, none⟩ = some (.int .i64 r) := by rw [hw]; exact (keep_far (keep_far j0 (by first | omega | (dsimp only; omega))) (by first | omega | (dsimp only; omega)))
 replace j1 : v2.cell? ⟨bq, oq + K * 2 + 1, none⟩ = some (.int .i64 P) := by rw [hw]; exact (keep_far (keep_far j1 (by first | omega | (dsimp only; omega))) (by first | omega | (dsimp only; omega)))
 replace hbw : Below w.heap.size w v2 := by rw [hw]; exact (Below.setCell (Below.setCell hbw (by have h := HS.out; (try dsimp only); omega) _) (by have h := HS.out; (try dsimp only); omega) _)
 replace zz : s + 6 ≤ v2.heap.size := by rw [hw]; simpa using zz
 clear hw
 clear y00 y00f y50 y50f y51 y51f y10 y10f y11 y11f y20 y20f y21 y21f y30 y30f y40 y40f y41 y41f
 clear hS
 (try simp only [Act.put, zA, zB, zC])
 refine seqE_nil ?_
 intro wz hS; replace j0 := zD hS j0; replace j1 := zD hS j1
 replace hs := hs.up hS; replace hk := hk.up hS; replace hM := hM.up hS; replace hE := hE.mono hS; replace hN := hN.up hS; replace hbw := btr hbw hS; replace zz := Nat.le_trans zz (Below.size hS); clear hS
 go_wp2_with fail
 go_roundg (a.length - (K + 1))
 case measure => (have := HN.out; omega)
 case rel => exact ⟨K + 1, dd, M2, pd, cd, pn, cn, by go_num, by omega, rfl, by rw [zrun_take (d := dd) (y := x) HT.out HR.out (by show cand C P (mat b r) = _; rw [HQ.out]; exact HOP.out)]; exact congrArg (Prod.mk dd) HM2.out, oE, oN, FE.out, FN.out, hs, hk, hE, hN, hbw, zz⟩
set_option maxRecDepth 100000 in
set_option maxHeartbeats 4000000 in
theorem rdiff_any (c : List Gate) (a b : List Cell) (ar1 ar2 : Int) (p pa pb : Option Addr) (cap ca cb : Nat) (w : World) (hC : CAt w p cap c) (hA : MxAt w pa ca a) (hD : MxAt w pb cb b)
 (ra : ∀ x ∈ a, x.ref ≤ 100000) (rb : ∀ x ∈ b, x.ref ≤ 100000) (hl : c.length + (a.length + b.length) ≤ 20000) (hc0 : 0 < c.length) :
 Calls Try.prog 53 #[.agg #[.slice p c.length cap], .agg #[.int .i64 ar1, .slice pa a.length ca], .agg #[.int .i64 ar2, .slice pb b.length cb]] w (RetCMF w p none (zrun cbut (itri a b) (c, [])).1 ar1 (zrun cbut (itri a b) (c, [])).2) := by
 obtain ⟨s, hs0⟩ : ∃ s, w.heap.size = s := ⟨_, rfl⟩
 obtain ⟨W2, hW2⟩ : ∃ W2, W2 = ((((((w.alloc (.cells #[.slice p c.length cap] 27)).alloc (.cells #[.int .i64 ar1, .slice pa a.length ca] 30)).alloc (.cells #[.int .i64 ar2, .slice pb b.length cb] 30)).alloc (.cells #[.slice none 0 0] 27)).alloc (.cells #[.int .i64 0, .slice none 0 0] 30)).alloc (.cells #[.int .i64 ar1, .slice none 0 0] 30)) := ⟨_, rfl⟩
 have hbw : Below w.heap.size w W2 := by rw [hW2]; go_grown
 have zz : s + 6 ≤ W2.heap.size := by rw [hW2, ← hs0]; simp
 have hs : Cells W2 [(s, 0, .slice p c.length cap), (s + 5, 0, .int .i64 ar1), (s + 5, 1, .slice none 0 0)] := by rw [hW2, ← hs0]; exact ⟨⟨by go_cell, by go_cell⟩, ⟨by go_cell, by go_cell⟩, ⟨by go_cell, by go_cell⟩, trivial⟩
 have hk : Cells W2 [(s + 1, 0, .int .i64 ar1), (s + 1, 1, .slice pa a.length ca), (s + 2, 0, .int .i64 ar2), (s + 2, 1, .slice pb b.length cb), (s + 3, 0, .slice none 0 0), (s + 4, 0, .int .i64 0), (s + 4, 1, .slice none 0 0)] := by rw [hW2, ← hs0]; exact ⟨⟨by go_cell, by go_cell⟩, ⟨by go_cell, by go_cell⟩, ⟨by go_cell, by go_cell⟩, ⟨by go_cell, by go_cell⟩, ⟨by go_cell, by go_cell⟩, ⟨by go_cell, by go_cell⟩, ⟨by go_cell, by go_cell⟩, trivial⟩
 have HW2 := Lib.hid hW2; have HS := Lib.hid hs0
 clear hW2 hs0
 have oC : Off s 6 p := Off.old (by rw [← HS.out]; exact hC.lt hc0)
 have HA := Lib.hid hA; have HD := Lib.hid hD; have RA := Lib.hid ra; have RB := Lib.hid rb; clear hA hD ra rb
 replace hC : CAt W2 p cap c := hC.mono hbw
 have hM : MxAt W2 none 0 [] := MxAt.nil _
 go_enter Try.func53, Try.ntmps53
 go_upto_region 2 with fail
 rw [← HW2.out]
 simp only [HS.out, Nat.add_assoc, Nat.reduceAdd]
 obtain ⟨⟨y00, y00f⟩, ⟨y50, y50f⟩, ⟨y51, y51f⟩, -⟩ := id hs
 obtain ⟨⟨y10, y10f⟩, ⟨y11, y11f⟩, ⟨y20, y20f⟩, ⟨y21, y21f⟩, ⟨y30, y30f⟩, ⟨y40, y40f⟩, ⟨y41, y41f⟩, -⟩ := id hk
 go_wp2_with fail
 go_loopg [9] a.length (fun N s9 wr => ∃ K : Nat, ∃ C : List Gate, ∃ M : List Cell, ∃ pc : Option Addr, ∃ cc : Nat, ∃ pm : Option Addr, ∃ cm : Nat, s9 = .int .i64 K ∧ K ≤ a.length ∧ N = a.length - K ∧ zrun cbut ((itri a b).take K) (c, []) = (C, M) ∧ Off s 6 pc ∧ Off s 6 pm ∧ Fresh w p pc ∧ Fresh w none pm ∧ Cells wr [(s, 0, .slice pc C.length cc), (s + 5, 0, .int .i64 ar1), (s + 5, 1, .slice pm M.length cm)] ∧ Cells wr [(s + 1, 0, .int .i64 ar1), (s + 1, 1, .slice pa a.length ca), (s + 2, 0, .int .i64 ar2), (s + 2, 1, .slice pb b.length cb), (s + 3, 0, .slice none 0 0), (s + 4, 0, .int .i64 0), (s + 4, 1, .slice none 0 0)] ∧ CAt wr pc cc C ∧ MxAt wr pm cm M ∧ Below w.heap.size w wr ∧ s + 6 ≤ wr.heap.size)
 case atStart => exact ⟨0, c, [], p, cap, none, 0, rfl, by omega, rfl, rfl, oC, Off.none _ _, .inl rfl, .inl rfl, hs, hk, hC, hM, hbw, zz⟩
 obtain ⟨K, C, M, pc, cc, pm, cm, rfl, hK, hN, hrun, oC, oM, frC, frM, hs, hk, hC, hM, hbw, zz⟩ := hrel
 obtain ⟨hCl, hMl⟩ := zrun_lens cbut_len hrun
 have HN := Lib.hid hN; have HR := Lib.hid hrun; have FC := Lib.hid frC; have FM := Lib.hid frM; clear hN hrun frC frM
 by_cases hlt : K < a.length
 case neg =>
  obtain rfl : K = a.length := by omega
  have HF := Lib.hid (show zrun cbut (itri a b) (c, []) = (C, M) by have := HR.out; rw [List.take_of_length_le (by rw [itri_len]; exact Nat.le_refl _)] at this; exact this)
  clear y00 y00f y50 y50f y51 y51f y10 y10f y11 y11f y20 y20f y21 y21f y30 y30f y40 y40f y41 y41f
  obtain ⟨⟨y00, y00f⟩, ⟨y50, y50f⟩, ⟨y51, y51f⟩, -⟩ := id hs
  obtain ⟨⟨y10, y10f⟩, ⟨y11, y11f⟩, ⟨y20, y20f⟩, ⟨y21, y21f⟩, ⟨y30, y30f⟩, ⟨y40, y40f⟩, ⟨y41, y41f⟩, -⟩ := id hk
  go_upto_region 8 with fail
  go_region
  go_wp2_with fail
  obtain ⟨W9, hW9⟩ : ∃ W9, W9 = (((wr.setCell ⟨s + 3, 0, none⟩ (.slice pc C.length cc)).setCell ⟨s + 4, 0, none⟩ (.int .i64 (ar1))).setCell ⟨s + 4, 1, none⟩ (.slice pm M.length cm)).drew := ⟨_, rfl⟩
  rw [← hW9]
  have e0 : W9.cell? ⟨s + 3, 0, none⟩ = some (.slice pc C.length cc) := by rw [hW9]; go_cell
  have e1 : W9.cell? ⟨s + 4, 0, none⟩ = some (.int .i64 (ar1)) := by rw [hW9]; go_cell
  have e2 : W9.cell? ⟨s + 4, 1, none⟩ = some (.slice pm M.length cm) := by rw [hW9]; go_cell
  replace hC : CAt W9 pc cc C := by rw [hW9]; exact (((hC.set (oC.ne (by omega) (by omega)) _).set (oC.ne (by omega) (by omega)) _).set (oC.ne (by omega) (by omega)) _).mono (Below.drew (Below.refl _ _))
  replace hM : MxAt W9 pm cm M := by rw [hW9]; exact (((hM.set (oM.ne (by omega) (by omega)) _).set (oM.ne (by omega) (by omega)) _).set (oM.ne (by omega) (by omega)) _).up (Below.drew (Below.refl _ _))
  have B9 : Below w.heap.size w W9 := by
   rw [hW9]
   refine Below.drew ?_
   iterate 3 refine Below.setCell ?_ (by have h := HS.out; (try dsimp only); omega) _
   exact hbw
  clear hW9
  rw [HF.out]
  refine bodyPost_ret (by simp [results, Try.results53, go_sem, e0, e1, e2]; try rfl) rfl ?_
  exact ⟨_, _, _, _, rfl, hC, hM, B9, FC.out, FM.out⟩
 have hlt0 : (0 : Int) ≤ (K : Int) := by omega
 have hlt1 : (K : Int) < (a.length : Int) := by omega
 obtain ⟨z, hr⟩ : ∃ z, a[K]? = some z := ⟨_, List.getElem?_eq_getElem hlt⟩
 obtain ⟨r, P⟩ := z
 have hp1 : P ≤ 100000 := RA.out _ (List.mem_of_getElem? hr)
 obtain ⟨bq, oq, rfl, hbq, j0, j1⟩ := cell_cells (HA.out.up hbw).at' hr
 dsimp only at j0 j1
 have HT := Lib.hid (itri_get (b := b) hr)
 have hq1 := mat_le RB.out r
 obtain ⟨Q, hQ⟩ : ∃ Q, mat b r = Q := ⟨_, rfl⟩
 rw [hQ] at hq1
 have HQ := Lib.hid hQ
 have hbo : bq < s := by have := HA.out.lt _ rfl; have := HS.out; dsimp only at *; omega
 clear hr hQ
 obtain ⟨dd, x, hop⟩ : ∃ dd x, cbut C P Q = (dd, x) := ⟨_, _, rfl⟩
 have HOP := Lib.hid hop; clear hop
 have hn1 : cnot Q ≤ 9223372036854775807 := by unfold cnot; split <;> (try split) <;> omega
 clear y00 y00f y50 y50f y51 y51f y10 y10f y11 y11f y20 y20f y21 y21f y30 y30f y40 y40f y41 y41f
 obtain ⟨⟨y00, y00f⟩, ⟨y50, y50f⟩, ⟨y51, y51f⟩, -⟩ := id hs
 obtain ⟨⟨y10, y10f⟩, ⟨y11, y11f⟩, ⟨y20, y20f⟩, ⟨y21, y21f⟩, ⟨y30, y30f⟩, ⟨y40, y40f⟩, ⟨y41, y41f⟩, -⟩ := id hk
 go_upto_region 5 with fail
 go_cut [10, 11] from 22 to 41 (fun s10 s11 wx => ∃ (bd : Nat) (pd : Option Addr) (cd : Nat), s10 = .pointer (some ⟨bd, 0, none⟩) ∧ s11 = .int .i64 x ∧ wx.cell? ⟨bd, 0, none⟩ = some (.slice pd dd.length cd) ∧ CAt wx pd cd dd ∧ Off s 6 pd ∧ Fresh w p pd ∧ Below wr.heap.size wr wx)
 case first =>
  as_aux_lemma =>
   have hacc : Below wr.heap.size wr wr := Below.refl _ _
   clear y00 y00f y50 y50f y51 y51f y10 y10f y11 y11f y20 y20f y21 y21f y30 y30f y40 y40f y41 y41f
   obtain ⟨⟨y00, y00f⟩, -, -, -⟩ := hs
   have hs : Cells wr [(s, 0, .slice pc C.length cc)] := ⟨⟨y00, y00f⟩, trivial⟩
   clear y00 y00f
   refine wp_region_seqE (fun x => Below wr.heap.size wr x) (.one 0 0 (.one 1 1 (.one 2 0 (.one 3 1 (.one 4 1 (.one 5 1 (.one 6 0 (.one 7 0 (.one 8 1 (.one 9 0 (.one 10 1 (.one 11 1 (.one 12 1 (.one 13 0 (.alt 14 2 (.one 15 1 (.alt 16 3 (.one 17 1 (.one 18 1 (.one 19 1 (.alt 20 2 (.alt 21 3 (.one 22 1 .nil) .stop) .stop)))) (.alt 20 2 (.alt 16 3 (.one 17 1 (.one 18 1 (.one 19 1 (.alt 21 3 (.one 22 1 .nil) .stop)))) .stop) .stop))) (.alt 20 2 (.alt 14 2 (.one 15 1 (.alt 16 3 (.one 17 1 (.one 18 1 (.one 19 1 (.alt 21 3 (.one 22 1 .nil) .stop)))) .stop)) .stop) .stop)))))))))))))))) (by kernel_rfl) (by kernel_rfl) (by kernel_rfl) (Below.drew (Below.refl _ _)) ?_
   iterate 14 ((first | (refine seqE_free (v := ?_) rfl (by rfl) ?_ ?_; rotate_left; (focus (intro w; go_simp; try with_reducible rfl))) | (refine seqE_pure (v := ?_) rfl (by rfl) ?_ ?_; rotate_left; (focus (intro w hS; obtain ⟨⟨y00, -⟩, -⟩ := hs.up hS; obtain ⟨-, ⟨y11, -⟩, ⟨y20, -⟩, ⟨y21, -⟩, -⟩ := hk.up hS; have j0 := zD hS j0; have j1 := zD hS j1; go_simp; try with_reducible rfl)))); (try simp only [Act.put, zA, zB, zC]))
   clear hs
   clear hk
   clear j0 j1
   refine seqE_keep (v := .int .i64 Q) (f := ?_) (args := ?_) rfl (by rfl) ?_ ?_ ?_ ?_
   rotate_left 2
   focus (intro w hS; go_simp; first | done | with_reducible rfl | (refine ⟨?_, ?_⟩ <;> with_reducible rfl))
   focus (intro w hS; refine (at_is (HD.out.up (btr hbw hS)) (by omega) HQ.out).mono ?_; rintro e w2 ⟨rfl, hbl⟩; exact ⟨rfl, btr hS hbl⟩)
   ·
    (try simp only [Act.put, zA, zB, zC])
    refine seqE_fcall (v := .int .i64 (cnot Q)) (f := ?_) (args := ?_) rfl (by rfl) ?_ ?_ ?_
    rotate_left 2
    focus (intro w; go_simp; first | done | with_reducible rfl | (refine ⟨?_, ?_⟩ <;> with_reducible rfl))
    focus (intro w; exact rnot_any Q w (by omega))
    (try simp only [Act.put, zA, zB, zC])
    refine seqE_callB (f := ?_) (args := ?_) rfl (by rfl) ?_ ?_ ?_
    rotate_left 2
    focus (intro w hS; go_simp; first | done | with_reducible rfl | (refine ⟨?_, ?_⟩ <;> with_reducible rfl))
    ·
     intro w2 hS
     refine (rand_fr (hC.mono hS) (by omega) hn1 (by omega) HOP.out).mono ?_
     rintro e v2 ⟨pd, cd, rfl, hE, hbl, frE⟩
     refine ⟨_, rfl, (fun x => Below v2.heap.size v2 x), Below.refl _ _, ?_⟩
     have hXw := Nat.le_trans zz hS.size; have hXa := Nat.le_trans hacc.size hS.size
     have hX := btr hS hbl
     replace hC := hC.mono hX; replace hbw := btr hbw hX; replace zz := Nat.le_trans zz (Below.size hX); replace hacc := btr hacc hX
     have oE : Off s 6 pd := Off.fresh frE oC hXw
     have FE := Lib.hid (Fresh.trans FC.out frE (by have h := HS.out; have h2 := hXw; omega))
     clear frE
     clear hX hS hbl hXw hXa
     (try simp only [Act.put, zA, zB, zC])
     iterate 3 (refine seqE_free (v := ?_) rfl (by rfl) ?_ ?_; rotate_left; (focus (intro w; go_simp; try with_reducible rfl)); (try simp only [Act.put, zA, zB, zC]))
     refine seqE_move rfl (by rfl) ?_ seqE_stop
     intro w3 hS
     refine ⟨.pointer (some ⟨w3.heap.size, 0, none⟩), w3.alloc (.cells #[.slice none 0 0] 27), (by go_simp; try with_reducible rfl), ?_⟩
     obtain ⟨b10, hb10⟩ : ∃ b, b = w3.heap.size := ⟨_, rfl⟩
     obtain ⟨v3, hw3⟩ : ∃ zW, zW = w3.alloc (.cells #[.slice none 0 0] 27) := ⟨_, rfl⟩
     rw [← hw3, ← hb10]
     have hbl : Below w3.heap.size w3 v3 := by rw [hw3]; go_grown
     have hge10 : s + 6 ≤ b10 := by rw [hb10]; exact Nat.le_trans zz hS.size
     have hga10 : wr.heap.size ≤ b10 := by rw [hb10]; exact Nat.le_trans hacc.size hS.size
     refine ⟨(fun x => Below v3.heap.size v3 x), Below.refl _ _, fun x hx => btr (btr hS hbl) hx, ?_⟩
     have hX := btr hS hbl
     replace hC := hC.mono hX; replace hE := hE.mono hX; replace hbw := btr hbw hX; replace zz := Nat.le_trans zz (Below.size hX); replace hacc := btr hacc hX
     have hs : Cells v3 [(b10, 0, .slice none 0 0)] := ⟨⟨by rw [hw3, hb10]; go_cell, by rw [hw3, hb10]; go_cell⟩, trivial⟩
     clear hX hS hbl hw3 hb10
     (try simp only [Act.put, zA, zB, zC])
     refine seqE_storeB rfl (by rfl) ?_ seqE_stop
     intro w4 hS
     replace hs := hs.up hS; replace hC := hC.mono hS; replace hE := hE.mono hS; replace hbw := btr hbw hS; replace zz := Nat.le_trans zz (Below.size hS); replace hacc := btr hacc hS
     obtain ⟨⟨d100, d100f⟩, -⟩ := id hs
     refine ⟨(w4.setCell ⟨b10, 0, none⟩ (.slice pd dd.length cd)), (by go_simp; try with_reducible rfl), (fun x => Below ((w4.setCell ⟨b10, 0, none⟩ (.slice pd dd.length cd))).heap.size ((w4.setCell ⟨b10, 0, none⟩ (.slice pd dd.length cd))) x), Below.refl _ _, ?_⟩
     obtain ⟨v4, hw⟩ : ∃ zW, zW = (w4.setCell ⟨b10, 0, none⟩ (.slice pd dd.length cd)) := ⟨_, rfl⟩
     rw [← hw]
     replace hs : Cells v4 [(b10, 0, .slice pd dd.length cd)] := by rw [hw]; exact ⟨⟨by go_cell, (fz d100f)⟩, trivial⟩
     replace hC : CAt v4 pc cc C := by rw [hw]; exact hC.box d100 _
     replace hE : CAt v4 pd cd dd := by rw [hw]; exact hE.box d100 _
     replace hbw : Below w.heap.size w v4 := by rw [hw]; exact (Below.setCell hbw (by have h := HS.out; (try dsimp only); omega) _)
     replace hacc : Below wr.heap.size wr v4 := by rw [hw]; exact (Below.setCell hacc (by have h := HS.out; (try dsimp only); omega) _)
     replace zz : s + 6 ≤ v4.heap.size := by rw [hw]; simpa using zz
     clear hw
     clear d100 d100f
     clear hS
     (try simp only [Act.put, zA, zB, zC])
     iterate 1 (refine seqE_free (v := ?_) rfl (by rfl) ?_ ?_; rotate_left; (focus (intro w; go_simp; try with_reducible rfl)); (try simp only [Act.put, zA, zB, zC]))
     refine seqE_nil ?_
     intro wz hS
     replace hs := hs.up hS; replace hC := hC.mono hS; replace hE := hE.mono hS; replace hbw := btr hbw hS; replace zz := Nat.le_trans zz (Below.size hS); replace hacc := btr hacc hS; clear hS
     obtain ⟨⟨d100, d100f⟩, -⟩ := id hs
     go_wp2_with fail
     go_meet
     exact ⟨_, _, _, rfl, rfl, d100, hE, oE, FE.out, hacc⟩
    refine seqE_move rfl (by rfl) ?_ seqE_stop
    intro w5 hS
    refine ⟨.pointer (some ⟨w5.heap.size, 0, none⟩), w5.alloc (.cells #[.slice none 0 0] 27), (by go_simp; try with_reducible rfl), ?_⟩
    obtain ⟨b10, hb10⟩ : ∃ b, b = w5.heap.size := ⟨_, rfl⟩
    obtain ⟨v5, hw5⟩ : ∃ zW, zW = w5.alloc (.cells #[.slice none 0 0] 27) := ⟨_, rfl⟩
    rw [← hw5, ← hb10]
    have hbl : Below w5.heap.size w5 v5 := by rw [hw5]; go_grown
    have hge10 : s + 6 ≤ b10 := by rw [hb10]; exact Nat.le_trans zz hS.size
    have hga10 : wr.heap.size ≤ b10 := by rw [hb10]; exact Nat.le_trans hacc.size hS.size
    refine ⟨(fun x => Below v5.heap.size v5 x), Below.refl _ _, fun x hx => btr (btr hS hbl) hx, ?_⟩
    have hX := btr hS hbl
    replace hC := hC.mono hX; replace hbw := btr hbw hX; replace zz := Nat.le_trans zz (Below.size hX); replace hacc := btr hacc hX
    have hs : Cells v5 [(b10, 0, .slice none 0 0)] := ⟨⟨by rw [hw5, hb10]; go_cell, by rw [hw5, hb10]; go_cell⟩, trivial⟩
    clear hX hS hbl hw5 hb10
    (try simp only [Act.put, zA, zB, zC])
    refine seqE_callB (f := ?_) (args := ?_) rfl (by rfl) ?_ ?_ seqE_stop
    rotate_left 2
    focus (intro w hS; go_simp; first | done | with_reducible rfl | (refine ⟨?_, ?_⟩ <;> with_reducible rfl))
    intro w6 hS
    refine (rand_fr (hC.mono hS) (by omega) hn1 (by omega) HOP.out).mono ?_
    rintro e v6 ⟨pd, cd, rfl, hE, hbl, frE⟩
    refine ⟨_, rfl, (fun x => Below v6.heap.size v6 x), Below.refl _ _, ?_⟩
    have hXw := Nat.le_trans zz hS.size; have hXa := Nat.le_trans hacc.size hS.size
    have hX := btr hS hbl
    replace hs := hs.up hX; replace hC := hC.mono hX; replace hbw := btr hbw hX; replace zz := Nat.le_trans zz (Below.size hX); replace hacc := btr hacc hX
    have oE : Off s 6 pd := Off.fresh frE oC hXw
    have FE := Lib.hid (Fresh.trans FC.out frE (by have h := HS.out; have h2 := hXw; omega))
    clear frE
    clear hX hS hbl hXw hXa
    (try simp only [Act.put, zA, zB, zC])
    iterate 3 (refine seqE_free (v := ?_) rfl (by rfl) ?_ ?_; rotate_left; (focus (intro w; go_simp; try with_reducible rfl)); (try simp only [Act.put, zA, zB, zC]))
    refine seqE_storeB rfl (by rfl) ?_ seqE_stop
    intro w7 hS
    replace hs := hs.up hS; replace hC := hC.mono hS; replace hE := hE.mono hS; replace hbw := btr hbw hS; replace zz := Nat.le_trans zz (Below.size hS); replace hacc := btr hacc hS
    obtain ⟨⟨d100, d100f⟩, -⟩ := id hs
    refine ⟨(w7.setCell ⟨b10, 0, none⟩ (.slice pd dd.length cd)), (by go_simp; try with_reducible rfl), (fun x => Below ((w7.setCell ⟨b10, 0, none⟩ (.slice pd dd.length cd))).heap.size ((w7.setCell ⟨b10, 0, none⟩ (.slice pd dd.length cd))) x), Below.refl _ _, ?_⟩
    obtain ⟨v7, hw⟩ : ∃ zW, zW = (w7.setCell ⟨b10, 0, none⟩ (.slice pd dd.length cd)) := ⟨_, rfl⟩
    rw [← hw]
    replace hs : Cells v7 [(b10, 0, .slice pd dd.length cd)] := by rw [hw]; exact ⟨⟨by go_cell, (fz d100f)⟩, trivial⟩
    replace hC : CAt v7 pc cc C := by rw [hw]; exact hC.box d100 _
    replace hE : CAt v7 pd cd dd := by rw [hw]; exact hE.box d100 _
    replace hbw : Below w.heap.size w v7 := by rw [hw]; exact (Below.setCell hbw (by have h := HS.out; (try dsimp only); omega) _)
    replace hacc : Below wr.heap.size wr v7 := by rw [hw]; exact (Below.setCell hacc (by have h := HS.out; (try dsimp only); omega) _)
    replace zz : s + 6 ≤ v7.heap.size := by rw [hw]; simpa using zz
    clear hw
    clear d100 d100f
    clear hS
    (try simp only [Act.put, zA, zB, zC])
    iterate 1 (refine seqE_free (v := ?_) rfl (by rfl) ?_ ?_; rotate_left; (focus (intro w; go_simp; try with_reducible rfl)); (try simp only [Act.put, zA, zB, zC]))
    refine seqE_nil ?_
    intro wz hS
    replace hs := hs.up hS; replace hC := hC.mono hS; replace hE := hE.mono hS; replace hbw := btr hbw hS; replace zz := Nat.le_trans zz (Below.size hS); replace hacc := btr hacc hS; clear hS
    obtain ⟨⟨d100, d100f⟩, -⟩ := id hs
    go_wp2_with fail
    go_meet
    exact ⟨_, _, _, rfl, rfl, d100, hE, oE, FE.out, hacc⟩
   refine seqE_move rfl (by rfl) ?_ seqE_stop
   intro w8 hS
   refine ⟨.pointer (some ⟨w8.heap.size, 0, none⟩), w8.alloc (.cells #[.slice none 0 0] 27), (by go_simp; try with_reducible rfl), ?_⟩
   obtain ⟨b10, hb10⟩ : ∃ b, b = w8.heap.size := ⟨_, rfl⟩
   obtain ⟨v8, hw8⟩ : ∃ zW, zW = w8.alloc (.cells #[.slice none 0 0] 27) := ⟨_, rfl⟩
   rw [← hw8, ← hb10]
   have hbl : Below w8.heap.size w8 v8 := by rw [hw8]; go_grown
   have hge10 : s + 6 ≤ b10 := by rw [hb10]; exact Nat.le_trans zz hS.size
   have hga10 : wr.heap.size ≤ b10 := by rw [hb10]; exact Nat.le_trans hacc.size hS.size
   refine ⟨(fun x => Below v8.heap.size v8 x), Below.refl _ _, fun x hx => btr (btr hS hbl) hx, ?_⟩
   have hX := btr hS hbl
   replace hC := hC.mono hX; replace hbw := btr hbw hX; replace zz := Nat.le_trans zz (Below.size hX); replace hacc := btr hacc hX
   have hs : Cells v8 [(b10, 0, .slice none 0 0)] := ⟨⟨by rw [hw8, hb10]; go_cell, by rw [hw8, hb10]; go_cell⟩, trivial⟩
   clear hX hS hbl hw8 hb10
   (try simp only [Act.put, zA, zB, zC])
   refine seqE_keep (v := .int .i64 Q) (f := ?_) (args := ?_) rfl (by rfl) ?_ ?_ ?_ seqE_stop
   rotate_left 2
   focus (intro w hS; go_simp; first | done | with_reducible rfl | (refine ⟨?_, ?_⟩ <;> with_reducible rfl))
   focus (intro w hS; refine (at_is (HD.out.up (btr hbw hS)) (by omega) HQ.out).mono ?_; rintro e w2 ⟨rfl, hbl⟩; exact ⟨rfl, btr hS hbl⟩)
   (try simp only [Act.put, zA, zB, zC])
   refine seqE_fcall (v := .int .i64 (cnot Q)) (f := ?_) (args := ?_) rfl (by rfl) ?_ ?_ ?_
   rotate_left 2
   focus (intro w; go_simp; first | done | with_reducible rfl | (refine ⟨?_, ?_⟩ <;> with_reducible rfl))
   focus (intro w; exact rnot_any Q w (by omega))
   (try simp only [Act.put, zA, zB, zC])
   refine seqE_callB (f := ?_) (args := ?_) rfl (by rfl) ?_ ?_ seqE_stop
   rotate_left 2
   focus (intro w hS; go_simp; first | done | with_reducible rfl | (refine ⟨?_, ?_⟩ <;> with_reducible rfl))
   intro w10 hS
   refine (rand_fr (hC.mono hS) (by omega) hn1 (by omega) HOP.out).mono ?_
   rintro e v10 ⟨pd, cd, rfl, hE, hbl, frE⟩
   refine ⟨_, rfl, (fun x => Below v10.heap.size v10 x), Below.refl _ _, ?_⟩
   have hXw := Nat.le_trans zz hS.size; have hXa := Nat.le_trans hacc.size hS.size
   have hX := btr hS hbl
   replace hs := hs.up hX; replace hC := hC.mono hX; replace hbw := btr hbw hX; replace zz := Nat.le_trans zz (Below.size hX); replace hacc := btr hacc hX
   have oE : Off s 6 pd := Off.fresh frE oC hXw
   have FE := Lib.hid (Fresh.trans FC.out frE (by have h := HS.out; have h2 := hXw; omega))
   clear frE
   clear hX hS hbl hXw hXa
   (try simp only [Act.put, zA, zB, zC])
   iterate 3 (refine seqE_free (v := ?_) rfl (by rfl) ?_ ?_; rotate_left; (focus (intro w; go_simp; try with_reducible rfl)); (try simp only [Act.put, zA, zB, zC]))
   refine seqE_storeB rfl (by rfl) ?_ seqE_stop
   intro w11 hS
   replace hs := hs.up hS; replace hC := hC.mono hS; replace hE := hE.mono hS; replace hbw := btr hbw hS; replace zz := Nat.le_trans zz (Below.size hS); replace hacc := btr hacc hS
   obtain ⟨⟨d100, d100f⟩, -⟩ := id hs
   refine ⟨(w11.setCell ⟨b10, 0, none⟩ (.slice pd dd.length cd)), (by go_simp; try with_reducible rfl), (fun x => Below ((w11.setCell ⟨b10, 0, none⟩ (.slice pd dd.length cd))).heap.size ((w11.setCell ⟨b10, 0, none⟩ (.slice pd dd.length cd))) x), Below.refl _ _, ?_⟩
   obtain ⟨v11, hw⟩ : ∃ zW, zW = (w11.setCell ⟨b10, 0, none⟩ (.slice pd dd.length cd)) := ⟨_, rfl⟩
   rw [← hw]
   replace hs : Cells v11 [(b10, 0, .slice pd dd.length cd)] := by rw [hw]; exact ⟨⟨by go_cell, (fz d100f)⟩, trivial⟩
   replace hC : CAt v11 pc cc C := by rw [hw]; exact hC.box d100 _
   replace hE : CAt v11 pd cd dd := by rw [hw]; exact hE.box d100 _
   replace hbw : Below w.heap.size w v11 := by rw [hw]; exact (Below.setCell hbw (by have h := HS.out; (try dsimp only); omega) _)
   replace hacc : Below wr.heap.size wr v11 := by rw [hw]; exact (Below.setCell hacc (by have h := HS.out; (try dsimp only); omega) _)
   replace zz : s + 6 ≤ v11.heap.size := by rw [hw]; simpa using zz
   clear hw
   clear d100 d100f
   clear hS
   (try simp only [Act.put, zA, zB, zC])
   iterate 1 (refine seqE_free (v := ?_) rfl (by rfl) ?_ ?_; rotate_left; (focus (intro w; go_simp; try with_reducible rfl)); (try simp only [Act.put, zA, zB, zC]))
   refine seqE_nil ?_
   intro wz hS
   replace hs := hs.up hS; replace hC := hC.mono hS; replace hE := hE.mono hS; replace hbw := btr hbw hS; replace zz := Nat.le_trans zz (Below.size hS); replace hacc := btr hacc hS; clear hS
   obtain ⟨⟨d100, d100f⟩, -⟩ := id hs
   go_wp2_with fail
   go_meet
   exact ⟨_, _, _, rfl, rfl, d100, hE, oE, FE.out, hacc⟩
 obtain ⟨bd, pd, cd, rfl, rfl, e0, hE, oE, frE, hst⟩ := hcut
 replace hs := hs.up hst; replace hk := hk.up hst; replace hC := hC.mono hst; replace hM := hM.up hst; replace hbw := btr hbw hst; replace zz := Nat.le_trans zz (Below.size hst); replace j0 := zD hst j0; replace j1 := zD hst j1; have FE := Lib.hid frE; clear hst frE
 clear y00 y00f y50 y50f y51 y51f y10 y10f y11 y11f y20 y20f y21 y21f y30 y30f y40 y40f y41 y41f
 obtain ⟨⟨y00, y00f⟩, ⟨y50, y50f⟩, ⟨y51, y51f⟩, -⟩ := id hs
 obtain ⟨⟨y10, y10f⟩, ⟨y11, y11f⟩, ⟨y20, y20f⟩, ⟨y21, y21f⟩, ⟨y30, y30f⟩, ⟨y40, y40f⟩, ⟨y41, y41f⟩, -⟩ := id hk
 go_upto_region 7 with fail
 obtain ⟨w8, hw⟩ : ∃ zW, zW = (wc.setCell ⟨s, 0, none⟩ (.slice pd dd.length cd)) := ⟨_, rfl⟩
 rw [← hw]
 replace hs : Cells w8 [(s, 0, .slice pd dd.length cd), (s + 5, 0, .int .i64 ar1), (s + 5, 1, .slice pm M.length cm)] := by rw [hw]; exact ⟨⟨by go_cell, (fz y00f)⟩, ⟨by go_cell, (fz y50f)⟩, ⟨by go_cell, (fz y51f)⟩, trivial⟩
 replace hk : Cells w8 [(s + 1, 0, .int .i64 ar1), (s + 1, 1, .slice (some ⟨bq, oq, none⟩) a.length ca), (s + 2, 0, .int .i64 ar2), (s + 2, 1, .slice pb b.length cb), (s + 3, 0, .slice none 0 0), (s + 4, 0, .int .i64 0), (s + 4, 1, .slice none 0 0)] := by rw [hw]; exact (hk.far (by simp <;> omega))
 replace hM : MxAt w8 pm cm M := by rw [hw]; exact hM.box y00 _
 replace hE : CAt w8 pd cd dd := by rw [hw]; exact hE.box y00 _
 replace j0 : w8.cell? ⟨bq, oq + K * 2, none⟩ = some (.int .i64 r) := by rw [hw]; exact (keep_far j0 (by first | omega | (dsimp only; omega)))
 replace j1 : w8.cell? ⟨bq, oq + K * 2 + 1, none⟩ = some (.int .i64 P) := by rw [hw]; exact (keep_far j1 (by first | omega | (dsimp only; omega)))
 replace hbw : Below w.heap.size w w8 := by rw [hw]; exact (Below.setCell hbw (by have h := HS.out; (try dsimp only); omega) _)
 replace zz : s + 6 ≤ w8.heap.size := by rw [hw]; simpa using zz
 clear hw
 clear y00 y00f y50 y50f y51 y51f y10 y10f y11 y11f y20 y20f y21 y21f y30 y30f y40 y40f y41 y41f
 clear e0
 obtain ⟨M2, hM2⟩ : ∃ m, put M r x = m := ⟨_, rfl⟩
 have HM2 := Lib.hid hM2; clear hM2
 refine wp_region_seqE (fun x => Below w8.heap.size w8 x) (.one 0 0 (.one 1 1 (.one 2 0 (.one 3 1 (.one 4 1 (.one 5 1 (.one 6 0 (.one 7 1 (.alt 8 3 (.alt 9 3 .nil .stop) .stop))))))))) (by kernel_rfl) (by kernel_rfl) (by kernel_rfl) (Below.drew (Below.refl _ _)) ?_
 iterate 8 ((first | (refine seqE_free (v := ?_) rfl (by rfl) ?_ ?_; rotate_left; (focus (intro w; go_simp; try with_reducible rfl))) | (refine seqE_pure (v := ?_) rfl (by rfl) ?_ ?_; rotate_left; (focus (intro w hS; obtain ⟨-, ⟨y50, -⟩, ⟨y51, -⟩, -⟩ := hs.up hS; obtain ⟨-, ⟨y11, -⟩, -⟩ := hk.up hS; have j0 := zD hS j0; have j1 := zD hS j1; go_simp; try with_reducible rfl)))); (try simp only [Act.put, zA, zB, zC]))
 refine seqE_callB (f := ?_) (args := ?_) rfl (by rfl) ?_ ?_ seqE_stop
 rotate_left 2
 focus (intro w hS; go_simp; first | done | with_reducible rfl | (refine ⟨?_, ?_⟩ <;> with_reducible rfl))
 intro w1 hS
 refine (with_is (hM.up hS) (by omega) HM2.out).mono ?_
 rintro e v1 ⟨pn, cn, rfl, hN, hbl, frN⟩
 refine ⟨_, rfl, (fun x => Below v1.heap.size v1 x), Below.refl _ _, ?_⟩
 have hXw := Nat.le_trans zz hS.size
 have hX := btr hS hbl; replace j0 := zD hX j0; replace j1 := zD hX j1
 replace hs := hs.up hX; replace hk := hk.up hX; replace hM := hM.up hX; replace hE := hE.mono hX; replace hbw := btr hbw hX; replace zz := Nat.le_trans zz (Below.size hX)
 have oN : Off s 6 pn := Off.fresh frN oM hXw
 have FN := Lib.hid (Fresh.trans FM.out frN (by have h := HS.out; have h2 := hXw; omega))
 clear frN
 clear hX hS hbl hXw
 (try simp only [Act.put, zA, zB, zC])
 refine seqE_storeB rfl (by rfl) ?_ seqE_stop
 intro w2 hS; replace j0 := zD hS j0; replace j1 := zD hS j1
 replace hs := hs.up hS; replace hk := hk.up hS; replace hM := hM.up hS; replace hE := hE.mono hS; replace hN := hN.up hS; replace hbw := btr hbw hS; replace zz := Nat.le_trans zz (Below.size hS)
 obtain ⟨⟨y00, y00f⟩, ⟨y50, y50f⟩, ⟨y51, y51f⟩, -⟩ := id hs
 obtain ⟨⟨y10, y10f⟩, ⟨y11, y11f⟩, ⟨y20, y20f⟩, ⟨y21, y21f⟩, ⟨y30, y30f⟩, ⟨y40, y40f⟩, ⟨y41, y41f⟩, -⟩ := id hk
 refine ⟨((w2.setCell ⟨s + 5, 0, none⟩ (.int .i64 ar1)).setCell ⟨s + 5, 1, none⟩ (.slice pn M2.length cn)), (by go_simp; try with_reducible rfl), (fun x => Below (((w2.setCell ⟨s + 5, 0, none⟩ (.int .i64 ar1)).setCell ⟨s + 5, 1, none⟩ (.slice pn M2.length cn))).heap.size (((w2.setCell ⟨s + 5, 0, none⟩ (.int .i64 ar1)).setCell ⟨s + 5, 1, none⟩ (.slice pn M2.length cn))) x), Below.refl _ _, ?_⟩
 obtain ⟨v2, hw⟩ : ∃ zW, zW = ((w2.setCell ⟨s + 5, 0, none⟩ (.int .i64 ar1)).setCell ⟨s + 5, 1, none⟩ (.slice pn M2.length cn)) := ⟨_, rfl⟩
 rw [← hw]
 replace hs : Cells v2 [(s, 0, .slice pd dd.length cd), (s + 5, 0, .int .i64 ar1), (s + 5, 1, .slice pn M2.length cn)] := by rw [hw]; exact ⟨⟨by go_cell, (fz (fz y00f))⟩, ⟨by go_cell, (fz (fz y50f))⟩, ⟨by go_cell, (fz (fz y51f))⟩, trivial⟩
 replace hk : Cells v2 [(s + 1, 0, .int .i64 ar1), (s + 1, 1, .slice (some ⟨bq, oq, none⟩) a.length ca), (s + 2, 0, .int .i64 ar2), (s + 2, 1, .slice pb b.length cb), (s + 3, 0, .slice none 0 0), (s + 4, 0, .int .i64 0), (s + 4, 1, .slice none 0 0)] := by rw [hw]; exact ((hk.far (by simp <;> omega)).far (by simp <;> omega))
 replace hM : MxAt v2 pm cm M := by rw [hw]; exact ((hM.set (oM.ne (by omega) (by omega)) _).set (oM.ne (by omega) (by omega)) _)
 replace hE : CAt v2 pd cd dd := by rw [hw]; exact ((hE.set (oE.ne (by omega) (by omega)) _).set (oE.ne (by omega) (by omega)) _)
 replace hN : MxAt v2 pn cn M2 := by rw [hw]; exact ((hN.set (oN.ne (by omega) (by omega)) _).set (oN.ne (by omega) (by omega)) _)
 replace j0 : v2.cell? ⟨bq, oq + K * 2, none⟩ = some (.int .i64 r) := by rw [hw]; exact (keep_far (keep_far j0 (by first | omega | (dsimp only; omega))) (by first | omega | (dsimp only; omega)))
 replace j1 : v2.cell? ⟨bq, oq + K * 2 + 1, none⟩ = some (.int .i64 P) := by rw [hw]; exact (keep_far (keep_far j1 (by first | omega | (dsimp only; omega))) (by first | omega | (dsimp only; omega)))
 replace hbw : Below w.heap.size w v2 := by rw [hw]; exact (Below.setCell (Below.setCell hbw (by have h := HS.out; (try dsimp only); omega) _) (by have h := HS.out; (try dsimp only); omega) _)
 replace zz : s + 6 ≤ v2.heap.size := by rw [hw]; simpa using zz
 clear hw
 clear y00 y00f y50 y50f y51 y51f y10 y10f y11 y11f y20 y20f y21 y21f y30 y30f y40 y40f y41 y41f
 clear hS
 (try simp only [Act.put, zA, zB, zC])
 refine seqE_nil ?_
 intro wz hS; replace j0 := zD hS j0; replace j1 := zD hS j1
 replace hs := hs.up hS; replace hk := hk.up hS; replace hM := hM.up hS; replace hE := hE.mono hS; replace hN := hN.up hS; replace hbw := btr hbw hS; replace zz := Nat.le_trans zz (Below.size hS); clear hS
 go_wp2_with fail
 go_roundg (a.length - (K + 1))
 case measure => (have := HN.out; omega)
 case rel => exact ⟨K + 1, dd, M2, pd, cd, pn, cn, by go_num, by omega, rfl, by rw [zrun_take (d := dd) (y := x) HT.out HR.out (by show cbut C P (mat b r) = _; rw [HQ.out]; exact HOP.out)]; exact congrArg (Prod.mk dd) HM2.out, oE, oN, FE.out, FN.out, hs, hk, hE, hN, hbw, zz⟩
end Go.Proofs.Ytadilppdlbhjnaa
