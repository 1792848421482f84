/- Walks of layer 15: the reference's Squaring, Stepwise. -/
import Derived.Test.YtadilppdlbhjnaaN1
import Derived.Test.YtadilppdlbhjnaaN2
namespace Go.Proofs.Ytadilppdlbhjnaa
set_option linter.unusedSimpArgs false
set_option linter.unusedVariables false
open Go.RowKit

set_option maxRecDepth 100000 in
set_option maxHeartbeats 8000000 in
theorem rsquaring_any (c : List Gate) (a : List Cell) (n : Nat) (p pa : Option Addr) (cap ca : Nat) (w : World) (hC : CAt w p cap c) (hA : MxAt w pa ca a) (hn0 : 0 < n) (hn : n ≤ 4) (hg : Good c) (hl : c.length + 2400 ≤ 20000) (ha : MOk c ((n * n : Nat) : Int) a) :
    Calls Try.prog 19 #[.agg #[.slice p c.length cap], .int .i64 n, .agg #[.int .i64 2, .slice pa a.length ca]] w (RetCMF w p pa (mSquaring c n a).1 2 (mSquaring c n a).2) := by
 obtain ⟨s, hs0⟩ : ∃ s, w.heap.size = s := ⟨_, rfl⟩
 obtain ⟨W2, hW2⟩ : ∃ W2, W2 = (((((w.alloc (.cells #[.slice p c.length cap] 27)).alloc (.cells #[.int .i64 2, .slice pa a.length ca] 30)).alloc (.cells #[.slice none 0 0] 27)).alloc (.cells #[.int .i64 0, .slice none 0 0] 30)).alloc (.cells #[.int .i64 2, .slice pa a.length ca] 30)) := ⟨_, rfl⟩
 have hbw : Below w.heap.size w W2 := by rw [hW2]; go_grown
 have zz : s + 5 ≤ W2.heap.size := by rw [hW2, ← hs0]; simp
 have hs : Cells W2 [(s, 0, .slice p c.length cap), (s + 4, 0, .int .i64 2), (s + 4, 1, .slice pa a.length ca)] := by rw [hW2, ← hs0]; exact ⟨⟨by go_cell, by go_cell⟩, ⟨by go_cell, by go_cell⟩, ⟨by go_cell, by go_cell⟩, trivial⟩
 have hk : Cells W2 [(s + 1, 0, .int .i64 2), (s + 1, 1, .slice pa a.length ca), (s + 2, 0, .slice none 0 0), (s + 3, 0, .int .i64 0), (s + 3, 1, .slice none 0 0)] := by rw [hW2, ← hs0]; exact ⟨⟨by go_cell, by go_cell⟩, ⟨by go_cell, by go_cell⟩, ⟨by go_cell, by go_cell⟩, ⟨by go_cell, by go_cell⟩, ⟨by go_cell, by go_cell⟩, trivial⟩
 have HW2 := Lib.hid hW2; have HS := Lib.hid hs0
 clear hW2 hs0
 have hc0 : 0 < c.length := hg.ne
 have oC : Off s 5 p := Off.old (by rw [← HS.out]; exact hC.lt hc0)
 have oM : Off s 5 pa := Off.old (by rw [← HS.out]; exact hA.lt)
 have HA := Lib.hid hA; have HMA := Lib.hid ha; have HG := Lib.hid hg
 replace hC : CAt W2 p cap c := hC.mono hbw
 have hM : MxAt W2 pa ca a := hA.up hbw
 clear hA ha hg
 go_enter Try.func19, Try.ntmps19
 go_upto_region 2 with fail
 rw [← HW2.out]
 simp only [HS.out, Nat.add_assoc, Nat.reduceAdd]
 obtain ⟨⟨y00, y00f⟩, ⟨y40, y40f⟩, ⟨y41, y41f⟩, -⟩ := id hs
 obtain ⟨⟨y10, y10f⟩, ⟨y11, y11f⟩, ⟨y20, y20f⟩, ⟨y30, y30f⟩, ⟨y31, y31f⟩, -⟩ := id hk
 go_wp2_with fail
 go_loopg [9] 2 (fun N s9 wr => ∃ K : Nat, ∃ V : Nat, ∃ C : List Gate, ∃ M : List Cell, ∃ pc : Option Addr, ∃ cc : Nat, ∃ pm : Option Addr, ∃ cm : Nat, s9 = .int .i64 V ∧ K ≤ 2 ∧ V = 2 ^ K ∧ (K = 0 ∨ 2 ^ (K - 1) < n) ∧ N = 2 - K ∧ sqTo n a c K = (C, M) ∧ Off s 5 pc ∧ Off s 5 pm ∧ Fresh w p pc ∧ Fresh w pa pm ∧ Cells wr [(s, 0, .slice pc C.length cc), (s + 4, 0, .int .i64 2), (s + 4, 1, .slice pm M.length cm)] ∧ Cells wr [(s + 1, 0, .int .i64 2), (s + 1, 1, .slice pa a.length ca), (s + 2, 0, .slice none 0 0), (s + 3, 0, .int .i64 0), (s + 3, 1, .slice none 0 0)] ∧ CAt wr pc cc C ∧ MxAt wr pm cm M ∧ Below w.heap.size w wr ∧ s + 5 ≤ wr.heap.size)
 case atStart => exact ⟨0, 1, c, a, p, cap, pa, ca, rfl, by omega, rfl, .inl rfl, rfl, rfl, oC, oM, .inl rfl, .inl rfl, hs, hk, hC, hM, hbw, zz⟩
 case round =>
  clear hs hk hC hM hbw zz
  obtain ⟨K, V, C, M, pc, cc, pm, cm, rfl, hK, hV, hKn, hN, hrun, oC, oM, frC, frM, hs, hk, hC, hM, hbw, zz⟩ := hrel
  obtain ⟨gC, mM⟩ := sqTo_ok hn HG.out HMA.out K (by omega)
  rw [hrun] at gC mM; dsimp only at gC mM
  have hCl := gC.len; have hCg := gC.ge
  have hMl := mM.len
  have hnn : n * n ≤ 16 := Nat.mul_le_mul hn hn
  have GC := Lib.hid gC.good; have MM := Lib.hid mM
  have HN := Lib.hid hN; have HV := Lib.hid hV; have HR := Lib.hid hrun; have FC := Lib.hid frC; have FM := Lib.hid frM; clear hN hrun frC frM gC mM
  have hV4 : V ≤ 4 := by rw [hV]; exact Nat.le_trans (Nat.pow_le_pow_right (by decide) hK) (by decide)
  clear hV
  by_cases hlt : V < n
  case neg =>
   have HF := Lib.hid (show mSquaring c n a = (C, M) by have h := sq_end n hn K hK hKn (by rw [← HV.out]; exact hlt); show sqTo n a c (plog n n 0) = _; rw [← h]; exact HR.out)
   clear y00 y00f y40 y40f y41 y41f y10 y10f y11 y11f y20 y20f y30 y30f y31 y31f
   obtain ⟨⟨y00, y00f⟩, ⟨y40, y40f⟩, ⟨y41, y41f⟩, -⟩ := id hs
   obtain ⟨⟨y10, y10f⟩, ⟨y11, y11f⟩, ⟨y20, y20f⟩, ⟨y30, y30f⟩, ⟨y31, y31f⟩, -⟩ := id hk
   go_upto_region 9 with fail
   go_region
   go_wp2_with fail
   obtain ⟨W9, hW9⟩ : ∃ W9, W9 = (((wr.setCell ⟨s + 2, 0, none⟩ (.slice pc C.length cc)).setCell ⟨s + 3, 0, none⟩ (.int .i64 (2))).setCell ⟨s + 3, 1, none⟩ (.slice pm M.length cm)).drew := ⟨_, rfl⟩
   rw [← hW9]
   have e0 : W9.cell? ⟨s + 2, 0, none⟩ = some (.slice pc C.length cc) := by rw [hW9]; go_cell
   have e1 : W9.cell? ⟨s + 3, 0, none⟩ = some (.int .i64 (2)) := by rw [hW9]; go_cell
   have e2 : W9.cell? ⟨s + 3, 1, none⟩ = some (.slice pm M.length cm) := by rw [hW9]; go_cell
   replace hC : CAt W9 pc cc C := by rw [hW9]; exact (((hC.set (oC.ne (by omega) (by omega)) _).set (oC.ne (by omega) (by omega)) _).set (oC.ne (by omega) (by omega)) _).mono (Below.drew (Below.refl _ _))
   replace hM : MxAt W9 pm cm M := by rw [hW9]; exact (((hM.set (oM.ne (by omega) (by omega)) _).set (oM.ne (by omega) (by omega)) _).set (oM.ne (by omega) (by omega)) _).up (Below.drew (Below.refl _ _))
   have B9 : Below w.heap.size w W9 := by
     rw [hW9]
     refine Below.drew ?_
     iterate 3 refine Below.setCell ?_ (by have h := HS.out; (try dsimp only); omega) _
     exact hbw
   clear hW9
   rw [HF.out]
   refine bodyPost_ret (by simp [results, Try.results19, go_sem, e0, e1, e2]; try rfl) rfl ?_
   exact ⟨_, _, _, _, rfl, hC, hM, B9, FC.out, FM.out⟩
  case pos =>
   have haL : a.length ≤ 16 := by have := HMA.out.len; omega
   have hMl2 : M.length * M.length ≤ 256 := Nat.mul_le_mul (show M.length ≤ 16 by omega) (show M.length ≤ 16 by omega)
   have hK1 : K + 1 ≤ 2 := by (rcases Nat.lt_or_ge K 2 with h | h; omega; (have h2 : K = 2 := by omega); have h3 := HV.out; subst h2; omega)
   have hVi : (V : Int) < (n : Int) := by omega
   clear y00 y00f y40 y40f y41 y41f y10 y10f y11 y11f y20 y20f y30 y30f y31 y31f
   obtain ⟨⟨y00, y00f⟩, ⟨y40, y40f⟩, ⟨y41, y41f⟩, -⟩ := id hs
   obtain ⟨⟨y10, y10f⟩, ⟨y11, y11f⟩, ⟨y20, y20f⟩, ⟨y30, y30f⟩, ⟨y31, y31f⟩, -⟩ := id hk
   obtain ⟨D, J, hDJ⟩ : ∃ D J, mJoin C (n * n) n n M M = (D, J) := ⟨_, _, rfl⟩
   obtain ⟨gD, mJ, _⟩ := join_ok (N := n * n) (n := n) (p := n) GC.out (by omega) MM.out MM.out (jpairs_rank MM.out MM.out)
   rw [show (mJoin C (n * n) n n M M) = (D, J) from hDJ] at gD mJ
   dsimp only at gD mJ
   have hDl := gD.len; have hDg := gD.ge; have hJl := mJ.len
   obtain ⟨E, M2, hEM⟩ : ∃ E M2, mUnion D M J = (E, M2) := ⟨_, _, rfl⟩
   have HDJ := Lib.hid hDJ; have HEM := Lib.hid hEM; have GD := Lib.hid gD.good; have MJ := Lib.hid mJ
   have hD0 : 0 < D.length := gD.good.ne
   clear hDJ hEM gD mJ
   go_upto_region 6 with (first | (go_at_call 69; refine ((rjoin_any C M M 2 2 1 1 n n (n * n) ((n * n : Nat) : Int) ((n * n : Nat) : Int) pc pm pm cc cm cm _ hC hM hM (by omega) (by omega) (by omega) hn0 (by omega) (Nat.pow_one n) (by rw [Nat.pow_succ, Nat.pow_one]) GC.out (by omega) MM.out MM.out (by omega) (by omega) (jpairs_rank MM.out MM.out)).mono fun e w' h => RetCMF.eq h HDJ.out).mono ?_; rintro e w2 ⟨pd, cd, pj, cj, rfl, hD, hJ, hbl, frD, frJ⟩; have oD := Off.fresh frD oC zz; have oJ := Off.fresh frJ (Off.none _ _) zz; have FD := Lib.hid (Fresh.trans FC.out frD (by have h := HS.out; omega)); replace hs := hs.up hbl; replace hk := hk.up hbl; replace hC := hC.mono hbl; replace hM := hM.up hbl; replace hbw := btr hbw hbl; replace zz := Nat.le_trans zz (Below.size hbl); clear hbl frD frJ; clear y00 y00f y40 y40f y41 y41f y10 y10f y11 y11f y20 y20f y30 y30f y31 y31f; obtain ⟨⟨y00, y00f⟩, ⟨y40, y40f⟩, ⟨y41, y41f⟩, -⟩ := id hs; obtain ⟨⟨y10, y10f⟩, ⟨y11, y11f⟩, ⟨y20, y20f⟩, ⟨y30, y30f⟩, ⟨y31, y31f⟩, -⟩ := id hk))
   obtain ⟨w3, hw⟩ : ∃ zW, zW = ((w2.alloc (.cells #[.slice pd D.length cd] 27)).alloc (.cells #[.int .i64 2, .slice pj J.length cj] 30)) := ⟨_, rfl⟩
   rw [← hw]
   obtain ⟨b10, hb10⟩ : ∃ zW, zW = w2.heap.size := ⟨_, rfl⟩
   obtain ⟨b11, hb11⟩ : ∃ zW, zW = w2.heap.size + 1 := ⟨_, rfl⟩
   rw [← hb11]
   rw [← hb10]
   have hbl : Below w2.heap.size w2 w3 := by rw [hw]; go_grown
   have hge10 : s + 5 ≤ b10 := by rw [hb10]; omega
   have hgw10 : w2.heap.size ≤ b10 := by rw [hb10]; omega
   have hge11 : s + 5 ≤ b11 := by rw [hb11]; omega
   have hgw11 : w2.heap.size ≤ b11 := by rw [hb11]; omega
   have hlt11 : b10 < b11 := by rw [hb10, hb11]; omega
   clear y00 y00f y40 y40f y41 y41f y10 y10f y11 y11f y20 y20f y30 y30f y31 y31f
   replace hs := hs.up hbl; replace hk := hk.up hbl; replace hC := hC.mono hbl; replace hM := hM.up hbl; replace hD := hD.mono hbl; replace hJ := hJ.up hbl; replace hbw := btr hbw hbl; replace zz := Nat.le_trans zz (Below.size hbl)
   replace hs : Cells w3 [(b10, 0, .slice pd D.length cd), (b11, 0, .int .i64 2), (b11, 1, .slice pj J.length cj), (s, 0, .slice pc C.length cc), (s + 4, 0, .int .i64 2), (s + 4, 1, .slice pm M.length cm)] := ⟨⟨by rw [hw, hb10]; go_cell, by rw [hw, hb10]; go_cell⟩, ⟨by rw [hw, hb11]; go_cell, by rw [hw, hb11]; go_cell⟩, ⟨by rw [hw, hb11]; go_cell, by rw [hw, hb11]; go_cell⟩, hs⟩
   clear hbl hw hb10 hb11
   obtain ⟨⟨d100, d100f⟩, ⟨d110, d110f⟩, ⟨d111, d111f⟩, ⟨y00, y00f⟩, ⟨y40, y40f⟩, ⟨y41, y41f⟩, -⟩ := id hs
   obtain ⟨⟨y10, y10f⟩, ⟨y11, y11f⟩, ⟨y20, y20f⟩, ⟨y30, y30f⟩, ⟨y31, y31f⟩, -⟩ := id hk
   go_upto_region 7 with (first | (go_at_call 49; refine ((runion_any D M J 2 2 pd pm pj cd cm cj _ hD hM hJ (MM.out.le (by omega)) (MJ.out.le (by omega)) (by omega) hD0).mono fun e w' h => RetCMF.eq h ((rUnion_eq (MM.out.up hDg) MJ.out).trans HEM.out)).mono ?_; rintro e w4 ⟨pe, ce, pu, cu, rfl, hE, hU, hbl, frE, frU⟩; have oE := Off.fresh frE oD zz; have oU := Off.fresh frU (Off.none _ _) zz; have FE := Lib.hid (Fresh.trans FD.out frE (by have h := HS.out; omega)); have FU := Lib.hid (show Fresh w pa pu from Fresh.any (Fresh.up frU (by have h := HS.out; omega))); replace hs := hs.up hbl; replace hk := hk.up hbl; replace hC := hC.mono hbl; replace hM := hM.up hbl; replace hD := hD.mono hbl; replace hJ := hJ.up hbl; replace hbw := btr hbw hbl; replace zz := Nat.le_trans zz (Below.size hbl); clear hbl frE frU; clear d100 d100f d110 d110f d111 d111f y00 y00f y40 y40f y41 y41f y10 y10f y11 y11f y20 y20f y30 y30f y31 y31f; obtain ⟨⟨d100, d100f⟩, ⟨d110, d110f⟩, ⟨d111, d111f⟩, ⟨y00, y00f⟩, ⟨y40, y40f⟩, ⟨y41, y41f⟩, -⟩ := id hs; obtain ⟨⟨y10, y10f⟩, ⟨y11, y11f⟩, ⟨y20, y20f⟩, ⟨y30, y30f⟩, ⟨y31, y31f⟩, -⟩ := id hk))
   clear hC hM hD hJ
   clear d100 d100f d110 d110f d111 d111f y00 y00f y40 y40f y41 y41f y10 y10f y11 y11f y20 y20f y30 y30f y31 y31f
   replace hs : Cells w4 [(s, 0, .slice pc C.length cc), (s + 4, 0, .int .i64 2), (s + 4, 1, .slice pm M.length cm)] := ⟨hs.2.2.2.1, hs.2.2.2.2.1, hs.2.2.2.2.2.1, trivial⟩
   obtain ⟨w5, hw⟩ : ∃ zW, zW = ((w4.alloc (.cells #[.slice pe E.length ce] 27)).alloc (.cells #[.int .i64 2, .slice pu M2.length cu] 30)) := ⟨_, rfl⟩
   rw [← hw]
   obtain ⟨b12, hb12⟩ : ∃ zW, zW = w4.heap.size := ⟨_, rfl⟩
   obtain ⟨b13, hb13⟩ : ∃ zW, zW = w4.heap.size + 1 := ⟨_, rfl⟩
   rw [← hb13]
   rw [← hb12]
   have hbl : Below w4.heap.size w4 w5 := by rw [hw]; go_grown
   have hge12 : s + 5 ≤ b12 := by rw [hb12]; omega
   have hgw12 : w4.heap.size ≤ b12 := by rw [hb12]; omega
   have hge13 : s + 5 ≤ b13 := by rw [hb13]; omega
   have hgw13 : w4.heap.size ≤ b13 := by rw [hb13]; omega
   have hlt13 : b12 < b13 := by rw [hb12, hb13]; omega
   replace hs := hs.up hbl; replace hk := hk.up hbl; replace hE := hE.mono hbl; replace hU := hU.up hbl; replace hbw := btr hbw hbl; replace zz := Nat.le_trans zz (Below.size hbl)
   replace hs : Cells w5 [(b12, 0, .slice pe E.length ce), (b13, 0, .int .i64 2), (b13, 1, .slice pu M2.length cu), (s, 0, .slice pc C.length cc), (s + 4, 0, .int .i64 2), (s + 4, 1, .slice pm M.length cm)] := ⟨⟨by rw [hw, hb12]; go_cell, by rw [hw, hb12]; go_cell⟩, ⟨by rw [hw, hb13]; go_cell, by rw [hw, hb13]; go_cell⟩, ⟨by rw [hw, hb13]; go_cell, by rw [hw, hb13]; go_cell⟩, hs⟩
   clear hbl hw hb12 hb13
   obtain ⟨⟨d120, d120f⟩, ⟨d130, d130f⟩, ⟨d131, d131f⟩, ⟨y00, y00f⟩, ⟨y40, y40f⟩, ⟨y41, y41f⟩, -⟩ := id hs
   obtain ⟨⟨y10, y10f⟩, ⟨y11, y11f⟩, ⟨y20, y20f⟩, ⟨y30, y30f⟩, ⟨y31, y31f⟩, -⟩ := id hk
   go_upto_region 8 with fail
   obtain ⟨w6, hw⟩ : ∃ zW, zW = (w5.setCell ⟨s, 0, none⟩ (.slice pe E.length ce)) := ⟨_, rfl⟩
   rw [← hw]
   replace hs : Cells w6 [(b12, 0, .slice pe E.length ce), (b13, 0, .int .i64 2), (b13, 1, .slice pu M2.length cu), (s, 0, .slice pe E.length ce), (s + 4, 0, .int .i64 2), (s + 4, 1, .slice pm M.length cm)] := by rw [hw]; exact ⟨⟨by go_cell, (fz d120f)⟩, ⟨by go_cell, (fz d130f)⟩, ⟨by go_cell, (fz d131f)⟩, ⟨by go_cell, (fz y00f)⟩, ⟨by go_cell, (fz y40f)⟩, ⟨by go_cell, (fz y41f)⟩, trivial⟩
   replace hk : Cells w6 [(s + 1, 0, .int .i64 2), (s + 1, 1, .slice pa a.length ca), (s + 2, 0, .slice none 0 0), (s + 3, 0, .int .i64 0), (s + 3, 1, .slice none 0 0)] := by rw [hw]; exact (hk.far (by simp <;> omega))
   replace hE : CAt w6 pe ce E := by rw [hw]; exact hE.box y00 _
   replace hU : MxAt w6 pu cu M2 := by rw [hw]; exact hU.box y00 _
   replace hbw : Below w.heap.size w w6 := by rw [hw]; exact (Below.setCell hbw (by have h := HS.out; (try dsimp only); omega) _)
   replace zz : s + 5 ≤ w6.heap.size := by rw [hw]; simpa using zz
   clear hw
   clear d120 d120f d130 d130f d131 d131f y00 y00f y40 y40f y41 y41f y10 y10f y11 y11f y20 y20f y30 y30f y31 y31f
   obtain ⟨⟨d120, d120f⟩, ⟨d130, d130f⟩, ⟨d131, d131f⟩, ⟨y00, y00f⟩, ⟨y40, y40f⟩, ⟨y41, y41f⟩, -⟩ := id hs
   obtain ⟨⟨y10, y10f⟩, ⟨y11, y11f⟩, ⟨y20, y20f⟩, ⟨y30, y30f⟩, ⟨y31, y31f⟩, -⟩ := id hk
   go_wp2_with fail
   obtain ⟨w7, hw⟩ : ∃ zW, zW = ((w6.setCell ⟨s + 4, 0, none⟩ (.int .i64 2)).setCell ⟨s + 4, 1, none⟩ (.slice pu M2.length cu)) := ⟨_, rfl⟩
   rw [← hw]
   replace hs : Cells w7 [(b12, 0, .slice pe E.length ce), (b13, 0, .int .i64 2), (b13, 1, .slice pu M2.length cu), (s, 0, .slice pe E.length ce), (s + 4, 0, .int .i64 2), (s + 4, 1, .slice pu M2.length cu)] := by rw [hw]; exact ⟨⟨by go_cell, (fz (fz d120f))⟩, ⟨by go_cell, (fz (fz d130f))⟩, ⟨by go_cell, (fz (fz d131f))⟩, ⟨by go_cell, (fz (fz y00f))⟩, ⟨by go_cell, (fz (fz y40f))⟩, ⟨by go_cell, (fz (fz y41f))⟩, trivial⟩
   replace hk : Cells w7 [(s + 1, 0, .int .i64 2), (s + 1, 1, .slice pa a.length ca), (s + 2, 0, .slice none 0 0), (s + 3, 0, .int .i64 0), (s + 3, 1, .slice none 0 0)] := by rw [hw]; exact ((hk.far (by simp <;> omega)).far (by simp <;> omega))
   replace hE : CAt w7 pe ce E := by rw [hw]; exact ((hE.set (oE.ne (by omega) (by omega)) _).set (oE.ne (by omega) (by omega)) _)
   replace hU : MxAt w7 pu cu M2 := by rw [hw]; exact ((hU.set (oU.ne (by omega) (by omega)) _).set (oU.ne (by omega) (by omega)) _)
   replace hbw : Below w.heap.size w w7 := by rw [hw]; exact (Below.setCell (Below.setCell hbw (by have h := HS.out; (try dsimp only); omega) _) (by have h := HS.out; (try dsimp only); omega) _)
   replace zz : s + 5 ≤ w7.heap.size := by rw [hw]; simpa using zz
   clear hw
   clear d120 d120f d130 d130f d131 d131f y00 y00f y40 y40f y41 y41f y10 y10f y11 y11f y20 y20f y30 y30f y31 y31f
   replace hs : Cells w7 [(s, 0, .slice pe E.length ce), (s + 4, 0, .int .i64 2), (s + 4, 1, .slice pu M2.length cu)] := ⟨hs.2.2.2.1, hs.2.2.2.2.1, hs.2.2.2.2.2.1, trivial⟩
   go_roundg (2 - (K + 1))
   case measure => (have := HN.out; omega)
   case rel => exact ⟨K + 1, 2 * V, E, M2, pe, ce, pu, cu, by go_num, hK1, by rw [Nat.pow_succ, ← HV.out]; omega, .inr (by rw [Nat.add_sub_cancel, ← HV.out]; exact hlt), rfl, by show cround _ _ _ _ _ = _; rw [HR.out]; show mUnion (mJoin C (n * n) n n M M).1 M (mJoin C (n * n) n n M M).2 = _; rw [HDJ.out]; exact HEM.out, oE, oU, FE.out, FU.out, hs, hk, hE, hU, hbw, zz⟩

set_option maxRecDepth 100000 in
set_option maxHeartbeats 8000000 in
theorem rstepwise_any (c : List Gate) (a : List Cell) (n : Nat) (p pa : Option Addr) (cap ca : Nat) (w : World) (hC : CAt w p cap c) (hA : MxAt w pa ca a) (hn0 : 0 < n) (hn : n ≤ 4) (hg : Good c) (hl : c.length + 2400 ≤ 20000) (ha : MOk c ((n * n : Nat) : Int) a) :
    Calls Try.prog 21 #[.agg #[.slice p c.length cap], .int .i64 n, .agg #[.int .i64 2, .slice pa a.length ca]] w (RetCMF w p pa (mStepwise c n a).1 2 (mStepwise c n a).2) := by
 obtain ⟨s, hs0⟩ : ∃ s, w.heap.size = s := ⟨_, rfl⟩
 obtain ⟨W2, hW2⟩ : ∃ W2, W2 = (((((w.alloc (.cells #[.slice p c.length cap] 27)).alloc (.cells #[.int .i64 2, .slice pa a.length ca] 30)).alloc (.cells #[.slice none 0 0] 27)).alloc (.cells #[.int .i64 0, .slice none 0 0] 30)).alloc (.cells #[.int .i64 2, .slice pa a.length ca] 30)) := ⟨_, rfl⟩
 have hbw : Below w.heap.size w W2 := by rw [hW2]; go_grown
 have zz : s + 5 ≤ W2.heap.size := by rw [hW2, ← hs0]; simp
 have hs : Cells W2 [(s, 0, .slice p c.length cap), (s + 4, 0, .int .i64 2), (s + 4, 1, .slice pa a.length ca)] := by rw [hW2, ← hs0]; exact ⟨⟨by go_cell, by go_cell⟩, ⟨by go_cell, by go_cell⟩, ⟨by go_cell, by go_cell⟩, trivial⟩
 have hk : Cells W2 [(s + 1, 0, .int .i64 2), (s + 1, 1, .slice pa a.length ca), (s + 2, 0, .slice none 0 0), (s + 3, 0, .int .i64 0), (s + 3, 1, .slice none 0 0)] := by rw [hW2, ← hs0]; exact ⟨⟨by go_cell, by go_cell⟩, ⟨by go_cell, by go_cell⟩, ⟨by go_cell, by go_cell⟩, ⟨by go_cell, by go_cell⟩, ⟨by go_cell, by go_cell⟩, trivial⟩
 have HW2 := Lib.hid hW2; have HS := Lib.hid hs0
 clear hW2 hs0
 have hc0 : 0 < c.length := hg.ne
 have oC : Off s 5 p := Off.old (by rw [← HS.out]; exact hC.lt hc0)
 have oM : Off s 5 pa := Off.old (by rw [← HS.out]; exact hA.lt)
 have HA := Lib.hid hA; have HMA := Lib.hid ha; have HG := Lib.hid hg
 replace hC : CAt W2 p cap c := hC.mono hbw
 have hM : MxAt W2 pa ca a := hA.up hbw
 clear hA ha hg
 go_enter Try.func21, Try.ntmps21
 go_upto_region 2 with fail
 rw [← HW2.out]
 simp only [HS.out, Nat.add_assoc, Nat.reduceAdd]
 obtain ⟨⟨y00, y00f⟩, ⟨y40, y40f⟩, ⟨y41, y41f⟩, -⟩ := id hs
 obtain ⟨⟨y10, y10f⟩, ⟨y11, y11f⟩, ⟨y20, y20f⟩, ⟨y30, y30f⟩, ⟨y31, y31f⟩, -⟩ := id hk
 go_wp2_with fail
 go_loopg [9] (n - 1) (fun N s9 wr => ∃ K : Nat, ∃ V : Nat, ∃ C : List Gate, ∃ M : List Cell, ∃ pc : Option Addr, ∃ cc : Nat, ∃ pm : Option Addr, ∃ cm : Nat, s9 = .int .i64 V ∧ K ≤ n - 1 ∧ V = K + 1 ∧ True ∧ N = n - 1 - K ∧ stTo n a c K = (C, M) ∧ Off s 5 pc ∧ Off s 5 pm ∧ Fresh w p pc ∧ Fresh w pa pm ∧ Cells wr [(s, 0, .slice pc C.length cc), (s + 4, 0, .int .i64 2), (s + 4, 1, .slice pm M.length cm)] ∧ Cells wr [(s + 1, 0, .int .i64 2), (s + 1, 1, .slice pa a.length ca), (s + 2, 0, .slice none 0 0), (s + 3, 0, .int .i64 0), (s + 3, 1, .slice none 0 0)] ∧ CAt wr pc cc C ∧ MxAt wr pm cm M ∧ Below w.heap.size w wr ∧ s + 5 ≤ wr.heap.size)
 case atStart => exact ⟨0, 1, c, a, p, cap, pa, ca, rfl, by omega, rfl, trivial, rfl, rfl, oC, oM, .inl rfl, .inl rfl, hs, hk, hC, hM, hbw, zz⟩
 case round =>
  clear hs hk hC hM hbw zz
  obtain ⟨K, V, C, M, pc, cc, pm, cm, rfl, hK, hV, hKn, hN, hrun, oC, oM, frC, frM, hs, hk, hC, hM, hbw, zz⟩ := hrel
  obtain ⟨gC, mM⟩ := stTo_ok hn HG.out HMA.out K (by omega)
  rw [hrun] at gC mM; dsimp only at gC mM
  have hCl := gC.len; have hCg := gC.ge
  have hMl := mM.len
  have hnn : n * n ≤ 16 := Nat.mul_le_mul hn hn
  have GC := Lib.hid gC.good; have MM := Lib.hid mM
  have HN := Lib.hid hN; have HV := Lib.hid hV; have HR := Lib.hid hrun; have FC := Lib.hid frC; have FM := Lib.hid frM; clear hN hrun frC frM gC mM
  clear hV
  by_cases hlt : V < n
  case neg =>
   have HF := Lib.hid (show mStepwise c n a = (C, M) by show stTo n a c (n - 1) = _; rw [← HR.out]; congr 1; have := HV.out; omega)
   clear y00 y00f y40 y40f y41 y41f y10 y10f y11 y11f y20 y20f y30 y30f y31 y31f
   obtain ⟨⟨y00, y00f⟩, ⟨y40, y40f⟩, ⟨y41, y41f⟩, -⟩ := id hs
   obtain ⟨⟨y10, y10f⟩, ⟨y11, y11f⟩, ⟨y20, y20f⟩, ⟨y30, y30f⟩, ⟨y31, y31f⟩, -⟩ := id hk
   go_upto_region 9 with fail
   go_region
   go_wp2_with fail
   obtain ⟨W9, hW9⟩ : ∃ W9, W9 = (((wr.setCell ⟨s + 2, 0, none⟩ (.slice pc C.length cc)).setCell ⟨s + 3, 0, none⟩ (.int .i64 (2))).setCell ⟨s + 3, 1, none⟩ (.slice pm M.length cm)).drew := ⟨_, rfl⟩
   rw [← hW9]
   have e0 : W9.cell? ⟨s + 2, 0, none⟩ = some (.slice pc C.length cc) := by rw [hW9]; go_cell
   have e1 : W9.cell? ⟨s + 3, 0, none⟩ = some (.int .i64 (2)) := by rw [hW9]; go_cell
   have e2 : W9.cell? ⟨s + 3, 1, none⟩ = some (.slice pm M.length cm) := by rw [hW9]; go_cell
   replace hC : CAt W9 pc cc C := by rw [hW9]; exact (((hC.set (oC.ne (by omega) (by omega)) _).set (oC.ne (by omega) (by omega)) _).set (oC.ne (by omega) (by omega)) _).mono (Below.drew (Below.refl _ _))
   replace hM : MxAt W9 pm cm M := by rw [hW9]; exact (((hM.set (oM.ne (by omega) (by omega)) _).set (oM.ne (by omega) (by omega)) _).set (oM.ne (by omega) (by omega)) _).up (Below.drew (Below.refl _ _))
   have B9 : Below w.heap.size w W9 := by
     rw [hW9]
     refine Below.drew ?_
     iterate 3 refine Below.setCell ?_ (by have h := HS.out; (try dsimp only); omega) _
     exact hbw
   clear hW9
   rw [HF.out]
   refine bodyPost_ret (by simp [results, Try.results21, go_sem, e0, e1, e2]; try rfl) rfl ?_
   exact ⟨_, _, _, _, rfl, hC, hM, B9, FC.out, FM.out⟩
  case pos =>
   have haL : a.length ≤ 16 := by have := HMA.out.len; omega
   have hMl2 : M.length * a.length ≤ 256 := Nat.mul_le_mul (show M.length ≤ 16 by omega) (show a.length ≤ 16 by omega)
   have hK1 : K + 1 ≤ n - 1 := by have := HV.out; omega
   have hVi : (V : Int) < (n : Int) := by omega
   clear y00 y00f y40 y40f y41 y41f y10 y10f y11 y11f y20 y20f y30 y30f y31 y31f
   obtain ⟨⟨y00, y00f⟩, ⟨y40, y40f⟩, ⟨y41, y41f⟩, -⟩ := id hs
   obtain ⟨⟨y10, y10f⟩, ⟨y11, y11f⟩, ⟨y20, y20f⟩, ⟨y30, y30f⟩, ⟨y31, y31f⟩, -⟩ := id hk
   obtain ⟨D, J, hDJ⟩ : ∃ D J, mJoin C (n * n) n n M a = (D, J) := ⟨_, _, rfl⟩
   obtain ⟨gD, mJ, _⟩ := join_ok (N := n * n) (n := n) (p := n) GC.out (by omega) MM.out (HMA.out.up hCg) (jpairs_rank MM.out (HMA.out.up hCg))
   rw [show (mJoin C (n * n) n n M a) = (D, J) from hDJ] at gD mJ
   dsimp only at gD mJ
   have hDl := gD.len; have hDg := gD.ge; have hJl := mJ.len
   obtain ⟨E, M2, hEM⟩ : ∃ E M2, mUnion D a J = (E, M2) := ⟨_, _, rfl⟩
   have HDJ := Lib.hid hDJ; have HEM := Lib.hid hEM; have GD := Lib.hid gD.good; have MJ := Lib.hid mJ
   have hD0 : 0 < D.length := gD.good.ne
   clear hDJ hEM gD mJ
   go_upto_region 6 with (first | (go_at_call 69; refine ((rjoin_any C M a 2 2 1 1 n n (n * n) ((n * n : Nat) : Int) ((n * n : Nat) : Int) pc pm pa cc cm ca _ hC hM (HA.out.up hbw) (by omega) (by omega) (by omega) hn0 (by omega) (Nat.pow_one n) (by rw [Nat.pow_succ, Nat.pow_one]) GC.out (by omega) MM.out (HMA.out.up hCg) (by omega) (by omega) (jpairs_rank MM.out (HMA.out.up hCg))).mono fun e w' h => RetCMF.eq h HDJ.out).mono ?_; rintro e w2 ⟨pd, cd, pj, cj, rfl, hD, hJ, hbl, frD, frJ⟩; have oD := Off.fresh frD oC zz; have oJ := Off.fresh frJ (Off.none _ _) zz; have FD := Lib.hid (Fresh.trans FC.out frD (by have h := HS.out; omega)); replace hs := hs.up hbl; replace hk := hk.up hbl; replace hC := hC.mono hbl; replace hM := hM.up hbl; replace hbw := btr hbw hbl; replace zz := Nat.le_trans zz (Below.size hbl); clear hbl frD frJ; clear y00 y00f y40 y40f y41 y41f y10 y10f y11 y11f y20 y20f y30 y30f y31 y31f; obtain ⟨⟨y00, y00f⟩, ⟨y40, y40f⟩, ⟨y41, y41f⟩, -⟩ := id hs; obtain ⟨⟨y10, y10f⟩, ⟨y11, y11f⟩, ⟨y20, y20f⟩, ⟨y30, y30f⟩, ⟨y31, y31f⟩, -⟩ := id hk))
   obtain ⟨w3, hw⟩ : ∃ zW, zW = ((w2.alloc (.cells #[.slice pd D.length cd] 27)).alloc (.cells #[.int .i64 2, .slice pj J.length cj] 30)) := ⟨_, rfl⟩
   rw [← hw]
   obtain ⟨b10, hb10⟩ : ∃ zW, zW = w2.heap.size := ⟨_, rfl⟩
   obtain ⟨b11, hb11⟩ : ∃ zW, zW = w2.heap.size + 1 := ⟨_, rfl⟩
   rw [← hb11]
   rw [← hb10]
   have hbl : Below w2.heap.size w2 w3 := by rw [hw]; go_grown
   have hge10 : s + 5 ≤ b10 := by rw [hb10]; omega
   have hgw10 : w2.heap.size ≤ b10 := by rw [hb10]; omega
   have hge11 : s + 5 ≤ b11 := by rw [hb11]; omega
   have hgw11 : w2.heap.size ≤ b11 := by rw [hb11]; omega
   have hlt11 : b10 < b11 := by rw [hb10, hb11]; omega
   clear y00 y00f y40 y40f y41 y41f y10 y10f y11 y11f y20 y20f y30 y30f y31 y31f
   replace hs := hs.up hbl; replace hk := hk.up hbl; replace hC := hC.mono hbl; replace hM := hM.up hbl; replace hD := hD.mono hbl; replace hJ := hJ.up hbl; replace hbw := btr hbw hbl; replace zz := Nat.le_trans zz (Below.size hbl)
   replace hs : Cells w3 [(b10, 0, .slice pd D.length cd), (b11, 0, .int .i64 2), (b11, 1, .slice pj J.length cj), (s, 0, .slice pc C.length cc), (s + 4, 0, .int .i64 2), (s + 4, 1, .slice pm M.length cm)] := ⟨⟨by rw [hw, hb10]; go_cell, by rw [hw, hb10]; go_cell⟩, ⟨by rw [hw, hb11]; go_cell, by rw [hw, hb11]; go_cell⟩, ⟨by rw [hw, hb11]; go_cell, by rw [hw, hb11]; go_cell⟩, hs⟩
   clear hbl hw hb10 hb11
   obtain ⟨⟨d100, d100f⟩, ⟨d110, d110f⟩, ⟨d111, d111f⟩, ⟨y00, y00f⟩, ⟨y40, y40f⟩, ⟨y41, y41f⟩, -⟩ := id hs
   obtain ⟨⟨y10, y10f⟩, ⟨y11, y11f⟩, ⟨y20, y20f⟩, ⟨y30, y30f⟩, ⟨y31, y31f⟩, -⟩ := id hk
   go_upto_region 7 with (first | (go_at_call 49; refine ((runion_any D a J 2 2 pd pa pj cd ca cj _ hD (HA.out.up hbw) hJ ((HMA.out.up hCg).le (by omega)) (MJ.out.le (by omega)) (by omega) hD0).mono fun e w' h => RetCMF.eq h ((rUnion_eq ((HMA.out.up hCg).up hDg) MJ.out).trans HEM.out)).mono ?_; rintro e w4 ⟨pe, ce, pu, cu, rfl, hE, hU, hbl, frE, frU⟩; have oE := Off.fresh frE oD zz; have oU := Off.fresh frU (Off.none _ _) zz; have FE := Lib.hid (Fresh.trans FD.out frE (by have h := HS.out; omega)); have FU := Lib.hid (show Fresh w pa pu from Fresh.any (Fresh.up frU (by have h := HS.out; omega))); replace hs := hs.up hbl; replace hk := hk.up hbl; replace hC := hC.mono hbl; replace hM := hM.up hbl; replace hD := hD.mono hbl; replace hJ := hJ.up hbl; replace hbw := btr hbw hbl; replace zz := Nat.le_trans zz (Below.size hbl); clear hbl frE frU; clear d100 d100f d110 d110f d111 d111f y00 y00f y40 y40f y41 y41f y10 y10f y11 y11f y20 y20f y30 y30f y31 y31f; obtain ⟨⟨d100, d100f⟩, ⟨d110, d110f⟩, ⟨d111, d111f⟩, ⟨y00, y00f⟩, ⟨y40, y40f⟩, ⟨y41, y41f⟩, -⟩ := id hs; obtain ⟨⟨y10, y10f⟩, ⟨y11, y11f⟩, ⟨y20, y20f⟩, ⟨y30, y30f⟩, ⟨y31, y31f⟩, -⟩ := id hk))
   clear hC hM hD hJ
   clear d100 d100f d110 d110f d111 d111f y00 y00f y40 y40f y41 y41f y10 y10f y11 y11f y20 y20f y30 y30f y31 y31f
   replace hs : Cells w4 [(s, 0, .slice pc C.length cc), (s + 4, 0, .int .i64 2), (s + 4, 1, .slice pm M.length cm)] := ⟨hs.2.2.2.1, hs.2.2.2.2.1, hs.2.2.2.2.2.1, trivial⟩
   obtain ⟨w5, hw⟩ : ∃ zW, zW = ((w4.alloc (.cells #[.slice pe E.length ce] 27)).alloc (.cells #[.int .i64 2, .slice pu M2.length cu] 30)) := ⟨_, rfl⟩
   rw [← hw]
   obtain ⟨b12, hb12⟩ : ∃ zW, zW = w4.heap.size := ⟨_, rfl⟩
   obtain ⟨b13, hb13⟩ : ∃ zW, zW = w4.heap.size + 1 := ⟨_, rfl⟩
   rw [← hb13]
   rw [← hb12]
   have hbl : Below w4.heap.size w4 w5 := by rw [hw]; go_grown
   have hge12 : s + 5 ≤ b12 := by rw [hb12]; omega
   have hgw12 : w4.heap.size ≤ b12 := by rw [hb12]; omega
   have hge13 : s + 5 ≤ b13 := by rw [hb13]; omega
   have hgw13 : w4.heap.size ≤ b13 := by rw [hb13]; omega
   have hlt13 : b12 < b13 := by rw [hb12, hb13]; omega
   replace hs := hs.up hbl; replace hk := hk.up hbl; replace hE := hE.mono hbl; replace hU := hU.up hbl; replace hbw := btr hbw hbl; replace zz := Nat.le_trans zz (Below.size hbl)
   replace hs : Cells w5 [(b12, 0, .slice pe E.length ce), (b13, 0, .int .i64 2), (b13, 1, .slice pu M2.length cu), (s, 0, .slice pc C.length cc), (s + 4, 0, .int .i64 2), (s + 4, 1, .slice pm M.length cm)] := ⟨⟨by rw [hw, hb12]; go_cell, by rw [hw, hb12]; go_cell⟩, ⟨by rw [hw, hb13]; go_cell, by rw [hw, hb13]; go_cell⟩, ⟨by rw [hw, hb13]; go_cell, by rw [hw, hb13]; go_cell⟩, hs⟩
   clear hbl hw hb12 hb13
   obtain ⟨⟨d120, d120f⟩, ⟨d130, d130f⟩, ⟨d131, d131f⟩, ⟨y00, y00f⟩, ⟨y40, y40f⟩, ⟨y41, y41f⟩, -⟩ := id hs
   obtain ⟨⟨y10, y10f⟩, ⟨y11, y11f⟩, ⟨y20, y20f⟩, ⟨y30, y30f⟩, ⟨y31, y31f⟩, -⟩ := id hk
   go_upto_region 8 with fail
   obtain ⟨w6, hw⟩ : ∃ zW, zW = (w5.setCell ⟨s, 0, none⟩ (.slice pe E.length ce)) := ⟨_, rfl⟩
   rw [← hw]
   replace hs : Cells w6 [(b12, 0, .slice pe E.length ce), (b13, 0, .int .i64 2), (b13, 1, .slice pu M2.length cu), (s, 0, .slice pe E.length ce), (s + 4, 0, .int .i64 2), (s + 4, 1, .slice pm M.length cm)] := by rw [hw]; exact ⟨⟨by go_cell, (fz d120f)⟩, ⟨by go_cell, (fz d130f)⟩, ⟨by go_cell, (fz d131f)⟩, ⟨by go_cell, (fz y00f)⟩, ⟨by go_cell, (fz y40f)⟩, ⟨by go_cell, (fz y41f)⟩, trivial⟩
   replace hk : Cells w6 [(s + 1, 0, .int .i64 2), (s + 1, 1, .slice pa a.length ca), (s + 2, 0, .slice none 0 0), (s + 3, 0, .int .i64 0), (s + 3, 1, .slice none 0 0)] := by rw [hw]; exact (hk.far (by simp <;> omega))
   replace hE : CAt w6 pe ce E := by rw [hw]; exact hE.box y00 _
   replace hU : MxAt w6 pu cu M2 := by rw [hw]; exact hU.box y00 _
   replace hbw : Below w.heap.size w w6 := by rw [hw]; exact (Below.setCell hbw (by have h := HS.out; (try dsimp only); omega) _)
   replace zz : s + 5 ≤ w6.heap.size := by rw [hw]; simpa using zz
   clear hw
   clear d120 d120f d130 d130f d131 d131f y00 y00f y40 y40f y41 y41f y10 y10f y11 y11f y20 y20f y30 y30f y31 y31f
   obtain ⟨⟨d120, d120f⟩, ⟨d130, d130f⟩, ⟨d131, d131f⟩, ⟨y00, y00f⟩, ⟨y40, y40f⟩, ⟨y41, y41f⟩, -⟩ := id hs
   obtain ⟨⟨y10, y10f⟩, ⟨y11, y11f⟩, ⟨y20, y20f⟩, ⟨y30, y30f⟩, ⟨y31, y31f⟩, -⟩ := id hk
   go_wp2_with fail
   obtain ⟨w7, hw⟩ : ∃ zW, zW = ((w6.setCell ⟨s + 4, 0, none⟩ (.int .i64 2)).setCell ⟨s + 4, 1, none⟩ (.slice pu M2.length cu)) := ⟨_, rfl⟩
   rw [← hw]
   replace hs : Cells w7 [(b12, 0, .slice pe E.length ce), (b13, 0, .int .i64 2), (b13, 1, .slice pu M2.length cu), (s, 0, .slice pe E.length ce), (s + 4, 0, .int .i64 2), (s + 4, 1, .slice pu M2.length cu)] := by rw [hw]; exact ⟨⟨by go_cell, (fz (fz d120f))⟩, ⟨by go_cell, (fz (fz d130f))⟩, ⟨by go_cell, (fz (fz d131f))⟩, ⟨by go_cell, (fz (fz y00f))⟩, ⟨by go_cell, (fz (fz y40f))⟩, ⟨by go_cell, (fz (fz y41f))⟩, trivial⟩
   replace hk : Cells w7 [(s + 1, 0, .int .i64 2), (s + 1, 1, .slice pa a.length ca), (s + 2, 0, .slice none 0 0), (s + 3, 0, .int .i64 0), (s + 3, 1, .slice none 0 0)] := by rw [hw]; exact ((hk.far (by simp <;> omega)).far (by simp <;> omega))
   replace hE : CAt w7 pe ce E := by rw [hw]; exact ((hE.set (oE.ne (by omega) (by omega)) _).set (oE.ne (by omega) (by omega)) _)
   replace hU : MxAt w7 pu cu M2 := by rw [hw]; exact ((hU.set (oU.ne (by omega) (by omega)) _).set (oU.ne (by omega) (by omega)) _)
   replace hbw : Below w.heap.size w w7 := by rw [hw]; exact (Below.setCell (Below.setCell hbw (by have h := HS.out; (try dsimp only); omega) _) (by have h := HS.out; (try dsimp only); omega) _)
   replace zz : s + 5 ≤ w7.heap.size := by rw [hw]; simpa using zz
   clear hw
   clear d120 d120f d130 d130f d131 d131f y00 y00f y40 y40f y41 y41f y10 y10f y11 y11f y20 y20f y30 y30f y31 y31f
   replace hs : Cells w7 [(s, 0, .slice pe E.length ce), (s + 4, 0, .int .i64 2), (s + 4, 1, .slice pu M2.length cu)] := ⟨hs.2.2.2.1, hs.2.2.2.2.1, hs.2.2.2.2.2.1, trivial⟩
   go_roundg ((n - 1) - (K + 1))
   case measure => (have := HN.out; omega)
   case rel => exact ⟨K + 1, V + 1, E, M2, pe, ce, pu, cu, by go_num, hK1, by have := HV.out; omega, trivial, rfl, by show cround _ _ _ _ _ = _; rw [HR.out]; show mUnion (mJoin C (n * n) n n M a).1 a (mJoin C (n * n) n n M a).2 = _; rw [HDJ.out]; exact HEM.out, oE, oU, FE.out, FU.out, hs, hk, hE, hU, hbw, zz⟩
end Go.Proofs.Ytadilppdlbhjnaa
