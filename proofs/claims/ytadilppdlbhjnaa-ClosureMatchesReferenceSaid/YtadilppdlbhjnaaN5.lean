/- Walk of layer 15: the reference's Smaller. -/
import Derived.Test.YtadilppdlbhjnaaN4
namespace Go.Proofs.Ytadilppdlbhjnaa
set_option linter.unusedSimpArgs false
set_option linter.unusedVariables false
open Go.RowKit

set_option maxRecDepth 100000 in
set_option maxHeartbeats 4000000 in
theorem rsmaller_any (c : List Gate) (a : List Cell) (n : Nat) (p pa : Option Addr) (cap ca : Nat) (w : World) (hC : CAt w p cap c) (hA : MxAt w pa ca a) (hn0 : 0 < n) (hn : n ≤ 4) (hg : Good c) (hl : c.length + 2400 ≤ 20000) (ha : MOk c ((n * n : Nat) : Int) a) :
    Calls Try.prog 23 #[.agg #[.slice p c.length cap], .int .i64 n, .agg #[.int .i64 2, .slice pa a.length ca]] w (RetCMF w p pa (mSmaller c n a).1 2 (mSmaller c n a).2) := by
 obtain ⟨s, hs0⟩ : ∃ s, w.heap.size = s := ⟨_, rfl⟩
 obtain ⟨W2, hW2⟩ : ∃ W2, W2 = ((((w.alloc (.cells #[.slice p c.length cap] 27)).alloc (.cells #[.int .i64 2, .slice pa a.length ca] 30)).alloc (.cells #[.slice none 0 0] 27)).alloc (.cells #[.int .i64 0, .slice none 0 0] 30)) := ⟨_, rfl⟩
 have hbw : Below w.heap.size w W2 := by rw [hW2]; go_grown
 have zz : s + 4 ≤ W2.heap.size := by rw [hW2, ← hs0]; simp
 have hk : Cells W2 [(s, 0, .slice p c.length cap), (s + 1, 0, .int .i64 2), (s + 1, 1, .slice pa a.length ca), (s + 2, 0, .slice none 0 0), (s + 3, 0, .int .i64 0), (s + 3, 1, .slice none 0 0)] := by rw [hW2, ← hs0]; exact ⟨⟨by go_cell, by go_cell⟩, ⟨by go_cell, by go_cell⟩, ⟨by go_cell, by go_cell⟩, ⟨by go_cell, by go_cell⟩, ⟨by go_cell, by go_cell⟩, ⟨by go_cell, by go_cell⟩, trivial⟩
 have HW2 := Lib.hid hW2; have HS := Lib.hid hs0
 clear hW2 hs0
 have hc0 : 0 < c.length := hg.ne
 have oC : Off s 4 p := Off.old (by rw [← HS.out]; exact hC.lt hc0)
 have oM : Off s 4 pa := Off.old (by rw [← HS.out]; exact hA.lt)
 obtain ⟨D, J, hDJ⟩ : ∃ D J, mSquaring c n a = (D, J) := ⟨_, _, rfl⟩
 obtain ⟨E, M2, hEM⟩ : ∃ E M2, mStepwise c n a = (E, M2) := ⟨_, _, rfl⟩
 have gD := (squaring_ok hn hg (by omega) ha).1
 have gE := (stepwise_ok hn hg (by omega) ha).1
 rw [hDJ] at gD; rw [hEM] at gE; dsimp only at gD gE
 have hD0 : 0 < D.length := gD.good.ne
 have hE0 : 0 < E.length := gE.good.ne
 have HDJ := Lib.hid hDJ; have HEM := Lib.hid hEM
 have HC := Lib.hid hC; have HA := Lib.hid hA; have HMA := Lib.hid ha; have HG := Lib.hid hg
 clear hA ha hg hC hDJ hEM gD gE
 go_enter Try.func23, Try.ntmps23
 go_upto_region 1 with fail
 rw [← HW2.out]
 simp only [HS.out, Nat.add_assoc, Nat.reduceAdd]
 obtain ⟨⟨y00, y00f⟩, ⟨y10, y10f⟩, ⟨y11, y11f⟩, ⟨y20, y20f⟩, ⟨y30, y30f⟩, ⟨y31, y31f⟩, -⟩ := id hk
 go_upto_region 2 with (first | (go_at_call 19; refine ((rsquaring_any c a n p pa cap ca _ (HC.out.mono hbw) (HA.out.up hbw) hn0 hn HG.out hl HMA.out).mono fun e w' h => RetCMF.eq h HDJ.out).mono ?_; rintro e w2 ⟨pd, cd, pj, cj, rfl, hD, hJ, hbl, frD, frJ⟩; have oD := Off.fresh frD oC zz; have oJ := Off.fresh frJ oM zz; have FD := Lib.hid (show Fresh w p pd from Fresh.up frD (by have h := HS.out; omega)); have FJ := Lib.hid (show Fresh w pa pj from Fresh.up frJ (by have h := HS.out; omega)); replace hk := hk.up hbl; replace hbw := btr hbw hbl; replace zz := Nat.le_trans zz (Below.size hbl); clear hbl frD frJ; clear y00 y00f y10 y10f y11 y11f y20 y20f y30 y30f y31 y31f; obtain ⟨⟨y00, y00f⟩, ⟨y10, y10f⟩, ⟨y11, y11f⟩, ⟨y20, y20f⟩, ⟨y30, y30f⟩, ⟨y31, y31f⟩, -⟩ := id hk))
 obtain ⟨w3, hw⟩ : ∃ zW, zW = ((w2.alloc (.cells #[.slice pd D.length cd] 27)).alloc (.cells #[.int .i64 2, .slice pj J.length cj] 30)) := ⟨_, rfl⟩
 rw [← hw]
 obtain ⟨b8, hb8⟩ : ∃ zW, zW = w2.heap.size := ⟨_, rfl⟩
 obtain ⟨b9, hb9⟩ : ∃ zW, zW = w2.heap.size + 1 := ⟨_, rfl⟩
 rw [← hb9]
 rw [← hb8]
 have hbl : Below w2.heap.size w2 w3 := by rw [hw]; go_grown
 have hge8 : s + 4 ≤ b8 := by rw [hb8]; omega
 have hgw8 : w2.heap.size ≤ b8 := by rw [hb8]; omega
 have hge9 : s + 4 ≤ b9 := by rw [hb9]; omega
 have hgw9 : w2.heap.size ≤ b9 := by rw [hb9]; omega
 have hlt9 : b8 < b9 := by rw [hb8, hb9]; omega
 clear y00 y00f y10 y10f y11 y11f y20 y20f y30 y30f y31 y31f
 replace hk := hk.up hbl; replace hD := hD.mono hbl; replace hJ := hJ.up hbl; replace hbw := btr hbw hbl; replace zz := Nat.le_trans zz (Below.size hbl)
 have hs : Cells w3 [(b8, 0, .slice pd D.length cd), (b9, 0, .int .i64 2), (b9, 1, .slice pj J.length cj)] := ⟨⟨by rw [hw, hb8]; go_cell, by rw [hw, hb8]; go_cell⟩, ⟨by rw [hw, hb9]; go_cell, by rw [hw, hb9]; go_cell⟩, ⟨by rw [hw, hb9]; go_cell, by rw [hw, hb9]; go_cell⟩, trivial⟩
 clear hbl hw hb8 hb9
 obtain ⟨⟨d80, d80f⟩, ⟨d90, d90f⟩, ⟨d91, d91f⟩, -⟩ := id hs
 obtain ⟨⟨y00, y00f⟩, ⟨y10, y10f⟩, ⟨y11, y11f⟩, ⟨y20, y20f⟩, ⟨y30, y30f⟩, ⟨y31, y31f⟩, -⟩ := id hk
 go_upto_region 3 with (first | (go_at_call 21; refine ((rstepwise_any c a n p pa cap ca _ (HC.out.mono hbw) (HA.out.up hbw) hn0 hn HG.out hl HMA.out).mono fun e w' h => RetCMF.eq h HEM.out).mono ?_; rintro e w4 ⟨pe, ce, pu, cu, rfl, hE, hU, hbl, frE, frU⟩; have oE := Off.fresh frE oC zz; have oU := Off.fresh frU oM zz; have FE := Lib.hid (show Fresh w p pe from Fresh.up frE (by have h := HS.out; omega)); have FU := Lib.hid (show Fresh w pa pu from Fresh.up frU (by have h := HS.out; omega)); replace hs := hs.up hbl; replace hk := hk.up hbl; replace hD := hD.mono hbl; replace hJ := hJ.up hbl; replace hbw := btr hbw hbl; replace zz := Nat.le_trans zz (Below.size hbl); clear hbl frE frU; clear d80 d80f d90 d90f d91 d91f y00 y00f y10 y10f y11 y11f y20 y20f y30 y30f y31 y31f; obtain ⟨⟨d80, d80f⟩, ⟨d90, d90f⟩, ⟨d91, d91f⟩, -⟩ := id hs; obtain ⟨⟨y00, y00f⟩, ⟨y10, y10f⟩, ⟨y11, y11f⟩, ⟨y20, y20f⟩, ⟨y30, y30f⟩, ⟨y31, y31f⟩, -⟩ := id hk))
 obtain ⟨w5, hw⟩ : ∃ zW, zW = ((w4.alloc (.cells #[.slice pe E.length ce] 27)).alloc (.cells #[.int .i64 2, .slice pu M2.length cu] 30)) := ⟨_, rfl⟩
 rw [← hw]
 obtain ⟨b10, hb10⟩ : ∃ zW, zW = w4.heap.size := ⟨_, rfl⟩
 obtain ⟨b11, hb11⟩ : ∃ zW, zW = w4.heap.size + 1 := ⟨_, rfl⟩
 rw [← hb11]
 rw [← hb10]
 have hbl : Below w4.heap.size w4 w5 := by rw [hw]; go_grown
 have hge10 : s + 4 ≤ b10 := by rw [hb10]; omega
 have hgw10 : w4.heap.size ≤ b10 := by rw [hb10]; omega
 have hge11 : s + 4 ≤ b11 := by rw [hb11]; omega
 have hgw11 : w4.heap.size ≤ b11 := by rw [hb11]; omega
 have hlt11 : b10 < b11 := by rw [hb10, hb11]; omega
 clear d80 d80f d90 d90f d91 d91f y00 y00f y10 y10f y11 y11f y20 y20f y30 y30f y31 y31f
 replace hs := hs.up hbl; replace hk := hk.up hbl; replace hD := hD.mono hbl; replace hJ := hJ.up hbl; replace hE := hE.mono hbl; replace hU := hU.up hbl; replace hbw := btr hbw hbl; replace zz := Nat.le_trans zz (Below.size hbl)
 replace hs : Cells w5 [(b10, 0, .slice pe E.length ce), (b11, 0, .int .i64 2), (b11, 1, .slice pu M2.length cu), (b8, 0, .slice pd D.length cd), (b9, 0, .int .i64 2), (b9, 1, .slice pj J.length cj)] := ⟨⟨by rw [hw, hb10]; go_cell, by rw [hw, hb10]; go_cell⟩, ⟨by rw [hw, hb11]; go_cell, by rw [hw, hb11]; go_cell⟩, ⟨by rw [hw, hb11]; go_cell, by rw [hw, hb11]; go_cell⟩, hs⟩
 clear hbl hw hb10 hb11
 by_cases hlt : E.length < D.length
 case pos =>
  have hlt1 : (E.length : Int) < (D.length : Int) := by omega
  have HF := Lib.hid (show mSmaller c n a = (E, M2) by unfold mSmaller; rw [HDJ.out, HEM.out]; dsimp only; rw [if_pos hlt])
  have hC := hE; have hM := hU; have oC := oE; have oM := oU; have FC := FE; have FM := FU
  obtain ⟨⟨d100, d100f⟩, ⟨d110, d110f⟩, ⟨d111, d111f⟩, ⟨d80, d80f⟩, ⟨d90, d90f⟩, ⟨d91, d91f⟩, -⟩ := id hs
  obtain ⟨⟨y00, y00f⟩, ⟨y10, y10f⟩, ⟨y11, y11f⟩, ⟨y20, y20f⟩, ⟨y30, y30f⟩, ⟨y31, y31f⟩, -⟩ := id hk
  go_upto_region 4 with fail
  go_region
  go_wp2_with fail
  obtain ⟨W9, hW9⟩ : ∃ W9, W9 = (((w5.setCell ⟨s + 2, 0, none⟩ (.slice pe E.length ce)).setCell ⟨s + 3, 0, none⟩ (.int .i64 (2))).setCell ⟨s + 3, 1, none⟩ (.slice pu M2.length cu)).drew := ⟨_, rfl⟩
  rw [← hW9]
  have e0 : W9.cell? ⟨s + 2, 0, none⟩ = some (.slice pe E.length ce) := by rw [hW9]; go_cell
  have e1 : W9.cell? ⟨s + 3, 0, none⟩ = some (.int .i64 (2)) := by rw [hW9]; go_cell
  have e2 : W9.cell? ⟨s + 3, 1, none⟩ = some (.slice pu M2.length cu) := by rw [hW9]; go_cell
  replace hC : CAt W9 pe ce E := by rw [hW9]; exact (((hC.set (oC.ne (by omega) (by omega)) _).set (oC.ne (by omega) (by omega)) _).set (oC.ne (by omega) (by omega)) _).mono (Below.drew (Below.refl _ _))
  replace hM : MxAt W9 pu cu M2 := by rw [hW9]; exact (((hM.set (oM.ne (by omega) (by omega)) _).set (oM.ne (by omega) (by omega)) _).set (oM.ne (by omega) (by omega)) _).up (Below.drew (Below.refl _ _))
  have B9 : Below w.heap.size w W9 := by
    rw [hW9]
    refine Below.drew ?_
    iterate 3 refine Below.setCell ?_ (by have h := HS.out; (try dsimp only); omega) _
    exact hbw
  clear hW9
  rw [HF.out]
  refine bodyPost_ret (by simp [results, Try.results23, go_sem, e0, e1, e2]; try rfl) rfl ?_
  exact ⟨_, _, _, _, rfl, hC, hM, B9, FC.out, FM.out⟩
 case neg =>
  have hlt1 : ¬ (E.length : Int) < (D.length : Int) := by omega
  have HF := Lib.hid (show mSmaller c n a = (D, J) by unfold mSmaller; rw [HDJ.out, HEM.out]; dsimp only; rw [if_neg hlt])
  have hC := hD; have hM := hJ; have oC := oD; have oM := oJ; have FC := FD; have FM := FJ
  obtain ⟨⟨d100, d100f⟩, ⟨d110, d110f⟩, ⟨d111, d111f⟩, ⟨d80, d80f⟩, ⟨d90, d90f⟩, ⟨d91, d91f⟩, -⟩ := id hs
  obtain ⟨⟨y00, y00f⟩, ⟨y10, y10f⟩, ⟨y11, y11f⟩, ⟨y20, y20f⟩, ⟨y30, y30f⟩, ⟨y31, y31f⟩, -⟩ := id hk
  go_upto_region 5 with fail
  go_region
  go_wp2_with fail
  obtain ⟨W9, hW9⟩ : ∃ W9, W9 = (((w5.setCell ⟨s + 2, 0, none⟩ (.slice pd D.length cd)).setCell ⟨s + 3, 0, none⟩ (.int .i64 (2))).setCell ⟨s + 3, 1, none⟩ (.slice pj J.length cj)).drew := ⟨_, rfl⟩
  rw [← hW9]
  have e0 : W9.cell? ⟨s + 2, 0, none⟩ = some (.slice pd D.length cd) := by rw [hW9]; go_cell
  have e1 : W9.cell? ⟨s + 3, 0, none⟩ = some (.int .i64 (2)) := by rw [hW9]; go_cell
  have e2 : W9.cell? ⟨s + 3, 1, none⟩ = some (.slice pj J.length cj) := by rw [hW9]; go_cell
  replace hC : CAt W9 pd cd D := by rw [hW9]; exact (((hC.set (oC.ne (by omega) (by omega)) _).set (oC.ne (by omega) (by omega)) _).set (oC.ne (by omega) (by omega)) _).mono (Below.drew (Below.refl _ _))
  replace hM : MxAt W9 pj cj J := by rw [hW9]; exact (((hM.set (oM.ne (by omega) (by omega)) _).set (oM.ne (by omega) (by omega)) _).set (oM.ne (by omega) (by omega)) _).up (Below.drew (Below.refl _ _))
  have B9 : Below w.heap.size w W9 := by
    rw [hW9]
    refine Below.drew ?_
    iterate 3 refine Below.setCell ?_ (by have h := HS.out; (try dsimp only); omega) _
    exact hbw
  clear hW9
  rw [HF.out]
  refine bodyPost_ret (by simp [results, Try.results23, go_sem, e0, e1, e2]; try rfl) rfl ?_
  exact ⟨_, _, _, _, rfl, hC, hM, B9, FC.out, FM.out⟩
end Go.Proofs.Ytadilppdlbhjnaa
