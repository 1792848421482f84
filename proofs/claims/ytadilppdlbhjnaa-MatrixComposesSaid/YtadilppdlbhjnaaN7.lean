/- Walks of layer 15: the closure methods' run. -/
import Derived.Test.YtadilppdlbhjnaaJ1
import Derived.Test.YtadilppdlbhjnaaM7
namespace Go.Proofs.Ytadilppdlbhjnaa
set_option linter.unusedSimpArgs false
set_option linter.unusedVariables false
open Go.RowKit

set_option maxRecDepth 100000 in
set_option maxHeartbeats 8000000 in
theorem run1_any (c : List Gate) (a : List Cell) (n : Nat) (p pa : Option Addr) (cap ca : Nat) (w : World) (hC : CAt w p cap c) (hA : MxAt w pa ca a) (hn0 : 0 < n) (hn : n ≤ 4) (hg : Good c) (hl : c.length + 2400 ≤ 20000) (ha : MOk c ((n * n : Nat) : Int) a) :
    Calls Try.prog 78 #[.agg #[.func (.func 126) #[] #[], .func (.func 127) #[] #[]], .agg #[.slice p c.length cap], .int .i64 n, .agg #[.int .i64 2, .slice pa a.length ca]] w (RetCMY w p pa (mSquaring c n a).1 2 (mSquaring c n a).2) := by
 obtain ⟨s, hs0⟩ : ∃ s, w.heap.size = s := ⟨_, rfl⟩
 obtain ⟨W2, hW2⟩ : ∃ W2, W2 = ((((((w.alloc (.cells #[.func (.func 126) #[] #[], .func (.func 127) #[] #[]] 80)).alloc (.cells #[.slice p c.length cap] 27)).alloc (.cells #[.int .i64 2, .slice pa a.length ca] 30)).alloc (.cells #[.slice none 0 0] 27)).alloc (.cells #[.int .i64 0, .slice none 0 0] 30)).alloc (.cells #[.int .i64 2, .slice pa a.length ca] 30)) := ⟨_, rfl⟩
 have hbw : Below w.heap.size w W2 := by rw [hW2]; go_grown
 have zz : s + 6 ≤ W2.heap.size := by rw [hW2, ← hs0]; simp
 have hs : Cells W2 [(s + 1, 0, .slice p c.length cap), (s + 5, 0, .int .i64 2), (s + 5, 1, .slice pa a.length ca)] := by rw [hW2, ← hs0]; exact ⟨⟨by go_cell, by go_cell⟩, ⟨by go_cell, by go_cell⟩, ⟨by go_cell, by go_cell⟩, trivial⟩
 have hk : Cells W2 [(s, 0, .func (.func 126) #[] #[]), (s, 1, .func (.func 127) #[] #[]), (s + 2, 0, .int .i64 2), (s + 2, 1, .slice pa a.length ca), (s + 3, 0, .slice none 0 0), (s + 4, 0, .int .i64 0), (s + 4, 1, .slice none 0 0)] := by rw [hW2, ← hs0]; exact ⟨⟨by go_cell, by go_cell⟩, ⟨by go_cell, by go_cell⟩, ⟨by go_cell, by go_cell⟩, ⟨by go_cell, by go_cell⟩, ⟨by go_cell, by go_cell⟩, ⟨by go_cell, by go_cell⟩, ⟨by go_cell, by go_cell⟩, trivial⟩
 have HW2 := Lib.hid hW2; have HS := Lib.hid hs0
 clear hW2 hs0
 have hc0 : 0 < c.length := hg.ne
 have oC : Off s 6 p := Off.old (by rw [← HS.out]; exact hC.lt hc0)
 have oM : Off s 6 pa := Off.old (by rw [← HS.out]; exact hA.lt)
 have HA := Lib.hid hA; have HMA := Lib.hid ha; have HG := Lib.hid hg
 replace hC : CAt W2 p cap c := hC.mono hbw
 have hM : MxAt W2 pa ca a := hA.up hbw
 obtain ⟨P, hP⟩ : ∃ P, plog n n 0 = P := ⟨_, rfl⟩
 have hP3 : P ≤ 3 := by rw [← hP]; exact Nat.le_trans (plog_le4 n hn) (by decide)
 have HP := Lib.hid hP
 clear hA ha hg hP
 go_enter Try.func78, Try.ntmps78
 go_upto_region 2 with fail
 rw [← HW2.out]
 simp only [HS.out, Nat.add_assoc, Nat.reduceAdd]
 obtain ⟨⟨y10, y10f⟩, ⟨y50, y50f⟩, ⟨y51, y51f⟩, -⟩ := id hs
 obtain ⟨⟨y00, y00f⟩, ⟨y01, y01f⟩, ⟨y20, y20f⟩, ⟨y21, y21f⟩, ⟨y30, y30f⟩, ⟨y40, y40f⟩, ⟨y41, y41f⟩, -⟩ := id hk
 have T1 := Lib.hid (fun w' : World => show Calls Try.prog 126 #[.int .i64 n] w' (fun e w'' => e = .returned (.int .i64 (P : Int)) ∧ w'' = w') from by rw [← HP.out]; exact rounds1_any n w' hn)
 go_wp2_with (first | (go_at_call 126; (with_reducible refine (T1.out _).mono ?_); rintro e w' ⟨rfl, hw⟩; replace hw := hw.symm; subst hw))
 go_loopg [20] P (fun N s20 wr => ∃ K : Nat, ∃ C : List Gate, ∃ M : List Cell, ∃ pc : Option Addr, ∃ cc : Nat, ∃ pm : Option Addr, ∃ cm : Nat, s20 = .int .i64 K ∧ K ≤ P ∧ N = P - K ∧ sqTo n a c K = (C, M) ∧ Off s 6 pc ∧ Off s 6 pm ∧ FreshB w p pc ∧ FreshB w pa pm ∧ Cells wr [(s + 1, 0, .slice pc C.length cc), (s + 5, 0, .int .i64 2), (s + 5, 1, .slice pm M.length cm)] ∧ Cells wr [(s, 0, .func (.func 126) #[] #[]), (s, 1, .func (.func 127) #[] #[]), (s + 2, 0, .int .i64 2), (s + 2, 1, .slice pa a.length ca), (s + 3, 0, .slice none 0 0), (s + 4, 0, .int .i64 0), (s + 4, 1, .slice none 0 0)] ∧ CAt wr pc cc C ∧ MxAt wr pm cm M ∧ Below w.heap.size w wr ∧ s + 6 ≤ wr.heap.size)
 case atStart => exact ⟨0, c, a, p, cap, pa, ca, rfl, by omega, rfl, rfl, oC, oM, FreshB.refl _ _, FreshB.refl _ _, hs, hk, hC, hM, hbw, zz⟩
 case round =>
  clear hs hk hC hM hbw zz
  obtain ⟨K, C, M, pc, cc, pm, cm, rfl, hK, hN, hrun, oC, oM, frC, frM, hs, hk, hC, hM, hbw, zz⟩ := hrel
  obtain ⟨gC, mM⟩ := sqTo_ok hn HG.out HMA.out K (by omega)
  rw [hrun] at gC mM; dsimp only at gC mM
  have hCl := gC.len; have hCg := gC.ge
  have hMl := mM.len
  have hnn : n * n ≤ 16 := Nat.mul_le_mul hn hn
  have GC := Lib.hid gC.good; have MM := Lib.hid mM
  have hC0 : 0 < C.length := GC.out.ne
  have HN := Lib.hid hN; have HR := Lib.hid hrun; have FC := Lib.hid frC; have FM := Lib.hid frM; clear hN hrun frC frM gC mM
  by_cases hlt : K < P
  case neg =>
   obtain rfl : K = P := by omega
   have HF := Lib.hid (show mSquaring c n a = (C, M) by show sqTo n a c (plog n n 0) = _; rw [HP.out]; exact HR.out)
   clear y10 y10f y50 y50f y51 y51f y00 y00f y01 y01f y20 y20f y21 y21f y30 y30f y40 y40f y41 y41f
   obtain ⟨⟨y10, y10f⟩, ⟨y50, y50f⟩, ⟨y51, y51f⟩, -⟩ := id hs
   obtain ⟨⟨y00, y00f⟩, ⟨y01, y01f⟩, ⟨y20, y20f⟩, ⟨y21, y21f⟩, ⟨y30, y30f⟩, ⟨y40, y40f⟩, ⟨y41, y41f⟩, -⟩ := id hk
   go_upto_region 9 with fail
   go_region
   go_wp2_with fail
   obtain ⟨W9, hW9⟩ : ∃ W9, W9 = (((wr.setCell ⟨s + 3, 0, none⟩ (.slice pc C.length cc)).setCell ⟨s + 4, 0, none⟩ (.int .i64 (2))).setCell ⟨s + 4, 1, none⟩ (.slice pm M.length cm)).drew := ⟨_, rfl⟩
   rw [← hW9]
   have e0 : W9.cell? ⟨s + 3, 0, none⟩ = some (.slice pc C.length cc) := by rw [hW9]; go_cell
   have e1 : W9.cell? ⟨s + 4, 0, none⟩ = some (.int .i64 (2)) := by rw [hW9]; go_cell
   have e2 : W9.cell? ⟨s + 4, 1, none⟩ = some (.slice pm M.length cm) := by rw [hW9]; go_cell
   replace hC : CAt W9 pc cc C := by rw [hW9]; exact (((hC.set (oC.ne (by omega) (by omega)) _).set (oC.ne (by omega) (by omega)) _).set (oC.ne (by omega) (by omega)) _).mono (Below.drew (Below.refl _ _))
   replace hM : MxAt W9 pm cm M := by rw [hW9]; exact (((hM.set (oM.ne (by omega) (by omega)) _).set (oM.ne (by omega) (by omega)) _).set (oM.ne (by omega) (by omega)) _).up (Below.drew (Below.refl _ _))
   have B9 : Below w.heap.size w W9 := by
     rw [hW9]
     refine Below.drew ?_
     iterate 3 refine Below.setCell ?_ (by have h := HS.out; (try dsimp only); omega) _
     exact hbw
   clear hW9
   rw [HF.out]
   refine bodyPost_ret (by simp [results, Try.results78, go_sem, e0, e1, e2]; try rfl) rfl ?_
   exact ⟨_, _, _, _, rfl, hC, hM, B9, FC.out, FM.out⟩
  case pos =>
   have hVi : (K : Int) < (P : Int) := by omega
   have haL : a.length ≤ 16 := by have := HMA.out.len; omega
   have hMl2 : M.length * M.length ≤ 256 := Nat.mul_le_mul (show M.length ≤ 16 by omega) (show M.length ≤ 16 by omega)
   obtain ⟨D, J, hDJ⟩ : ∃ D J, mJoin C (n * n) n n M M = (D, J) := ⟨_, _, rfl⟩
   obtain ⟨gD, mJ, _⟩ := join_ok (N := n * n) (n := n) (p := n) GC.out (by omega) MM.out MM.out (jpairs_rank MM.out MM.out)
   rw [show (mJoin C (n * n) n n M M) = (D, J) from hDJ] at gD mJ
   dsimp only at gD mJ
   have hDl := gD.len; have hDg := gD.ge; have hJl := mJ.len
   obtain ⟨E, M2, hEM⟩ : ∃ E M2, mUnion D M J = (E, M2) := ⟨_, _, rfl⟩
   have HDJ := Lib.hid hDJ; have HEM := Lib.hid hEM; have GD := Lib.hid gD.good; have MJ := Lib.hid mJ
   have hD0 : 0 < D.length := gD.good.ne
   have ltC := hC.lt hC0; have ltM := hM.lt
   clear hDJ hEM gD mJ
   clear y10 y10f y50 y50f y51 y51f y00 y00f y01 y01f y20 y20f y21 y21f y30 y30f y40 y40f y41 y41f
   obtain ⟨⟨y10, y10f⟩, ⟨y50, y50f⟩, ⟨y51, y51f⟩, -⟩ := id hs
   obtain ⟨⟨y00, y00f⟩, ⟨y01, y01f⟩, ⟨y20, y20f⟩, ⟨y21, y21f⟩, ⟨y30, y30f⟩, ⟨y40, y40f⟩, ⟨y41, y41f⟩, -⟩ := id hk
   go_upto_region 5 with fail
   obtain ⟨w3, hw⟩ : ∃ zW, zW = (wr.alloc (.cells #[.int .i64 0, .slice none 0 0] 30)) := ⟨_, rfl⟩
   rw [← hw]
   obtain ⟨b11, hb11⟩ : ∃ zW, zW = wr.heap.size := ⟨_, rfl⟩
   rw [← hb11]
   have hbl : Below wr.heap.size wr w3 := by rw [hw]; go_grown
   have hge11 : s + 6 ≤ b11 := by rw [hb11]; omega
   have hgw11 : wr.heap.size ≤ b11 := by rw [hb11]; omega
   clear y10 y10f y50 y50f y51 y51f y00 y00f y01 y01f y20 y20f y21 y21f y30 y30f y40 y40f y41 y41f
   replace hs := hs.up hbl; replace hk := hk.up hbl; replace hC := hC.mono hbl; replace hM := hM.up hbl; replace hbw := btr hbw hbl; replace zz := Nat.le_trans zz (Below.size hbl)
   replace hs : Cells w3 [(b11, 0, .int .i64 0), (b11, 1, .slice none 0 0), (s + 1, 0, .slice pc C.length cc), (s + 5, 0, .int .i64 2), (s + 5, 1, .slice pm M.length cm)] := ⟨⟨by rw [hw, hb11]; go_cell, by rw [hw, hb11]; go_cell⟩, ⟨by rw [hw, hb11]; go_cell, by rw [hw, hb11]; go_cell⟩, hs⟩
   clear hbl hw hb11
   have oCs : ∀ ad, pc = some ad → b11 ≠ ad.block := fun ad h e => by have := ltC ad h; omega
   have oMs : ∀ ad, pm = some ad → b11 ≠ ad.block := fun ad h e => by have := ltM ad h; omega
   clear ltC ltM
   obtain ⟨⟨d110, d110f⟩, ⟨d111, d111f⟩, ⟨y10, y10f⟩, ⟨y50, y50f⟩, ⟨y51, y51f⟩, -⟩ := id hs
   obtain ⟨⟨y00, y00f⟩, ⟨y01, y01f⟩, ⟨y20, y20f⟩, ⟨y21, y21f⟩, ⟨y30, y30f⟩, ⟨y40, y40f⟩, ⟨y41, y41f⟩, -⟩ := id hk
   go_upto_region 6 with (first | (go_at_call 127; refine (pick1_any 2 2 pa pm a.length ca M.length cm _).mono ?_; rintro e w4 ⟨rfl, hbl⟩; replace hs := hs.up hbl; replace hk := hk.up hbl; replace hC := hC.mono hbl; replace hM := hM.up hbl; replace hbw := btr hbw hbl; replace zz := Nat.le_trans zz (Below.size hbl); clear hbl; clear d110 d110f d111 d111f y10 y10f y50 y50f y51 y51f y00 y00f y01 y01f y20 y20f y21 y21f y30 y30f y40 y40f y41 y41f; obtain ⟨⟨d110, d110f⟩, ⟨d111, d111f⟩, ⟨y10, y10f⟩, ⟨y50, y50f⟩, ⟨y51, y51f⟩, -⟩ := id hs; obtain ⟨⟨y00, y00f⟩, ⟨y01, y01f⟩, ⟨y20, y20f⟩, ⟨y21, y21f⟩, ⟨y30, y30f⟩, ⟨y40, y40f⟩, ⟨y41, y41f⟩, -⟩ := id hk))
   have hb11 : b11 < w4.heap.size := World.block_lt_of_cell? _ _ d110
   obtain ⟨w5, hw⟩ : ∃ zW, zW = (((w4.alloc (.cells #[.int .i64 2, .slice pm M.length cm] 30)).alloc (.cells #[.int .i64 2, .slice pm M.length cm] 30)).alloc (.cells #[.int .i64 2, .slice pm M.length cm] 30)) := ⟨_, rfl⟩
   rw [← hw]
   obtain ⟨b12, hb12⟩ : ∃ zW, zW = w4.heap.size := ⟨_, rfl⟩
   obtain ⟨b13, hb13⟩ : ∃ zW, zW = w4.heap.size + 1 := ⟨_, rfl⟩
   obtain ⟨b14, hb14⟩ : ∃ zW, zW = w4.heap.size + 2 := ⟨_, rfl⟩
   simp only [Nat.add_assoc, Nat.reduceAdd]
   rw [← hb14]
   rw [← hb13]
   rw [← hb12]
   have hbl : Below w4.heap.size w4 w5 := by rw [hw]; go_grown
   have hge12 : s + 6 ≤ b12 := by rw [hb12]; omega
   have hgw12 : w4.heap.size ≤ b12 := by rw [hb12]; omega
   have hge13 : s + 6 ≤ b13 := by rw [hb13]; omega
   have hgw13 : w4.heap.size ≤ b13 := by rw [hb13]; omega
   have hge14 : s + 6 ≤ b14 := by rw [hb14]; omega
   have hgw14 : w4.heap.size ≤ b14 := by rw [hb14]; omega
   have hlt13 : b12 < b13 := by rw [hb12, hb13]; omega
   have hlt14 : b13 < b14 := by rw [hb13, hb14]; omega
   clear d110 d110f d111 d111f y10 y10f y50 y50f y51 y51f y00 y00f y01 y01f y20 y20f y21 y21f y30 y30f y40 y40f y41 y41f
   replace hs := hs.up hbl; replace hk := hk.up hbl; replace hC := hC.mono hbl; replace hM := hM.up hbl; replace hbw := btr hbw hbl; replace zz := Nat.le_trans zz (Below.size hbl)
   replace hs : Cells w5 [(b12, 0, .int .i64 2), (b12, 1, .slice pm M.length cm), (b13, 0, .int .i64 2), (b13, 1, .slice pm M.length cm), (b14, 0, .int .i64 2), (b14, 1, .slice pm M.length cm), (b11, 0, .int .i64 0), (b11, 1, .slice none 0 0), (s + 1, 0, .slice pc C.length cc), (s + 5, 0, .int .i64 2), (s + 5, 1, .slice pm M.length cm)] := ⟨⟨by rw [hw, hb12]; go_cell, by rw [hw, hb12]; go_cell⟩, ⟨by rw [hw, hb12]; go_cell, by rw [hw, hb12]; go_cell⟩, ⟨by rw [hw, hb13]; go_cell, by rw [hw, hb13]; go_cell⟩, ⟨by rw [hw, hb13]; go_cell, by rw [hw, hb13]; go_cell⟩, ⟨by rw [hw, hb14]; go_cell, by rw [hw, hb14]; go_cell⟩, ⟨by rw [hw, hb14]; go_cell, by rw [hw, hb14]; go_cell⟩, hs⟩
   clear hbl hw hb12 hb13 hb14
   obtain ⟨⟨d120, d120f⟩, ⟨d121, d121f⟩, ⟨d130, d130f⟩, ⟨d131, d131f⟩, ⟨d140, d140f⟩, ⟨d141, d141f⟩, ⟨d110, d110f⟩, ⟨d111, d111f⟩, ⟨y10, y10f⟩, ⟨y50, y50f⟩, ⟨y51, y51f⟩, -⟩ := id hs
   obtain ⟨⟨y00, y00f⟩, ⟨y01, y01f⟩, ⟨y20, y20f⟩, ⟨y21, y21f⟩, ⟨y30, y30f⟩, ⟨y40, y40f⟩, ⟨y41, y41f⟩, -⟩ := id hk
   have n12 : b11 ≠ b12 := by omega
   have n13 : b11 ≠ b13 := by omega
   have n14 : b11 ≠ b14 := by omega
   replace hb11 : b11 < w5.heap.size := World.block_lt_of_cell? _ _ d110
   go_upto_region 7 with (first | (go_at_call 44; refine ((join_any C M M 2 2 1 1 n n (n * n) ((n * n : Nat) : Int) ((n * n : Nat) : Int) pc pm pm cc cm cm _ hC hM hM (by omega) (by omega) (by omega) hn0 (by omega) (Nat.pow_one n) (by rw [Nat.pow_succ, Nat.pow_one]) GC.out (by omega) MM.out MM.out (by omega) (by omega) (jpairs_rank MM.out MM.out)).mono fun e w' h => RetCMB.eq h HDJ.out).mono ?_; rintro e w6 ⟨pd, cd, pj, cj, rfl, hD, hJ, hbl, frD, frJ⟩; have oD := Off.freshB frD oC zz; have oDs : ∀ ad, pd = some ad → b11 ≠ ad.block := fun ad h e => FreshB.ne frD (fun a h e => oCs a h e.symm) hb11 ad h e.symm; have oJ : Off s 6 pj := Off.ge frJ zz; have oJs : ∀ ad, pj = some ad → b11 ≠ ad.block := (fun ad h e => by have := frJ ad h; omega); have FD := Lib.hid (show FreshB w p pd from FreshB.trans FC.out frD (by have h := HS.out; omega)); replace hs := hs.up hbl; replace hk := hk.up hbl; replace hC := hC.mono hbl; replace hM := hM.up hbl; replace hbw := btr hbw hbl; replace zz := Nat.le_trans zz (Below.size hbl); clear hbl frD frJ; clear d120 d120f d121 d121f d130 d130f d131 d131f d140 d140f d141 d141f d110 d110f d111 d111f y10 y10f y50 y50f y51 y51f y00 y00f y01 y01f y20 y20f y21 y21f y30 y30f y40 y40f y41 y41f; obtain ⟨⟨d120, d120f⟩, ⟨d121, d121f⟩, ⟨d130, d130f⟩, ⟨d131, d131f⟩, ⟨d140, d140f⟩, ⟨d141, d141f⟩, ⟨d110, d110f⟩, ⟨d111, d111f⟩, ⟨y10, y10f⟩, ⟨y50, y50f⟩, ⟨y51, y51f⟩, -⟩ := id hs; obtain ⟨⟨y00, y00f⟩, ⟨y01, y01f⟩, ⟨y20, y20f⟩, ⟨y21, y21f⟩, ⟨y30, y30f⟩, ⟨y40, y40f⟩, ⟨y41, y41f⟩, -⟩ := id hk))
   clear hC
   obtain ⟨w7, hw⟩ : ∃ zW, zW = (((w6.setCell ⟨s + 1, 0, none⟩ (.slice pd D.length cd)).setCell ⟨b11, 0, none⟩ (.int .i64 2)).setCell ⟨b11, 1, none⟩ (.slice pj J.length cj)) := ⟨_, rfl⟩
   rw [← hw]
   replace hs : Cells w7 [(b12, 0, .int .i64 2), (b12, 1, .slice pm M.length cm), (b13, 0, .int .i64 2), (b13, 1, .slice pm M.length cm), (b14, 0, .int .i64 2), (b14, 1, .slice pm M.length cm), (b11, 0, .int .i64 2), (b11, 1, .slice pj J.length cj), (s + 1, 0, .slice pd D.length cd), (s + 5, 0, .int .i64 2), (s + 5, 1, .slice pm M.length cm)] := by rw [hw]; exact ⟨⟨by go_cell, (fz (fz (fz d120f)))⟩, ⟨by go_cell, (fz (fz (fz d121f)))⟩, ⟨by go_cell, (fz (fz (fz d130f)))⟩, ⟨by go_cell, (fz (fz (fz d131f)))⟩, ⟨by go_cell, (fz (fz (fz d140f)))⟩, ⟨by go_cell, (fz (fz (fz d141f)))⟩, ⟨by go_cell, (fz (fz (fz d110f)))⟩, ⟨by go_cell, (fz (fz (fz d111f)))⟩, ⟨by go_cell, (fz (fz (fz y10f)))⟩, ⟨by go_cell, (fz (fz (fz y50f)))⟩, ⟨by go_cell, (fz (fz (fz y51f)))⟩, trivial⟩
   replace hk : Cells w7 [(s, 0, .func (.func 126) #[] #[]), (s, 1, .func (.func 127) #[] #[]), (s + 2, 0, .int .i64 2), (s + 2, 1, .slice pa a.length ca), (s + 3, 0, .slice none 0 0), (s + 4, 0, .int .i64 0), (s + 4, 1, .slice none 0 0)] := by rw [hw]; exact (((hk.far (by simp <;> omega)).far (by simp <;> omega)).far (by simp <;> omega))
   replace hM : MxAt w7 pm cm M := by rw [hw]; exact (((hM.set (oM.ne (by omega) (by omega)) _).set (oMs) _).set (oMs) _)
   replace hD : CAt w7 pd cd D := by rw [hw]; exact (((hD.set (oD.ne (by omega) (by omega)) _).set (oDs) _).set (oDs) _)
   replace hJ : MxAt w7 pj cj J := by rw [hw]; exact (((hJ.set (oJ.ne (by omega) (by omega)) _).set (oJs) _).set (oJs) _)
   replace hbw : Below w.heap.size w w7 := by rw [hw]; exact (Below.setCell (Below.setCell (Below.setCell hbw (by have h := HS.out; (try dsimp only); omega) _) (by have h := HS.out; (try dsimp only); omega) _) (by have h := HS.out; (try dsimp only); omega) _)
   replace zz : s + 6 ≤ w7.heap.size := by rw [hw]; simpa using zz
   clear hw
   clear d120 d120f d121 d121f d130 d130f d131 d131f d140 d140f d141 d141f d110 d110f d111 d111f y10 y10f y50 y50f y51 y51f y00 y00f y01 y01f y20 y20f y21 y21f y30 y30f y40 y40f y41 y41f
   obtain ⟨⟨d120, d120f⟩, ⟨d121, d121f⟩, ⟨d130, d130f⟩, ⟨d131, d131f⟩, ⟨d140, d140f⟩, ⟨d141, d141f⟩, ⟨d110, d110f⟩, ⟨d111, d111f⟩, ⟨y10, y10f⟩, ⟨y50, y50f⟩, ⟨y51, y51f⟩, -⟩ := id hs
   obtain ⟨⟨y00, y00f⟩, ⟨y01, y01f⟩, ⟨y20, y20f⟩, ⟨y21, y21f⟩, ⟨y30, y30f⟩, ⟨y40, y40f⟩, ⟨y41, y41f⟩, -⟩ := id hk
   go_upto_region 8 with (first | (go_at_call 42; refine ((union_any D M J 2 2 pd pm pj cd cm cj _ hD hM hJ (MM.out.le (by omega)) (MJ.out.le (by omega)) (by omega) hD0).mono fun e w' h => RetCMB.eq h HEM.out).mono ?_; rintro e w8 ⟨pe, ce, pu, cu, rfl, hE, hU, hbl, frE, frU⟩; have oE := Off.freshB frE oD zz; have oU : Off s 6 pu := Off.ge frU zz; have FE := Lib.hid (show FreshB w p pe from FreshB.trans FD.out frE (by have h := HS.out; omega)); have FU := Lib.hid (show FreshB w pa pu from FreshB.up (FreshB.any frU) (by have h := HS.out; omega)); replace hs := hs.up hbl; replace hk := hk.up hbl; replace hM := hM.up hbl; replace hD := hD.mono hbl; replace hJ := hJ.up hbl; replace hbw := btr hbw hbl; replace zz := Nat.le_trans zz (Below.size hbl); clear hbl frE frU; clear d120 d120f d121 d121f d130 d130f d131 d131f d140 d140f d141 d141f d110 d110f d111 d111f y10 y10f y50 y50f y51 y51f y00 y00f y01 y01f y20 y20f y21 y21f y30 y30f y40 y40f y41 y41f; obtain ⟨⟨d120, d120f⟩, ⟨d121, d121f⟩, ⟨d130, d130f⟩, ⟨d131, d131f⟩, ⟨d140, d140f⟩, ⟨d141, d141f⟩, ⟨d110, d110f⟩, ⟨d111, d111f⟩, ⟨y10, y10f⟩, ⟨y50, y50f⟩, ⟨y51, y51f⟩, -⟩ := id hs; obtain ⟨⟨y00, y00f⟩, ⟨y01, y01f⟩, ⟨y20, y20f⟩, ⟨y21, y21f⟩, ⟨y30, y30f⟩, ⟨y40, y40f⟩, ⟨y41, y41f⟩, -⟩ := id hk))
   clear hM hD hJ
   clear d120 d120f d121 d121f d130 d130f d131 d131f d140 d140f d141 d141f d110 d110f d111 d111f y10 y10f y50 y50f y51 y51f y00 y00f y01 y01f y20 y20f y21 y21f y30 y30f y40 y40f y41 y41f
   replace hs : Cells w8 [(s + 1, 0, .slice pd D.length cd), (s + 5, 0, .int .i64 2), (s + 5, 1, .slice pm M.length cm)] := ⟨hs.2.2.2.2.2.2.2.2.1, hs.2.2.2.2.2.2.2.2.2.1, hs.2.2.2.2.2.2.2.2.2.2.1, trivial⟩
   obtain ⟨⟨y10, y10f⟩, ⟨y50, y50f⟩, ⟨y51, y51f⟩, -⟩ := id hs
   obtain ⟨⟨y00, y00f⟩, ⟨y01, y01f⟩, ⟨y20, y20f⟩, ⟨y21, y21f⟩, ⟨y30, y30f⟩, ⟨y40, y40f⟩, ⟨y41, y41f⟩, -⟩ := id hk
   obtain ⟨w9, hw⟩ : ∃ zW, zW = (((w8.setCell ⟨s + 1, 0, none⟩ (.slice pe E.length ce)).setCell ⟨s + 5, 0, none⟩ (.int .i64 2)).setCell ⟨s + 5, 1, none⟩ (.slice pu M2.length cu)) := ⟨_, rfl⟩
   rw [← hw]
   replace hs : Cells w9 [(s + 1, 0, .slice pe E.length ce), (s + 5, 0, .int .i64 2), (s + 5, 1, .slice pu M2.length cu)] := by rw [hw]; exact ⟨⟨by go_cell, (fz (fz (fz y10f)))⟩, ⟨by go_cell, (fz (fz (fz y50f)))⟩, ⟨by go_cell, (fz (fz (fz y51f)))⟩, trivial⟩
   replace hk : Cells w9 [(s, 0, .func (.func 126) #[] #[]), (s, 1, .func (.func 127) #[] #[]), (s + 2, 0, .int .i64 2), (s + 2, 1, .slice pa a.length ca), (s + 3, 0, .slice none 0 0), (s + 4, 0, .int .i64 0), (s + 4, 1, .slice none 0 0)] := by rw [hw]; exact (((hk.far (by simp <;> omega)).far (by simp <;> omega)).far (by simp <;> omega))
   replace hE : CAt w9 pe ce E := by rw [hw]; exact (((hE.set (oE.ne (by omega) (by omega)) _).set (oE.ne (by omega) (by omega)) _).set (oE.ne (by omega) (by omega)) _)
   replace hU : MxAt w9 pu cu M2 := by rw [hw]; exact (((hU.set (oU.ne (by omega) (by omega)) _).set (oU.ne (by omega) (by omega)) _).set (oU.ne (by omega) (by omega)) _)
   replace hbw : Below w.heap.size w w9 := by rw [hw]; exact (Below.setCell (Below.setCell (Below.setCell hbw (by have h := HS.out; (try dsimp only); omega) _) (by have h := HS.out; (try dsimp only); omega) _) (by have h := HS.out; (try dsimp only); omega) _)
   replace zz : s + 6 ≤ w9.heap.size := by rw [hw]; simpa using zz
   clear hw
   clear y10 y10f y50 y50f y51 y51f y00 y00f y01 y01f y20 y20f y21 y21f y30 y30f y40 y40f y41 y41f
   obtain ⟨⟨y10, y10f⟩, ⟨y50, y50f⟩, ⟨y51, y51f⟩, -⟩ := id hs
   obtain ⟨⟨y00, y00f⟩, ⟨y01, y01f⟩, ⟨y20, y20f⟩, ⟨y21, y21f⟩, ⟨y30, y30f⟩, ⟨y40, y40f⟩, ⟨y41, y41f⟩, -⟩ := id hk
   go_wp2_with fail
   go_roundg (P - (K + 1))
   case measure => (have := HN.out; omega)
   case rel => exact ⟨K + 1, E, M2, pe, ce, pu, cu, by go_num, by omega, rfl, by show cround _ _ _ _ _ = _; rw [HR.out]; show mUnion (mJoin C (n * n) n n M M).1 M (mJoin C (n * n) n n M M).2 = _; rw [HDJ.out]; exact HEM.out, oE, oU, FE.out, FU.out, hs, hk, hE, hU, hbw, zz⟩

set_option maxRecDepth 100000 in
set_option maxHeartbeats 8000000 in
theorem run2_any (c : List Gate) (a : List Cell) (n : Nat) (p pa : Option Addr) (cap ca : Nat) (w : World) (hC : CAt w p cap c) (hA : MxAt w pa ca a) (hn0 : 0 < n) (hn : n ≤ 4) (hg : Good c) (hl : c.length + 2400 ≤ 20000) (ha : MOk c ((n * n : Nat) : Int) a) :
    Calls Try.prog 78 #[.agg #[.func (.func 128) #[] #[], .func (.func 129) #[] #[]], .agg #[.slice p c.length cap], .int .i64 n, .agg #[.int .i64 2, .slice pa a.length ca]] w (RetCMY w p pa (mStepwise c n a).1 2 (mStepwise c n a).2) := by
 obtain ⟨s, hs0⟩ : ∃ s, w.heap.size = s := ⟨_, rfl⟩
 obtain ⟨W2, hW2⟩ : ∃ W2, W2 = ((((((w.alloc (.cells #[.func (.func 128) #[] #[], .func (.func 129) #[] #[]] 80)).alloc (.cells #[.slice p c.length cap] 27)).alloc (.cells #[.int .i64 2, .slice pa a.length ca] 30)).alloc (.cells #[.slice none 0 0] 27)).alloc (.cells #[.int .i64 0, .slice none 0 0] 30)).alloc (.cells #[.int .i64 2, .slice pa a.length ca] 30)) := ⟨_, rfl⟩
 have hbw : Below w.heap.size w W2 := by rw [hW2]; go_grown
 have zz : s + 6 ≤ W2.heap.size := by rw [hW2, ← hs0]; simp
 have hs : Cells W2 [(s + 1, 0, .slice p c.length cap), (s + 5, 0, .int .i64 2), (s + 5, 1, .slice pa a.length ca)] := by rw [hW2, ← hs0]; exact ⟨⟨by go_cell, by go_cell⟩, ⟨by go_cell, by go_cell⟩, ⟨by go_cell, by go_cell⟩, trivial⟩
 have hk : Cells W2 [(s, 0, .func (.func 128) #[] #[]), (s, 1, .func (.func 129) #[] #[]), (s + 2, 0, .int .i64 2), (s + 2, 1, .slice pa a.length ca), (s + 3, 0, .slice none 0 0), (s + 4, 0, .int .i64 0), (s + 4, 1, .slice none 0 0)] := by rw [hW2, ← hs0]; exact ⟨⟨by go_cell, by go_cell⟩, ⟨by go_cell, by go_cell⟩, ⟨by go_cell, by go_cell⟩, ⟨by go_cell, by go_cell⟩, ⟨by go_cell, by go_cell⟩, ⟨by go_cell, by go_cell⟩, ⟨by go_cell, by go_cell⟩, trivial⟩
 have HW2 := Lib.hid hW2; have HS := Lib.hid hs0
 clear hW2 hs0
 have hc0 : 0 < c.length := hg.ne
 have oC : Off s 6 p := Off.old (by rw [← HS.out]; exact hC.lt hc0)
 have oM : Off s 6 pa := Off.old (by rw [← HS.out]; exact hA.lt)
 have HA := Lib.hid hA; have HMA := Lib.hid ha; have HG := Lib.hid hg
 replace hC : CAt W2 p cap c := hC.mono hbw
 have hM : MxAt W2 pa ca a := hA.up hbw
 obtain ⟨P, hP⟩ : ∃ P, n - 1 = P := ⟨_, rfl⟩
 have hP3 : P ≤ 3 := by omega
 have HP := Lib.hid hP
 clear hA ha hg hP
 go_enter Try.func78, Try.ntmps78
 go_upto_region 2 with fail
 rw [← HW2.out]
 simp only [HS.out, Nat.add_assoc, Nat.reduceAdd]
 obtain ⟨⟨y10, y10f⟩, ⟨y50, y50f⟩, ⟨y51, y51f⟩, -⟩ := id hs
 obtain ⟨⟨y00, y00f⟩, ⟨y01, y01f⟩, ⟨y20, y20f⟩, ⟨y21, y21f⟩, ⟨y30, y30f⟩, ⟨y40, y40f⟩, ⟨y41, y41f⟩, -⟩ := id hk
 have T1 := Lib.hid (fun w' : World => show Calls Try.prog 128 #[.int .i64 n] w' (fun e w'' => e = .returned (.int .i64 (P : Int)) ∧ w'' = w') from by have h := rounds2_any n w' hn; rw [show (n : Int) - 1 = (P : Int) by rw [← HP.out]; omega] at h; exact h)
 go_wp2_with (first | (go_at_call 128; (with_reducible refine (T1.out _).mono ?_); rintro e w' ⟨rfl, hw⟩; replace hw := hw.symm; subst hw))
 go_loopg [20] P (fun N s20 wr => ∃ K : Nat, ∃ C : List Gate, ∃ M : List Cell, ∃ pc : Option Addr, ∃ cc : Nat, ∃ pm : Option Addr, ∃ cm : Nat, s20 = .int .i64 K ∧ K ≤ P ∧ N = P - K ∧ stTo n a c K = (C, M) ∧ Off s 6 pc ∧ Off s 6 pm ∧ FreshB w p pc ∧ FreshB w pa pm ∧ Cells wr [(s + 1, 0, .slice pc C.length cc), (s + 5, 0, .int .i64 2), (s + 5, 1, .slice pm M.length cm)] ∧ Cells wr [(s, 0, .func (.func 128) #[] #[]), (s, 1, .func (.func 129) #[] #[]), (s + 2, 0, .int .i64 2), (s + 2, 1, .slice pa a.length ca), (s + 3, 0, .slice none 0 0), (s + 4, 0, .int .i64 0), (s + 4, 1, .slice none 0 0)] ∧ CAt wr pc cc C ∧ MxAt wr pm cm M ∧ Below w.heap.size w wr ∧ s + 6 ≤ wr.heap.size)
 case atStart => exact ⟨0, c, a, p, cap, pa, ca, rfl, by omega, rfl, rfl, oC, oM, FreshB.refl _ _, FreshB.refl _ _, hs, hk, hC, hM, hbw, zz⟩
 case round =>
  clear hs hk hC hM hbw zz
  obtain ⟨K, C, M, pc, cc, pm, cm, rfl, hK, hN, hrun, oC, oM, frC, frM, hs, hk, hC, hM, hbw, zz⟩ := hrel
  obtain ⟨gC, mM⟩ := stTo_ok hn HG.out HMA.out K (by omega)
  rw [hrun] at gC mM; dsimp only at gC mM
  have hCl := gC.len; have hCg := gC.ge
  have hMl := mM.len
  have hnn : n * n ≤ 16 := Nat.mul_le_mul hn hn
  have GC := Lib.hid gC.good; have MM := Lib.hid mM
  have hC0 : 0 < C.length := GC.out.ne
  have HN := Lib.hid hN; have HR := Lib.hid hrun; have FC := Lib.hid frC; have FM := Lib.hid frM; clear hN hrun frC frM gC mM
  by_cases hlt : K < P
  case neg =>
   obtain rfl : K = P := by omega
   have HF := Lib.hid (show mStepwise c n a = (C, M) by show stTo n a c (n - 1) = _; rw [HP.out]; exact HR.out)
   clear y10 y10f y50 y50f y51 y51f y00 y00f y01 y01f y20 y20f y21 y21f y30 y30f y40 y40f y41 y41f
   obtain ⟨⟨y10, y10f⟩, ⟨y50, y50f⟩, ⟨y51, y51f⟩, -⟩ := id hs
   obtain ⟨⟨y00, y00f⟩, ⟨y01, y01f⟩, ⟨y20, y20f⟩, ⟨y21, y21f⟩, ⟨y30, y30f⟩, ⟨y40, y40f⟩, ⟨y41, y41f⟩, -⟩ := id hk
   go_upto_region 9 with fail
   go_region
   go_wp2_with fail
   obtain ⟨W9, hW9⟩ : ∃ W9, W9 = (((wr.setCell ⟨s + 3, 0, none⟩ (.slice pc C.length cc)).setCell ⟨s + 4, 0, none⟩ (.int .i64 (2))).setCell ⟨s + 4, 1, none⟩ (.slice pm M.length cm)).drew := ⟨_, rfl⟩
   rw [← hW9]
   have e0 : W9.cell? ⟨s + 3, 0, none⟩ = some (.slice pc C.length cc) := by rw [hW9]; go_cell
   have e1 : W9.cell? ⟨s + 4, 0, none⟩ = some (.int .i64 (2)) := by rw [hW9]; go_cell
   have e2 : W9.cell? ⟨s + 4, 1, none⟩ = some (.slice pm M.length cm) := by rw [hW9]; go_cell
   replace hC : CAt W9 pc cc C := by rw [hW9]; exact (((hC.set (oC.ne (by omega) (by omega)) _).set (oC.ne (by omega) (by omega)) _).set (oC.ne (by omega) (by omega)) _).mono (Below.drew (Below.refl _ _))
   replace hM : MxAt W9 pm cm M := by rw [hW9]; exact (((hM.set (oM.ne (by omega) (by omega)) _).set (oM.ne (by omega) (by omega)) _).set (oM.ne (by omega) (by omega)) _).up (Below.drew (Below.refl _ _))
   have B9 : Below w.heap.size w W9 := by
     rw [hW9]
     refine Below.drew ?_
     iterate 3 refine Below.setCell ?_ (by have h := HS.out; (try dsimp only); omega) _
     exact hbw
   clear hW9
   rw [HF.out]
   refine bodyPost_ret (by simp [results, Try.results78, go_sem, e0, e1, e2]; try rfl) rfl ?_
   exact ⟨_, _, _, _, rfl, hC, hM, B9, FC.out, FM.out⟩
  case pos =>
   have hVi : (K : Int) < (P : Int) := by omega
   have haL : a.length ≤ 16 := by have := HMA.out.len; omega
   have hMl2 : M.length * a.length ≤ 256 := Nat.mul_le_mul (show M.length ≤ 16 by omega) (show a.length ≤ 16 by omega)
   obtain ⟨D, J, hDJ⟩ : ∃ D J, mJoin C (n * n) n n M a = (D, J) := ⟨_, _, rfl⟩
   obtain ⟨gD, mJ, _⟩ := join_ok (N := n * n) (n := n) (p := n) GC.out (by omega) MM.out (HMA.out.up hCg) (jpairs_rank MM.out (HMA.out.up hCg))
   rw [show (mJoin C (n * n) n n M a) = (D, J) from hDJ] at gD mJ
   dsimp only at gD mJ
   have hDl := gD.len; have hDg := gD.ge; have hJl := mJ.len
   obtain ⟨E, M2, hEM⟩ : ∃ E M2, mUnion D a J = (E, M2) := ⟨_, _, rfl⟩
   have HDJ := Lib.hid hDJ; have HEM := Lib.hid hEM; have GD := Lib.hid gD.good; have MJ := Lib.hid mJ
   have hD0 : 0 < D.length := gD.good.ne
   have ltC := hC.lt hC0; have ltM := hM.lt
   clear hDJ hEM gD mJ
   clear y10 y10f y50 y50f y51 y51f y00 y00f y01 y01f y20 y20f y21 y21f y30 y30f y40 y40f y41 y41f
   obtain ⟨⟨y10, y10f⟩, ⟨y50, y50f⟩, ⟨y51, y51f⟩, -⟩ := id hs
   obtain ⟨⟨y00, y00f⟩, ⟨y01, y01f⟩, ⟨y20, y20f⟩, ⟨y21, y21f⟩, ⟨y30, y30f⟩, ⟨y40, y40f⟩, ⟨y41, y41f⟩, -⟩ := id hk
   go_upto_region 5 with fail
   obtain ⟨w3, hw⟩ : ∃ zW, zW = (wr.alloc (.cells #[.int .i64 0, .slice none 0 0] 30)) := ⟨_, rfl⟩
   rw [← hw]
   obtain ⟨b11, hb11⟩ : ∃ zW, zW = wr.heap.size := ⟨_, rfl⟩
   rw [← hb11]
   have hbl : Below wr.heap.size wr w3 := by rw [hw]; go_grown
   have hge11 : s + 6 ≤ b11 := by rw [hb11]; omega
   have hgw11 : wr.heap.size ≤ b11 := by rw [hb11]; omega
   clear y10 y10f y50 y50f y51 y51f y00 y00f y01 y01f y20 y20f y21 y21f y30 y30f y40 y40f y41 y41f
   replace hs := hs.up hbl; replace hk := hk.up hbl; replace hC := hC.mono hbl; replace hM := hM.up hbl; replace hbw := btr hbw hbl; replace zz := Nat.le_trans zz (Below.size hbl)
   replace hs : Cells w3 [(b11, 0, .int .i64 0), (b11, 1, .slice none 0 0), (s + 1, 0, .slice pc C.length cc), (s + 5, 0, .int .i64 2), (s + 5, 1, .slice pm M.length cm)] := ⟨⟨by rw [hw, hb11]; go_cell, by rw [hw, hb11]; go_cell⟩, ⟨by rw [hw, hb11]; go_cell, by rw [hw, hb11]; go_cell⟩, hs⟩
   clear hbl hw hb11
   have oCs : ∀ ad, pc = some ad → b11 ≠ ad.block := fun ad h e => by have := ltC ad h; omega
   have oMs : ∀ ad, pm = some ad → b11 ≠ ad.block := fun ad h e => by have := ltM ad h; omega
   clear ltC ltM
   obtain ⟨⟨d110, d110f⟩, ⟨d111, d111f⟩, ⟨y10, y10f⟩, ⟨y50, y50f⟩, ⟨y51, y51f⟩, -⟩ := id hs
   obtain ⟨⟨y00, y00f⟩, ⟨y01, y01f⟩, ⟨y20, y20f⟩, ⟨y21, y21f⟩, ⟨y30, y30f⟩, ⟨y40, y40f⟩, ⟨y41, y41f⟩, -⟩ := id hk
   go_upto_region 6 with (first | (go_at_call 129; refine (pick2_any 2 2 pa pm a.length ca M.length cm _).mono ?_; rintro e w4 ⟨rfl, hbl⟩; replace hs := hs.up hbl; replace hk := hk.up hbl; replace hC := hC.mono hbl; replace hM := hM.up hbl; replace hbw := btr hbw hbl; replace zz := Nat.le_trans zz (Below.size hbl); clear hbl; clear d110 d110f d111 d111f y10 y10f y50 y50f y51 y51f y00 y00f y01 y01f y20 y20f y21 y21f y30 y30f y40 y40f y41 y41f; obtain ⟨⟨d110, d110f⟩, ⟨d111, d111f⟩, ⟨y10, y10f⟩, ⟨y50, y50f⟩, ⟨y51, y51f⟩, -⟩ := id hs; obtain ⟨⟨y00, y00f⟩, ⟨y01, y01f⟩, ⟨y20, y20f⟩, ⟨y21, y21f⟩, ⟨y30, y30f⟩, ⟨y40, y40f⟩, ⟨y41, y41f⟩, -⟩ := id hk))
   have hb11 : b11 < w4.heap.size := World.block_lt_of_cell? _ _ d110
   obtain ⟨w5, hw⟩ : ∃ zW, zW = (((w4.alloc (.cells #[.int .i64 2, .slice pa a.length ca] 30)).alloc (.cells #[.int .i64 2, .slice pm M.length cm] 30)).alloc (.cells #[.int .i64 2, .slice pa a.length ca] 30)) := ⟨_, rfl⟩
   rw [← hw]
   obtain ⟨b12, hb12⟩ : ∃ zW, zW = w4.heap.size := ⟨_, rfl⟩
   obtain ⟨b13, hb13⟩ : ∃ zW, zW = w4.heap.size + 1 := ⟨_, rfl⟩
   obtain ⟨b14, hb14⟩ : ∃ zW, zW = w4.heap.size + 2 := ⟨_, rfl⟩
   simp only [Nat.add_assoc, Nat.reduceAdd]
   rw [← hb14]
   rw [← hb13]
   rw [← hb12]
   have hbl : Below w4.heap.size w4 w5 := by rw [hw]; go_grown
   have hge12 : s + 6 ≤ b12 := by rw [hb12]; omega
   have hgw12 : w4.heap.size ≤ b12 := by rw [hb12]; omega
   have hge13 : s + 6 ≤ b13 := by rw [hb13]; omega
   have hgw13 : w4.heap.size ≤ b13 := by rw [hb13]; omega
   have hge14 : s + 6 ≤ b14 := by rw [hb14]; omega
   have hgw14 : w4.heap.size ≤ b14 := by rw [hb14]; omega
   have hlt13 : b12 < b13 := by rw [hb12, hb13]; omega
   have hlt14 : b13 < b14 := by rw [hb13, hb14]; omega
   clear d110 d110f d111 d111f y10 y10f y50 y50f y51 y51f y00 y00f y01 y01f y20 y20f y21 y21f y30 y30f y40 y40f y41 y41f
   replace hs := hs.up hbl; replace hk := hk.up hbl; replace hC := hC.mono hbl; replace hM := hM.up hbl; replace hbw := btr hbw hbl; replace zz := Nat.le_trans zz (Below.size hbl)
   replace hs : Cells w5 [(b12, 0, .int .i64 2), (b12, 1, .slice pa a.length ca), (b13, 0, .int .i64 2), (b13, 1, .slice pm M.length cm), (b14, 0, .int .i64 2), (b14, 1, .slice pa a.length ca), (b11, 0, .int .i64 0), (b11, 1, .slice none 0 0), (s + 1, 0, .slice pc C.length cc), (s + 5, 0, .int .i64 2), (s + 5, 1, .slice pm M.length cm)] := ⟨⟨by rw [hw, hb12]; go_cell, by rw [hw, hb12]; go_cell⟩, ⟨by rw [hw, hb12]; go_cell, by rw [hw, hb12]; go_cell⟩, ⟨by rw [hw, hb13]; go_cell, by rw [hw, hb13]; go_cell⟩, ⟨by rw [hw, hb13]; go_cell, by rw [hw, hb13]; go_cell⟩, ⟨by rw [hw, hb14]; go_cell, by rw [hw, hb14]; go_cell⟩, ⟨by rw [hw, hb14]; go_cell, by rw [hw, hb14]; go_cell⟩, hs⟩
   clear hbl hw hb12 hb13 hb14
   obtain ⟨⟨d120, d120f⟩, ⟨d121, d121f⟩, ⟨d130, d130f⟩, ⟨d131, d131f⟩, ⟨d140, d140f⟩, ⟨d141, d141f⟩, ⟨d110, d110f⟩, ⟨d111, d111f⟩, ⟨y10, y10f⟩, ⟨y50, y50f⟩, ⟨y51, y51f⟩, -⟩ := id hs
   obtain ⟨⟨y00, y00f⟩, ⟨y01, y01f⟩, ⟨y20, y20f⟩, ⟨y21, y21f⟩, ⟨y30, y30f⟩, ⟨y40, y40f⟩, ⟨y41, y41f⟩, -⟩ := id hk
   have n12 : b11 ≠ b12 := by omega
   have n13 : b11 ≠ b13 := by omega
   have n14 : b11 ≠ b14 := by omega
   replace hb11 : b11 < w5.heap.size := World.block_lt_of_cell? _ _ d110
   go_upto_region 7 with (first | (go_at_call 44; refine ((join_any C M a 2 2 1 1 n n (n * n) ((n * n : Nat) : Int) ((n * n : Nat) : Int) pc pm pa cc cm ca _ hC hM (HA.out.up hbw) (by omega) (by omega) (by omega) hn0 (by omega) (Nat.pow_one n) (by rw [Nat.pow_succ, Nat.pow_one]) GC.out (by omega) MM.out (HMA.out.up hCg) (by omega) (by omega) (jpairs_rank MM.out (HMA.out.up hCg))).mono fun e w' h => RetCMB.eq h HDJ.out).mono ?_; rintro e w6 ⟨pd, cd, pj, cj, rfl, hD, hJ, hbl, frD, frJ⟩; have oD := Off.freshB frD oC zz; have oDs : ∀ ad, pd = some ad → b11 ≠ ad.block := fun ad h e => FreshB.ne frD (fun a h e => oCs a h e.symm) hb11 ad h e.symm; have oJ : Off s 6 pj := Off.ge frJ zz; have oJs : ∀ ad, pj = some ad → b11 ≠ ad.block := (fun ad h e => by have := frJ ad h; omega); have FD := Lib.hid (show FreshB w p pd from FreshB.trans FC.out frD (by have h := HS.out; omega)); replace hs := hs.up hbl; replace hk := hk.up hbl; replace hC := hC.mono hbl; replace hM := hM.up hbl; replace hbw := btr hbw hbl; replace zz := Nat.le_trans zz (Below.size hbl); clear hbl frD frJ; clear d120 d120f d121 d121f d130 d130f d131 d131f d140 d140f d141 d141f d110 d110f d111 d111f y10 y10f y50 y50f y51 y51f y00 y00f y01 y01f y20 y20f y21 y21f y30 y30f y40 y40f y41 y41f; obtain ⟨⟨d120, d120f⟩, ⟨d121, d121f⟩, ⟨d130, d130f⟩, ⟨d131, d131f⟩, ⟨d140, d140f⟩, ⟨d141, d141f⟩, ⟨d110, d110f⟩, ⟨d111, d111f⟩, ⟨y10, y10f⟩, ⟨y50, y50f⟩, ⟨y51, y51f⟩, -⟩ := id hs; obtain ⟨⟨y00, y00f⟩, ⟨y01, y01f⟩, ⟨y20, y20f⟩, ⟨y21, y21f⟩, ⟨y30, y30f⟩, ⟨y40, y40f⟩, ⟨y41, y41f⟩, -⟩ := id hk))
   clear hC
   obtain ⟨w7, hw⟩ : ∃ zW, zW = (((w6.setCell ⟨s + 1, 0, none⟩ (.slice pd D.length cd)).setCell ⟨b11, 0, none⟩ (.int .i64 2)).setCell ⟨b11, 1, none⟩ (.slice pj J.length cj)) := ⟨_, rfl⟩
   rw [← hw]
   replace hs : Cells w7 [(b12, 0, .int .i64 2), (b12, 1, .slice pa a.length ca), (b13, 0, .int .i64 2), (b13, 1, .slice pm M.length cm), (b14, 0, .int .i64 2), (b14, 1, .slice pa a.length ca), (b11, 0, .int .i64 2), (b11, 1, .slice pj J.length cj), (s + 1, 0, .slice pd D.length cd), (s + 5, 0, .int .i64 2), (s + 5, 1, .slice pm M.length cm)] := by rw [hw]; exact ⟨⟨by go_cell, (fz (fz (fz d120f)))⟩, ⟨by go_cell, (fz (fz (fz d121f)))⟩, ⟨by go_cell, (fz (fz (fz d130f)))⟩, ⟨by go_cell, (fz (fz (fz d131f)))⟩, ⟨by go_cell, (fz (fz (fz d140f)))⟩, ⟨by go_cell, (fz (fz (fz d141f)))⟩, ⟨by go_cell, (fz (fz (fz d110f)))⟩, ⟨by go_cell, (fz (fz (fz d111f)))⟩, ⟨by go_cell, (fz (fz (fz y10f)))⟩, ⟨by go_cell, (fz (fz (fz y50f)))⟩, ⟨by go_cell, (fz (fz (fz y51f)))⟩, trivial⟩
   replace hk : Cells w7 [(s, 0, .func (.func 128) #[] #[]), (s, 1, .func (.func 129) #[] #[]), (s + 2, 0, .int .i64 2), (s + 2, 1, .slice pa a.length ca), (s + 3, 0, .slice none 0 0), (s + 4, 0, .int .i64 0), (s + 4, 1, .slice none 0 0)] := by rw [hw]; exact (((hk.far (by simp <;> omega)).far (by simp <;> omega)).far (by simp <;> omega))
   replace hM : MxAt w7 pm cm M := by rw [hw]; exact (((hM.set (oM.ne (by omega) (by omega)) _).set (oMs) _).set (oMs) _)
   replace hD : CAt w7 pd cd D := by rw [hw]; exact (((hD.set (oD.ne (by omega) (by omega)) _).set (oDs) _).set (oDs) _)
   replace hJ : MxAt w7 pj cj J := by rw [hw]; exact (((hJ.set (oJ.ne (by omega) (by omega)) _).set (oJs) _).set (oJs) _)
   replace hbw : Below w.heap.size w w7 := by rw [hw]; exact (Below.setCell (Below.setCell (Below.setCell hbw (by have h := HS.out; (try dsimp only); omega) _) (by have h := HS.out; (try dsimp only); omega) _) (by have h := HS.out; (try dsimp only); omega) _)
   replace zz : s + 6 ≤ w7.heap.size := by rw [hw]; simpa using zz
   clear hw
   clear d120 d120f d121 d121f d130 d130f d131 d131f d140 d140f d141 d141f d110 d110f d111 d111f y10 y10f y50 y50f y51 y51f y00 y00f y01 y01f y20 y20f y21 y21f y30 y30f y40 y40f y41 y41f
   obtain ⟨⟨d120, d120f⟩, ⟨d121, d121f⟩, ⟨d130, d130f⟩, ⟨d131, d131f⟩, ⟨d140, d140f⟩, ⟨d141, d141f⟩, ⟨d110, d110f⟩, ⟨d111, d111f⟩, ⟨y10, y10f⟩, ⟨y50, y50f⟩, ⟨y51, y51f⟩, -⟩ := id hs
   obtain ⟨⟨y00, y00f⟩, ⟨y01, y01f⟩, ⟨y20, y20f⟩, ⟨y21, y21f⟩, ⟨y30, y30f⟩, ⟨y40, y40f⟩, ⟨y41, y41f⟩, -⟩ := id hk
   go_upto_region 8 with (first | (go_at_call 42; refine ((union_any D a J 2 2 pd pa pj cd ca cj _ hD (HA.out.up hbw) hJ ((HMA.out.up hCg).le (by omega)) (MJ.out.le (by omega)) (by omega) hD0).mono fun e w' h => RetCMB.eq h HEM.out).mono ?_; rintro e w8 ⟨pe, ce, pu, cu, rfl, hE, hU, hbl, frE, frU⟩; have oE := Off.freshB frE oD zz; have oU : Off s 6 pu := Off.ge frU zz; have FE := Lib.hid (show FreshB w p pe from FreshB.trans FD.out frE (by have h := HS.out; omega)); have FU := Lib.hid (show FreshB w pa pu from FreshB.up (FreshB.any frU) (by have h := HS.out; omega)); replace hs := hs.up hbl; replace hk := hk.up hbl; replace hM := hM.up hbl; replace hD := hD.mono hbl; replace hJ := hJ.up hbl; replace hbw := btr hbw hbl; replace zz := Nat.le_trans zz (Below.size hbl); clear hbl frE frU; clear d120 d120f d121 d121f d130 d130f d131 d131f d140 d140f d141 d141f d110 d110f d111 d111f y10 y10f y50 y50f y51 y51f y00 y00f y01 y01f y20 y20f y21 y21f y30 y30f y40 y40f y41 y41f; obtain ⟨⟨d120, d120f⟩, ⟨d121, d121f⟩, ⟨d130, d130f⟩, ⟨d131, d131f⟩, ⟨d140, d140f⟩, ⟨d141, d141f⟩, ⟨d110, d110f⟩, ⟨d111, d111f⟩, ⟨y10, y10f⟩, ⟨y50, y50f⟩, ⟨y51, y51f⟩, -⟩ := id hs; obtain ⟨⟨y00, y00f⟩, ⟨y01, y01f⟩, ⟨y20, y20f⟩, ⟨y21, y21f⟩, ⟨y30, y30f⟩, ⟨y40, y40f⟩, ⟨y41, y41f⟩, -⟩ := id hk))
   clear hM hD hJ
   clear d120 d120f d121 d121f d130 d130f d131 d131f d140 d140f d141 d141f d110 d110f d111 d111f y10 y10f y50 y50f y51 y51f y00 y00f y01 y01f y20 y20f y21 y21f y30 y30f y40 y40f y41 y41f
   replace hs : Cells w8 [(s + 1, 0, .slice pd D.length cd), (s + 5, 0, .int .i64 2), (s + 5, 1, .slice pm M.length cm)] := ⟨hs.2.2.2.2.2.2.2.2.1, hs.2.2.2.2.2.2.2.2.2.1, hs.2.2.2.2.2.2.2.2.2.2.1, trivial⟩
   obtain ⟨⟨y10, y10f⟩, ⟨y50, y50f⟩, ⟨y51, y51f⟩, -⟩ := id hs
   obtain ⟨⟨y00, y00f⟩, ⟨y01, y01f⟩, ⟨y20, y20f⟩, ⟨y21, y21f⟩, ⟨y30, y30f⟩, ⟨y40, y40f⟩, ⟨y41, y41f⟩, -⟩ := id hk
   obtain ⟨w9, hw⟩ : ∃ zW, zW = (((w8.setCell ⟨s + 1, 0, none⟩ (.slice pe E.length ce)).setCell ⟨s + 5, 0, none⟩ (.int .i64 2)).setCell ⟨s + 5, 1, none⟩ (.slice pu M2.length cu)) := ⟨_, rfl⟩
   rw [← hw]
   replace hs : Cells w9 [(s + 1, 0, .slice pe E.length ce), (s + 5, 0, .int .i64 2), (s + 5, 1, .slice pu M2.length cu)] := by rw [hw]; exact ⟨⟨by go_cell, (fz (fz (fz y10f)))⟩, ⟨by go_cell, (fz (fz (fz y50f)))⟩, ⟨by go_cell, (fz (fz (fz y51f)))⟩, trivial⟩
   replace hk : Cells w9 [(s, 0, .func (.func 128) #[] #[]), (s, 1, .func (.func 129) #[] #[]), (s + 2, 0, .int .i64 2), (s + 2, 1, .slice pa a.length ca), (s + 3, 0, .slice none 0 0), (s + 4, 0, .int .i64 0), (s + 4, 1, .slice none 0 0)] := by rw [hw]; exact (((hk.far (by simp <;> omega)).far (by simp <;> omega)).far (by simp <;> omega))
   replace hE : CAt w9 pe ce E := by rw [hw]; exact (((hE.set (oE.ne (by omega) (by omega)) _).set (oE.ne (by omega) (by omega)) _).set (oE.ne (by omega) (by omega)) _)
   replace hU : MxAt w9 pu cu M2 := by rw [hw]; exact (((hU.set (oU.ne (by omega) (by omega)) _).set (oU.ne (by omega) (by omega)) _).set (oU.ne (by omega) (by omega)) _)
   replace hbw : Below w.heap.size w w9 := by rw [hw]; exact (Below.setCell (Below.setCell (Below.setCell hbw (by have h := HS.out; (try dsimp only); omega) _) (by have h := HS.out; (try dsimp only); omega) _) (by have h := HS.out; (try dsimp only); omega) _)
   replace zz : s + 6 ≤ w9.heap.size := by rw [hw]; simpa using zz
   clear hw
   clear y10 y10f y50 y50f y51 y51f y00 y00f y01 y01f y20 y20f y21 y21f y30 y30f y40 y40f y41 y41f
   obtain ⟨⟨y10, y10f⟩, ⟨y50, y50f⟩, ⟨y51, y51f⟩, -⟩ := id hs
   obtain ⟨⟨y00, y00f⟩, ⟨y01, y01f⟩, ⟨y20, y20f⟩, ⟨y21, y21f⟩, ⟨y30, y30f⟩, ⟨y40, y40f⟩, ⟨y41, y41f⟩, -⟩ := id hk
   go_wp2_with fail
   go_roundg (P - (K + 1))
   case measure => (have := HN.out; omega)
   case rel => exact ⟨K + 1, E, M2, pe, ce, pu, cu, by go_num, by omega, rfl, by show cround _ _ _ _ _ = _; rw [HR.out]; show mUnion (mJoin C (n * n) n n M a).1 a (mJoin C (n * n) n n M a).2 = _; rw [HDJ.out]; exact HEM.out, oE, oU, FE.out, FU.out, hs, hk, hE, hU, hbw, zz⟩
end Go.Proofs.Ytadilppdlbhjnaa
