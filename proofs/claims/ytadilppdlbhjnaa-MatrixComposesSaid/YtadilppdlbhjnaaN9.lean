/- Walk of layer 15: Acyclic. -/
import Derived.Test.YtadilppdlbhjnaaN8
import Derived.Test.YtadilppdlbhjnaaN6
namespace Go.Proofs.Ytadilppdlbhjnaa
set_option linter.unusedSimpArgs false
set_option linter.unusedVariables false
open Go.RowKit

set_option maxRecDepth 100000 in
set_option maxHeartbeats 8000000 in
theorem acyclic_any (c : List Gate) (a : List Cell) (n : Nat) (p pa : Option Addr) (cap ca : Nat) (w : World) (hC : CAt w p cap c) (hA : MxAt w pa ca a) (hn0 : 0 < n) (hn : n ≤ 4) (hg : Good c) (hl : c.length + 2400 ≤ 20000) (ha : MOk c ((n * n : Nat) : Int) a) :
    Calls Try.prog 24 #[.agg #[.slice p c.length cap], .int .i64 n, .agg #[.int .i64 2, .slice pa a.length ca]] w (RetC w (mAcyclic c n a).1 (mAcyclic c n a).2) := by
 obtain ⟨s, hs0⟩ : ∃ s, w.heap.size = s := ⟨_, rfl⟩
 obtain ⟨W2, hW2⟩ : ∃ W2, W2 = (((w.alloc (.cells #[.slice p c.length cap] 27)).alloc (.cells #[.int .i64 2, .slice pa a.length ca] 30)).alloc (.cells #[.slice none 0 0] 27)) := ⟨_, rfl⟩
 have hbw : Below w.heap.size w W2 := by rw [hW2]; go_grown
 have zz : s + 3 ≤ W2.heap.size := by rw [hW2, ← hs0]; simp
 have hs : Cells W2 [(s, 0, .slice p c.length cap)] := by rw [hW2, ← hs0]; exact ⟨⟨by go_cell, by go_cell⟩, trivial⟩
 have hk : Cells W2 [(s + 1, 0, .int .i64 2), (s + 1, 1, .slice pa a.length ca), (s + 2, 0, .slice none 0 0)] := by rw [hW2, ← hs0]; exact ⟨⟨by go_cell, by go_cell⟩, ⟨by go_cell, by go_cell⟩, ⟨by go_cell, by go_cell⟩, trivial⟩
 have HW2 := Lib.hid hW2; have HS := Lib.hid hs0
 clear hW2 hs0
 obtain ⟨i0, hi0, hz0, hz1, hz2⟩ := info_parts int_info
 have hc0 : 0 < c.length := hg.ne
 have oC : Off s 3 p := Off.old (by rw [← HS.out]; exact hC.lt hc0)
 have oM : Off s 3 pa := Off.old (by rw [← HS.out]; exact hA.lt)
 obtain ⟨D, J, hDJ⟩ : ∃ D J, mSmaller c n a = (D, J) := ⟨_, _, rfl⟩
 obtain ⟨gD, mJ⟩ := smaller_ok hn hg (by omega) ha
 rw [hDJ] at gD mJ; dsimp only at gD mJ
 have hDl := gD.len; have hJl := mJ.len
 have hnn : n * n ≤ 16 := Nat.mul_le_mul hn hn
 have hD0 : 0 < D.length := gD.good.ne
 have AO := Lib.hid (fun k h => acTo_ok (n := n) gD.good mJ k h)
 have HDJ := Lib.hid hDJ; have GD := Lib.hid gD.good; have MJ := Lib.hid mJ
 have HC := Lib.hid hC; have HA := Lib.hid hA; have HMA := Lib.hid ha; have HG := Lib.hid hg
 clear hA ha hg hC hDJ gD mJ
 go_enter Try.func24, Try.ntmps24
 go_upto_region 1 with fail
 rw [← HW2.out]
 simp only [HS.out, Nat.add_assoc, Nat.reduceAdd]
 obtain ⟨⟨y00, y00f⟩, -⟩ := id hs
 obtain ⟨⟨y10, y10f⟩, ⟨y11, y11f⟩, ⟨y20, y20f⟩, -⟩ := id hk
 go_upto_region 2 with (first | (go_at_call 22; refine ((smaller_any c a n p pa cap ca _ (HC.out.mono hbw) (HA.out.up hbw) hn0 hn HG.out hl HMA.out).mono fun e w' h => RetCMY.eq h HDJ.out).mono ?_; rintro e w2 ⟨pd, cd, pj, cj, rfl, hC, hJ, hbl, frD, frJ⟩; have oC := Off.freshB frD oC zz; have oJ := Off.freshB frJ oM zz; replace hs := hs.up hbl; replace hk := hk.up hbl; replace hbw := btr hbw hbl; replace zz := Nat.le_trans zz (Below.size hbl); clear hbl frD frJ; clear y00 y00f y10 y10f y11 y11f y20 y20f; obtain ⟨⟨y00, y00f⟩, -⟩ := id hs; obtain ⟨⟨y10, y10f⟩, ⟨y11, y11f⟩, ⟨y20, y20f⟩, -⟩ := id hk; have k1 : ∀ x, (w2.alloc x).cell? ⟨s, 0, none⟩ = some (.slice p c.length cap) := (fun x => keep_alloc y00); have k2 : ∀ x, (w2.alloc x).frozen? ⟨s, 0, none⟩ = false := (fun x => free_alloc y00f (World.block_lt_of_cell? _ _ y00))))
 clear k1 k2
 have ltC := hC.lt hD0; have ltJ := hJ.lt
 obtain ⟨w3, hw⟩ : ∃ zW, zW = (w2.alloc (.cells #[.int .i64 0, .slice none 0 0] 30)) := ⟨_, rfl⟩
 rw [← hw]
 obtain ⟨b8, hb8⟩ : ∃ zW, zW = w2.heap.size := ⟨_, rfl⟩
 rw [← hb8]
 have hbl : Below w2.heap.size w2 w3 := by rw [hw]; go_grown
 have hge8 : s + 3 ≤ b8 := by rw [hb8]; omega
 have hgw8 : w2.heap.size ≤ b8 := by rw [hb8]; omega
 clear y00 y00f y10 y10f y11 y11f y20 y20f
 replace hs := hs.up hbl; replace hk := hk.up hbl; replace hC := hC.mono hbl; replace hJ := hJ.up hbl; replace hbw := btr hbw hbl; replace zz := Nat.le_trans zz (Below.size hbl)
 replace hs : Cells w3 [(b8, 0, .int .i64 0), (b8, 1, .slice none 0 0), (s, 0, .slice p c.length cap)] := ⟨⟨by rw [hw, hb8]; go_cell, by rw [hw, hb8]; go_cell⟩, ⟨by rw [hw, hb8]; go_cell, by rw [hw, hb8]; go_cell⟩, hs⟩
 clear hbl hw hb8
 have oCb : ∀ ad, pd = some ad → b8 ≠ ad.block := fun ad h e => by have := ltC ad h; omega
 have oJb : ∀ ad, pj = some ad → b8 ≠ ad.block := fun ad h e => by have := ltJ ad h; omega
 clear ltC ltJ
 obtain ⟨⟨d80, d80f⟩, ⟨d81, d81f⟩, ⟨y00, y00f⟩, -⟩ := id hs
 obtain ⟨⟨y10, y10f⟩, ⟨y11, y11f⟩, ⟨y20, y20f⟩, -⟩ := id hk
 obtain ⟨w4, hw⟩ : ∃ zW, zW = (((w3.setCell ⟨s, 0, none⟩ (.slice pd D.length cd)).setCell ⟨b8, 0, none⟩ (.int .i64 2)).setCell ⟨b8, 1, none⟩ (.slice pj J.length cj)) := ⟨_, rfl⟩
 rw [← hw]
 replace hs : Cells w4 [(b8, 0, .int .i64 2), (b8, 1, .slice pj J.length cj), (s, 0, .slice pd D.length cd)] := by rw [hw]; exact ⟨⟨by go_cell, (fz (fz (fz d80f)))⟩, ⟨by go_cell, (fz (fz (fz d81f)))⟩, ⟨by go_cell, (fz (fz (fz y00f)))⟩, trivial⟩
 replace hk : Cells w4 [(s + 1, 0, .int .i64 2), (s + 1, 1, .slice pa a.length ca), (s + 2, 0, .slice none 0 0)] := by rw [hw]; exact (((hk.far (by simp <;> omega)).far (by simp <;> omega)).far (by simp <;> omega))
 replace hC : CAt w4 pd cd D := by rw [hw]; exact (((hC.set (oC.ne (by omega) (by omega)) _).set (oCb) _).set (oCb) _)
 replace hJ : MxAt w4 pj cj J := by rw [hw]; exact (((hJ.set (oJ.ne (by omega) (by omega)) _).set (oJb) _).set (oJb) _)
 replace hbw : Below w.heap.size w w4 := by rw [hw]; exact (Below.setCell (Below.setCell (Below.setCell hbw (by have h := HS.out; (try dsimp only); omega) _) (by have h := HS.out; (try dsimp only); omega) _) (by have h := HS.out; (try dsimp only); omega) _)
 replace zz : s + 3 ≤ w4.heap.size := by rw [hw]; simpa using zz
 clear hw
 clear d80 d80f d81 d81f y00 y00f y10 y10f y11 y11f y20 y20f
 replace hk : Cells w4 [(b8, 0, .int .i64 2), (b8, 1, .slice pj J.length cj), (s + 1, 0, .int .i64 2), (s + 1, 1, .slice pa a.length ca), (s + 2, 0, .slice none 0 0)] := ⟨hs.1, hs.2.1, hk⟩
 replace hs : Cells w4 [(s, 0, .slice pd D.length cd)] := ⟨hs.2.2.1, trivial⟩
 obtain ⟨⟨y00, y00f⟩, -⟩ := id hs
 obtain ⟨⟨d80, d80f⟩, ⟨d81, d81f⟩, ⟨y10, y10f⟩, ⟨y11, y11f⟩, ⟨y20, y20f⟩, -⟩ := id hk
 go_wp2_with fail
 have hr := run_make_full (P := Try.prog) w4 w4.heap.size 42 3 i0 (.int .i64 0) 1 Try.underlying42 hi0 hz0 hz1 .i64 .i64 n (by rw [hz2]; omega) (by simp [maxLen]; omega) (by simp)
 obtain ⟨w5, hrun, hown, hgr⟩ := hr
 rw [hrun]
 have hO : OwnI w5 w4.heap.size w4.heap.size n n (List.replicate n 0) := ⟨List.length_replicate, by
   rw [flat1, List.map_replicate]
   have e := toList_madeCells_one (.int .i64 0) n
   rw [show (Value.int IntKind.i64 0).cells = #[.int .i64 0] from rfl, Nat.mul_one, e] at hown
   exact hown⟩
 have hbl : Below w4.heap.size w4 w5 := Below.grown (Below.refl _ _) hgr (by simp) (fun k hk => by cases hk)
 obtain ⟨g0, hg0⟩ : ∃ zW, zW = w4.heap.size := ⟨_, rfl⟩
 rw [← hg0] at hO
 try rw [← hg0]
 have hb8 : b8 < g0 := by rw [hg0]; exact World.block_lt_of_cell? _ _ hk.1.1
 have hgs : s + 3 ≤ g0 := by rw [hg0]; exact zz
 have oCg : ∀ ad, pd = some ad → g0 ≠ ad.block := fun ad h e => by have := hC.lt hD0 ad h; omega
 have oJg : ∀ ad, pj = some ad → g0 ≠ ad.block := fun ad h e => by have := hJ.lt ad h; omega
 clear y00 y00f d80 d80f d81 d81f y10 y10f y11 y11f y20 y20f
 replace hs := hs.up hbl; replace hk := hk.up hbl; replace hC := hC.mono hbl; replace hJ := hJ.up hbl; replace hbw := btr hbw hbl; replace zz := Nat.le_trans zz (Below.size hbl)
 clear hrun hown hgr hbl hg0
 obtain ⟨⟨y00, y00f⟩, -⟩ := id hs
 obtain ⟨⟨d80, d80f⟩, ⟨d81, d81f⟩, ⟨y10, y10f⟩, ⟨y11, y11f⟩, ⟨y20, y20f⟩, -⟩ := id hk
 go_wp2_with fail
 go_loopg [27] n (fun N s27 wr => ∃ K : Nat, s27 = .int .i64 K ∧ K ≤ n ∧ N = n - K ∧ Cells wr [(s, 0, .slice pd D.length cd)] ∧ Cells wr [(b8, 0, .int .i64 2), (b8, 1, .slice pj J.length cj), (s + 1, 0, .int .i64 2), (s + 1, 1, .slice pa a.length ca), (s + 2, 0, .slice none 0 0)] ∧ CAt wr pd cd D ∧ MxAt wr pj cj J ∧ OwnI wr g0 g0 n n (List.replicate K 1 ++ List.replicate (n - K) 0) ∧ Below w.heap.size w wr ∧ s + 3 ≤ wr.heap.size)
 case atStart => exact ⟨0, rfl, by omega, rfl, hs, hk, hC, hJ, hO, hbw, zz⟩
 case round =>
  clear hs hk hC hJ hO hbw zz
  obtain ⟨K, rfl, hK, hN, hs, hk, hC, hJ, hO, hbw, zz⟩ := hrel
  have HN := Lib.hid hN; clear hN
  by_cases hlt : K < n
  case pos =>
   have hlt0 : (0 : Int) ≤ (K : Int) := by omega
   have jr : wr.cell? ⟨g0, K, none⟩ = some (.int .i64 0) := hO.get (by rw [List.getElem?_append_right (by simp), List.length_replicate, Nat.sub_self, List.getElem?_replicate, if_pos (by omega)])
   have jf := hO.free K
   clear y00 y00f d80 d80f d81 d81f y10 y10f y11 y11f y20 y20f
   obtain ⟨⟨y00, y00f⟩, -⟩ := id hs
   obtain ⟨⟨d80, d80f⟩, ⟨d81, d81f⟩, ⟨y10, y10f⟩, ⟨y11, y11f⟩, ⟨y20, y20f⟩, -⟩ := id hk
   go_wp2_with fail
   clear jr jf
   obtain ⟨w6, hw⟩ : ∃ zW, zW = wr.setCell ⟨g0, K, none⟩ (.int .i64 (1)) := ⟨_, rfl⟩
   rw [← hw]
   clear y00 y00f d80 d80f d81 d81f y10 y10f y11 y11f y20 y20f
   replace hs : Cells w6 [(s, 0, .slice pd D.length cd)] := by rw [hw]; exact hs.far (by simp <;> omega)
   replace hk : Cells w6 [(b8, 0, .int .i64 2), (b8, 1, .slice pj J.length cj), (s + 1, 0, .int .i64 2), (s + 1, 1, .slice pa a.length ca), (s + 2, 0, .slice none 0 0)] := by rw [hw]; exact hk.far (by simp <;> omega)
   replace hC : CAt w6 pd cd D := by rw [hw]; exact hC.set oCg _
   replace hJ : MxAt w6 pj cj J := by rw [hw]; exact hJ.set oJg _
   replace hO : OwnI w6 g0 g0 n n (List.replicate (K + 1) 1 ++ List.replicate (n - (K + 1)) 0) := by rw [hw]; exact (by have h := hO.put K 1; rw [List.set_append_right _ _ (by simp)] at h; simp only [List.length_replicate, Nat.sub_self] at h; rw [show n - K = (n - (K + 1)) + 1 by omega, List.replicate_succ, List.set_cons_zero] at h; rw [List.replicate_succ', List.append_assoc]; exact h)
   replace hbw : Below w.heap.size w w6 := by rw [hw]; exact Below.setCell hbw (by have h := HS.out; dsimp only; omega) _
   replace zz : s + 3 ≤ w6.heap.size := by rw [hw]; simpa using zz
   clear hw
   go_roundg (n - (K + 1))
   case measure => (have := HN.out; omega)
   case rel => exact ⟨K + 1, by go_num, by omega, rfl, hs, hk, hC, hJ, hO, hbw, zz⟩
  case neg =>
   obtain rfl : n = K := by omega
   have hO2 : OwnI wr g0 g0 n n (diagOf n []) := by have h := hO; rw [Nat.sub_self, List.replicate_zero, List.append_nil, ← diagOf_nil] at h; exact h
   clear hO
   clear y00 y00f d80 d80f d81 d81f y10 y10f y11 y11f y20 y20f
   obtain ⟨⟨y00, y00f⟩, -⟩ := id hs
   obtain ⟨⟨d80, d80f⟩, ⟨d81, d81f⟩, ⟨y10, y10f⟩, ⟨y11, y11f⟩, ⟨y20, y20f⟩, -⟩ := id hk
   go_wp2_with fail
   go_loopg [37] J.length (fun N s37 wr => ∃ K : Nat, s37 = .int .i64 K ∧ K ≤ J.length ∧ N = J.length - K ∧ Cells wr [(s, 0, .slice pd D.length cd)] ∧ Cells wr [(b8, 0, .int .i64 2), (b8, 1, .slice pj J.length cj), (s + 1, 0, .int .i64 2), (s + 1, 1, .slice pa a.length ca), (s + 2, 0, .slice none 0 0)] ∧ CAt wr pd cd D ∧ MxAt wr pj cj J ∧ OwnI wr g0 g0 n n (diagOf n (J.take K)) ∧ Below w.heap.size w wr ∧ s + 3 ≤ wr.heap.size)
   case atStart => exact ⟨0, rfl, by omega, rfl, hs, hk, hC, hJ, hO2, hbw, zz⟩
   case round =>
    clear hs hk hC hJ hO2 hbw zz
    obtain ⟨K, rfl, hK, hN, hs, hk, hC, hJ, hO, hbw, zz⟩ := hrel
    have HN := Lib.hid hN; clear hN
    by_cases hlt : K < J.length
    case pos =>
     have hlt0 : (0 : Int) ≤ (K : Int) := by omega
     have hlt1 : (K : Int) < (J.length : Int) := by omega
     obtain ⟨y, hy⟩ : ∃ y, J[K]? = some y := ⟨_, List.getElem?_eq_getElem hlt⟩
     obtain ⟨by', oy, rfl, hby, jy0, jy1⟩ := cell_cells hJ.at' hy
     have hy1 := MJ.out.ranks y (List.mem_of_getElem? hy)
     have hTK := take_next hy
     have hne : ∀ z ∈ J.take K, z.rank ≠ y.rank := by
       intro z hz e
       have hs1 := MJ.out.sorted
       rw [Sorted, ← List.take_append_drop (K + 1) J, take_next hy] at hs1
       have h3 := (List.pairwise_append.1 (List.pairwise_append.1 hs1).1).2.2 z hz y (by simp)
       omega
     have HNE := Lib.hid hne; have HTK := Lib.hid hTK
     obtain ⟨yr, hyr⟩ : ∃ z, y.rank = z := ⟨_, rfl⟩
     obtain ⟨yf, hyf⟩ : ∃ z, y.ref = z := ⟨_, rfl⟩
     rw [hyr] at jy0 hy1; rw [hyf] at jy1
     have HYR := Lib.hid hyr; have HYF := Lib.hid hyf
     clear hyr hyf hne hTK hy
     have hyq := hy1.1; have hyq2 : yr < ((n * n : Nat) : Int) := hy1.2
     obtain ⟨u1, u2, u3, u4, u5, u6, u7⟩ := quo_rem hyq (by omega) hn0
     obtain ⟨v1, v2, v3, v4, v5⟩ := rank_lt hyq hyq2
     obtain ⟨d, hd⟩ : ∃ d : Nat, yr / (n : Int) = (d : Int) := ⟨(yr / (n : Int)).toNat, by omega⟩
     obtain ⟨m, hm⟩ : ∃ m : Int, yr % (n : Int) = m := ⟨_, rfl⟩
     rw [hd] at u1 u4 u5 v1 v2 v5; rw [hm] at u2 u3 u6 u7 v3 v4 v5
     have HD := Lib.hid hd; have HM := Lib.hid hm
     clear hd hm hy1 v5
     have hn00 : ¬ n = 0 := by omega
     have hdn : d < n := by omega
     obtain ⟨⟨y00, y00f⟩, -⟩ := id hs
     obtain ⟨⟨d80, d80f⟩, ⟨d81, d81f⟩, ⟨y10, y10f⟩, ⟨y11, y11f⟩, ⟨y20, y20f⟩, -⟩ := id hk
     have hgl := hO.lt.2
     go_upto_region 11 with fail
     obtain ⟨wy, hw⟩ : ∃ zW, zW = wr.alloc (.cells #[.int .i64 yr, .int .i64 yf] 76) := ⟨_, rfl⟩
     obtain ⟨b12, hb12⟩ : ∃ zW, zW = wr.heap.size := ⟨_, rfl⟩
     rw [← hw, ← hb12]
     have hbl : Below wr.heap.size wr wy := by rw [hw]; go_grown
     have hge12 : s + 3 ≤ b12 := by rw [hb12]; exact zz
     have hgw12 : wr.heap.size ≤ b12 := by rw [hb12]; exact Nat.le_refl _
     clear y00 y00f d80 d80f d81 d81f y10 y10f y11 y11f y20 y20f
     replace jy0 := oldcell hbl jy0 (World.block_lt_of_cell? _ _ jy0)
     replace jy1 := oldcell hbl jy1 (World.block_lt_of_cell? _ _ jy1)
     replace hs := hs.up hbl; replace hk := hk.up hbl; replace hC := hC.mono hbl; replace hJ := hJ.up hbl; replace hO := hO.up hbl; replace hbw := btr hbw hbl; replace zz := Nat.le_trans zz (Below.size hbl)
     replace hs : Cells wy [(b12, 0, .int .i64 yr), (b12, 1, .int .i64 yf), (s, 0, .slice pd D.length cd)] := ⟨⟨by rw [hw, hb12]; go_cell, by rw [hw, hb12]; go_cell⟩, ⟨by rw [hw, hb12]; go_cell, by rw [hw, hb12]; go_cell⟩, hs⟩
     clear hbl hw hb12
     have hgy : g0 < b12 := by omega
     clear hgl
     by_cases hq : (d : Int) = m
     case pos =>
      have hq2 : ((d : Int) == m) = true := by simp [hq]
      have HQ := Lib.hid hq; clear hq
      refine wp_region_seqE (fun x => Below wy.heap.size wy x) (.one 0 1 (.one 1 0 (.one 2 1 (.one 3 1 (.one 4 1 (.one 5 0 (.one 6 1 (.one 7 1 (.one 8 1 .nil))))))))) (by kernel_rfl) (by kernel_rfl) (by kernel_rfl) (Below.drew (Below.refl _ _)) ?_
      iterate 9 (first | (refine seqE_free (v := ?_) rfl (by rfl) ?_ ?_; rotate_left; (focus (intro w; go_simp; try with_reducible rfl)); (try simp only [Act.put, List.setIfInBounds_toArray, List.set_cons_zero, List.set_cons_succ])) | (refine seqE_pure (v := ?_) rfl (by rfl) ?_ ?_; rotate_left; (focus (intro w hS; obtain ⟨⟨d120, -⟩, -⟩ := hs.up hS; have jy0 := oldcell hS jy0 (World.block_lt_of_cell? _ _ jy0); have jy1 := oldcell hS jy1 (World.block_lt_of_cell? _ _ jy1); go_simp; try with_reducible rfl)); (try simp only [Act.put, List.setIfInBounds_toArray, List.set_cons_zero, List.set_cons_succ])))
      refine seqE_nil ?_
      intro wz hS; replace jy0 := oldcell hS jy0 (World.block_lt_of_cell? _ _ jy0); replace jy1 := oldcell hS jy1 (World.block_lt_of_cell? _ _ jy1)
      replace hs := hs.up hS; replace hk := hk.up hS; replace hC := hC.mono hS; replace hJ := hJ.up hS; replace hO := hO.up hS; replace hbw := btr hbw hS; replace zz := Nat.le_trans zz (Below.size hS); clear hS
      have jr : wz.cell? ⟨g0, d, none⟩ = some (.int .i64 (mat (J.take K) ((d : Int) * n + d))) := hO.get (diagOf_get hdn)
      obtain ⟨old, hold⟩ : ∃ zW, mat (J.take K) ((d : Int) * n + d) = zW := ⟨_, rfl⟩
      rw [hold] at jr; clear hold
      have jf := hO.free d
      obtain ⟨⟨d120, d120f⟩, ⟨d121, d121f⟩, ⟨y00, y00f⟩, -⟩ := id hs
      obtain ⟨⟨d80, d80f⟩, ⟨d81, d81f⟩, ⟨y10, y10f⟩, ⟨y11, y11f⟩, ⟨y20, y20f⟩, -⟩ := id hk
      go_upto_region 12 with fail
      go_region
      go_wp2_with fail
      clear jr jf
      obtain ⟨wd, hwd⟩ : ∃ zW, zW = (wz.setCell ⟨g0, d, none⟩ (.int .i64 yf)).drew := ⟨_, rfl⟩
      rw [← hwd]
      clear d120 d120f d121 d121f y00 y00f d80 d80f d81 d81f y10 y10f y11 y11f y20 y20f
      have hs9 : Cells wd [(s, 0, .slice pd D.length cd)] := by rw [hwd]; exact ((show Cells wz [(s, 0, .slice pd D.length cd)] from hs.2.2).far (by simp <;> omega)).up (Below.drew (Below.refl _ _))
      replace hk : Cells wd [(b8, 0, .int .i64 2), (b8, 1, .slice (some ⟨by', oy, none⟩) J.length cj), (s + 1, 0, .int .i64 2), (s + 1, 1, .slice pa a.length ca), (s + 2, 0, .slice none 0 0)] := by rw [hwd]; exact (hk.far (by simp <;> omega)).up (Below.drew (Below.refl _ _))
      replace hC : CAt wd pd cd D := by rw [hwd]; exact (hC.set oCg _).mono (Below.drew (Below.refl _ _))
      replace hJ : MxAt wd (some ⟨by', oy, none⟩) cj J := by rw [hwd]; exact (hJ.set oJg _).up (Below.drew (Below.refl _ _))
      replace hO : OwnI wd g0 g0 n n (diagOf n (J.take (K + 1))) := by
        rw [hwd, HTK.out, diagOf_set (d := d) HNE.out (by rw [HYR.out]; exact hyq) (by rw [HYR.out]; exact hyq2) (by rw [HYR.out, HD.out, HM.out]; exact HQ.out) (by rw [HYR.out]; exact HD.out), HYF.out]
        exact (hO.put _ _).up (Below.drew (Below.refl _ _))
      replace hbw : Below w.heap.size w wd := by rw [hwd]; exact Below.drew (Below.setCell hbw (by have h := HS.out; dsimp only; omega) _)
      replace zz : s + 3 ≤ wd.heap.size := by rw [hwd]; simpa using zz
      clear hwd hs
      go_roundg (J.length - (K + 1))
      case measure => (have := HN.out; omega)
      case rel => exact ⟨K + 1, by go_num, by omega, rfl, hs9, hk, hC, hJ, hO, hbw, zz⟩
     case neg =>
      have hq2 : ((d : Int) == m) = false := by simp [hq]
      have HQ := Lib.hid hq; clear hq
      refine wp_region_seqE (fun x => Below wy.heap.size wy x) (.one 0 1 (.one 1 0 (.one 2 1 (.one 3 1 (.one 4 1 (.one 5 0 (.one 6 1 (.one 7 1 (.one 8 1 .nil))))))))) (by kernel_rfl) (by kernel_rfl) (by kernel_rfl) (Below.drew (Below.refl _ _)) ?_
      iterate 9 (first | (refine seqE_free (v := ?_) rfl (by rfl) ?_ ?_; rotate_left; (focus (intro w; go_simp; try with_reducible rfl)); (try simp only [Act.put, List.setIfInBounds_toArray, List.set_cons_zero, List.set_cons_succ])) | (refine seqE_pure (v := ?_) rfl (by rfl) ?_ ?_; rotate_left; (focus (intro w hS; obtain ⟨⟨d120, -⟩, -⟩ := hs.up hS; have jy0 := oldcell hS jy0 (World.block_lt_of_cell? _ _ jy0); have jy1 := oldcell hS jy1 (World.block_lt_of_cell? _ _ jy1); go_simp; try with_reducible rfl)); (try simp only [Act.put, List.setIfInBounds_toArray, List.set_cons_zero, List.set_cons_succ])))
      refine seqE_nil ?_
      intro wz hS; replace jy0 := oldcell hS jy0 (World.block_lt_of_cell? _ _ jy0); replace jy1 := oldcell hS jy1 (World.block_lt_of_cell? _ _ jy1)
      replace hs := hs.up hS; replace hk := hk.up hS; replace hC := hC.mono hS; replace hJ := hJ.up hS; replace hO := hO.up hS; replace hbw := btr hbw hS; replace zz := Nat.le_trans zz (Below.size hS); clear hS
      obtain ⟨⟨d120, d120f⟩, ⟨d121, d121f⟩, ⟨y00, y00f⟩, -⟩ := id hs
      obtain ⟨⟨d80, d80f⟩, ⟨d81, d81f⟩, ⟨y10, y10f⟩, ⟨y11, y11f⟩, ⟨y20, y20f⟩, -⟩ := id hk
      go_wp2_with fail
      replace hO : OwnI wz g0 g0 n n (diagOf n (J.take (K + 1))) := by
        rw [HTK.out, diagOf_skip (by rw [HYR.out]; exact hyq) (by rw [HYR.out]; exact hyq2) (by rw [HYR.out, HD.out, HM.out]; exact HQ.out)]; exact hO
      go_roundg (J.length - (K + 1))
      case measure => (have := HN.out; omega)
      case rel => exact ⟨K + 1, by go_num, by omega, rfl, hs.2.2, hk, hC, hJ, hO, hbw, zz⟩
    case neg =>
     obtain rfl : K = J.length := by omega
     rw [List.take_length] at hO
     obtain ⟨⟨y00, y00f⟩, -⟩ := id hs
     obtain ⟨⟨d80, d80f⟩, ⟨d81, d81f⟩, ⟨y10, y10f⟩, ⟨y11, y11f⟩, ⟨y20, y20f⟩, -⟩ := id hk
     go_wp2_with fail
     go_loopg [13, 61] n (fun N s13 s61 wr => ∃ K : Nat, ∃ C : List Gate, ∃ r : Int, ∃ pc : Option Addr, ∃ cc : Nat, s13 = .int .i64 r ∧ s61 = .int .i64 K ∧ K ≤ n ∧ N = n - K ∧ acTo n J D K = (C, r) ∧ Off s 3 pc ∧ Cells wr [(s, 0, .slice pc C.length cc)] ∧ Cells wr [(b8, 0, .int .i64 2), (b8, 1, .slice pj J.length cj), (s + 1, 0, .int .i64 2), (s + 1, 1, .slice pa a.length ca), (s + 2, 0, .slice none 0 0)] ∧ OwnI wr g0 g0 n n (diagOf n J) ∧ CAt wr pc cc C ∧ Below w.heap.size w wr ∧ s + 3 ≤ wr.heap.size)
     case atStart => exact ⟨0, D, 0, pd, cd, rfl, rfl, by omega, rfl, rfl, oC, hs, hk, hO, hC, hbw, zz⟩
     case round =>
      clear hs hk hO hC hbw zz hJ oC HN hlt hK
      obtain ⟨K, C, r, pc, cc, rfl, rfl, hK, hN, hrun, oC, hs, hk, hO, hC, hbw, zz⟩ := hrel
      obtain ⟨gC, iR⟩ := AO.out K (by omega)
      rw [hrun] at gC iR; dsimp only at gC iR
      have hCl := gC.len; have hCg := gC.ge
      have i1 := iR.1; have i2 := iR.2
      have GC := Lib.hid gC
      have HN := Lib.hid hN; have HR := Lib.hid hrun; clear hN hrun gC iR
      by_cases hlt : K < n
      case neg =>
       obtain rfl : n = K := by omega
       have HF := Lib.hid (show mAcyclic c n a = (C, r) by unfold mAcyclic; rw [HDJ.out]; exact HR.out)
       obtain ⟨⟨y00, y00f⟩, -⟩ := id hs
       obtain ⟨⟨d80, d80f⟩, ⟨d81, d81f⟩, ⟨y10, y10f⟩, ⟨y11, y11f⟩, ⟨y20, y20f⟩, -⟩ := id hk
       go_wp2_with fail
       obtain ⟨W9, hW9⟩ : ∃ W9, W9 = wr.setCell ⟨s + 2, 0, none⟩ (.slice pc C.length cc) := ⟨_, rfl⟩
       rw [← hW9]
       have e0 : W9.cell? ⟨s + 2, 0, none⟩ = some (.slice pc C.length cc) := by rw [hW9]; go_cell
       replace hC : CAt W9 pc cc C := by rw [hW9]; exact hC.set (oC.ne (by omega) (by omega)) _
       have B9 : Below w.heap.size w W9 := by
         rw [hW9]
         exact Below.setCell hbw (by have h := HS.out; dsimp only; omega) _
       clear hW9
       rw [HF.out]
       refine bodyPost_ret (by simp [results, Try.results24, go_sem, e0]; try rfl) rfl ?_
       exact ⟨_, _, rfl, hC, B9⟩
      case pos =>
       have hKn : (K : Int) < (n : Int) := by omega
       have hK0 : (0 : Int) ≤ (K : Int) := by omega
       obtain ⟨Q, hQ⟩ : ∃ zW, mat J ((K : Int) * n + K) = zW := ⟨_, rfl⟩
       have iQ := (MJ.out.mat_in' GD.out ((K : Int) * n + K)).up GC.out
       rw [hQ] at iQ
       have i3 := iQ.1; have i4 := iQ.2
       have hn1 : cnot Q ≤ 9223372036854775807 := by unfold cnot; split <;> (try split) <;> omega
       obtain ⟨E, x, hE1⟩ : ∃ E x, cbut C r Q = (E, x) := ⟨_, _, rfl⟩
       have HE1 := Lib.hid hE1; have HQ := Lib.hid hQ
       have jr : wr.cell? ⟨g0, K, none⟩ = some (.int .i64 Q) := hO.get (by rw [diagOf_get hlt, hQ])
       clear hE1 hQ iQ
       obtain ⟨⟨y00, y00f⟩, -⟩ := id hs
       obtain ⟨⟨d80, d80f⟩, ⟨d81, d81f⟩, ⟨y10, y10f⟩, ⟨y11, y11f⟩, ⟨y20, y20f⟩, -⟩ := id hk
       go_upto_region 18 with fail
       clear jr
       clear y00 y00f d80 d80f d81 d81f y10 y10f y11 y11f y20 y20f
       refine wp_region_seqE (fun x => Below wr.heap.size wr x) (.one 0 0 (.one 1 1 (.one 2 1 (.one 3 1 (.alt 4 3 (.one 5 1 (.one 6 1 (.one 7 1 (.alt 8 3 (.one 9 1 .nil) .stop)))) .stop))))) (by kernel_rfl) (by kernel_rfl) (by kernel_rfl) (Below.drew (Below.refl _ _)) ?_
       iterate 3 (first | (refine seqE_free (v := ?_) rfl (by rfl) ?_ ?_; rotate_left; (focus (intro w; go_simp; try with_reducible rfl)); (try simp only [Act.put, List.setIfInBounds_toArray, List.set_cons_zero, List.set_cons_succ])) | (refine seqE_pure (v := ?_) rfl (by rfl) ?_ ?_; rotate_left; (focus (intro w hS; obtain ⟨⟨y00, -⟩, -⟩ := hs.up hS; go_simp; try with_reducible rfl)); (try simp only [Act.put, List.setIfInBounds_toArray, List.set_cons_zero, List.set_cons_succ])))
       refine seqE_fcall (v := .int .i64 (cnot Q)) (f := ?_) (args := ?_) rfl (by rfl) ?_ ?_ ?_
       rotate_left 2
       focus (intro w; go_simp; first | done | with_reducible rfl | (refine ⟨?_, ?_⟩ <;> with_reducible rfl))
       focus (intro w; exact not_any Q w (by omega))
       (try simp only [Act.put, List.setIfInBounds_toArray, List.set_cons_zero, List.set_cons_succ])
       refine seqE_callB (f := ?_) (args := ?_) rfl (by rfl) ?_ ?_ seqE_stop
       rotate_left 2
       focus (intro w hS; go_simp; first | done | with_reducible rfl | (refine ⟨?_, ?_⟩ <;> with_reducible rfl))
       intro w1 hS
       refine (and_fr (hC.mono hS) (by omega) hn1 (by omega) HE1.out).mono ?_
       rintro e v1 ⟨pe, ce, rfl, hE, hbl, frE⟩
       refine ⟨_, rfl, (fun x => Below v1.heap.size v1 x), Below.refl _ _, ?_⟩
       have hXw := Nat.le_trans zz hS.size
       have hX := btr hS hbl
       replace hs := hs.up hX; replace hk := hk.up hX; replace hO := hO.up hX; replace hC := hC.mono hX; replace hbw := btr hbw hX; replace zz := Nat.le_trans zz (Below.size hX)
       have oE : Off s 3 pe := Off.fresh frE oC hXw
       clear frE
       clear hX hS hbl hXw
       (try simp only [Act.put, List.setIfInBounds_toArray, List.set_cons_zero, List.set_cons_succ])
       iterate 3 (refine seqE_free (v := ?_) rfl (by rfl) ?_ ?_; rotate_left; (focus (intro w; go_simp; try with_reducible rfl)); (try simp only [Act.put, List.setIfInBounds_toArray, List.set_cons_zero, List.set_cons_succ]))
       refine seqE_storeB rfl (by rfl) ?_ seqE_stop
       intro w2 hS
       replace hs := hs.up hS; replace hk := hk.up hS; replace hO := hO.up hS; replace hC := hC.mono hS; replace hE := hE.mono hS; replace hbw := btr hbw hS; replace zz := Nat.le_trans zz (Below.size hS)
       obtain ⟨⟨y00, y00f⟩, -⟩ := id hs
       obtain ⟨⟨d80, d80f⟩, ⟨d81, d81f⟩, ⟨y10, y10f⟩, ⟨y11, y11f⟩, ⟨y20, y20f⟩, -⟩ := id hk
       refine ⟨(w2.setCell ⟨s, 0, none⟩ (.slice pe E.length ce)), (by go_simp; try with_reducible rfl), (fun x => Below ((w2.setCell ⟨s, 0, none⟩ (.slice pe E.length ce))).heap.size ((w2.setCell ⟨s, 0, none⟩ (.slice pe E.length ce))) x), Below.refl _ _, ?_⟩
       obtain ⟨v2, hw⟩ : ∃ zW, zW = (w2.setCell ⟨s, 0, none⟩ (.slice pe E.length ce)) := ⟨_, rfl⟩
       rw [← hw]
       replace hs : Cells v2 [(s, 0, .slice pe E.length ce)] := by rw [hw]; exact ⟨⟨by go_cell, (fz y00f)⟩, trivial⟩
       replace hk : Cells v2 [(b8, 0, .int .i64 2), (b8, 1, .slice pj J.length cj), (s + 1, 0, .int .i64 2), (s + 1, 1, .slice pa a.length ca), (s + 2, 0, .slice none 0 0)] := by rw [hw]; exact (hk.far (by simp <;> omega))
       replace hO : OwnI v2 g0 g0 n n (diagOf n J) := by rw [hw]; exact (hO.set (by omega) _)
       replace hC : CAt v2 pc cc C := by rw [hw]; exact hC.box y00 _
       replace hE : CAt v2 pe ce E := by rw [hw]; exact hE.box y00 _
       replace hbw : Below w.heap.size w v2 := by rw [hw]; exact (Below.setCell hbw (by have h := HS.out; (try dsimp only); omega) _)
       replace zz : s + 3 ≤ v2.heap.size := by rw [hw]; simpa using zz
       clear hw
       clear y00 y00f d80 d80f d81 d81f y10 y10f y11 y11f y20 y20f
       clear hS
       (try simp only [Act.put, List.setIfInBounds_toArray, List.set_cons_zero, List.set_cons_succ])
       iterate 1 (refine seqE_free (v := ?_) rfl (by rfl) ?_ ?_; rotate_left; (focus (intro w; go_simp; try with_reducible rfl)); (try simp only [Act.put, List.setIfInBounds_toArray, List.set_cons_zero, List.set_cons_succ]))
       refine seqE_nil ?_
       intro wz hS
       replace hs := hs.up hS; replace hk := hk.up hS; replace hO := hO.up hS; replace hC := hC.mono hS; replace hE := hE.mono hS; replace hbw := btr hbw hS; replace zz := Nat.le_trans zz (Below.size hS); clear hS
       obtain ⟨⟨y00, y00f⟩, -⟩ := id hs
       obtain ⟨⟨d80, d80f⟩, ⟨d81, d81f⟩, ⟨y10, y10f⟩, ⟨y11, y11f⟩, ⟨y20, y20f⟩, -⟩ := id hk
       go_wp2_with fail
       go_roundg (n - (K + 1))
       case measure => (have := HN.out; omega)
       case rel => exact ⟨K + 1, E, x, pe, ce, rfl, by go_num, by omega, rfl, by show cbut _ _ _ = _; rw [HR.out]; dsimp only; rw [HQ.out]; exact HE1.out, oE, hs, hk, hO, hE, hbw, zz⟩
end Go.Proofs.Ytadilppdlbhjnaa
