/- Walk of layer 14: the reference's Join. -/
import Derived.Test.YtadilppdlbhjnaaMH
namespace Go.Proofs.Ytadilppdlbhjnaa
set_option linter.unusedSimpArgs false
set_option linter.unusedVariables false
open Go.RowKit

set_option maxRecDepth 100000 in
set_option maxHeartbeats 8000000 in
theorem rjoin_any (c : List Gate) (a b : List Cell) (ar1 ar2 : Int) (k1 k2 n p N : Nat) (A B : Int) (pc0 pa pb : Option Addr) (cap ca cb : Nat) (w : World) (hC : CAt w pc0 cap c) (hA : MxAt w pa ca a) (hD : MxAt w pb cb b)
    (ha1 : ar1 = (k1 : Int) + 1) (ha2 : ar2 = (k2 : Int) + 1) (hk3 : k1 + k2 ≤ 3) (hn0 : 0 < n) (hn : n ≤ 12) (hp : n ^ k2 = p) (hN : n ^ (k1 + k2) = N) (hg : Good c) (hl : c.length + 2 * (a.length * b.length) + 2 ≤ 20000) (ha : MOk c A a) (hb : MOk c B b) (hA2 : A ≤ 2000) (hB2 : B ≤ 2000) (hT : ∀ t ∈ jpairs n p a b, 0 ≤ t.rank ∧ t.rank < (N : Int)) :
    Calls Try.prog 69 #[.agg #[.slice pc0 c.length cap], .int .i64 n, .agg #[.int .i64 ar1, .slice pa a.length ca], .agg #[.int .i64 ar2, .slice pb b.length cb]] w (RetCMF w pc0 none (mJoin c N n p a b).1 (ar1 + ar2 - 2) (mJoin c N n p a b).2) := by
 obtain ⟨i0, hi0, hz0, hz1, hz2⟩ := info_parts int_info
 have hp1 : 0 < p := by rw [← hp]; exact Nat.pow_pos hn0
 have hp2 : p ≤ 1728 := by rw [← hp]; exact Nat.le_trans (Nat.pow_le_pow_left hn k2) (Nat.le_trans (Nat.pow_le_pow_right (by decide) (show k2 ≤ 3 by omega)) (by decide))
 have hN1 : 0 < N := by rw [← hN]; exact Nat.pow_pos hn0
 have hN2 : N ≤ 1728 := by rw [← hN]; exact Nat.le_trans (Nat.pow_le_pow_left hn _) (Nat.le_trans (Nat.pow_le_pow_right (by decide) hk3) (by decide))
 have HP := Lib.hid hp; have HN := Lib.hid hN; clear hp hN
 obtain ⟨s, hs0⟩ : ∃ s, w.heap.size = s := ⟨_, rfl⟩
 obtain ⟨W2, hW2⟩ : ∃ W2, W2 = (((((w.alloc (.cells #[.slice pc0 c.length cap] 27)).alloc (.cells #[.int .i64 ar1, .slice pa a.length ca] 30)).alloc (.cells #[.int .i64 ar2, .slice pb b.length cb] 30)).alloc (.cells #[.slice none 0 0] 27)).alloc (.cells #[.int .i64 0, .slice none 0 0] 30)) := ⟨_, rfl⟩
 have hbw : Below w.heap.size w W2 := by rw [hW2]; go_grown
 have zz : s + 5 ≤ W2.heap.size := by rw [hW2, ← hs0]; simp
 have hs : Cells W2 [(s, 0, .slice pc0 c.length cap)] := by rw [hW2, ← hs0]; exact ⟨⟨by go_cell, by go_cell⟩, trivial⟩
 have hk : Cells W2 [(s + 1, 0, .int .i64 ar1), (s + 1, 1, .slice pa a.length ca), (s + 2, 0, .int .i64 ar2), (s + 2, 1, .slice pb b.length cb), (s + 3, 0, .slice none 0 0), (s + 4, 0, .int .i64 0), (s + 4, 1, .slice none 0 0)] := by rw [hW2, ← hs0]; exact ⟨⟨by go_cell, by go_cell⟩, ⟨by go_cell, by go_cell⟩, ⟨by go_cell, by go_cell⟩, ⟨by go_cell, by go_cell⟩, ⟨by go_cell, by go_cell⟩, ⟨by go_cell, by go_cell⟩, ⟨by go_cell, by go_cell⟩, trivial⟩
 have HW2 := Lib.hid hW2; have HS := Lib.hid hs0
 clear hW2 hs0
 have JO := Lib.hid (fun I K => jst_ok (I := I) (K := K) (n := (n : Int)) (p := (p : Int)) hg (by omega) ha hb)
 have HMA := Lib.hid ha; have HMB := Lib.hid hb; have HT := Lib.hid hT; have HGD := Lib.hid hg
 have hc0 : 0 < c.length := hg.ne
 have hal : a.length ≤ 2000 := by have := sorted_len (lo := 0) (N := A) ha.sorted ha.ranks; omega
 have hbl0 : b.length ≤ 2000 := by have := sorted_len (lo := 0) (N := B) hb.sorted hb.ranks; omega
 have hr1 : 1 ≤ ar1 := by omega
 have hr2 : ar1 ≤ 4 := by omega
 have hr3 : 1 ≤ ar2 := by omega
 have hr4 : ar2 ≤ 4 := by omega
 have HA1 := Lib.hid ha1; have HA2 := Lib.hid ha2
 have HC := Lib.hid hC; have HA := Lib.hid hA; have HD := Lib.hid hD
 clear hC hA hD ha hb hT hg ha1 ha2
 go_enter Try.func69, Try.ntmps69
 go_upto_region 1 with fail
 rw [← HW2.out]
 simp only [HS.out, Nat.add_assoc, Nat.reduceAdd]
 obtain ⟨⟨y00, y00f⟩, -⟩ := id hs
 obtain ⟨⟨y10, y10f⟩, ⟨y11, y11f⟩, ⟨y20, y20f⟩, ⟨y21, y21f⟩, ⟨y30, y30f⟩, ⟨y40, y40f⟩, ⟨y41, y41f⟩, -⟩ := id hk
 go_upto_region 2 with (first | (go_at_call 109; refine (rpower_is (k := k2) (q := p) _ (by have := HA2.out; omega) HP.out hn (by omega)).mono ?_; rintro e w' ⟨rfl, hw⟩; replace hw := hw.symm; subst hw))
 go_wp2_with (first | (go_at_call 109; refine (rpower_is (k := k1 + k2) (q := N) _ (by have := HA1.out; have := HA2.out; omega) HN.out hn hk3).mono ?_; rintro e w' ⟨rfl, hw⟩; replace hw := hw.symm; subst hw))
 go_loopg [12, 13] N (fun M s12 s13 wr => ∃ (K : Nat) (v : Value) (l : List Int), s12 = v ∧ s13 = .int .i64 K ∧ K ≤ N ∧ M = N - K ∧ l = List.replicate K 1 ∧ wr.ownsRow (s + 5) 3 1 v l.length (flat 1 iEnc l) ∧ Below (s + 5) W2 wr)
 case atStart => exact ⟨0, _, [], rfl, rfl, by omega, rfl, rfl, World.ownsRow_nil _ _ _ _, Below.refl _ _⟩
 case round =>
  obtain ⟨K, v, l, hv, rfl, hK, hM, hl1, hown, hb⟩ := hrel
  have hll : l.length ≤ 1728 := by rw [hl1, List.length_replicate]; omega
  have HL := Lib.hid hl1; clear hl1
  have HM := Lib.hid hM; have HO := Lib.hid hown
  have zb := hb.size
  clear hM hown
  by_cases hlt : K < N
  case pos =>
   subst hv
   have HBB := Lib.hid hb; clear hb
   go_wp2_with (first | (at_builtin; go_must (refine wpList_app2 (enc := iEnc) rfl _ _ _ rfl (s + 5) 3 i0 _ 8 Try.underlying42 hi0 hz0 hz1 hz2 rfl (by omega) _ l rfl ((HO.out).alloc _) (some ⟨wr.heap.size, 0, none⟩) [1] 1 rfl (fun h => by cases h) (SlAt.int1 (by go_cell)) iEnc_one (by simp [maxLen]; omega) (by simp; omega) (by simp; omega) ?_); intro v2 w3 hown2 hgr2 hbl2 hat2; have HOW2 := Lib.hid hown2; have HBL3 := Lib.hid (show Below (s + 5) wr w3 from (Below.alloc (Below.refl _ _) (by omega) _).trans hbl2); clear hown2 hgr2 hbl2 hat2))
   go_roundg (N - (K + 1))
   case measure => (have := HM.out; omega)
   case rel => exact ⟨K + 1, _, l ++ [1], rfl, by go_num, by omega, rfl, by rw [HL.out, List.replicate_succ'], HOW2.out, HBB.out.trans HBL3.out⟩
  case neg =>
   obtain rfl : K = N := by omega
   obtain ⟨g0, cg, hv2, hO⟩ : ∃ g0 cg, v = .slice (some ⟨g0, 0, none⟩) K cg ∧ OwnI wr (s + 5) g0  K cg (refsOf K fun _ => 1) := by
     have h := HO.out
     rw [HL.out, List.length_replicate] at h
     rcases h.2 with ⟨h1, h2⟩ | ⟨g', c', cur, h1, _⟩
     · omega
     · exact ⟨g', c', h1, by rw [refsOf_len], by rw [refsOf_one, ← h1]; exact h⟩
   subst hv2
   subst hv
   replace hs := hs.below hb (by simp)
   replace hk := hk.below hb (by simp <;> omega)
   replace hbw : Below w.heap.size w wr := hbw.trans (hb.mono (by have := HS.out; omega))
   replace zz := Nat.le_trans zz zb
   have hC : CAt wr pc0 cap c := HC.out.mono hbw
   have oC : Off s 5 pc0 := Off.old (by rw [← HS.out]; exact HC.out.lt hc0)
   have oG : ∀ ad, pc0 = some ad → ad.block ≠ g0 := fun ad h e => by have := HC.out.lt hc0 ad h; have := HS.out; have := hO.lt.1; omega
   have hgb := hO.lt.1
   clear hb zb HO hlt
   clear y00 y00f y10 y10f y11 y11f y20 y20f y21 y21f y30 y30f y40 y40f y41 y41f
   obtain ⟨⟨y00, y00f⟩, -⟩ := id hs
   obtain ⟨⟨y10, y10f⟩, ⟨y11, y11f⟩, ⟨y20, y20f⟩, ⟨y21, y21f⟩, ⟨y30, y30f⟩, ⟨y40, y40f⟩, ⟨y41, y41f⟩, -⟩ := id hk
   go_wp2_with fail
   have hbw0 := hbw
   go_loopg [14] a.length (fun M s14 wr => ∃ I : Nat, ∃ C : List Gate, ∃ S : Int → Int, ∃ pc : Option Addr, ∃ cc : Nat, s14 = .int .i64 I ∧ I ≤ a.length ∧ M = a.length - I ∧ jst c n p a b I 0 = (C, S) ∧ Off s 5 pc ∧ (∀ ad, pc = some ad → ad.block ≠ g0) ∧ Fresh w pc0 pc ∧ Cells wr [(s, 0, .slice pc C.length cc)] ∧ Cells wr [(s + 1, 0, .int .i64 ar1), (s + 1, 1, .slice pa a.length ca), (s + 2, 0, .int .i64 ar2), (s + 2, 1, .slice pb b.length cb), (s + 3, 0, .slice none 0 0), (s + 4, 0, .int .i64 0), (s + 4, 1, .slice none 0 0)] ∧ CAt wr pc cc C ∧ OwnI wr (s + 5) g0 K cg (refsOf K S) ∧ Below w.heap.size w wr ∧ s + 5 ≤ wr.heap.size)
   case atStart => exact ⟨0, c, fun _ => 1, pc0, cap, rfl, by omega, rfl, jst_start, oC, oG, .inl rfl, hs, hk, hC, hO, hbw, zz⟩
   case round =>
    clear hs hk hC hO hbw zz oC oG hbw0
    obtain ⟨I, C, S, pc, cc, rfl, hI, hM, hj, oC, oG, frC, hs, hk, hC, hO, hbw, zz⟩ := hrel
    have HM := Lib.hid hM; have HJ := Lib.hid hj; have FC := Lib.hid frC; clear hM hj frC
    by_cases hlt : I < a.length
    case neg =>
     obtain rfl : I = a.length := by omega
     have hjo := JO.out a.length 0
     rw [HJ.out] at hjo
     dsimp only at hjo
     obtain ⟨gC, iS⟩ := hjo
     have hC0 : 0 < C.length := gC.good.ne
     have ltC := hC.lt hC0
     have hgl := hO.lt.2
     clear gC iS
     clear y00 y00f y10 y10f y11 y11f y20 y20f y21 y21f y30 y30f y40 y40f y41 y41f
     obtain ⟨⟨y00, y00f⟩, -⟩ := id hs
     obtain ⟨⟨y10, y10f⟩, ⟨y11, y11f⟩, ⟨y20, y20f⟩, ⟨y21, y21f⟩, ⟨y30, y30f⟩, ⟨y40, y40f⟩, ⟨y41, y41f⟩, -⟩ := id hk
     go_upto_region 23 with fail
     obtain ⟨wm, hw⟩ : ∃ zW, zW = wr.alloc (.cells #[.int .i64 (ar1 + ar2 - 2), .slice none 0 0] 30) := ⟨_, rfl⟩
     obtain ⟨b23, hb23⟩ : ∃ zW, zW = wr.heap.size := ⟨_, rfl⟩
     rw [← hw, ← hb23]
     have hbl : Below wr.heap.size wr wm := by rw [hw]; go_grown
     have hge23 : s + 5 ≤ b23 := by rw [hb23]; exact zz
     have hgw23 : wr.heap.size ≤ b23 := by rw [hb23]; exact Nat.le_refl _
     clear y00 y00f y10 y10f y11 y11f y20 y20f y21 y21f y30 y30f y40 y40f y41 y41f
     replace hs := hs.up hbl; replace hk := hk.up hbl; replace hC := hC.mono hbl; replace hO := hO.up hbl; replace hbw := btr hbw hbl; replace zz := Nat.le_trans zz (Below.size hbl)
     replace hs : Cells wm [(b23, 0, .int .i64 (ar1 + ar2 - 2)), (b23, 1, .slice none 0 0), (s, 0, .slice pc C.length cc)] := ⟨⟨by rw [hw, hb23]; go_cell, by rw [hw, hb23]; go_cell⟩, ⟨by rw [hw, hb23]; go_cell, by rw [hw, hb23]; go_cell⟩, hs⟩
     clear hbl hw hb23
     have hng : b23 ≠ g0 := by omega
     have oCb : ∀ ad, pc = some ad → b23 ≠ ad.block := fun ad h e => by have := ltC ad h; omega
     have hM : MxAt wm none 0 [] := MxAt.nil _
     have hbl3 : b23 < wm.heap.size := World.block_lt_of_cell? _ _ hs.1.1
     clear hgl ltC
     obtain ⟨⟨d230, d230f⟩, ⟨d231, d231f⟩, ⟨y00, y00f⟩, -⟩ := id hs
     obtain ⟨⟨y10, y10f⟩, ⟨y11, y11f⟩, ⟨y20, y20f⟩, ⟨y21, y21f⟩, ⟨y30, y30f⟩, ⟨y40, y40f⟩, ⟨y41, y41f⟩, -⟩ := id hk
     go_wp2_with fail
     go_loopg [24] K (fun m s24 wr => ∃ L : Nat, ∃ M : List Cell, ∃ pm : Option Addr, ∃ cm : Nat, s24 = .int .i64 L ∧ L ≤ K ∧ m = K - L ∧ gather (ranksTo L) S = M ∧ Off s 5 pm ∧ (∀ ad, pm = some ad → b23 ≠ ad.block) ∧ Fresh w none pm ∧ b23 < wr.heap.size ∧ Cells wr [(b23, 0, .int .i64 (ar1 + ar2 - 2)), (b23, 1, .slice pm M.length cm), (s, 0, .slice pc C.length cc)] ∧ Cells wr [(s + 1, 0, .int .i64 ar1), (s + 1, 1, .slice pa a.length ca), (s + 2, 0, .int .i64 ar2), (s + 2, 1, .slice pb b.length cb), (s + 3, 0, .slice none 0 0), (s + 4, 0, .int .i64 0), (s + 4, 1, .slice none 0 0)] ∧ CAt wr pc cc C ∧ OwnI wr (s + 5) g0 K cg (refsOf K S) ∧ MxAt wr pm cm M ∧ Below w.heap.size w wr ∧ s + 5 ≤ wr.heap.size)
     case atStart => exact ⟨0, [], none, 0, rfl, by omega, rfl, rfl, Off.none _ _, (fun ad h => by cases h), .inl rfl, hbl3, hs, hk, hC, hO, hM, hbw, zz⟩
     case round =>
      clear hs hk hC hO hM hbw zz hbl3
      obtain ⟨L, M, pm, cm, rfl, hL, hm0, hga, oM, oMb, frM, hbl3, hs, hk, hC, hO, hM, hbw, zz⟩ := hrel
      have hml : M.length ≤ 2000 := by rw [← hga]; have := gather_len (ranksTo L) S; have h2 : (ranksTo L).length = L := (by simp [ranksTo]); omega
      have HM0 := Lib.hid hm0; have HGA := Lib.hid hga; have FM := Lib.hid frM; clear hm0 hga frM
      by_cases hlt3 : L < K
      case neg =>
       obtain rfl : L = K := by omega
       have HF := Lib.hid (show mJoin c L n p a b = (C, M) by rw [← jst_end, HJ.out]; exact congrArg (Prod.mk C) HGA.out)
       clear d230 d230f d231 d231f y00 y00f y10 y10f y11 y11f y20 y20f y21 y21f y30 y30f y40 y40f y41 y41f
       obtain ⟨⟨d230, d230f⟩, ⟨d231, d231f⟩, ⟨y00, y00f⟩, -⟩ := id hs
       obtain ⟨⟨y10, y10f⟩, ⟨y11, y11f⟩, ⟨y20, y20f⟩, ⟨y21, y21f⟩, ⟨y30, y30f⟩, ⟨y40, y40f⟩, ⟨y41, y41f⟩, -⟩ := id hk
       go_upto_region 27 with fail
       go_region
       go_wp2_with fail
       obtain ⟨W9, hW9⟩ : ∃ W9, W9 = (((wr.setCell ⟨s + 3, 0, none⟩ (.slice pc C.length cc)).setCell ⟨s + 4, 0, none⟩ (.int .i64 (ar1 + ar2 - 2))).setCell ⟨s + 4, 1, none⟩ (.slice pm M.length cm)).drew := ⟨_, rfl⟩
       rw [← hW9]
       have e0 : W9.cell? ⟨s + 3, 0, none⟩ = some (.slice pc C.length cc) := by rw [hW9]; go_cell
       have e1 : W9.cell? ⟨s + 4, 0, none⟩ = some (.int .i64 (ar1 + ar2 - 2)) := by rw [hW9]; go_cell
       have e2 : W9.cell? ⟨s + 4, 1, none⟩ = some (.slice pm M.length cm) := by rw [hW9]; go_cell
       replace hC : CAt W9 pc cc C := by rw [hW9]; exact (((hC.set (oC.ne (by omega) (by omega)) _).set (oC.ne (by omega) (by omega)) _).set (oC.ne (by omega) (by omega)) _).mono (Below.drew (Below.refl _ _))
       replace hM : MxAt W9 pm cm M := by rw [hW9]; exact (((hM.set (oM.ne (by omega) (by omega)) _).set (oM.ne (by omega) (by omega)) _).set (oM.ne (by omega) (by omega)) _).up (Below.drew (Below.refl _ _))
       have B9 : Below w.heap.size w W9 := by
         rw [hW9]
         refine Below.drew ?_
         iterate 3 refine Below.setCell ?_ (by have h := HS.out; (try dsimp only); omega) _
         exact hbw
       clear hW9
       rw [HF.out]
       refine bodyPost_ret (by simp [results, Try.results69, go_sem, e0, e1, e2]; try rfl) rfl ?_
       exact ⟨_, _, _, _, rfl, hC, hM, B9, FC.out, FM.out⟩
      case pos =>
       have hl0 : (0 : Int) ≤ (L : Int) := by omega
       obtain ⟨z, hz⟩ : ∃ zW, S (L : Int) = zW := ⟨_, rfl⟩
       have jr : wr.cell? ⟨g0, L, none⟩ = some (.int .i64 z) := hO.get (by rw [refsOf_get hlt3, hz])
       have HZ := Lib.hid hz; clear hz
       obtain ⟨M2, hM2⟩ : ∃ m, put M (L : Int) z = m := ⟨_, rfl⟩
       have HM2 := Lib.hid hM2; clear hM2
       have hgl := hO.lt
       clear d230 d230f d231 d231f y00 y00f y10 y10f y11 y11f y20 y20f y21 y21f y30 y30f y40 y40f y41 y41f
       obtain ⟨⟨d230, d230f⟩, ⟨d231, d231f⟩, ⟨y00, y00f⟩, -⟩ := id hs
       obtain ⟨⟨y10, y10f⟩, ⟨y11, y11f⟩, ⟨y20, y20f⟩, ⟨y21, y21f⟩, ⟨y30, y30f⟩, ⟨y40, y40f⟩, ⟨y41, y41f⟩, -⟩ := id hk
       go_upto_region 26 with fail
       clear d230 d230f d231 d231f y00 y00f y10 y10f y11 y11f y20 y20f y21 y21f y30 y30f y40 y40f y41 y41f
       refine wp_region_seqE (fun x => Below wr.heap.size wr x) (.one 0 0 (.one 1 1 (.one 2 1 (.one 3 1 (.one 4 1 (.one 5 0 (.alt 6 3 (.alt 7 3 .nil .stop) .stop))))))) (by kernel_rfl) (by kernel_rfl) (by kernel_rfl) (Below.drew (Below.refl _ _)) ?_
       iterate 6 (first | (refine seqE_free (v := ?_) rfl (by rfl) ?_ ?_; rotate_left; (focus (intro w; go_simp; try with_reducible rfl)); (try simp only [Act.put, List.setIfInBounds_toArray, List.set_cons_zero, List.set_cons_succ])) | (refine seqE_pure (v := ?_) rfl (by rfl) ?_ ?_; rotate_left; (focus (intro w hS; obtain ⟨⟨d230, -⟩, ⟨d231, -⟩, -⟩ := hs.up hS; have jr := oldcell hS jr (World.block_lt_of_cell? _ _ jr); go_simp; try with_reducible rfl)); (try simp only [Act.put, List.setIfInBounds_toArray, List.set_cons_zero, List.set_cons_succ])))
       refine seqE_callB (f := ?_) (args := ?_) rfl (by rfl) ?_ ?_ seqE_stop
       rotate_left 2
       focus (intro w hS; go_simp; first | done | with_reducible rfl | (refine ⟨?_, ?_⟩ <;> with_reducible rfl))
       intro w1 hS
       refine (with_is (hM.up hS) (by omega) HM2.out).mono ?_
       rintro e v1 ⟨pn, cn, rfl, hQ, hbl, frN⟩
       refine ⟨_, rfl, (fun x => Below v1.heap.size v1 x), Below.refl _ _, ?_⟩
       have hXw := Nat.le_trans zz hS.size
       have hX := btr hS hbl; replace jr := oldcell hX jr (World.block_lt_of_cell? _ _ jr)
       replace hs := hs.up hX; replace hk := hk.up hX; replace hC := hC.mono hX; replace hO := hO.up hX; replace hM := hM.up hX; replace hbw := btr hbw hX; replace zz := Nat.le_trans zz (Below.size hX)
       have oN : Off s 5 pn := Off.fresh frN oM hXw
       have oNb : ∀ ad, pn = some ad → b23 ≠ ad.block := fun ad h e => Fresh.ne frN (fun a h e => oMb a h e.symm) (Nat.lt_of_lt_of_le hbl3 hS.size) ad h e.symm
       have FN := Lib.hid (Fresh.trans FM.out frN (by have h := HS.out; have h2 := hXw; omega))
       clear frN
       clear hX hS hbl hXw
       (try simp only [Act.put, List.setIfInBounds_toArray, List.set_cons_zero, List.set_cons_succ])
       refine seqE_storeB rfl (by rfl) ?_ seqE_stop
       intro w2 hS; replace jr := oldcell hS jr (World.block_lt_of_cell? _ _ jr)
       replace hs := hs.up hS; replace hk := hk.up hS; replace hC := hC.mono hS; replace hO := hO.up hS; replace hM := hM.up hS; replace hQ := hQ.up hS; replace hbw := btr hbw hS; replace zz := Nat.le_trans zz (Below.size hS)
       obtain ⟨⟨d230, d230f⟩, ⟨d231, d231f⟩, ⟨y00, y00f⟩, -⟩ := id hs
       obtain ⟨⟨y10, y10f⟩, ⟨y11, y11f⟩, ⟨y20, y20f⟩, ⟨y21, y21f⟩, ⟨y30, y30f⟩, ⟨y40, y40f⟩, ⟨y41, y41f⟩, -⟩ := id hk
       refine ⟨((w2.setCell ⟨b23, 0, none⟩ (.int .i64 (ar1 + ar2 - 2))).setCell ⟨b23, 1, none⟩ (.slice pn M2.length cn)), (by go_simp; try with_reducible rfl), (fun x => Below (((w2.setCell ⟨b23, 0, none⟩ (.int .i64 (ar1 + ar2 - 2))).setCell ⟨b23, 1, none⟩ (.slice pn M2.length cn))).heap.size (((w2.setCell ⟨b23, 0, none⟩ (.int .i64 (ar1 + ar2 - 2))).setCell ⟨b23, 1, none⟩ (.slice pn M2.length cn))) x), Below.refl _ _, ?_⟩
       obtain ⟨v2, hw⟩ : ∃ zW, zW = ((w2.setCell ⟨b23, 0, none⟩ (.int .i64 (ar1 + ar2 - 2))).setCell ⟨b23, 1, none⟩ (.slice pn M2.length cn)) := ⟨_, rfl⟩
       rw [← hw]
       replace hs : Cells v2 [(b23, 0, .int .i64 (ar1 + ar2 - 2)), (b23, 1, .slice pn M2.length cn), (s, 0, .slice pc C.length cc)] := by rw [hw]; exact ⟨⟨by go_cell, (fz (fz d230f))⟩, ⟨by go_cell, (fz (fz d231f))⟩, ⟨by go_cell, (fz (fz y00f))⟩, trivial⟩
       replace hk : Cells v2 [(s + 1, 0, .int .i64 ar1), (s + 1, 1, .slice pa a.length ca), (s + 2, 0, .int .i64 ar2), (s + 2, 1, .slice pb b.length cb), (s + 3, 0, .slice none 0 0), (s + 4, 0, .int .i64 0), (s + 4, 1, .slice none 0 0)] := by rw [hw]; exact ((hk.far (by simp <;> omega)).far (by simp <;> omega))
       replace hC : CAt v2 pc cc C := by rw [hw]; exact ((hC.set (oCb) _).set (oCb) _)
       replace hO : OwnI v2 (s + 5) g0 K cg (refsOf K S) := by rw [hw]; exact ((hO.set (hng) _).set (hng) _)
       replace hM : MxAt v2 pm cm M := by rw [hw]; exact ((hM.set (oMb) _).set (oMb) _)
       replace hQ : MxAt v2 pn cn M2 := by rw [hw]; exact ((hQ.set (oNb) _).set (oNb) _)
       replace jr : v2.cell? ⟨g0, L, none⟩ = some (.int .i64 z) := by rw [hw]; exact (keep_far (keep_far jr (by first | omega | (dsimp only; omega))) (by first | omega | (dsimp only; omega)))
       replace hbw : Below w.heap.size w v2 := by rw [hw]; exact (Below.setCell (Below.setCell hbw (by have h := HS.out; (try dsimp only); omega) _) (by have h := HS.out; (try dsimp only); omega) _)
       replace zz : s + 5 ≤ v2.heap.size := by rw [hw]; simpa using zz
       clear hw
       clear d230 d230f d231 d231f y00 y00f y10 y10f y11 y11f y20 y20f y21 y21f y30 y30f y40 y40f y41 y41f
       clear hS
       (try simp only [Act.put, List.setIfInBounds_toArray, List.set_cons_zero, List.set_cons_succ])
       refine seqE_nil ?_
       intro wz hS; replace jr := oldcell hS jr (World.block_lt_of_cell? _ _ jr)
       replace hs := hs.up hS; replace hk := hk.up hS; replace hC := hC.mono hS; replace hO := hO.up hS; replace hM := hM.up hS; replace hQ := hQ.up hS; replace hbw := btr hbw hS; replace zz := Nat.le_trans zz (Below.size hS); clear hS
       have hbl4 : b23 < wz.heap.size := World.block_lt_of_cell? _ _ hs.1.1
       obtain ⟨⟨d230, d230f⟩, ⟨d231, d231f⟩, ⟨y00, y00f⟩, -⟩ := id hs
       obtain ⟨⟨y10, y10f⟩, ⟨y11, y11f⟩, ⟨y20, y20f⟩, ⟨y21, y21f⟩, ⟨y30, y30f⟩, ⟨y40, y40f⟩, ⟨y41, y41f⟩, -⟩ := id hk
       go_wp2_with fail
       go_roundg (K - (L + 1))
       case measure => (have := HM0.out; omega)
       case rel => exact ⟨L + 1, M2, pn, cn, by go_num, by omega, rfl, by rw [gather_next, HGA.out, HZ.out]; exact HM2.out, oN, oNb, FN.out, hbl4, hs, hk, hC, hO, hQ, hbw, zz⟩
    case pos =>
     have hlt0 : (0 : Int) ≤ (I : Int) := by omega
     have hlt1 : (I : Int) < (a.length : Int) := by omega
     obtain ⟨x, hx⟩ : ∃ x, a[I]? = some x := ⟨_, List.getElem?_eq_getElem hlt⟩
     obtain ⟨bx, ox, rfl, hbx, jx0, jx1⟩ := cell_cells HA.out.at' hx
     have hx1 := HMA.out.ranks x (List.mem_of_getElem? hx)
     have hx2 := HMA.out.refs x (List.mem_of_getElem? hx)
     have HX := Lib.hid hx; clear hx
     clear y00 y00f y10 y10f y11 y11f y20 y20f y21 y21f y30 y30f y40 y40f y41 y41f
     obtain ⟨⟨y00, y00f⟩, -⟩ := id hs
     obtain ⟨⟨y10, y10f⟩, ⟨y11, y11f⟩, ⟨y20, y20f⟩, ⟨y21, y21f⟩, ⟨y30, y30f⟩, ⟨y40, y40f⟩, ⟨y41, y41f⟩, -⟩ := id hk
     go_wp2_with fail
     go_loopg [15] b.length (fun M s15 wq => ∃ K2 : Nat, ∃ C : List Gate, ∃ S : Int → Int, ∃ pc : Option Addr, ∃ cc : Nat, s15 = .int .i64 K2 ∧ K2 ≤ b.length ∧ M = b.length - K2 ∧ jst c n p a b I K2 = (C, S) ∧ Off s 5 pc ∧ (∀ ad, pc = some ad → ad.block ≠ g0) ∧ Fresh w pc0 pc ∧ Cells wq [(s, 0, .slice pc C.length cc)] ∧ Cells wq [(s + 1, 0, .int .i64 ar1), (s + 1, 1, .slice (some ⟨bx, ox, none⟩) a.length ca), (s + 2, 0, .int .i64 ar2), (s + 2, 1, .slice pb b.length cb), (s + 3, 0, .slice none 0 0), (s + 4, 0, .int .i64 0), (s + 4, 1, .slice none 0 0)] ∧ CAt wq pc cc C ∧ OwnI wq (s + 5) g0 K cg (refsOf K S) ∧ Below w.heap.size w wq ∧ s + 5 ≤ wq.heap.size)
     case atStart => exact ⟨0, C, S, pc, cc, rfl, by omega, rfl, HJ.out, oC, oG, FC.out, hs, hk, hC, hO, hbw, zz⟩
     case round =>
      clear hC hO hs hbw zz hk
      obtain ⟨J, C, S, pc, cc, rfl, hJ, hM2, hj, oC, oG, frC, hs, hk, hC, hO, hbw, zz⟩ := hrel
      have HM2 := Lib.hid hM2; have HJ2 := Lib.hid hj; have FC := Lib.hid frC; clear hM2 hj frC
      by_cases hlt2 : J < b.length
      case neg =>
       obtain rfl : J = b.length := by omega
       clear y00 y00f y10 y10f y11 y11f y20 y20f y21 y21f y30 y30f y40 y40f y41 y41f
       obtain ⟨⟨y00, y00f⟩, -⟩ := id hs
       obtain ⟨⟨y10, y10f⟩, ⟨y11, y11f⟩, ⟨y20, y20f⟩, ⟨y21, y21f⟩, ⟨y30, y30f⟩, ⟨y40, y40f⟩, ⟨y41, y41f⟩, -⟩ := id hk
       go_wp2_with fail
       go_roundg (a.length - (I + 1))
       case measure => (have := HM.out; omega)
       case rel => exact ⟨I + 1, C, S, pc, cc, by go_num, by omega, rfl, (jst_next HX.out).trans HJ2.out, oC, oG, FC.out, hs, hk, hC, hO, hbw, zz⟩
      case pos =>
       have hlt3 : (0 : Int) ≤ (J : Int) := by omega
       have hlt4 : (J : Int) < (b.length : Int) := by omega
       obtain ⟨y, hy⟩ : ∃ y, b[J]? = some y := ⟨_, List.getElem?_eq_getElem hlt2⟩
       obtain ⟨by', oy, rfl, hby, jy0, jy1⟩ := cell_cells HD.out.at' hy
       have hy1 := HMB.out.ranks y (List.mem_of_getElem? hy)
       have hy2 := HMB.out.refs y (List.mem_of_getElem? hy)
       have HY := Lib.hid hy; clear hy
       replace jx0 := oldcell hbw jx0 hbx; replace jx1 := oldcell hbw jx1 hbx; replace jy0 := oldcell hbw jy0 hby; replace jy1 := oldcell hbw jy1 hby
       obtain ⟨xr, hxr⟩ : ∃ z, x.rank = z := ⟨_, rfl⟩
       obtain ⟨xf, hxf⟩ : ∃ z, x.ref = z := ⟨_, rfl⟩
       obtain ⟨yr, hyr⟩ : ∃ z, y.rank = z := ⟨_, rfl⟩
       obtain ⟨yf, hyf⟩ : ∃ z, y.ref = z := ⟨_, rfl⟩
       rw [hxr] at jx0 hx1; rw [hxf] at jx1 hx2; rw [hyr] at jy0 hy1; rw [hyf] at jy1 hy2
       have HXR := Lib.hid hxr; have HXF := Lib.hid hxf; have HYR := Lib.hid hyr; have HYF := Lib.hid hyf
       clear hxr hxf hyr hyf
       clear y00 y00f y10 y10f y11 y11f y20 y20f y21 y21f y30 y30f y40 y40f y41 y41f
       obtain ⟨⟨y00, y00f⟩, -⟩ := id hs
       obtain ⟨⟨y10, y10f⟩, ⟨y11, y11f⟩, ⟨y20, y20f⟩, ⟨y21, y21f⟩, ⟨y30, y30f⟩, ⟨y40, y40f⟩, ⟨y41, y41f⟩, -⟩ := id hk
       go_upto_region 15 with fail
       obtain ⟨wx, hw⟩ : ∃ zW, zW = wr.alloc (.cells #[.int .i64 xr, .int .i64 xf] 76) := ⟨_, rfl⟩
       obtain ⟨b16, hb16⟩ : ∃ zW, zW = wr.heap.size := ⟨_, rfl⟩
       rw [← hw, ← hb16]
       have hbl : Below wr.heap.size wr wx := by rw [hw]; go_grown
       have hge16 : s + 5 ≤ b16 := by rw [hb16]; exact zz
       have hgw16 : wr.heap.size ≤ b16 := by rw [hb16]; exact Nat.le_refl _
       clear y00 y00f y10 y10f y11 y11f y20 y20f y21 y21f y30 y30f y40 y40f y41 y41f
       replace jx0 := oldcell hbl jx0 (World.block_lt_of_cell? _ _ jx0)
       replace jx1 := oldcell hbl jx1 (World.block_lt_of_cell? _ _ jx1)
       replace jy0 := oldcell hbl jy0 (World.block_lt_of_cell? _ _ jy0)
       replace jy1 := oldcell hbl jy1 (World.block_lt_of_cell? _ _ jy1)
       replace hs := hs.up hbl; replace hk := hk.up hbl; replace hC := hC.mono hbl; replace hO := hO.up hbl; replace hbw := btr hbw hbl; replace zz := Nat.le_trans zz (Below.size hbl)
       replace hs : Cells wx [(b16, 0, .int .i64 xr), (b16, 1, .int .i64 xf), (s, 0, .slice pc C.length cc)] := ⟨⟨by rw [hw, hb16]; go_cell, by rw [hw, hb16]; go_cell⟩, ⟨by rw [hw, hb16]; go_cell, by rw [hw, hb16]; go_cell⟩, hs⟩
       clear hbl hw hb16
       obtain ⟨⟨d160, d160f⟩, ⟨d161, d161f⟩, ⟨y00, y00f⟩, -⟩ := id hs
       obtain ⟨⟨y10, y10f⟩, ⟨y11, y11f⟩, ⟨y20, y20f⟩, ⟨y21, y21f⟩, ⟨y30, y30f⟩, ⟨y40, y40f⟩, ⟨y41, y41f⟩, -⟩ := id hk
       go_upto_region 16 with fail
       obtain ⟨wy, hw⟩ : ∃ zW, zW = wx.alloc (.cells #[.int .i64 yr, .int .i64 yf] 76) := ⟨_, rfl⟩
       obtain ⟨b17, hb17⟩ : ∃ zW, zW = wx.heap.size := ⟨_, rfl⟩
       rw [← hw, ← hb17]
       have hbl : Below wx.heap.size wx wy := by rw [hw]; go_grown
       have hge17 : s + 5 ≤ b17 := by rw [hb17]; exact zz
       have hgw17 : wx.heap.size ≤ b17 := by rw [hb17]; exact Nat.le_refl _
       clear d160 d160f d161 d161f y00 y00f y10 y10f y11 y11f y20 y20f y21 y21f y30 y30f y40 y40f y41 y41f
       replace jx0 := oldcell hbl jx0 (World.block_lt_of_cell? _ _ jx0)
       replace jx1 := oldcell hbl jx1 (World.block_lt_of_cell? _ _ jx1)
       replace jy0 := oldcell hbl jy0 (World.block_lt_of_cell? _ _ jy0)
       replace jy1 := oldcell hbl jy1 (World.block_lt_of_cell? _ _ jy1)
       replace hs := hs.up hbl; replace hk := hk.up hbl; replace hC := hC.mono hbl; replace hO := hO.up hbl; replace hbw := btr hbw hbl; replace zz := Nat.le_trans zz (Below.size hbl)
       replace hs : Cells wy [(b17, 0, .int .i64 yr), (b17, 1, .int .i64 yf), (b16, 0, .int .i64 xr), (b16, 1, .int .i64 xf), (s, 0, .slice pc C.length cc)] := ⟨⟨by rw [hw, hb17]; go_cell, by rw [hw, hb17]; go_cell⟩, ⟨by rw [hw, hb17]; go_cell, by rw [hw, hb17]; go_cell⟩, hs⟩
       clear hbl hw hb17
       obtain ⟨⟨d170, d170f⟩, ⟨d171, d171f⟩, ⟨d160, d160f⟩, ⟨d161, d161f⟩, ⟨y00, y00f⟩, -⟩ := id hs
       obtain ⟨⟨y10, y10f⟩, ⟨y11, y11f⟩, ⟨y20, y20f⟩, ⟨y21, y21f⟩, ⟨y30, y30f⟩, ⟨y40, y40f⟩, ⟨y41, y41f⟩, -⟩ := id hk
       obtain ⟨q1, m1, r2, r1, q2, T, n1, n2, n3, n4, n5, n6, e1, e2, e3, e4, e5, e6, e7, e8⟩ := jrank hx1.1 (by omega) hy1.1 (by omega) hn0 hp1 hp2
       have N1 := Lib.hid n1; have N2 := Lib.hid n2; have N3 := Lib.hid n3; have N4 := Lib.hid n4; have N5 := Lib.hid n5; have N6 := Lib.hid n6
       clear n1 n2 n3 n4 n5 n6
       have hn00 : ¬ n = 0 := by omega
       have hp00 : ¬ p = 0 := by omega
       have hjo := JO.out I J
       rw [HJ2.out] at hjo
       dsimp only at hjo
       obtain ⟨gC, iS⟩ := hjo
       have hCl := gC.len; have hCg := gC.ge
       have hlc : C.length ≤ 20000 := by omega
       have IS := Lib.hid iS; have GC := Lib.hid gC; clear iS gC
       by_cases hm : r1 = q2
       case pos =>
        have hm2 : (r1 != q2) = false := by simp [hm]
        have hTl : T < K := by
          have h := (HT.out ⟨x.rank / n * p + y.rank % p, x.ref, y.ref⟩ (mem_jpairs.2 ⟨x, List.mem_of_getElem? HX.out, y, List.mem_of_getElem? HY.out, by rw [HXR.out, HYR.out, N4.out, N5.out, hm], rfl⟩)).2
          dsimp only at h
          rw [HXR.out, HYR.out, N1.out, N2.out, N3.out, N6.out] at h; omega
        have HMM := Lib.hid hm; clear hm
        obtain ⟨D, q, hD1⟩ : ∃ D q, cand C xf yf = (D, q) := ⟨_, _, rfl⟩
        have iX : In C xf := ⟨hx2.1, by omega⟩
        have iY : In C yf := ⟨hy2.1, by omega⟩
        obtain ⟨gD, iQ, _⟩ := ok_and.one GC.out.good (by omega) iX iY
        rw [hD1] at gD iQ; dsimp only at gD iQ
        have hDl := gD.len; have hDg := gD.ge
        obtain ⟨z0, hz⟩ : ∃ z, S (T : Int) = z := ⟨_, rfl⟩
        have iZ : In C z0 := by rw [← hz]; exact IS.out _
        obtain ⟨E, z, hE1⟩ : ∃ E z, cor D z0 q = (E, z) := ⟨_, _, rfl⟩
        have iq1 := iQ.1; have iq2 := iQ.2; have iz1 := iZ.1; have iz2 := iZ.2
        have HD1 := Lib.hid hD1; have HE1 := Lib.hid hE1; have HZ := Lib.hid hz
        clear hD1 hE1 hz gD iQ iX iY iZ
        have jr : wy.cell? ⟨g0, T, none⟩ = some (.int .i64 z0) := hO.get (by rw [refsOf_get hTl, HZ.out])
        clear d170 d170f d171 d171f d160 d160f d161 d161f y00 y00f y10 y10f y11 y11f y20 y20f y21 y21f y30 y30f y40 y40f y41 y41f
        refine wp_region_seqE (fun x => Below wy.heap.size wy x) (.one 0 1 (.one 1 0 (.one 2 1 (.one 3 1 (.one 4 1 (.one 5 1 (.one 6 1 (.one 7 0 (.one 8 1 (.one 9 1 (.one 10 1 (.one 11 1 .nil)))))))))))) (by kernel_rfl) (by kernel_rfl) (by kernel_rfl) (Below.drew (Below.refl _ _)) ?_
        iterate 12 (first | (refine seqE_free (v := ?_) rfl (by rfl) ?_ ?_; rotate_left; (focus (intro w; go_simp; try with_reducible rfl)); (try simp only [Act.put, List.setIfInBounds_toArray, List.set_cons_zero, List.set_cons_succ])) | (refine seqE_pure (v := ?_) rfl (by rfl) ?_ ?_; rotate_left; (focus (intro w hS; obtain ⟨⟨d170, -⟩, -, ⟨d160, -⟩, -⟩ := hs.up hS; have jx0 := oldcell hS jx0 (World.block_lt_of_cell? _ _ jx0); have jx1 := oldcell hS jx1 (World.block_lt_of_cell? _ _ jx1); have jy0 := oldcell hS jy0 (World.block_lt_of_cell? _ _ jy0); have jy1 := oldcell hS jy1 (World.block_lt_of_cell? _ _ jy1); have jr := oldcell hS jr (World.block_lt_of_cell? _ _ jr); go_simp; try with_reducible rfl)); (try simp only [Act.put, List.setIfInBounds_toArray, List.set_cons_zero, List.set_cons_succ])))
        refine seqE_nil ?_
        intro wz hS; replace jx0 := oldcell hS jx0 (World.block_lt_of_cell? _ _ jx0); replace jx1 := oldcell hS jx1 (World.block_lt_of_cell? _ _ jx1); replace jy0 := oldcell hS jy0 (World.block_lt_of_cell? _ _ jy0); replace jy1 := oldcell hS jy1 (World.block_lt_of_cell? _ _ jy1); replace jr := oldcell hS jr (World.block_lt_of_cell? _ _ jr)
        replace hs := hs.up hS; replace hk := hk.up hS; replace hC := hC.mono hS; replace hO := hO.up hS; replace hbw := btr hbw hS; replace zz := Nat.le_trans zz (Below.size hS); clear hS
        obtain ⟨⟨d170, d170f⟩, ⟨d171, d171f⟩, ⟨d160, d160f⟩, ⟨d161, d161f⟩, ⟨y00, y00f⟩, -⟩ := id hs
        obtain ⟨⟨y10, y10f⟩, ⟨y11, y11f⟩, ⟨y20, y20f⟩, ⟨y21, y21f⟩, ⟨y30, y30f⟩, ⟨y40, y40f⟩, ⟨y41, y41f⟩, -⟩ := id hk
        go_upto_region 17 with fail
        clear d170 d170f d171 d171f d160 d160f d161 d161f y00 y00f y10 y10f y11 y11f y20 y20f y21 y21f y30 y30f y40 y40f y41 y41f
        refine wp_region_seqE (fun x => Below wz.heap.size wz x) (.one 0 1 (.one 1 0 (.one 2 1 (.one 3 1 (.one 4 1 (.one 5 0 (.one 6 1 (.one 7 1 (.one 8 1 (.one 9 1 (.one 10 1 (.one 11 1 (.one 12 1 (.one 13 1 .nil)))))))))))))) (by kernel_rfl) (by kernel_rfl) (by kernel_rfl) (Below.drew (Below.refl _ _)) ?_
        iterate 14 (first | (refine seqE_free (v := ?_) rfl (by rfl) ?_ ?_; rotate_left; (focus (intro w; go_simp; try with_reducible rfl)); (try simp only [Act.put, List.setIfInBounds_toArray, List.set_cons_zero, List.set_cons_succ])) | (refine seqE_pure (v := ?_) rfl (by rfl) ?_ ?_; rotate_left; (focus (intro w hS; obtain ⟨⟨d170, -⟩, -, ⟨d160, -⟩, -⟩ := hs.up hS; have jx0 := oldcell hS jx0 (World.block_lt_of_cell? _ _ jx0); have jx1 := oldcell hS jx1 (World.block_lt_of_cell? _ _ jx1); have jy0 := oldcell hS jy0 (World.block_lt_of_cell? _ _ jy0); have jy1 := oldcell hS jy1 (World.block_lt_of_cell? _ _ jy1); have jr := oldcell hS jr (World.block_lt_of_cell? _ _ jr); go_simp; try with_reducible rfl)); (try simp only [Act.put, List.setIfInBounds_toArray, List.set_cons_zero, List.set_cons_succ])))
        refine seqE_nil ?_
        intro wz hS; replace jx0 := oldcell hS jx0 (World.block_lt_of_cell? _ _ jx0); replace jx1 := oldcell hS jx1 (World.block_lt_of_cell? _ _ jx1); replace jy0 := oldcell hS jy0 (World.block_lt_of_cell? _ _ jy0); replace jy1 := oldcell hS jy1 (World.block_lt_of_cell? _ _ jy1); replace jr := oldcell hS jr (World.block_lt_of_cell? _ _ jr)
        replace hs := hs.up hS; replace hk := hk.up hS; replace hC := hC.mono hS; replace hO := hO.up hS; replace hbw := btr hbw hS; replace zz := Nat.le_trans zz (Below.size hS); clear hS
        obtain ⟨⟨d170, d170f⟩, ⟨d171, d171f⟩, ⟨d160, d160f⟩, ⟨d161, d161f⟩, ⟨y00, y00f⟩, -⟩ := id hs
        obtain ⟨⟨y10, y10f⟩, ⟨y11, y11f⟩, ⟨y20, y20f⟩, ⟨y21, y21f⟩, ⟨y30, y30f⟩, ⟨y40, y40f⟩, ⟨y41, y41f⟩, -⟩ := id hk
        go_upto_region 19 with (first | (go_at_call 82; refine (rand_fr hC (by omega) (by omega) hlc HD1.out).mono ?_; rintro e w2 ⟨pd, cd, rfl, hE, hbl, frE⟩; have hgl := hO.lt.2; have oE : Off s 5 pd := Off.fresh frE oC zz; have oF := Fresh.ne frE oG hgl; have FE := Lib.hid (Fresh.trans FC.out frE (by have h := HS.out; omega)); replace hs := hs.up hbl; replace hk := hk.up hbl; replace hC := hC.mono hbl; replace hO := hO.up hbl; replace hbw := btr hbw hbl; replace zz := Nat.le_trans zz (Below.size hbl); replace jx0 := oldcell hbl jx0 (World.block_lt_of_cell? _ _ jx0); replace jx1 := oldcell hbl jx1 (World.block_lt_of_cell? _ _ jx1); replace jy0 := oldcell hbl jy0 (World.block_lt_of_cell? _ _ jy0); replace jy1 := oldcell hbl jy1 (World.block_lt_of_cell? _ _ jy1); replace jr := oldcell hbl jr (World.block_lt_of_cell? _ _ jr); clear hbl frE; clear d170 d170f d171 d171f d160 d160f d161 d161f y00 y00f y10 y10f y11 y11f y20 y20f y21 y21f y30 y30f y40 y40f y41 y41f; obtain ⟨⟨d170, d170f⟩, ⟨d171, d171f⟩, ⟨d160, d160f⟩, ⟨d161, d161f⟩, ⟨y00, y00f⟩, -⟩ := id hs; obtain ⟨⟨y10, y10f⟩, ⟨y11, y11f⟩, ⟨y20, y20f⟩, ⟨y21, y21f⟩, ⟨y30, y30f⟩, ⟨y40, y40f⟩, ⟨y41, y41f⟩, -⟩ := id hk))
        obtain ⟨wd, hw⟩ : ∃ zW, zW = w2.alloc (.cells #[.slice pd D.length cd] 27) := ⟨_, rfl⟩
        obtain ⟨b19, hb19⟩ : ∃ zW, zW = w2.heap.size := ⟨_, rfl⟩
        rw [← hw, ← hb19]
        have hbl : Below w2.heap.size w2 wd := by rw [hw]; go_grown
        have hge19 : s + 5 ≤ b19 := by rw [hb19]; exact zz
        have hgw19 : w2.heap.size ≤ b19 := by rw [hb19]; exact Nat.le_refl _
        clear d170 d170f d171 d171f d160 d160f d161 d161f y00 y00f y10 y10f y11 y11f y20 y20f y21 y21f y30 y30f y40 y40f y41 y41f
        replace jx0 := oldcell hbl jx0 (World.block_lt_of_cell? _ _ jx0)
        replace jx1 := oldcell hbl jx1 (World.block_lt_of_cell? _ _ jx1)
        replace jy0 := oldcell hbl jy0 (World.block_lt_of_cell? _ _ jy0)
        replace jy1 := oldcell hbl jy1 (World.block_lt_of_cell? _ _ jy1)
        replace jr := oldcell hbl jr (World.block_lt_of_cell? _ _ jr)
        replace hs := hs.up hbl; replace hk := hk.up hbl; replace hO := hO.up hbl; replace hE := hE.mono hbl; replace hbw := btr hbw hbl; replace zz := Nat.le_trans zz (Below.size hbl)
        replace hs : Cells wd [(b19, 0, .slice pd D.length cd), (b17, 0, .int .i64 yr), (b17, 1, .int .i64 yf), (b16, 0, .int .i64 xr), (b16, 1, .int .i64 xf), (s, 0, .slice pc C.length cc)] := ⟨⟨by rw [hw, hb19]; go_cell, by rw [hw, hb19]; go_cell⟩, hs⟩
        clear hbl hw hb19
        clear hC jx0 jx1 jy0 jy1
        have hgl2 := hO.lt.2
        obtain ⟨⟨d190, d190f⟩, ⟨d170, d170f⟩, ⟨d171, d171f⟩, ⟨d160, d160f⟩, ⟨d161, d161f⟩, ⟨y00, y00f⟩, -⟩ := id hs
        obtain ⟨⟨y10, y10f⟩, ⟨y11, y11f⟩, ⟨y20, y20f⟩, ⟨y21, y21f⟩, ⟨y30, y30f⟩, ⟨y40, y40f⟩, ⟨y41, y41f⟩, -⟩ := id hk
        go_upto_region 19 with fail
        go_cut [21, 22] from 104 to 113 (fun s21 s22 wx => ∃ (be : Nat) (pe : Option Addr) (ce : Nat), s21 = .pointer (some ⟨be, 0, none⟩) ∧ s22 = .int .i64 z ∧ wx.cell? ⟨be, 0, none⟩ = some (.slice pe E.length ce) ∧ CAt wx pe ce E ∧ Off s 5 pe ∧ (∀ ad, pe = some ad → ad.block ≠ g0) ∧ Fresh w pc0 pe ∧ Below wd.heap.size wd wx)
        case first =>
         as_aux_lemma =>
          have hacc : Below wd.heap.size wd wd := Below.refl _ _
          clear d190 d190f d170 d170f d171 d171f d160 d160f d161 d161f y00 y00f y10 y10f y11 y11f y20 y20f y21 y21f y30 y30f y40 y40f y41 y41f
          obtain ⟨⟨d190, d190f⟩, -, -, -, -, -, -⟩ := hs
          have hs : Cells wd [(b19, 0, .slice pd D.length cd)] := ⟨⟨d190, d190f⟩, trivial⟩
          clear d190 d190f
          clear hk
          refine wp_region_seqE (fun x => Below wd.heap.size wd x) (.one 0 0 (.one 1 1 (.one 2 1 (.one 3 1 (.one 4 0 (.one 5 1 (.alt 6 3 (.one 7 1 (.one 8 1 (.one 9 1 (.alt 10 2 (.alt 11 3 (.one 12 1 .nil) .stop) .stop)))) (.alt 10 2 (.alt 6 3 (.one 7 1 (.one 8 1 (.one 9 1 (.alt 11 3 (.one 12 1 .nil) .stop)))) .stop) .stop)))))))) (by kernel_rfl) (by kernel_rfl) (by kernel_rfl) (Below.drew (Below.refl _ _)) ?_
          iterate 6 (first | (refine seqE_free (v := ?_) rfl (by rfl) ?_ ?_; rotate_left; (focus (intro w; go_simp; try with_reducible rfl)); (try simp only [Act.put, List.setIfInBounds_toArray, List.set_cons_zero, List.set_cons_succ])) | (refine seqE_pure (v := ?_) rfl (by rfl) ?_ ?_; rotate_left; (focus (intro w hS; obtain ⟨⟨d190, -⟩, -⟩ := hs.up hS; have jr := oldcell hS jr (World.block_lt_of_cell? _ _ jr); go_simp; try with_reducible rfl)); (try simp only [Act.put, List.setIfInBounds_toArray, List.set_cons_zero, List.set_cons_succ])))
          clear hs
          clear jr
          refine seqE_callB (f := ?_) (args := ?_) rfl (by rfl) ?_ ?_ ?_
          rotate_left 2
          focus (intro w hS; go_simp; first | done | with_reducible rfl | (refine ⟨?_, ?_⟩ <;> with_reducible rfl))
          ·
           intro w1 hS
           refine (ror_fr (hE.mono hS) (by omega) (by omega) (by omega) HE1.out).mono ?_
           rintro e v1 ⟨pe, ce, rfl, hF, hbl, frF⟩
           refine ⟨_, rfl, (fun x => Below v1.heap.size v1 x), Below.refl _ _, ?_⟩
           have hXw := Nat.le_trans zz hS.size; have hXa := Nat.le_trans hacc.size hS.size
           have hX := btr hS hbl
           replace hE := hE.mono hX; replace hbw := btr hbw hX; replace zz := Nat.le_trans zz (Below.size hX); replace hacc := btr hacc hX
           have oH : Off s 5 pe := Off.fresh frF oE hXw
           have oJ := Fresh.ne frF oF (Nat.lt_of_lt_of_le hgl2 hXa)
           have FF := Lib.hid (Fresh.trans FE.out frF (by have h := HS.out; have h2 := hXw; omega))
           clear frF
           clear hX hS hbl hXw hXa
           (try simp only [Act.put, List.setIfInBounds_toArray, List.set_cons_zero, List.set_cons_succ])
           iterate 3 (refine seqE_free (v := ?_) rfl (by rfl) ?_ ?_; rotate_left; (focus (intro w; go_simp; try with_reducible rfl)); (try simp only [Act.put, List.setIfInBounds_toArray, List.set_cons_zero, List.set_cons_succ]))
           refine seqE_move rfl (by rfl) ?_ seqE_stop
           intro w2 hS
           refine ⟨.pointer (some ⟨w2.heap.size, 0, none⟩), w2.alloc (.cells #[.slice none 0 0] 27), (by go_simp; try with_reducible rfl), ?_⟩
           obtain ⟨b21, hb21⟩ : ∃ b, b = w2.heap.size := ⟨_, rfl⟩
           obtain ⟨v2, hw2⟩ : ∃ zW, zW = w2.alloc (.cells #[.slice none 0 0] 27) := ⟨_, rfl⟩
           rw [← hw2, ← hb21]
           have hbl : Below w2.heap.size w2 v2 := by rw [hw2]; go_grown
           have hge21 : s + 5 ≤ b21 := by rw [hb21]; exact Nat.le_trans zz hS.size
           have hga21 : wd.heap.size ≤ b21 := by rw [hb21]; exact Nat.le_trans hacc.size hS.size
           refine ⟨(fun x => Below v2.heap.size v2 x), Below.refl _ _, fun x hx => btr (btr hS hbl) hx, ?_⟩
           have hX := btr hS hbl
           replace hE := hE.mono hX; replace hF := hF.mono hX; replace hbw := btr hbw hX; replace zz := Nat.le_trans zz (Below.size hX); replace hacc := btr hacc hX
           have hs : Cells v2 [(b21, 0, .slice none 0 0)] := ⟨⟨by rw [hw2, hb21]; go_cell, by rw [hw2, hb21]; go_cell⟩, trivial⟩
           clear hX hS hbl hw2 hb21
           (try simp only [Act.put, List.setIfInBounds_toArray, List.set_cons_zero, List.set_cons_succ])
           refine seqE_storeB rfl (by rfl) ?_ seqE_stop
           intro w3 hS
           replace hs := hs.up hS; replace hE := hE.mono hS; replace hF := hF.mono hS; replace hbw := btr hbw hS; replace zz := Nat.le_trans zz (Below.size hS); replace hacc := btr hacc hS
           obtain ⟨⟨d210, d210f⟩, -⟩ := id hs
           refine ⟨(w3.setCell ⟨b21, 0, none⟩ (.slice pe E.length ce)), (by go_simp; try with_reducible rfl), (fun x => Below ((w3.setCell ⟨b21, 0, none⟩ (.slice pe E.length ce))).heap.size ((w3.setCell ⟨b21, 0, none⟩ (.slice pe E.length ce))) x), Below.refl _ _, ?_⟩
           obtain ⟨v3, hw⟩ : ∃ zW, zW = (w3.setCell ⟨b21, 0, none⟩ (.slice pe E.length ce)) := ⟨_, rfl⟩
           rw [← hw]
           replace hs : Cells v3 [(b21, 0, .slice pe E.length ce)] := by rw [hw]; exact ⟨⟨by go_cell, (fz d210f)⟩, trivial⟩
           replace hE : CAt v3 pd cd D := by rw [hw]; exact hE.box d210 _
           replace hF : CAt v3 pe ce E := by rw [hw]; exact hF.box d210 _
           replace hbw : Below w.heap.size w v3 := by rw [hw]; exact (Below.setCell hbw (by have h := HS.out; (try dsimp only); omega) _)
           replace hacc : Below wd.heap.size wd v3 := by rw [hw]; exact (Below.setCell hacc (by have h := HS.out; (try dsimp only); omega) _)
           replace zz : s + 5 ≤ v3.heap.size := by rw [hw]; simpa using zz
           clear hw
           clear d210 d210f
           clear hS
           (try simp only [Act.put, List.setIfInBounds_toArray, List.set_cons_zero, List.set_cons_succ])
           iterate 1 (refine seqE_free (v := ?_) rfl (by rfl) ?_ ?_; rotate_left; (focus (intro w; go_simp; try with_reducible rfl)); (try simp only [Act.put, List.setIfInBounds_toArray, List.set_cons_zero, List.set_cons_succ]))
           refine seqE_nil ?_
           intro wz hS
           replace hs := hs.up hS; replace hE := hE.mono hS; replace hF := hF.mono hS; replace hbw := btr hbw hS; replace zz := Nat.le_trans zz (Below.size hS); replace hacc := btr hacc hS; clear hS
           obtain ⟨⟨d210, d210f⟩, -⟩ := id hs
           go_wp2_with fail
           go_meet
           exact ⟨_, _, _, rfl, rfl, d210, hF, oH, oJ, FF.out, hacc⟩
          refine seqE_move rfl (by rfl) ?_ seqE_stop
          intro w4 hS
          refine ⟨.pointer (some ⟨w4.heap.size, 0, none⟩), w4.alloc (.cells #[.slice none 0 0] 27), (by go_simp; try with_reducible rfl), ?_⟩
          obtain ⟨b21, hb21⟩ : ∃ b, b = w4.heap.size := ⟨_, rfl⟩
          obtain ⟨v4, hw4⟩ : ∃ zW, zW = w4.alloc (.cells #[.slice none 0 0] 27) := ⟨_, rfl⟩
          rw [← hw4, ← hb21]
          have hbl : Below w4.heap.size w4 v4 := by rw [hw4]; go_grown
          have hge21 : s + 5 ≤ b21 := by rw [hb21]; exact Nat.le_trans zz hS.size
          have hga21 : wd.heap.size ≤ b21 := by rw [hb21]; exact Nat.le_trans hacc.size hS.size
          refine ⟨(fun x => Below v4.heap.size v4 x), Below.refl _ _, fun x hx => btr (btr hS hbl) hx, ?_⟩
          have hX := btr hS hbl
          replace hE := hE.mono hX; replace hbw := btr hbw hX; replace zz := Nat.le_trans zz (Below.size hX); replace hacc := btr hacc hX
          have hs : Cells v4 [(b21, 0, .slice none 0 0)] := ⟨⟨by rw [hw4, hb21]; go_cell, by rw [hw4, hb21]; go_cell⟩, trivial⟩
          clear hX hS hbl hw4 hb21
          (try simp only [Act.put, List.setIfInBounds_toArray, List.set_cons_zero, List.set_cons_succ])
          refine seqE_callB (f := ?_) (args := ?_) rfl (by rfl) ?_ ?_ seqE_stop
          rotate_left 2
          focus (intro w hS; go_simp; first | done | with_reducible rfl | (refine ⟨?_, ?_⟩ <;> with_reducible rfl))
          intro w5 hS
          refine (ror_fr (hE.mono hS) (by omega) (by omega) (by omega) HE1.out).mono ?_
          rintro e v5 ⟨pe, ce, rfl, hF, hbl, frF⟩
          refine ⟨_, rfl, (fun x => Below v5.heap.size v5 x), Below.refl _ _, ?_⟩
          have hXw := Nat.le_trans zz hS.size; have hXa := Nat.le_trans hacc.size hS.size
          have hX := btr hS hbl
          replace hs := hs.up hX; replace hE := hE.mono hX; replace hbw := btr hbw hX; replace zz := Nat.le_trans zz (Below.size hX); replace hacc := btr hacc hX
          have oH : Off s 5 pe := Off.fresh frF oE hXw
          have oJ := Fresh.ne frF oF (Nat.lt_of_lt_of_le hgl2 hXa)
          have FF := Lib.hid (Fresh.trans FE.out frF (by have h := HS.out; have h2 := hXw; omega))
          clear frF
          clear hX hS hbl hXw hXa
          (try simp only [Act.put, List.setIfInBounds_toArray, List.set_cons_zero, List.set_cons_succ])
          iterate 3 (refine seqE_free (v := ?_) rfl (by rfl) ?_ ?_; rotate_left; (focus (intro w; go_simp; try with_reducible rfl)); (try simp only [Act.put, List.setIfInBounds_toArray, List.set_cons_zero, List.set_cons_succ]))
          refine seqE_storeB rfl (by rfl) ?_ seqE_stop
          intro w6 hS
          replace hs := hs.up hS; replace hE := hE.mono hS; replace hF := hF.mono hS; replace hbw := btr hbw hS; replace zz := Nat.le_trans zz (Below.size hS); replace hacc := btr hacc hS
          obtain ⟨⟨d210, d210f⟩, -⟩ := id hs
          refine ⟨(w6.setCell ⟨b21, 0, none⟩ (.slice pe E.length ce)), (by go_simp; try with_reducible rfl), (fun x => Below ((w6.setCell ⟨b21, 0, none⟩ (.slice pe E.length ce))).heap.size ((w6.setCell ⟨b21, 0, none⟩ (.slice pe E.length ce))) x), Below.refl _ _, ?_⟩
          obtain ⟨v6, hw⟩ : ∃ zW, zW = (w6.setCell ⟨b21, 0, none⟩ (.slice pe E.length ce)) := ⟨_, rfl⟩
          rw [← hw]
          replace hs : Cells v6 [(b21, 0, .slice pe E.length ce)] := by rw [hw]; exact ⟨⟨by go_cell, (fz d210f)⟩, trivial⟩
          replace hE : CAt v6 pd cd D := by rw [hw]; exact hE.box d210 _
          replace hF : CAt v6 pe ce E := by rw [hw]; exact hF.box d210 _
          replace hbw : Below w.heap.size w v6 := by rw [hw]; exact (Below.setCell hbw (by have h := HS.out; (try dsimp only); omega) _)
          replace hacc : Below wd.heap.size wd v6 := by rw [hw]; exact (Below.setCell hacc (by have h := HS.out; (try dsimp only); omega) _)
          replace zz : s + 5 ≤ v6.heap.size := by rw [hw]; simpa using zz
          clear hw
          clear d210 d210f
          clear hS
          (try simp only [Act.put, List.setIfInBounds_toArray, List.set_cons_zero, List.set_cons_succ])
          iterate 1 (refine seqE_free (v := ?_) rfl (by rfl) ?_ ?_; rotate_left; (focus (intro w; go_simp; try with_reducible rfl)); (try simp only [Act.put, List.setIfInBounds_toArray, List.set_cons_zero, List.set_cons_succ]))
          refine seqE_nil ?_
          intro wz hS
          replace hs := hs.up hS; replace hE := hE.mono hS; replace hF := hF.mono hS; replace hbw := btr hbw hS; replace zz := Nat.le_trans zz (Below.size hS); replace hacc := btr hacc hS; clear hS
          obtain ⟨⟨d210, d210f⟩, -⟩ := id hs
          go_wp2_with fail
          go_meet
          exact ⟨_, _, _, rfl, rfl, d210, hF, oH, oJ, FF.out, hacc⟩
        case rest =>
         obtain ⟨be, pe, ce, rfl, rfl, e0, hF, oH, oJ, frF, hst⟩ := hcut
         replace hs := hs.up hst; replace hk := hk.up hst; replace hO := hO.up hst; replace hE := hE.mono hst; replace hbw := btr hbw hst; replace zz := Nat.le_trans zz (Below.size hst); replace jr := oldcell hst jr (World.block_lt_of_cell? _ _ jr); have FF := Lib.hid frF; clear hst frF hE
         clear d190 d190f d170 d170f d171 d171f d160 d160f d161 d161f y00 y00f y10 y10f y11 y11f y20 y20f y21 y21f y30 y30f y40 y40f y41 y41f
         obtain ⟨⟨d190, d190f⟩, ⟨d170, d170f⟩, ⟨d171, d171f⟩, ⟨d160, d160f⟩, ⟨d161, d161f⟩, ⟨y00, y00f⟩, -⟩ := id hs
         obtain ⟨⟨y10, y10f⟩, ⟨y11, y11f⟩, ⟨y20, y20f⟩, ⟨y21, y21f⟩, ⟨y30, y30f⟩, ⟨y40, y40f⟩, ⟨y41, y41f⟩, -⟩ := id hk
         go_upto_region 21 with fail
         obtain ⟨w8, hw⟩ : ∃ zW, zW = (wc.setCell ⟨s, 0, none⟩ (.slice pe E.length ce)) := ⟨_, rfl⟩
         rw [← hw]
         replace hs : Cells w8 [(b19, 0, .slice pd D.length cd), (b17, 0, .int .i64 yr), (b17, 1, .int .i64 yf), (b16, 0, .int .i64 xr), (b16, 1, .int .i64 xf), (s, 0, .slice pe E.length ce)] := by rw [hw]; exact ⟨⟨by go_cell, (fz d190f)⟩, ⟨by go_cell, (fz d170f)⟩, ⟨by go_cell, (fz d171f)⟩, ⟨by go_cell, (fz d160f)⟩, ⟨by go_cell, (fz d161f)⟩, ⟨by go_cell, (fz y00f)⟩, trivial⟩
         replace hk : Cells w8 [(s + 1, 0, .int .i64 ar1), (s + 1, 1, .slice (some ⟨bx, ox, none⟩) a.length ca), (s + 2, 0, .int .i64 ar2), (s + 2, 1, .slice (some ⟨by', oy, none⟩) b.length cb), (s + 3, 0, .slice none 0 0), (s + 4, 0, .int .i64 0), (s + 4, 1, .slice none 0 0)] := by rw [hw]; exact (hk.far (by simp <;> omega))
         replace hO : OwnI w8 (s + 5) g0 K cg (refsOf K S) := by rw [hw]; exact (hO.set (by omega) _)
         replace hF : CAt w8 pe ce E := by rw [hw]; exact hF.box y00 _
         replace jr : w8.cell? ⟨g0, T, none⟩ = some (.int .i64 z0) := by rw [hw]; exact (keep_far jr (by first | omega | (dsimp only; omega)))
         replace hbw : Below w.heap.size w w8 := by rw [hw]; exact (Below.setCell hbw (by have h := HS.out; (try dsimp only); omega) _)
         replace zz : s + 5 ≤ w8.heap.size := by rw [hw]; simpa using zz
         clear hw
         clear d190 d190f d170 d170f d171 d171f d160 d160f d161 d161f y00 y00f y10 y10f y11 y11f y20 y20f y21 y21f y30 y30f y40 y40f y41 y41f
         clear e0
         obtain ⟨⟨d190, d190f⟩, ⟨d170, d170f⟩, ⟨d171, d171f⟩, ⟨d160, d160f⟩, ⟨d161, d161f⟩, ⟨y00, y00f⟩, -⟩ := id hs
         obtain ⟨⟨y10, y10f⟩, ⟨y11, y11f⟩, ⟨y20, y20f⟩, ⟨y21, y21f⟩, ⟨y30, y30f⟩, ⟨y40, y40f⟩, ⟨y41, y41f⟩, -⟩ := id hk
         have jf := hO.free T
         go_wp2_with fail
         obtain ⟨w9, hw⟩ : ∃ zW, zW = w8.setCell ⟨g0, T, none⟩ (.int .i64 z) := ⟨_, rfl⟩
         rw [← hw]
         clear jr jf
         have hgl := hO.lt
         have hs9 : Cells w9 [(s, 0, .slice pe E.length ce)] := by rw [hw]; exact ⟨⟨keep_far y00 (by dsimp only; omega), fz y00f⟩, trivial⟩
         replace hk : Cells w9 [(s + 1, 0, .int .i64 ar1), (s + 1, 1, .slice (some ⟨bx, ox, none⟩) a.length ca), (s + 2, 0, .int .i64 ar2), (s + 2, 1, .slice (some ⟨by', oy, none⟩) b.length cb), (s + 3, 0, .slice none 0 0), (s + 4, 0, .int .i64 0), (s + 4, 1, .slice none 0 0)] := by rw [hw]; exact hk.far (by simp <;> omega)
         replace hF : CAt w9 pe ce E := by rw [hw]; exact hF.set (fun ad h e => oJ ad h e.symm) _
         replace hO : OwnI w9 (s + 5) g0 K cg (refsOf K fun r => if r = (T : Int) then z else S r) := by rw [hw, ← refsOf_set hTl]; exact hO.put _ _
         replace hbw : Below w.heap.size w w9 := by rw [hw]; exact Below.setCell hbw (by have h := HS.out; dsimp only; omega) _
         replace zz : s + 5 ≤ w9.heap.size := by rw [hw]; simpa using zz
         clear hw hs
         go_roundg (b.length - (J + 1))
         case measure => (have := HM2.out; omega)
         case rel => exact ⟨J + 1, E, _, pe, ce, by go_num, by omega, rfl, by have h := jst_step (D := D) (q := q) (E := E) (z := z) HX.out HY.out (by rw [HXR.out, HYR.out, N4.out, N5.out]; exact HMM.out) HJ2.out (by rw [HXF.out, HYF.out]; exact HD1.out) (by rw [HXR.out, HYR.out, N1.out, N2.out, N3.out, N6.out, HZ.out]; exact HE1.out); rw [HXR.out, HYR.out, N1.out, N2.out, N3.out, N6.out] at h; exact h, oH, oJ, FF.out, hs9, hk, hF, hO, hbw, zz⟩
       case neg =>
        have hm2 : (r1 != q2) = true := by simp [hm]
        have HMM := Lib.hid hm; clear hm
        clear d170 d170f d171 d171f d160 d160f d161 d161f y00 y00f y10 y10f y11 y11f y20 y20f y21 y21f y30 y30f y40 y40f y41 y41f
        refine wp_region_seqE (fun x => Below wy.heap.size wy x) (.one 0 1 (.one 1 0 (.one 2 1 (.one 3 1 (.one 4 1 (.one 5 1 (.one 6 1 (.one 7 0 (.one 8 1 (.one 9 1 (.one 10 1 (.one 11 1 .nil)))))))))))) (by kernel_rfl) (by kernel_rfl) (by kernel_rfl) (Below.drew (Below.refl _ _)) ?_
        iterate 12 (first | (refine seqE_free (v := ?_) rfl (by rfl) ?_ ?_; rotate_left; (focus (intro w; go_simp; try with_reducible rfl)); (try simp only [Act.put, List.setIfInBounds_toArray, List.set_cons_zero, List.set_cons_succ])) | (refine seqE_pure (v := ?_) rfl (by rfl) ?_ ?_; rotate_left; (focus (intro w hS; obtain ⟨⟨d170, -⟩, -, ⟨d160, -⟩, -⟩ := hs.up hS; have jx0 := oldcell hS jx0 (World.block_lt_of_cell? _ _ jx0); have jx1 := oldcell hS jx1 (World.block_lt_of_cell? _ _ jx1); have jy0 := oldcell hS jy0 (World.block_lt_of_cell? _ _ jy0); have jy1 := oldcell hS jy1 (World.block_lt_of_cell? _ _ jy1); go_simp; try with_reducible rfl)); (try simp only [Act.put, List.setIfInBounds_toArray, List.set_cons_zero, List.set_cons_succ])))
        refine seqE_nil ?_
        intro wz hS; replace jx0 := oldcell hS jx0 (World.block_lt_of_cell? _ _ jx0); replace jx1 := oldcell hS jx1 (World.block_lt_of_cell? _ _ jx1); replace jy0 := oldcell hS jy0 (World.block_lt_of_cell? _ _ jy0); replace jy1 := oldcell hS jy1 (World.block_lt_of_cell? _ _ jy1)
        replace hs := hs.up hS; replace hk := hk.up hS; replace hC := hC.mono hS; replace hO := hO.up hS; replace hbw := btr hbw hS; replace zz := Nat.le_trans zz (Below.size hS); clear hS
        obtain ⟨⟨d170, d170f⟩, ⟨d171, d171f⟩, ⟨d160, d160f⟩, ⟨d161, d161f⟩, ⟨y00, y00f⟩, -⟩ := id hs
        obtain ⟨⟨y10, y10f⟩, ⟨y11, y11f⟩, ⟨y20, y20f⟩, ⟨y21, y21f⟩, ⟨y30, y30f⟩, ⟨y40, y40f⟩, ⟨y41, y41f⟩, -⟩ := id hk
        go_upto_region 17 with fail
        clear d170 d170f d171 d171f d160 d160f d161 d161f y00 y00f y10 y10f y11 y11f y20 y20f y21 y21f y30 y30f y40 y40f y41 y41f
        refine wp_region_seqE (fun x => Below wz.heap.size wz x) (.one 0 1 (.one 1 0 (.one 2 1 (.one 3 1 (.one 4 1 (.one 5 0 (.one 6 1 (.one 7 1 (.one 8 1 (.one 9 1 (.one 10 1 (.one 11 1 (.one 12 1 (.one 13 1 .nil)))))))))))))) (by kernel_rfl) (by kernel_rfl) (by kernel_rfl) (Below.drew (Below.refl _ _)) ?_
        iterate 10 (first | (refine seqE_free (v := ?_) rfl (by rfl) ?_ ?_; rotate_left; (focus (intro w; go_simp; try with_reducible rfl)); (try simp only [Act.put, List.setIfInBounds_toArray, List.set_cons_zero, List.set_cons_succ])) | (refine seqE_pure (v := ?_) rfl (by rfl) ?_ ?_; rotate_left; (focus (intro w hS; obtain ⟨⟨d170, -⟩, -, ⟨d160, -⟩, -⟩ := hs.up hS; have jx0 := oldcell hS jx0 (World.block_lt_of_cell? _ _ jx0); have jx1 := oldcell hS jx1 (World.block_lt_of_cell? _ _ jx1); have jy0 := oldcell hS jy0 (World.block_lt_of_cell? _ _ jy0); have jy1 := oldcell hS jy1 (World.block_lt_of_cell? _ _ jy1); go_simp; try with_reducible rfl)); (try simp only [Act.put, List.setIfInBounds_toArray, List.set_cons_zero, List.set_cons_succ])))
        refine seqE_off rfl (by rfl) ?_
        (try simp only [Act.put, List.setIfInBounds_toArray, List.set_cons_zero, List.set_cons_succ])
        refine seqE_off rfl (by rfl) ?_
        (try simp only [Act.put, List.setIfInBounds_toArray, List.set_cons_zero, List.set_cons_succ])
        refine seqE_off rfl (by rfl) ?_
        (try simp only [Act.put, List.setIfInBounds_toArray, List.set_cons_zero, List.set_cons_succ])
        iterate 1 (refine seqE_free (v := ?_) rfl (by rfl) ?_ ?_; rotate_left; (focus (intro w; go_simp; try with_reducible rfl)); (try simp only [Act.put, List.setIfInBounds_toArray, List.set_cons_zero, List.set_cons_succ]))
        refine seqE_nil ?_
        intro wz hS; replace jx0 := oldcell hS jx0 (World.block_lt_of_cell? _ _ jx0); replace jx1 := oldcell hS jx1 (World.block_lt_of_cell? _ _ jx1); replace jy0 := oldcell hS jy0 (World.block_lt_of_cell? _ _ jy0); replace jy1 := oldcell hS jy1 (World.block_lt_of_cell? _ _ jy1)
        replace hs := hs.up hS; replace hk := hk.up hS; replace hC := hC.mono hS; replace hO := hO.up hS; replace hbw := btr hbw hS; replace zz := Nat.le_trans zz (Below.size hS); clear hS
        obtain ⟨⟨d170, d170f⟩, ⟨d171, d171f⟩, ⟨d160, d160f⟩, ⟨d161, d161f⟩, ⟨y00, y00f⟩, -⟩ := id hs
        obtain ⟨⟨y10, y10f⟩, ⟨y11, y11f⟩, ⟨y20, y20f⟩, ⟨y21, y21f⟩, ⟨y30, y30f⟩, ⟨y40, y40f⟩, ⟨y41, y41f⟩, -⟩ := id hk
        go_wp2_with fail
        go_roundg (b.length - (J + 1))
        case measure => (have := HM2.out; omega)
        case rel => exact ⟨J + 1, C, S, pc, cc, by go_num, by omega, rfl, (jst_skip HX.out HY.out (by rw [HXR.out, HYR.out, N4.out, N5.out]; exact HMM.out)).trans HJ2.out, oC, oG, FC.out, hs.2.2.2.2, hk, hC, hO, hbw, zz⟩
end Go.Proofs.Ytadilppdlbhjnaa
