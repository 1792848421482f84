import Derived.Test.YtadilppdlbhjnaaMO
import Derived.Test.YtadilppdlbhjnaaN1
import Derived.Test.YtadilppdlbhjnaaMH
import Derived.Test.YtadilppdlbhjnaaGI
import Derived.Test.YtadilppdlbhjnaaGN
namespace Go.Proofs.Ytadilppdlbhjnaa
set_option linter.unusedSimpArgs false
set_option linter.unusedVariables false
open Go.RowKit
theorem rcor_le {c : List Gate} {a b : Int} (h : c.length ≤ 20000) : (cor c a b).1.length ≤ 20000 ∧ (cor c a b).2 ≤ 40001 := by
 have := cand_le (a := cnot a) (b := cnot b) h
 refine ⟨this.1, ?_⟩
 show cnot (cand c (cnot a) (cnot b)).2 ≤ 40001
 have h2 := this.2
 generalize (cand c (cnot a) (cnot b)).2 = r at *
 unfold cnot; split <;> (try split) <;> omega
theorem cbut_bound {c : List Gate} {a b : Int} (h : c.length ≤ 20000) : (cbut c a b).1.length ≤ 20000 ∧ (cbut c a b).2 ≤ 40000 := cand_le h
theorem cnot_big {r : Int} (h : r ≤ 100000) : cnot r ≤ 9223372036854775807 := by unfold cnot; split <;> (try split) <;> omega
set_option maxRecDepth 100000 in
set_option maxHeartbeats 4000000 in
theorem rsome_any (c : List Gate) (a : List Cell) (ar1 : Int) (p pa : Option Addr) (cap ca : Nat) (w : World) (hC : CAt w p cap c) (hA : MxAt w pa ca a)
 (ra : ∀ x ∈ a, x.ref ≤ 100000) (hl : c.length ≤ 20000) (hla : a.length ≤ 10000) (hc0 : 0 < c.length) :
 Calls Try.prog 56 #[.agg #[.slice p c.length cap], .agg #[.int .i64 ar1, .slice pa a.length ca]] w (RetC w (mSome c a).1 (mSome c a).2) := by
 obtain ⟨s, hs0⟩ : ∃ s, w.heap.size = s := ⟨_, rfl⟩
 obtain ⟨W2, hW2⟩ : ∃ W2, W2 = (((w.alloc (.cells #[.slice p c.length cap] 27)).alloc (.cells #[.int .i64 ar1, .slice pa a.length ca] 30)).alloc (.cells #[.slice none 0 0] 27)) := ⟨_, rfl⟩
 have hbw : Below w.heap.size w W2 := by rw [hW2]; go_grown
 have zz : s + 3 ≤ W2.heap.size := by rw [hW2, ← hs0]; simp
 have hs : Cells W2 [(s, 0, .slice p c.length cap), (s + 2, 0, .slice none 0 0)] := by rw [hW2, ← hs0]; exact ⟨⟨by go_cell, by go_cell⟩, ⟨by go_cell, by go_cell⟩, trivial⟩
 have hk : Cells W2 [(s + 1, 0, .int .i64 ar1), (s + 1, 1, .slice pa a.length ca)] := by rw [hW2, ← hs0]; exact ⟨⟨by go_cell, by go_cell⟩, ⟨by go_cell, by go_cell⟩, trivial⟩
 have HW2 := Lib.hid hW2; have HS := Lib.hid hs0
 clear hW2 hs0
 have oC : Off s 3 p := Off.old (by rw [← HS.out]; exact hC.lt hc0)
 have HA := Lib.hid hA; have RA := Lib.hid ra; clear hA ra
 replace hC : CAt W2 p cap c := hC.mono hbw
 go_enter Try.func56, Try.ntmps56
 go_upto_region 3 with fail
 rw [← HW2.out]
 simp only [HS.out, Nat.add_assoc, Nat.reduceAdd]
 obtain ⟨⟨y00, y00f⟩, ⟨y20, y20f⟩, -⟩ := id hs
 obtain ⟨⟨y10, y10f⟩, ⟨y11, y11f⟩, -⟩ := id hk
 go_loopg [6, 7] a.length (fun N s6 s7 wr => ∃ K : Nat, ∃ C : List Gate, ∃ r : Int, ∃ pc : Option Addr, ∃ cc : Nat, s6 = .int .i64 r ∧ s7 = .int .i64 K ∧ K ≤ a.length ∧ N = a.length - K ∧ orAll ((a.take K).map Cell.ref) (c, 1) = (C, r) ∧ C.length ≤ 20000 ∧ r ≤ 40001 ∧ Off s 3 pc ∧ Cells wr [(s, 0, .slice pc C.length cc), (s + 2, 0, .slice none 0 0)] ∧ Cells wr [(s + 1, 0, .int .i64 ar1), (s + 1, 1, .slice pa a.length ca)] ∧ CAt wr pc cc C ∧ Below w.heap.size w wr ∧ s + 3 ≤ wr.heap.size)
 case atStart => exact ⟨0, c, 1, p, cap, rfl, rfl, by omega, rfl, rfl, hl, by omega, oC, hs, hk, hC, hbw, zz⟩
 obtain ⟨K, C, r, pc, cc, rfl, rfl, hK, hN, hrun, hCl, hr1, oC, hs, hk, hC, hbw, zz⟩ := hrel
 have HN := Lib.hid hN; have HR := Lib.hid hrun; clear hN hrun
 by_cases hlt : K < a.length
 case neg =>
  obtain rfl : K = a.length := by omega
  have HF := Lib.hid (show mSome c a = (C, r) by have := HR.out; rw [List.take_length] at this; exact this)
  clear y00 y00f y20 y20f y10 y10f y11 y11f
  obtain ⟨⟨y00, y00f⟩, ⟨y20, y20f⟩, -⟩ := id hs
  obtain ⟨⟨y10, y10f⟩, ⟨y11, y11f⟩, -⟩ := id hk
  go_upto_region 8 with fail
  go_wp2_with fail
  obtain ⟨W9, hW9⟩ : ∃ W9, W9 = wr.setCell ⟨s + 2, 0, none⟩ (.slice pc C.length cc) := ⟨_, rfl⟩
  rw [← hW9]
  have e0 : W9.cell? ⟨s + 2, 0, none⟩ = some (.slice pc C.length cc) := by rw [hW9]; go_cell
  replace hC : CAt W9 pc cc C := by rw [hW9]; exact hC.set (oC.ne (by omega) (by omega)) _
  have B9 : Below w.heap.size w W9 := by rw [hW9]; exact Below.setCell hbw (by have h := HS.out; (try dsimp only); omega) _
  clear hW9
  rw [HF.out]
  refine bodyPost_ret (by simp [results, Try.results56, go_sem, e0]; try rfl) rfl ?_
  exact ⟨_, _, rfl, hC, B9⟩
 have hlt0 : (0 : Int) ≤ (K : Int) := by omega
 have hlt1 : (K : Int) < (a.length : Int) := by omega
 obtain ⟨z, hr⟩ : ∃ z, a[K]? = some z := ⟨_, List.getElem?_eq_getElem hlt⟩
 obtain ⟨rk, P⟩ := z
 have hp1 : P ≤ 100000 := RA.out _ (List.mem_of_getElem? hr)
 obtain ⟨bq, oq, rfl, hbq, j0, j1⟩ := cell_cells (HA.out.up hbw).at' hr
 dsimp only at j0 j1
 have hbo : bq < s := by have := HA.out.lt _ rfl; have := HS.out; dsimp only at *; omega
 have HTK := Lib.hid (show a.take (K + 1) = a.take K ++ [⟨rk, P⟩] by obtain ⟨hk, he⟩ := List.getElem?_eq_some_iff.1 hr; rw [List.take_succ_eq_append_getElem hk, he])
 clear hr
 obtain ⟨dd, x, hop⟩ : ∃ dd x, cor C r P = (dd, x) := ⟨_, _, rfl⟩
 have hdd := rcor_le (a := r) (b := P) hCl
 rw [hop] at hdd
 obtain ⟨hd1, hd2⟩ := hdd
 dsimp only at hd1 hd2
 have HOP := Lib.hid hop; clear hop
 clear y00 y00f y20 y20f y10 y10f y11 y11f
 obtain ⟨⟨y00, y00f⟩, ⟨y20, y20f⟩, -⟩ := id hs
 obtain ⟨⟨y10, y10f⟩, ⟨y11, y11f⟩, -⟩ := id hk
 go_upto_region 5 with fail
 go_cut [8, 9] from 17 to 28 (fun s8 s9 wx => ∃ (bd : Nat) (pd : Option Addr) (cd : Nat), s8 = .pointer (some ⟨bd, 0, none⟩) ∧ s9 = .int .i64 x ∧ Cells wx [(bd, 0, .slice pd dd.length cd)] ∧ s + 3 ≤ bd ∧ CAt wx pd cd dd ∧ Off s 3 pd ∧ Below wr.heap.size wr wx)
 case first =>
  as_aux_lemma =>
   have hacc : Below wr.heap.size wr wr := Below.refl _ _
   clear y00 y00f y20 y20f y10 y10f y11 y11f
   obtain ⟨⟨y00, y00f⟩, -, -⟩ := hs
   have hs : Cells wr [(s, 0, .slice pc C.length cc)] := ⟨⟨y00, y00f⟩, trivial⟩
   clear y00 y00f
   refine wp_region_seqE (fun x => Below wr.heap.size wr x) (.one 0 0 (.one 1 1 (.one 2 1 (.one 3 0 (.one 4 1 (.one 5 1 (.one 6 1 (.one 7 0 (.alt 8 3 (.one 9 1 (.one 10 1 (.one 11 1 (.alt 12 2 (.alt 13 3 (.one 14 1 .nil) .stop) .stop)))) (.alt 12 2 (.alt 8 3 (.one 9 1 (.one 10 1 (.one 11 1 (.alt 13 3 (.one 14 1 .nil) .stop)))) .stop) .stop)))))))))) (by kernel_rfl) (by kernel_rfl) (by kernel_rfl) (Below.drew (Below.refl _ _)) ?_
   iterate 8 ((first | (refine seqE_free (v := ?_) rfl (by rfl) ?_ ?_; rotate_left; (focus (intro w; go_simp; try with_reducible rfl))) | (refine seqE_pure (v := ?_) rfl (by rfl) ?_ ?_; rotate_left; (focus (intro w hS; obtain ⟨⟨y00, -⟩, -⟩ := hs.up hS; obtain ⟨-, ⟨y11, -⟩, -⟩ := hk.up hS; have j0 := zD hS j0; have j1 := zD hS j1; go_simp; try with_reducible rfl)))); (try simp only [Act.put, zA, zB, zC]))
   clear hs
   clear hk
   clear j0 j1
   refine seqE_callB (f := ?_) (args := ?_) rfl (by rfl) ?_ ?_ ?_
   rotate_left 2
   focus (intro w hS; go_simp; first | done | with_reducible rfl | (refine ⟨?_, ?_⟩ <;> with_reducible rfl))
   ·
    intro w1 hS
    refine (ror_fr (hC.mono hS) (by omega) (by omega) (by omega) HOP.out).mono ?_
    rintro e v1 ⟨pd, cd, rfl, hE, hbl, frE⟩
    refine ⟨_, rfl, (fun x => Below v1.heap.size v1 x), Below.refl _ _, ?_⟩
    have hXw := Nat.le_trans zz hS.size; have hXa := Nat.le_trans hacc.size hS.size
    have hX := btr hS hbl
    replace hC := hC.mono hX; replace hbw := btr hbw hX; replace zz := Nat.le_trans zz (Below.size hX); replace hacc := btr hacc hX
    have oE : Off s 3 pd := Off.fresh frE oC hXw
    clear frE
    clear hX hS hbl hXw hXa
    (try simp only [Act.put, zA, zB, zC])
    iterate 3 (refine seqE_free (v := ?_) rfl (by rfl) ?_ ?_; rotate_left; (focus (intro w; go_simp; try with_reducible rfl)); (try simp only [Act.put, zA, zB, zC]))
    refine seqE_move rfl (by rfl) ?_ seqE_stop
    intro w2 hS
    refine ⟨.pointer (some ⟨w2.heap.size, 0, none⟩), w2.alloc (.cells #[.slice none 0 0] 27), (by go_simp; try with_reducible rfl), ?_⟩
    obtain ⟨b8, hb8⟩ : ∃ b, b = w2.heap.size := ⟨_, rfl⟩
    obtain ⟨v2, hw2⟩ : ∃ zW, zW = w2.alloc (.cells #[.slice none 0 0] 27) := ⟨_, rfl⟩
    rw [← hw2, ← hb8]
    have hbl : Below w2.heap.size w2 v2 := by rw [hw2]; go_grown
    have hge8 : s + 3 ≤ b8 := by rw [hb8]; exact Nat.le_trans zz hS.size
    have hga8 : wr.heap.size ≤ b8 := by rw [hb8]; exact Nat.le_trans hacc.size hS.size
    refine ⟨(fun x => Below v2.heap.size v2 x), Below.refl _ _, fun x hx => btr (btr hS hbl) hx, ?_⟩
    have hX := btr hS hbl
    replace hC := hC.mono hX; replace hE := hE.mono hX; replace hbw := btr hbw hX; replace zz := Nat.le_trans zz (Below.size hX); replace hacc := btr hacc hX
    have hs : Cells v2 [(b8, 0, .slice none 0 0)] := ⟨⟨by rw [hw2, hb8]; go_cell, by rw [hw2, hb8]; go_cell⟩, trivial⟩
    clear hX hS hbl hw2 hb8
    (try simp only [Act.put, zA, zB, zC])
    refine seqE_storeB rfl (by rfl) ?_ seqE_stop
    intro w3 hS
    replace hs := hs.up hS; replace hC := hC.mono hS; replace hE := hE.mono hS; replace hbw := btr hbw hS; replace zz := Nat.le_trans zz (Below.size hS); replace hacc := btr hacc hS
    obtain ⟨⟨d80, d80f⟩, -⟩ := id hs
    refine ⟨(w3.setCell ⟨b8, 0, none⟩ (.slice pd dd.length cd)), (by go_simp; try with_reducible rfl), (fun x => Below ((w3.setCell ⟨b8, 0, none⟩ (.slice pd dd.length cd))).heap.size ((w3.setCell ⟨b8, 0, none⟩ (.slice pd dd.length cd))) x), Below.refl _ _, ?_⟩
    obtain ⟨v3, hw⟩ : ∃ zW, zW = (w3.setCell ⟨b8, 0, none⟩ (.slice pd dd.length cd)) := ⟨_, rfl⟩
    rw [← hw]
    replace hs : Cells v3 [(b8, 0, .slice pd dd.length cd)] := by rw [hw]; exact ⟨⟨by go_cell, (fz d80f)⟩, trivial⟩
    replace hC : CAt v3 pc cc C := by rw [hw]; exact hC.box d80 _
    replace hE : CAt v3 pd cd dd := by rw [hw]; exact hE.box d80 _
    replace hbw : Below w.heap.size w v3 := by rw [hw]; exact (Below.setCell hbw (by have h := HS.out; (try dsimp only); omega) _)
    replace hacc : Below wr.heap.size wr v3 := by rw [hw]; exact (Below.setCell hacc (by have h := HS.out; (try dsimp only); omega) _)
    replace zz : s + 3 ≤ v3.heap.size := by rw [hw]; simpa using zz
    clear hw
    clear d80 d80f
    clear hS
    (try simp only [Act.put, zA, zB, zC])
    iterate 1 (refine seqE_free (v := ?_) rfl (by rfl) ?_ ?_; rotate_left; (focus (intro w; go_simp; try with_reducible rfl)); (try simp only [Act.put, zA, zB, zC]))
    refine seqE_nil ?_
    intro wz hS
    replace hs := hs.up hS; replace hC := hC.mono hS; replace hE := hE.mono hS; replace hbw := btr hbw hS; replace zz := Nat.le_trans zz (Below.size hS); replace hacc := btr hacc hS; clear hS
    obtain ⟨⟨d80, d80f⟩, -⟩ := id hs
    go_wp2_with fail
    go_meet
    exact ⟨_, _, _, rfl, rfl, ⟨⟨d80, d80f⟩, trivial⟩, hge8, hE, oE, hacc⟩
   refine seqE_move rfl (by rfl) ?_ seqE_stop
   intro w4 hS
   refine ⟨.pointer (some ⟨w4.heap.size, 0, none⟩), w4.alloc (.cells #[.slice none 0 0] 27), (by go_simp; try with_reducible rfl), ?_⟩
   obtain ⟨b8, hb8⟩ : ∃ b, b = w4.heap.size := ⟨_, rfl⟩
   obtain ⟨v4, hw4⟩ : ∃ zW, zW = w4.alloc (.cells #[.slice none 0 0] 27) := ⟨_, rfl⟩
   rw [← hw4, ← hb8]
   have hbl : Below w4.heap.size w4 v4 := by rw [hw4]; go_grown
   have hge8 : s + 3 ≤ b8 := by rw [hb8]; exact Nat.le_trans zz hS.size
   have hga8 : wr.heap.size ≤ b8 := by rw [hb8]; exact Nat.le_trans hacc.size hS.size
   refine ⟨(fun x => Below v4.heap.size v4 x), Below.refl _ _, fun x hx => btr (btr hS hbl) hx, ?_⟩
   have hX := btr hS hbl
   replace hC := hC.mono hX; replace hbw := btr hbw hX; replace zz := Nat.le_trans zz (Below.size hX); replace hacc := btr hacc hX
   have hs : Cells v4 [(b8, 0, .slice none 0 0)] := ⟨⟨by rw [hw4, hb8]; go_cell, by rw [hw4, hb8]; go_cell⟩, trivial⟩
   clear hX hS hbl hw4 hb8
   (try simp only [Act.put, zA, zB, zC])
   refine seqE_callB (f := ?_) (args := ?_) rfl (by rfl) ?_ ?_ seqE_stop
   rotate_left 2
   focus (intro w hS; go_simp; first | done | with_reducible rfl | (refine ⟨?_, ?_⟩ <;> with_reducible rfl))
   intro w5 hS
   refine (ror_fr (hC.mono hS) (by omega) (by omega) (by omega) HOP.out).mono ?_
   rintro e v5 ⟨pd, cd, rfl, hE, hbl, frE⟩
   refine ⟨_, rfl, (fun x => Below v5.heap.size v5 x), Below.refl _ _, ?_⟩
   have hXw := Nat.le_trans zz hS.size; have hXa := Nat.le_trans hacc.size hS.size
   have hX := btr hS hbl
   replace hs := hs.up hX; replace hC := hC.mono hX; replace hbw := btr hbw hX; replace zz := Nat.le_trans zz (Below.size hX); replace hacc := btr hacc hX
   have oE : Off s 3 pd := Off.fresh frE oC hXw
   clear frE
   clear hX hS hbl hXw hXa
   (try simp only [Act.put, zA, zB, zC])
   iterate 3 (refine seqE_free (v := ?_) rfl (by rfl) ?_ ?_; rotate_left; (focus (intro w; go_simp; try with_reducible rfl)); (try simp only [Act.put, zA, zB, zC]))
   refine seqE_storeB rfl (by rfl) ?_ seqE_stop
   intro w6 hS
   replace hs := hs.up hS; replace hC := hC.mono hS; replace hE := hE.mono hS; replace hbw := btr hbw hS; replace zz := Nat.le_trans zz (Below.size hS); replace hacc := btr hacc hS
   obtain ⟨⟨d80, d80f⟩, -⟩ := id hs
   refine ⟨(w6.setCell ⟨b8, 0, none⟩ (.slice pd dd.length cd)), (by go_simp; try with_reducible rfl), (fun x => Below ((w6.setCell ⟨b8, 0, none⟩ (.slice pd dd.length cd))).heap.size ((w6.setCell ⟨b8, 0, none⟩ (.slice pd dd.length cd))) x), Below.refl _ _, ?_⟩
   obtain ⟨v6, hw⟩ : ∃ zW, zW = (w6.setCell ⟨b8, 0, none⟩ (.slice pd dd.length cd)) := ⟨_, rfl⟩
   rw [← hw]
   replace hs : Cells v6 [(b8, 0, .slice pd dd.length cd)] := by rw [hw]; exact ⟨⟨by go_cell, (fz d80f)⟩, trivial⟩
   replace hC : CAt v6 pc cc C := by rw [hw]; exact hC.box d80 _
   replace hE : CAt v6 pd cd dd := by rw [hw]; exact hE.box d80 _
   replace hbw : Below w.heap.size w v6 := by rw [hw]; exact (Below.setCell hbw (by have h := HS.out; (try dsimp only); omega) _)
   replace hacc : Below wr.heap.size wr v6 := by rw [hw]; exact (Below.setCell hacc (by have h := HS.out; (try dsimp only); omega) _)
   replace zz : s + 3 ≤ v6.heap.size := by rw [hw]; simpa using zz
   clear hw
   clear d80 d80f
   clear hS
   (try simp only [Act.put, zA, zB, zC])
   iterate 1 (refine seqE_free (v := ?_) rfl (by rfl) ?_ ?_; rotate_left; (focus (intro w; go_simp; try with_reducible rfl)); (try simp only [Act.put, zA, zB, zC]))
   refine seqE_nil ?_
   intro wz hS
   replace hs := hs.up hS; replace hC := hC.mono hS; replace hE := hE.mono hS; replace hbw := btr hbw hS; replace zz := Nat.le_trans zz (Below.size hS); replace hacc := btr hacc hS; clear hS
   obtain ⟨⟨d80, d80f⟩, -⟩ := id hs
   go_wp2_with fail
   go_meet
   exact ⟨_, _, _, rfl, rfl, ⟨⟨d80, d80f⟩, trivial⟩, hge8, hE, oE, hacc⟩
 obtain ⟨b8, p8, c8, rfl, rfl, hz8, hge8, hE8, oE8, hst⟩ := hcut
 clear y00 y00f y20 y20f y10 y10f y11 y11f
 replace hs := hs.up hst; replace hk := hk.up hst; replace hC := hC.mono hst; replace hbw := btr hbw hst; replace zz := Nat.le_trans zz (Below.size hst); replace j0 := zD hst j0; replace j1 := zD hst j1; clear hst
 replace hs : Cells wc [(b8, 0, .slice p8 dd.length c8), (s, 0, .slice pc C.length cc), (s + 2, 0, .slice none 0 0)] := ⟨hz8.1, hs⟩
 clear hz8
 obtain ⟨⟨z8, z8f⟩, ⟨y00, y00f⟩, ⟨y20, y20f⟩, -⟩ := id hs
 obtain ⟨⟨y10, y10f⟩, ⟨y11, y11f⟩, -⟩ := id hk
 go_upto_region 6 with fail
 have HST := Lib.hid (show orAll ((a.take (K + 1)).map Cell.ref) (c, 1) = (dd, x) by
  rw [HTK.out, List.map_append]
  have e : orAll ((a.take K).map Cell.ref ++ [P]) (c, 1) = cor (orAll ((a.take K).map Cell.ref) (c, 1)).1 (orAll ((a.take K).map Cell.ref) (c, 1)).2 P := by unfold orAll; rw [List.foldl_append]; rfl
  exact e.trans (by rw [HR.out]; exact HOP.out))
 clear hC
 go_wp2_with fail
 obtain ⟨w8, hw⟩ : ∃ zW, zW = (wc.setCell ⟨s, 0, none⟩ (.slice p8 dd.length c8)) := ⟨_, rfl⟩
 rw [← hw]
 replace hs : Cells w8 [(b8, 0, .slice p8 dd.length c8), (s, 0, .slice p8 dd.length c8), (s + 2, 0, .slice none 0 0)] := by rw [hw]; exact ⟨⟨by go_cell, (fz z8f)⟩, ⟨by go_cell, (fz y00f)⟩, ⟨by go_cell, (fz y20f)⟩, trivial⟩
 replace hk : Cells w8 [(s + 1, 0, .int .i64 ar1), (s + 1, 1, .slice (some ⟨bq, oq, none⟩) a.length ca)] := by rw [hw]; exact (hk.far (by simp <;> omega))
 replace hE8 : CAt w8 p8 c8 dd := by rw [hw]; exact hE8.box y00 _
 replace j0 : w8.cell? ⟨bq, oq + K * 2, none⟩ = some (.int .i64 rk) := by rw [hw]; exact (keep_far j0 (by first | omega | (dsimp only; omega)))
 replace j1 : w8.cell? ⟨bq, oq + K * 2 + 1, none⟩ = some (.int .i64 P) := by rw [hw]; exact (keep_far j1 (by first | omega | (dsimp only; omega)))
 replace hbw : Below w.heap.size w w8 := by rw [hw]; exact (Below.setCell hbw (by have h := HS.out; (try dsimp only); omega) _)
 replace zz : s + 3 ≤ w8.heap.size := by rw [hw]; simpa using zz
 clear hw
 clear z8 z8f y00 y00f y20 y20f y10 y10f y11 y11f
 replace hs := hs.2
 go_roundg (a.length - (K + 1))
 case measure => (have := HN.out; omega)
 case rel => exact ⟨K + 1, dd, x, p8, c8, rfl, by go_num, by omega, rfl, HST.out, hd1, hd2, oE8, hs, hk, hE8, hbw, zz⟩
set_option maxRecDepth 100000 in
set_option maxHeartbeats 4000000 in
theorem rin14_any (c : List Gate) (a b : List Cell) (ar1 ar2 : Int) (p pa pb : Option Addr) (cap ca cb : Nat) (w : World) (hC : CAt w p cap c) (hA : MxAt w pa ca a) (hD : MxAt w pb cb b)
 (ra : ∀ x ∈ a, x.ref ≤ 100000) (rb : ∀ x ∈ b, x.ref ≤ 100000) (hlb : b.length ≤ 10000) (hl : c.length ≤ 20000) (hla : a.length ≤ 10000) (hc0 : 0 < c.length) :
 Calls Try.prog 55 #[.agg #[.slice p c.length cap], .agg #[.int .i64 ar1, .slice pa a.length ca], .agg #[.int .i64 ar2, .slice pb b.length cb]] w (RetC w (mIn c a b).1 (mIn c a b).2) := by
 obtain ⟨s, hs0⟩ : ∃ s, w.heap.size = s := ⟨_, rfl⟩
 obtain ⟨W2, hW2⟩ : ∃ W2, W2 = ((((w.alloc (.cells #[.slice p c.length cap] 27)).alloc (.cells #[.int .i64 ar1, .slice pa a.length ca] 30)).alloc (.cells #[.int .i64 ar2, .slice pb b.length cb] 30)).alloc (.cells #[.slice none 0 0] 27)) := ⟨_, rfl⟩
 have hbw : Below w.heap.size w W2 := by rw [hW2]; go_grown
 have zz : s + 4 ≤ W2.heap.size := by rw [hW2, ← hs0]; simp
 have hs : Cells W2 [(s, 0, .slice p c.length cap), (s + 3, 0, .slice none 0 0)] := by rw [hW2, ← hs0]; exact ⟨⟨by go_cell, by go_cell⟩, ⟨by go_cell, by go_cell⟩, trivial⟩
 have hk : Cells W2 [(s + 1, 0, .int .i64 ar1), (s + 1, 1, .slice pa a.length ca), (s + 2, 0, .int .i64 ar2), (s + 2, 1, .slice pb b.length cb)] := by rw [hW2, ← hs0]; exact ⟨⟨by go_cell, by go_cell⟩, ⟨by go_cell, by go_cell⟩, ⟨by go_cell, by go_cell⟩, ⟨by go_cell, by go_cell⟩, trivial⟩
 have HW2 := Lib.hid hW2; have HS := Lib.hid hs0
 clear hW2 hs0
 have oC : Off s 4 p := Off.old (by rw [← HS.out]; exact hC.lt hc0)
 have HA := Lib.hid hA; have RA := Lib.hid ra; have HD := Lib.hid hD; have RB := Lib.hid rb; clear hA ra hD rb
 replace hC : CAt W2 p cap c := hC.mono hbw
 go_enter Try.func55, Try.ntmps55
 go_upto_region 3 with fail
 rw [← HW2.out]
 simp only [HS.out, Nat.add_assoc, Nat.reduceAdd]
 obtain ⟨⟨y00, y00f⟩, ⟨y30, y30f⟩, -⟩ := id hs
 obtain ⟨⟨y10, y10f⟩, ⟨y11, y11f⟩, ⟨y20, y20f⟩, ⟨y21, y21f⟩, -⟩ := id hk
 go_loopg [8, 9] a.length (fun N s8 s9 wr => ∃ K : Nat, ∃ C : List Gate, ∃ r : Int, ∃ pc : Option Addr, ∃ cc : Nat, s8 = .int .i64 r ∧ s9 = .int .i64 K ∧ K ≤ a.length ∧ N = a.length - K ∧ (a.take K).foldl (inStep b) (c, 0) = (C, r) ∧ C.length ≤ 20000 ∧ r ≤ 40001 ∧ Off s 4 pc ∧ Cells wr [(s, 0, .slice pc C.length cc), (s + 3, 0, .slice none 0 0)] ∧ Cells wr [(s + 1, 0, .int .i64 ar1), (s + 1, 1, .slice pa a.length ca), (s + 2, 0, .int .i64 ar2), (s + 2, 1, .slice pb b.length cb)] ∧ CAt wr pc cc C ∧ Below w.heap.size w wr ∧ s + 4 ≤ wr.heap.size)
 case atStart => exact ⟨0, c, 0, p, cap, rfl, rfl, by omega, rfl, rfl, hl, by omega, oC, hs, hk, hC, hbw, zz⟩
 obtain ⟨K, C, r, pc, cc, rfl, rfl, hK, hN, hrun, hCl, hr1, oC, hs, hk, hC, hbw, zz⟩ := hrel
 have HN := Lib.hid hN; have HR := Lib.hid hrun; clear hN hrun
 by_cases hlt : K < a.length
 case neg =>
  obtain rfl : K = a.length := by omega
  have HF := Lib.hid (show mIn c a b = (C, r) by have := HR.out; rw [List.take_length] at this; exact this)
  clear y00 y00f y30 y30f y10 y10f y11 y11f y20 y20f y21 y21f
  obtain ⟨⟨y00, y00f⟩, ⟨y30, y30f⟩, -⟩ := id hs
  obtain ⟨⟨y10, y10f⟩, ⟨y11, y11f⟩, ⟨y20, y20f⟩, ⟨y21, y21f⟩, -⟩ := id hk
  go_upto_region 9 with fail
  go_wp2_with fail
  obtain ⟨W9, hW9⟩ : ∃ W9, W9 = wr.setCell ⟨s + 3, 0, none⟩ (.slice pc C.length cc) := ⟨_, rfl⟩
  rw [← hW9]
  have e0 : W9.cell? ⟨s + 3, 0, none⟩ = some (.slice pc C.length cc) := by rw [hW9]; go_cell
  replace hC : CAt W9 pc cc C := by rw [hW9]; exact hC.set (oC.ne (by omega) (by omega)) _
  have B9 : Below w.heap.size w W9 := by rw [hW9]; exact Below.setCell hbw (by have h := HS.out; (try dsimp only); omega) _
  clear hW9
  rw [HF.out]
  refine bodyPost_ret (by simp [results, Try.results55, go_sem, e0]; try rfl) rfl ?_
  exact ⟨_, _, rfl, hC, B9⟩
 have hlt0 : (0 : Int) ≤ (K : Int) := by omega
 have hlt1 : (K : Int) < (a.length : Int) := by omega
 obtain ⟨z, hr⟩ : ∃ z, a[K]? = some z := ⟨_, List.getElem?_eq_getElem hlt⟩
 obtain ⟨rk, P⟩ := z
 have hp1 : P ≤ 100000 := RA.out _ (List.mem_of_getElem? hr)
 obtain ⟨bq, oq, rfl, hbq, j0, j1⟩ := cell_cells (HA.out.up hbw).at' hr
 dsimp only at j0 j1
 have hbo : bq < s := by have := HA.out.lt _ rfl; have := HS.out; dsimp only at *; omega
 have HTK := Lib.hid (show a.take (K + 1) = a.take K ++ [⟨rk, P⟩] by obtain ⟨hk, he⟩ := List.getElem?_eq_some_iff.1 hr; rw [List.take_succ_eq_append_getElem hk, he])
 clear hr
 have hq1 := mat_le RB.out rk
 obtain ⟨Q, hQ⟩ : ∃ Q, mat b rk = Q := ⟨_, rfl⟩
 rw [hQ] at hq1
 have HQ := Lib.hid hQ; clear hQ
 have hnq := cnot_big hq1
 obtain ⟨dd, x, hop⟩ : ∃ dd x, cbut C P Q = (dd, x) := ⟨_, _, rfl⟩
 have hdd := cbut_bound (a := P) (b := Q) hCl
 rw [hop] at hdd
 obtain ⟨hd1, hd2⟩ := hdd
 dsimp only at hd1 hd2
 have hnx := cnot_big (r := x) (by omega)
 obtain ⟨ee, y, hop2⟩ : ∃ e y, cbut dd r x = (e, y) := ⟨_, _, rfl⟩
 have hee := cbut_bound (a := r) (b := x) hd1
 rw [hop2] at hee
 obtain ⟨he1, he2⟩ := hee
 dsimp only at he1 he2
 have HOP := Lib.hid hop; have HOP2 := Lib.hid hop2; clear hop hop2
 clear y00 y00f y30 y30f y10 y10f y11 y11f y20 y20f y21 y21f
 obtain ⟨⟨y00, y00f⟩, ⟨y30, y30f⟩, -⟩ := id hs
 obtain ⟨⟨y10, y10f⟩, ⟨y11, y11f⟩, ⟨y20, y20f⟩, ⟨y21, y21f⟩, -⟩ := id hk
 go_upto_region 5 with fail
 go_cut [10, 11] from 21 to 40 (fun s10 s11 wx => ∃ (bd : Nat) (pd : Option Addr) (cd : Nat), s10 = .pointer (some ⟨bd, 0, none⟩) ∧ s11 = .int .i64 x ∧ Cells wx [(bd, 0, .slice pd dd.length cd)] ∧ s + 4 ≤ bd ∧ CAt wx pd cd dd ∧ Off s 4 pd ∧ Below wr.heap.size wr wx)
 case first =>
  as_aux_lemma =>
   have hacc : Below wr.heap.size wr wr := Below.refl _ _
   clear y00 y00f y30 y30f y10 y10f y11 y11f y20 y20f y21 y21f
   obtain ⟨⟨y00, y00f⟩, -, -⟩ := hs
   have hs : Cells wr [(s, 0, .slice pc C.length cc)] := ⟨⟨y00, y00f⟩, trivial⟩
   clear y00 y00f
   refine wp_region_seqE (fun x => Below wr.heap.size wr x) (.one 0 0 (.one 1 1 (.one 2 0 (.one 3 1 (.one 4 1 (.one 5 1 (.one 6 0 (.one 7 0 (.one 8 1 (.one 9 0 (.one 10 1 (.one 11 1 (.one 12 1 (.one 13 0 (.alt 14 2 (.one 15 1 (.alt 16 3 (.one 17 1 (.one 18 1 (.one 19 1 (.alt 20 2 (.alt 21 3 (.one 22 1 .nil) .stop) .stop)))) (.alt 20 2 (.alt 16 3 (.one 17 1 (.one 18 1 (.one 19 1 (.alt 21 3 (.one 22 1 .nil) .stop)))) .stop) .stop))) (.alt 20 2 (.alt 14 2 (.one 15 1 (.alt 16 3 (.one 17 1 (.one 18 1 (.one 19 1 (.alt 21 3 (.one 22 1 .nil) .stop)))) .stop)) .stop) .stop)))))))))))))))) (by kernel_rfl) (by kernel_rfl) (by kernel_rfl) (Below.drew (Below.refl _ _)) ?_
   iterate 14 ((first | (refine seqE_free (v := ?_) rfl (by rfl) ?_ ?_; rotate_left; (focus (intro w; go_simp; try with_reducible rfl))) | (refine seqE_pure (v := ?_) rfl (by rfl) ?_ ?_; rotate_left; (focus (intro w hS; obtain ⟨⟨y00, -⟩, -⟩ := hs.up hS; obtain ⟨-, ⟨y11, -⟩, ⟨y20, -⟩, ⟨y21, -⟩, -⟩ := hk.up hS; have j0 := zD hS j0; have j1 := zD hS j1; go_simp; try with_reducible rfl)))); (try simp only [Act.put, zA, zB, zC]))
   clear hs
   clear hk
   clear j0 j1
   refine seqE_keep (v := .int .i64 Q) (f := ?_) (args := ?_) rfl (by rfl) ?_ ?_ ?_ ?_
   rotate_left 2
   focus (intro w hS; go_simp; first | done | with_reducible rfl | (refine ⟨?_, ?_⟩ <;> with_reducible rfl))
   focus (intro w hS; refine (at_is (HD.out.up (btr hbw hS)) (by omega) HQ.out).mono ?_; rintro e w2 ⟨rfl, hbl⟩; exact ⟨rfl, btr hS hbl⟩)
   ·
    (try simp only [Act.put, zA, zB, zC])
    refine seqE_fcall (v := .int .i64 (cnot Q)) (f := ?_) (args := ?_) rfl (by rfl) ?_ ?_ ?_
    rotate_left 2
    focus (intro w; go_simp; first | done | with_reducible rfl | (refine ⟨?_, ?_⟩ <;> with_reducible rfl))
    focus (intro w; exact rnot_any Q w (by omega))
    (try simp only [Act.put, zA, zB, zC])
    refine seqE_callB (f := ?_) (args := ?_) rfl (by rfl) ?_ ?_ ?_
    rotate_left 2
    focus (intro w hS; go_simp; first | done | with_reducible rfl | (refine ⟨?_, ?_⟩ <;> with_reducible rfl))
    ·
     intro w2 hS
     refine (rand_fr (hC.mono hS) (by omega) hnq (by omega) HOP.out).mono ?_
     rintro e v2 ⟨pd, cd, rfl, hE, hbl, frE⟩
     refine ⟨_, rfl, (fun x => Below v2.heap.size v2 x), Below.refl _ _, ?_⟩
     have hXw := Nat.le_trans zz hS.size; have hXa := Nat.le_trans hacc.size hS.size
     have hX := btr hS hbl
     replace hC := hC.mono hX; replace hbw := btr hbw hX; replace zz := Nat.le_trans zz (Below.size hX); replace hacc := btr hacc hX
     have oE : Off s 4 pd := Off.fresh frE oC hXw
     clear frE
     clear hX hS hbl hXw hXa
     (try simp only [Act.put, zA, zB, zC])
     iterate 3 (refine seqE_free (v := ?_) rfl (by rfl) ?_ ?_; rotate_left; (focus (intro w; go_simp; try with_reducible rfl)); (try simp only [Act.put, zA, zB, zC]))
     refine seqE_move rfl (by rfl) ?_ seqE_stop
     intro w3 hS
     refine ⟨.pointer (some ⟨w3.heap.size, 0, none⟩), w3.alloc (.cells #[.slice none 0 0] 27), (by go_simp; try with_reducible rfl), ?_⟩
     obtain ⟨b10, hb10⟩ : ∃ b, b = w3.heap.size := ⟨_, rfl⟩
     obtain ⟨v3, hw3⟩ : ∃ zW, zW = w3.alloc (.cells #[.slice none 0 0] 27) := ⟨_, rfl⟩
     rw [← hw3, ← hb10]
     have hbl : Below w3.heap.size w3 v3 := by rw [hw3]; go_grown
     have hge10 : s + 4 ≤ b10 := by rw [hb10]; exact Nat.le_trans zz hS.size
     have hga10 : wr.heap.size ≤ b10 := by rw [hb10]; exact Nat.le_trans hacc.size hS.size
     refine ⟨(fun x => Below v3.heap.size v3 x), Below.refl _ _, fun x hx => btr (btr hS hbl) hx, ?_⟩
     have hX := btr hS hbl
     replace hC := hC.mono hX; replace hE := hE.mono hX; replace hbw := btr hbw hX; replace zz := Nat.le_trans zz (Below.size hX); replace hacc := btr hacc hX
     have hs : Cells v3 [(b10, 0, .slice none 0 0)] := ⟨⟨by rw [hw3, hb10]; go_cell, by rw [hw3, hb10]; go_cell⟩, trivial⟩
     clear hX hS hbl hw3 hb10
     (try simp only [Act.put, zA, zB, zC])
     refine seqE_storeB rfl (by rfl) ?_ seqE_stop
     intro w4 hS
     replace hs := hs.up hS; replace hC := hC.mono hS; replace hE := hE.mono hS; replace hbw := btr hbw hS; replace zz := Nat.le_trans zz (Below.size hS); replace hacc := btr hacc hS
     obtain ⟨⟨d100, d100f⟩, -⟩ := id hs
     refine ⟨(w4.setCell ⟨b10, 0, none⟩ (.slice pd dd.length cd)), (by go_simp; try with_reducible rfl), (fun x => Below ((w4.setCell ⟨b10, 0, none⟩ (.slice pd dd.length cd))).heap.size ((w4.setCell ⟨b10, 0, none⟩ (.slice pd dd.length cd))) x), Below.refl _ _, ?_⟩
     obtain ⟨v4, hw⟩ : ∃ zW, zW = (w4.setCell ⟨b10, 0, none⟩ (.slice pd dd.length cd)) := ⟨_, rfl⟩
     rw [← hw]
     replace hs : Cells v4 [(b10, 0, .slice pd dd.length cd)] := by rw [hw]; exact ⟨⟨by go_cell, (fz d100f)⟩, trivial⟩
     replace hC : CAt v4 pc cc C := by rw [hw]; exact hC.box d100 _
     replace hE : CAt v4 pd cd dd := by rw [hw]; exact hE.box d100 _
     replace hbw : Below w.heap.size w v4 := by rw [hw]; exact (Below.setCell hbw (by have h := HS.out; (try dsimp only); omega) _)
     replace hacc : Below wr.heap.size wr v4 := by rw [hw]; exact (Below.setCell hacc (by have h := HS.out; (try dsimp only); omega) _)
     replace zz : s + 4 ≤ v4.heap.size := by rw [hw]; simpa using zz
     clear hw
     clear d100 d100f
     clear hS
     (try simp only [Act.put, zA, zB, zC])
     iterate 1 (refine seqE_free (v := ?_) rfl (by rfl) ?_ ?_; rotate_left; (focus (intro w; go_simp; try with_reducible rfl)); (try simp only [Act.put, zA, zB, zC]))
     refine seqE_nil ?_
     intro wz hS
     replace hs := hs.up hS; replace hC := hC.mono hS; replace hE := hE.mono hS; replace hbw := btr hbw hS; replace zz := Nat.le_trans zz (Below.size hS); replace hacc := btr hacc hS; clear hS
     obtain ⟨⟨d100, d100f⟩, -⟩ := id hs
     go_wp2_with fail
     go_meet
     exact ⟨_, _, _, rfl, rfl, ⟨⟨d100, d100f⟩, trivial⟩, hge10, hE, oE, hacc⟩
    refine seqE_move rfl (by rfl) ?_ seqE_stop
    intro w5 hS
    refine ⟨.pointer (some ⟨w5.heap.size, 0, none⟩), w5.alloc (.cells #[.slice none 0 0] 27), (by go_simp; try with_reducible rfl), ?_⟩
    obtain ⟨b10, hb10⟩ : ∃ b, b = w5.heap.size := ⟨_, rfl⟩
    obtain ⟨v5, hw5⟩ : ∃ zW, zW = w5.alloc (.cells #[.slice none 0 0] 27) := ⟨_, rfl⟩
    rw [← hw5, ← hb10]
    have hbl : Below w5.heap.size w5 v5 := by rw [hw5]; go_grown
    have hge10 : s + 4 ≤ b10 := by rw [hb10]; exact Nat.le_trans zz hS.size
    have hga10 : wr.heap.size ≤ b10 := by rw [hb10]; exact Nat.le_trans hacc.size hS.size
    refine ⟨(fun x => Below v5.heap.size v5 x), Below.refl _ _, fun x hx => btr (btr hS hbl) hx, ?_⟩
    have hX := btr hS hbl
    replace hC := hC.mono hX; replace hbw := btr hbw hX; replace zz := Nat.le_trans zz (Below.size hX); replace hacc := btr hacc hX
    have hs : Cells v5 [(b10, 0, .slice none 0 0)] := ⟨⟨by rw [hw5, hb10]; go_cell, by rw [hw5, hb10]; go_cell⟩, trivial⟩
    clear hX hS hbl hw5 hb10
    (try simp only [Act.put, zA, zB, zC])
    refine seqE_callB (f := ?_) (args := ?_) rfl (by rfl) ?_ ?_ seqE_stop
    rotate_left 2
    focus (intro w hS; go_simp; first | done | with_reducible rfl | (refine ⟨?_, ?_⟩ <;> with_reducible rfl))
    intro w6 hS
    refine (rand_fr (hC.mono hS) (by omega) hnq (by omega) HOP.out).mono ?_
    rintro e v6 ⟨pd, cd, rfl, hE, hbl, frE⟩
    refine ⟨_, rfl, (fun x => Below v6.heap.size v6 x), Below.refl _ _, ?_⟩
    have hXw := Nat.le_trans zz hS.size; have hXa := Nat.le_trans hacc.size hS.size
    have hX := btr hS hbl
    replace hs := hs.up hX; replace hC := hC.mono hX; replace hbw := btr hbw hX; replace zz := Nat.le_trans zz (Below.size hX); replace hacc := btr hacc hX
    have oE : Off s 4 pd := Off.fresh frE oC hXw
    clear frE
    clear hX hS hbl hXw hXa
    (try simp only [Act.put, zA, zB, zC])
    iterate 3 (refine seqE_free (v := ?_) rfl (by rfl) ?_ ?_; rotate_left; (focus (intro w; go_simp; try with_reducible rfl)); (try simp only [Act.put, zA, zB, zC]))
    refine seqE_storeB rfl (by rfl) ?_ seqE_stop
    intro w7 hS
    replace hs := hs.up hS; replace hC := hC.mono hS; replace hE := hE.mono hS; replace hbw := btr hbw hS; replace zz := Nat.le_trans zz (Below.size hS); replace hacc := btr hacc hS
    obtain ⟨⟨d100, d100f⟩, -⟩ := id hs
    refine ⟨(w7.setCell ⟨b10, 0, none⟩ (.slice pd dd.length cd)), (by go_simp; try with_reducible rfl), (fun x => Below ((w7.setCell ⟨b10, 0, none⟩ (.slice pd dd.length cd))).heap.size ((w7.setCell ⟨b10, 0, none⟩ (.slice pd dd.length cd))) x), Below.refl _ _, ?_⟩
    obtain ⟨v7, hw⟩ : ∃ zW, zW = (w7.setCell ⟨b10, 0, none⟩ (.slice pd dd.length cd)) := ⟨_, rfl⟩
    rw [← hw]
    replace hs : Cells v7 [(b10, 0, .slice pd dd.length cd)] := by rw [hw]; exact ⟨⟨by go_cell, (fz d100f)⟩, trivial⟩
    replace hC : CAt v7 pc cc C := by rw [hw]; exact hC.box d100 _
    replace hE : CAt v7 pd cd dd := by rw [hw]; exact hE.box d100 _
    replace hbw : Below w.heap.size w v7 := by rw [hw]; exact (Below.setCell hbw (by have h := HS.out; (try dsimp only); omega) _)
    replace hacc : Below wr.heap.size wr v7 := by rw [hw]; exact (Below.setCell hacc (by have h := HS.out; (try dsimp only); omega) _)
    replace zz : s + 4 ≤ v7.heap.size := by rw [hw]; simpa using zz
    clear hw
    clear d100 d100f
    clear hS
    (try simp only [Act.put, zA, zB, zC])
    iterate 1 (refine seqE_free (v := ?_) rfl (by rfl) ?_ ?_; rotate_left; (focus (intro w; go_simp; try with_reducible rfl)); (try simp only [Act.put, zA, zB, zC]))
    refine seqE_nil ?_
    intro wz hS
    replace hs := hs.up hS; replace hC := hC.mono hS; replace hE := hE.mono hS; replace hbw := btr hbw hS; replace zz := Nat.le_trans zz (Below.size hS); replace hacc := btr hacc hS; clear hS
    obtain ⟨⟨d100, d100f⟩, -⟩ := id hs
    go_wp2_with fail
    go_meet
    exact ⟨_, _, _, rfl, rfl, ⟨⟨d100, d100f⟩, trivial⟩, hge10, hE, oE, hacc⟩
   refine seqE_move rfl (by rfl) ?_ seqE_stop
   intro w8 hS
   refine ⟨.pointer (some ⟨w8.heap.size, 0, none⟩), w8.alloc (.cells #[.slice none 0 0] 27), (by go_simp; try with_reducible rfl), ?_⟩
   obtain ⟨b10, hb10⟩ : ∃ b, b = w8.heap.size := ⟨_, rfl⟩
   obtain ⟨v8, hw8⟩ : ∃ zW, zW = w8.alloc (.cells #[.slice none 0 0] 27) := ⟨_, rfl⟩
   rw [← hw8, ← hb10]
   have hbl : Below w8.heap.size w8 v8 := by rw [hw8]; go_grown
   have hge10 : s + 4 ≤ b10 := by rw [hb10]; exact Nat.le_trans zz hS.size
   have hga10 : wr.heap.size ≤ b10 := by rw [hb10]; exact Nat.le_trans hacc.size hS.size
   refine ⟨(fun x => Below v8.heap.size v8 x), Below.refl _ _, fun x hx => btr (btr hS hbl) hx, ?_⟩
   have hX := btr hS hbl
   replace hC := hC.mono hX; replace hbw := btr hbw hX; replace zz := Nat.le_trans zz (Below.size hX); replace hacc := btr hacc hX
   have hs : Cells v8 [(b10, 0, .slice none 0 0)] := ⟨⟨by rw [hw8, hb10]; go_cell, by rw [hw8, hb10]; go_cell⟩, trivial⟩
   clear hX hS hbl hw8 hb10
   (try simp only [Act.put, zA, zB, zC])
   refine seqE_keep (v := .int .i64 Q) (f := ?_) (args := ?_) rfl (by rfl) ?_ ?_ ?_ seqE_stop
   rotate_left 2
   focus (intro w hS; go_simp; first | done | with_reducible rfl | (refine ⟨?_, ?_⟩ <;> with_reducible rfl))
   focus (intro w hS; refine (at_is (HD.out.up (btr hbw hS)) (by omega) HQ.out).mono ?_; rintro e w2 ⟨rfl, hbl⟩; exact ⟨rfl, btr hS hbl⟩)
   (try simp only [Act.put, zA, zB, zC])
   refine seqE_fcall (v := .int .i64 (cnot Q)) (f := ?_) (args := ?_) rfl (by rfl) ?_ ?_ ?_
   rotate_left 2
   focus (intro w; go_simp; first | done | with_reducible rfl | (refine ⟨?_, ?_⟩ <;> with_reducible rfl))
   focus (intro w; exact rnot_any Q w (by omega))
   (try simp only [Act.put, zA, zB, zC])
   refine seqE_callB (f := ?_) (args := ?_) rfl (by rfl) ?_ ?_ seqE_stop
   rotate_left 2
   focus (intro w hS; go_simp; first | done | with_reducible rfl | (refine ⟨?_, ?_⟩ <;> with_reducible rfl))
   intro w10 hS
   refine (rand_fr (hC.mono hS) (by omega) hnq (by omega) HOP.out).mono ?_
   rintro e v10 ⟨pd, cd, rfl, hE, hbl, frE⟩
   refine ⟨_, rfl, (fun x => Below v10.heap.size v10 x), Below.refl _ _, ?_⟩
   have hXw := Nat.le_trans zz hS.size; have hXa := Nat.le_trans hacc.size hS.size
   have hX := btr hS hbl
   replace hs := hs.up hX; replace hC := hC.mono hX; replace hbw := btr hbw hX; replace zz := Nat.le_trans zz (Below.size hX); replace hacc := btr hacc hX
   have oE : Off s 4 pd := Off.fresh frE oC hXw
   clear frE
   clear hX hS hbl hXw hXa
   (try simp only [Act.put, zA, zB, zC])
   iterate 3 (refine seqE_free (v := ?_) rfl (by rfl) ?_ ?_; rotate_left; (focus (intro w; go_simp; try with_reducible rfl)); (try simp only [Act.put, zA, zB, zC]))
   refine seqE_storeB rfl (by rfl) ?_ seqE_stop
   intro w11 hS
   replace hs := hs.up hS; replace hC := hC.mono hS; replace hE := hE.mono hS; replace hbw := btr hbw hS; replace zz := Nat.le_trans zz (Below.size hS); replace hacc := btr hacc hS
   obtain ⟨⟨d100, d100f⟩, -⟩ := id hs
   refine ⟨(w11.setCell ⟨b10, 0, none⟩ (.slice pd dd.length cd)), (by go_simp; try with_reducible rfl), (fun x => Below ((w11.setCell ⟨b10, 0, none⟩ (.slice pd dd.length cd))).heap.size ((w11.setCell ⟨b10, 0, none⟩ (.slice pd dd.length cd))) x), Below.refl _ _, ?_⟩
   obtain ⟨v11, hw⟩ : ∃ zW, zW = (w11.setCell ⟨b10, 0, none⟩ (.slice pd dd.length cd)) := ⟨_, rfl⟩
   rw [← hw]
   replace hs : Cells v11 [(b10, 0, .slice pd dd.length cd)] := by rw [hw]; exact ⟨⟨by go_cell, (fz d100f)⟩, trivial⟩
   replace hC : CAt v11 pc cc C := by rw [hw]; exact hC.box d100 _
   replace hE : CAt v11 pd cd dd := by rw [hw]; exact hE.box d100 _
   replace hbw : Below w.heap.size w v11 := by rw [hw]; exact (Below.setCell hbw (by have h := HS.out; (try dsimp only); omega) _)
   replace hacc : Below wr.heap.size wr v11 := by rw [hw]; exact (Below.setCell hacc (by have h := HS.out; (try dsimp only); omega) _)
   replace zz : s + 4 ≤ v11.heap.size := by rw [hw]; simpa using zz
   clear hw
   clear d100 d100f
   clear hS
   (try simp only [Act.put, zA, zB, zC])
   iterate 1 (refine seqE_free (v := ?_) rfl (by rfl) ?_ ?_; rotate_left; (focus (intro w; go_simp; try with_reducible rfl)); (try simp only [Act.put, zA, zB, zC]))
   refine seqE_nil ?_
   intro wz hS
   replace hs := hs.up hS; replace hC := hC.mono hS; replace hE := hE.mono hS; replace hbw := btr hbw hS; replace zz := Nat.le_trans zz (Below.size hS); replace hacc := btr hacc hS; clear hS
   obtain ⟨⟨d100, d100f⟩, -⟩ := id hs
   go_wp2_with fail
   go_meet
   exact ⟨_, _, _, rfl, rfl, ⟨⟨d100, d100f⟩, trivial⟩, hge10, hE, oE, hacc⟩
 obtain ⟨b10, p10, c10, rfl, rfl, hz10, hge10, hE10, oE10, hst⟩ := hcut
 clear y00 y00f y30 y30f y10 y10f y11 y11f y20 y20f y21 y21f
 replace hs := hs.up hst; replace hk := hk.up hst; replace hC := hC.mono hst; replace hbw := btr hbw hst; replace zz := Nat.le_trans zz (Below.size hst); replace j0 := zD hst j0; replace j1 := zD hst j1; clear hst
 replace hs : Cells wc [(b10, 0, .slice p10 dd.length c10), (s, 0, .slice pc C.length cc), (s + 3, 0, .slice none 0 0)] := ⟨hz10.1, hs⟩
 clear hz10
 obtain ⟨⟨z10, z10f⟩, ⟨y00, y00f⟩, ⟨y30, y30f⟩, -⟩ := id hs
 obtain ⟨⟨y10, y10f⟩, ⟨y11, y11f⟩, ⟨y20, y20f⟩, ⟨y21, y21f⟩, -⟩ := id hk
 go_upto_region 6 with fail
 go_cut [12, 13] from 41 to 48 (fun s12 s13 wx => ∃ (bd : Nat) (pd : Option Addr) (cd : Nat), s12 = .pointer (some ⟨bd, 0, none⟩) ∧ s13 = .int .i64 y ∧ Cells wx [(bd, 0, .slice pd ee.length cd)] ∧ s + 4 ≤ bd ∧ CAt wx pd cd ee ∧ Off s 4 pd ∧ Below wc.heap.size wc wx)
 case first =>
  as_aux_lemma =>
   have hacc : Below wc.heap.size wc wc := Below.refl _ _
   clear z10 z10f y00 y00f y30 y30f y10 y10f y11 y11f y20 y20f y21 y21f
   obtain ⟨⟨z10, z10f⟩, -, -, -⟩ := hs
   have hs : Cells wc [(b10, 0, .slice p10 dd.length c10)] := ⟨⟨z10, z10f⟩, trivial⟩
   clear z10 z10f
   clear hk
   refine wp_region_seqE (fun x => Below wc.heap.size wc x) (.one 0 0 (.one 1 1 (.one 2 1 (.one 3 1 (.alt 4 3 (.one 5 1 (.one 6 1 (.one 7 1 (.alt 8 2 (.alt 9 3 (.one 10 1 .nil) .stop) .stop)))) (.alt 8 2 (.alt 4 3 (.one 5 1 (.one 6 1 (.one 7 1 (.alt 9 3 (.one 10 1 .nil) .stop)))) .stop) .stop)))))) (by kernel_rfl) (by kernel_rfl) (by kernel_rfl) (Below.drew (Below.refl _ _)) ?_
   iterate 3 ((first | (refine seqE_free (v := ?_) rfl (by rfl) ?_ ?_; rotate_left; (focus (intro w; go_simp; try with_reducible rfl))) | (refine seqE_pure (v := ?_) rfl (by rfl) ?_ ?_; rotate_left; (focus (intro w hS; obtain ⟨⟨z10, -⟩, -⟩ := hs.up hS; go_simp; try with_reducible rfl)))); (try simp only [Act.put, zA, zB, zC]))
   refine seqE_fcall (v := .int .i64 (cnot x)) (f := ?_) (args := ?_) rfl (by rfl) ?_ ?_ ?_
   rotate_left 2
   focus (intro w; go_simp; first | done | with_reducible rfl | (refine ⟨?_, ?_⟩ <;> with_reducible rfl))
   focus (intro w; exact rnot_any x w (by omega))
   (try simp only [Act.put, zA, zB, zC])
   clear hs
   refine seqE_callB (f := ?_) (args := ?_) rfl (by rfl) ?_ ?_ ?_
   rotate_left 2
   focus (intro w hS; go_simp; first | done | with_reducible rfl | (refine ⟨?_, ?_⟩ <;> with_reducible rfl))
   ·
    intro w1 hS
    refine (rand_fr (hE10.mono hS) (by omega) hnx (by omega) HOP2.out).mono ?_
    rintro e v1 ⟨pd, cd, rfl, hE, hbl, frE⟩
    refine ⟨_, rfl, (fun x => Below v1.heap.size v1 x), Below.refl _ _, ?_⟩
    have hXw := Nat.le_trans zz hS.size; have hXa := Nat.le_trans hacc.size hS.size
    have hX := btr hS hbl
    replace hE10 := hE10.mono hX; replace hbw := btr hbw hX; replace zz := Nat.le_trans zz (Below.size hX); replace hacc := btr hacc hX
    have oE : Off s 4 pd := Off.fresh frE oE10 hXw
    clear frE
    clear hX hS hbl hXw hXa
    (try simp only [Act.put, zA, zB, zC])
    iterate 3 (refine seqE_free (v := ?_) rfl (by rfl) ?_ ?_; rotate_left; (focus (intro w; go_simp; try with_reducible rfl)); (try simp only [Act.put, zA, zB, zC]))
    refine seqE_move rfl (by rfl) ?_ seqE_stop
    intro w2 hS
    refine ⟨.pointer (some ⟨w2.heap.size, 0, none⟩), w2.alloc (.cells #[.slice none 0 0] 27), (by go_simp; try with_reducible rfl), ?_⟩
    obtain ⟨b12, hb12⟩ : ∃ b, b = w2.heap.size := ⟨_, rfl⟩
    obtain ⟨v2, hw2⟩ : ∃ zW, zW = w2.alloc (.cells #[.slice none 0 0] 27) := ⟨_, rfl⟩
    rw [← hw2, ← hb12]
    have hbl : Below w2.heap.size w2 v2 := by rw [hw2]; go_grown
    have hge12 : s + 4 ≤ b12 := by rw [hb12]; exact Nat.le_trans zz hS.size
    have hga12 : wc.heap.size ≤ b12 := by rw [hb12]; exact Nat.le_trans hacc.size hS.size
    refine ⟨(fun x => Below v2.heap.size v2 x), Below.refl _ _, fun x hx => btr (btr hS hbl) hx, ?_⟩
    have hX := btr hS hbl
    replace hE10 := hE10.mono hX; replace hE := hE.mono hX; replace hbw := btr hbw hX; replace zz := Nat.le_trans zz (Below.size hX); replace hacc := btr hacc hX
    have hs : Cells v2 [(b12, 0, .slice none 0 0)] := ⟨⟨by rw [hw2, hb12]; go_cell, by rw [hw2, hb12]; go_cell⟩, trivial⟩
    clear hX hS hbl hw2 hb12
    (try simp only [Act.put, zA, zB, zC])
    refine seqE_storeB rfl (by rfl) ?_ seqE_stop
    intro w3 hS
    replace hs := hs.up hS; replace hE10 := hE10.mono hS; replace hE := hE.mono hS; replace hbw := btr hbw hS; replace zz := Nat.le_trans zz (Below.size hS); replace hacc := btr hacc hS
    obtain ⟨⟨d120, d120f⟩, -⟩ := id hs
    refine ⟨(w3.setCell ⟨b12, 0, none⟩ (.slice pd ee.length cd)), (by go_simp; try with_reducible rfl), (fun x => Below ((w3.setCell ⟨b12, 0, none⟩ (.slice pd ee.length cd))).heap.size ((w3.setCell ⟨b12, 0, none⟩ (.slice pd ee.length cd))) x), Below.refl _ _, ?_⟩
    obtain ⟨v3, hw⟩ : ∃ zW, zW = (w3.setCell ⟨b12, 0, none⟩ (.slice pd ee.length cd)) := ⟨_, rfl⟩
    rw [← hw]
    replace hs : Cells v3 [(b12, 0, .slice pd ee.length cd)] := by rw [hw]; exact ⟨⟨by go_cell, (fz d120f)⟩, trivial⟩
    replace hE10 : CAt v3 p10 c10 dd := by rw [hw]; exact hE10.box d120 _
    replace hE : CAt v3 pd cd ee := by rw [hw]; exact hE.box d120 _
    replace hbw : Below w.heap.size w v3 := by rw [hw]; exact (Below.setCell hbw (by have h := HS.out; (try dsimp only); omega) _)
    replace hacc : Below wc.heap.size wc v3 := by rw [hw]; exact (Below.setCell hacc (by have h := HS.out; (try dsimp only); omega) _)
    replace zz : s + 4 ≤ v3.heap.size := by rw [hw]; simpa using zz
    clear hw
    clear d120 d120f
    clear hS
    (try simp only [Act.put, zA, zB, zC])
    iterate 1 (refine seqE_free (v := ?_) rfl (by rfl) ?_ ?_; rotate_left; (focus (intro w; go_simp; try with_reducible rfl)); (try simp only [Act.put, zA, zB, zC]))
    refine seqE_nil ?_
    intro wz hS
    replace hs := hs.up hS; replace hE10 := hE10.mono hS; replace hE := hE.mono hS; replace hbw := btr hbw hS; replace zz := Nat.le_trans zz (Below.size hS); replace hacc := btr hacc hS; clear hS
    obtain ⟨⟨d120, d120f⟩, -⟩ := id hs
    go_wp2_with fail
    go_meet
    exact ⟨_, _, _, rfl, rfl, ⟨⟨d120, d120f⟩, trivial⟩, hge12, hE, oE, hacc⟩
   refine seqE_move rfl (by rfl) ?_ seqE_stop
   intro w4 hS
   refine ⟨.pointer (some ⟨w4.heap.size, 0, none⟩), w4.alloc (.cells #[.slice none 0 0] 27), (by go_simp; try with_reducible rfl), ?_⟩
   obtain ⟨b12, hb12⟩ : ∃ b, b = w4.heap.size := ⟨_, rfl⟩
   obtain ⟨v4, hw4⟩ : ∃ zW, zW = w4.alloc (.cells #[.slice none 0 0] 27) := ⟨_, rfl⟩
   rw [← hw4, ← hb12]
   have hbl : Below w4.heap.size w4 v4 := by rw [hw4]; go_grown
   have hge12 : s + 4 ≤ b12 := by rw [hb12]; exact Nat.le_trans zz hS.size
   have hga12 : wc.heap.size ≤ b12 := by rw [hb12]; exact Nat.le_trans hacc.size hS.size
   refine ⟨(fun x => Below v4.heap.size v4 x), Below.refl _ _, fun x hx => btr (btr hS hbl) hx, ?_⟩
   have hX := btr hS hbl
   replace hE10 := hE10.mono hX; replace hbw := btr hbw hX; replace zz := Nat.le_trans zz (Below.size hX); replace hacc := btr hacc hX
   have hs : Cells v4 [(b12, 0, .slice none 0 0)] := ⟨⟨by rw [hw4, hb12]; go_cell, by rw [hw4, hb12]; go_cell⟩, trivial⟩
   clear hX hS hbl hw4 hb12
   (try simp only [Act.put, zA, zB, zC])
   refine seqE_callB (f := ?_) (args := ?_) rfl (by rfl) ?_ ?_ seqE_stop
   rotate_left 2
   focus (intro w hS; go_simp; first | done | with_reducible rfl | (refine ⟨?_, ?_⟩ <;> with_reducible rfl))
   intro w5 hS
   refine (rand_fr (hE10.mono hS) (by omega) hnx (by omega) HOP2.out).mono ?_
   rintro e v5 ⟨pd, cd, rfl, hE, hbl, frE⟩
   refine ⟨_, rfl, (fun x => Below v5.heap.size v5 x), Below.refl _ _, ?_⟩
   have hXw := Nat.le_trans zz hS.size; have hXa := Nat.le_trans hacc.size hS.size
   have hX := btr hS hbl
   replace hs := hs.up hX; replace hE10 := hE10.mono hX; replace hbw := btr hbw hX; replace zz := Nat.le_trans zz (Below.size hX); replace hacc := btr hacc hX
   have oE : Off s 4 pd := Off.fresh frE oE10 hXw
   clear frE
   clear hX hS hbl hXw hXa
   (try simp only [Act.put, zA, zB, zC])
   iterate 3 (refine seqE_free (v := ?_) rfl (by rfl) ?_ ?_; rotate_left; (focus (intro w; go_simp; try with_reducible rfl)); (try simp only [Act.put, zA, zB, zC]))
   refine seqE_storeB rfl (by rfl) ?_ seqE_stop
   intro w6 hS
   replace hs := hs.up hS; replace hE10 := hE10.mono hS; replace hE := hE.mono hS; replace hbw := btr hbw hS; replace zz := Nat.le_trans zz (Below.size hS); replace hacc := btr hacc hS
   obtain ⟨⟨d120, d120f⟩, -⟩ := id hs
   refine ⟨(w6.setCell ⟨b12, 0, none⟩ (.slice pd ee.length cd)), (by go_simp; try with_reducible rfl), (fun x => Below ((w6.setCell ⟨b12, 0, none⟩ (.slice pd ee.length cd))).heap.size ((w6.setCell ⟨b12, 0, none⟩ (.slice pd ee.length cd))) x), Below.refl _ _, ?_⟩
   obtain ⟨v6, hw⟩ : ∃ zW, zW = (w6.setCell ⟨b12, 0, none⟩ (.slice pd ee.length cd)) := ⟨_, rfl⟩
   rw [← hw]
   replace hs : Cells v6 [(b12, 0, .slice pd ee.length cd)] := by rw [hw]; exact ⟨⟨by go_cell, (fz d120f)⟩, trivial⟩
   replace hE10 : CAt v6 p10 c10 dd := by rw [hw]; exact hE10.box d120 _
   replace hE : CAt v6 pd cd ee := by rw [hw]; exact hE.box d120 _
   replace hbw : Below w.heap.size w v6 := by rw [hw]; exact (Below.setCell hbw (by have h := HS.out; (try dsimp only); omega) _)
   replace hacc : Below wc.heap.size wc v6 := by rw [hw]; exact (Below.setCell hacc (by have h := HS.out; (try dsimp only); omega) _)
   replace zz : s + 4 ≤ v6.heap.size := by rw [hw]; simpa using zz
   clear hw
   clear d120 d120f
   clear hS
   (try simp only [Act.put, zA, zB, zC])
   iterate 1 (refine seqE_free (v := ?_) rfl (by rfl) ?_ ?_; rotate_left; (focus (intro w; go_simp; try with_reducible rfl)); (try simp only [Act.put, zA, zB, zC]))
   refine seqE_nil ?_
   intro wz hS
   replace hs := hs.up hS; replace hE10 := hE10.mono hS; replace hE := hE.mono hS; replace hbw := btr hbw hS; replace zz := Nat.le_trans zz (Below.size hS); replace hacc := btr hacc hS; clear hS
   obtain ⟨⟨d120, d120f⟩, -⟩ := id hs
   go_wp2_with fail
   go_meet
   exact ⟨_, _, _, rfl, rfl, ⟨⟨d120, d120f⟩, trivial⟩, hge12, hE, oE, hacc⟩
 obtain ⟨b12, p12, c12, rfl, rfl, hz12, hge12, hE12, oE12, hst⟩ := hcut
 clear z10 z10f y00 y00f y30 y30f y10 y10f y11 y11f y20 y20f y21 y21f
 replace hs := hs.up hst; replace hk := hk.up hst; replace hE10 := hE10.mono hst; replace hbw := btr hbw hst; replace zz := Nat.le_trans zz (Below.size hst); clear hst
 replace hs : Cells wc [(b12, 0, .slice p12 ee.length c12), (b10, 0, .slice p10 dd.length c10), (s, 0, .slice pc C.length cc), (s + 3, 0, .slice none 0 0)] := ⟨hz12.1, hs⟩
 clear hz12
 obtain ⟨⟨z12, z12f⟩, ⟨z10, z10f⟩, ⟨y00, y00f⟩, ⟨y30, y30f⟩, -⟩ := id hs
 obtain ⟨⟨y10, y10f⟩, ⟨y11, y11f⟩, ⟨y20, y20f⟩, ⟨y21, y21f⟩, -⟩ := id hk
 have HST := Lib.hid (show (a.take (K + 1)).foldl (inStep b) (c, 0) = (ee, y) by
  rw [HTK.out, List.foldl_append, HR.out]
  show inStep b (C, r) ⟨rk, P⟩ = (ee, y)
  unfold inStep
  dsimp only
  rw [HQ.out, HOP.out]
  exact HOP2.out)
 clear hC hE10 j0 j1
 go_upto_region 7 with fail
 go_wp2_with fail
 obtain ⟨w8, hw⟩ : ∃ zW, zW = (wc.setCell ⟨s, 0, none⟩ (.slice p12 ee.length c12)) := ⟨_, rfl⟩
 rw [← hw]
 replace hs : Cells w8 [(b12, 0, .slice p12 ee.length c12), (b10, 0, .slice p10 dd.length c10), (s, 0, .slice p12 ee.length c12), (s + 3, 0, .slice none 0 0)] := by rw [hw]; exact ⟨⟨by go_cell, (fz z12f)⟩, ⟨by go_cell, (fz z10f)⟩, ⟨by go_cell, (fz y00f)⟩, ⟨by go_cell, (fz y30f)⟩, trivial⟩
 replace hk : Cells w8 [(s + 1, 0, .int .i64 ar1), (s + 1, 1, .slice (some ⟨bq, oq, none⟩) a.length ca), (s + 2, 0, .int .i64 ar2), (s + 2, 1, .slice pb b.length cb)] := by rw [hw]; exact (hk.far (by simp <;> omega))
 replace hE12 : CAt w8 p12 c12 ee := by rw [hw]; exact hE12.box y00 _
 replace hbw : Below w.heap.size w w8 := by rw [hw]; exact (Below.setCell hbw (by have h := HS.out; (try dsimp only); omega) _)
 replace zz : s + 4 ≤ w8.heap.size := by rw [hw]; simpa using zz
 clear hw
 clear z12 z12f z10 z10f y00 y00f y30 y30f y10 y10f y11 y11f y20 y20f y21 y21f
 replace hs := hs.2.2
 go_roundg (a.length - (K + 1))
 case measure => (have := HN.out; omega)
 case rel => exact ⟨K + 1, ee, y, p12, c12, rfl, by go_num, by omega, rfl, HST.out, he1, by omega, oE12, hs, hk, hE12, hbw, zz⟩
set_option maxRecDepth 100000 in
set_option maxHeartbeats 4000000 in
theorem rlone_any (c : List Gate) (a : List Cell) (ar1 : Int) (p pa : Option Addr) (cap ca : Nat) (w : World) (hC : CAt w p cap c) (hA : MxAt w pa ca a)
 (ra : ∀ x ∈ a, x.ref ≤ 100000) (hl : c.length ≤ 20000) (hla : a.length ≤ 10000) (hc0 : 0 < c.length) :
 Calls Try.prog 57 #[.agg #[.slice p c.length cap], .agg #[.int .i64 ar1, .slice pa a.length ca]] w (RetC w (mLone c a).1 (mLone c a).2) := by
 obtain ⟨s, hs0⟩ : ∃ s, w.heap.size = s := ⟨_, rfl⟩
 obtain ⟨W2, hW2⟩ : ∃ W2, W2 = (((w.alloc (.cells #[.slice p c.length cap] 27)).alloc (.cells #[.int .i64 ar1, .slice pa a.length ca] 30)).alloc (.cells #[.slice none 0 0] 27)) := ⟨_, rfl⟩
 have hbw : Below w.heap.size w W2 := by rw [hW2]; go_grown
 have zz : s + 3 ≤ W2.heap.size := by rw [hW2, ← hs0]; simp
 have hs : Cells W2 [(s, 0, .slice p c.length cap), (s + 2, 0, .slice none 0 0)] := by rw [hW2, ← hs0]; exact ⟨⟨by go_cell, by go_cell⟩, ⟨by go_cell, by go_cell⟩, trivial⟩
 have hk : Cells W2 [(s + 1, 0, .int .i64 ar1), (s + 1, 1, .slice pa a.length ca)] := by rw [hW2, ← hs0]; exact ⟨⟨by go_cell, by go_cell⟩, ⟨by go_cell, by go_cell⟩, trivial⟩
 have HW2 := Lib.hid hW2; have HS := Lib.hid hs0
 clear hW2 hs0
 have oC : Off s 3 p := Off.old (by rw [← HS.out]; exact hC.lt hc0)
 have HA := Lib.hid hA; have RA := Lib.hid ra; clear hA ra
 replace hC : CAt W2 p cap c := hC.mono hbw
 go_enter Try.func57, Try.ntmps57
 go_upto_region 4 with fail
 rw [← HW2.out]
 simp only [HS.out, Nat.add_assoc, Nat.reduceAdd]
 obtain ⟨⟨y00, y00f⟩, ⟨y20, y20f⟩, -⟩ := id hs
 obtain ⟨⟨y10, y10f⟩, ⟨y11, y11f⟩, -⟩ := id hk
 go_loopg [6, 7, 8] a.length (fun N s6 s7 s8 wr => ∃ K : Nat, ∃ C : List Gate, ∃ sm : Int, ∃ tw : Int, ∃ pc : Option Addr, ∃ cc : Nat, s6 = .int .i64 sm ∧ s7 = .int .i64 tw ∧ s8 = .int .i64 K ∧ K ≤ a.length ∧ N = a.length - K ∧ loneRun (a.take K) (c, 1, 1) = (C, sm, tw) ∧ C.length ≤ 20000 ∧ sm ≤ 40001 ∧ tw ≤ 40001 ∧ Off s 3 pc ∧ Cells wr [(s, 0, .slice pc C.length cc), (s + 2, 0, .slice none 0 0)] ∧ Cells wr [(s + 1, 0, .int .i64 ar1), (s + 1, 1, .slice pa a.length ca)] ∧ CAt wr pc cc C ∧ Below w.heap.size w wr ∧ s + 3 ≤ wr.heap.size)
 case atStart => exact ⟨0, c, 1, 1, p, cap, rfl, rfl, rfl, by omega, rfl, rfl, hl, by omega, by omega, oC, hs, hk, hC, hbw, zz⟩
 obtain ⟨K, C, sm, tw, pc, cc, rfl, rfl, rfl, hK, hN, hrun, hCl, hr1, hr2, oC, hs, hk, hC, hbw, zz⟩ := hrel
 have HN := Lib.hid hN; have HR := Lib.hid hrun; clear hN hrun
 by_cases hlt : K < a.length
 case neg =>
  obtain rfl : K = a.length := by omega
  have HF := Lib.hid (show mLone c a = (C, cnot tw) by have := HR.out; rw [List.take_length] at this; unfold mLone; rw [this])
  have hnt := cnot_big (r := tw) (by omega)
  clear y00 y00f y20 y20f y10 y10f y11 y11f
  obtain ⟨⟨y00, y00f⟩, ⟨y20, y20f⟩, -⟩ := id hs
  obtain ⟨⟨y10, y10f⟩, ⟨y11, y11f⟩, -⟩ := id hk
  go_upto_region 12 with fail
  clear y00 y00f y20 y20f y10 y10f y11 y11f
  refine wp_region_seqE (fun x => Below wr.heap.size wr x) (.one 0 0 (.one 1 1 (.one 2 1 (.alt 3 3 (.one 4 1 .nil) .stop)))) (by kernel_rfl) (by kernel_rfl) (by kernel_rfl) (Below.drew (Below.refl _ _)) ?_
  iterate 2 ((first | (refine seqE_free (v := ?_) rfl (by rfl) ?_ ?_; rotate_left; (focus (intro w; go_simp; try with_reducible rfl))) | (refine seqE_pure (v := ?_) rfl (by rfl) ?_ ?_; rotate_left; (focus (intro w hS; obtain ⟨⟨y00, -⟩, -⟩ := hs.up hS; go_simp; try with_reducible rfl)))); (try simp only [Act.put, zA, zB, zC]))
  refine seqE_fcall (v := .int .i64 (cnot tw)) (f := ?_) (args := ?_) rfl (by rfl) ?_ ?_ ?_
  rotate_left 2
  focus (intro w; go_simp; first | done | with_reducible rfl | (refine ⟨?_, ?_⟩ <;> with_reducible rfl))
  focus (intro w; exact rnot_any tw w (by omega))
  (try simp only [Act.put, zA, zB, zC])
  refine seqE_storeB rfl (by rfl) ?_ seqE_stop
  intro w1 hS
  replace hs := hs.up hS; replace hk := hk.up hS; replace hC := hC.mono hS; replace hbw := btr hbw hS; replace zz := Nat.le_trans zz (Below.size hS)
  obtain ⟨⟨y00, y00f⟩, ⟨y20, y20f⟩, -⟩ := id hs
  obtain ⟨⟨y10, y10f⟩, ⟨y11, y11f⟩, -⟩ := id hk
  refine ⟨(w1.setCell ⟨s + 2, 0, none⟩ (.slice pc C.length cc)), (by go_simp; try with_reducible rfl), (fun x => Below ((w1.setCell ⟨s + 2, 0, none⟩ (.slice pc C.length cc))).heap.size ((w1.setCell ⟨s + 2, 0, none⟩ (.slice pc C.length cc))) x), Below.refl _ _, ?_⟩
  obtain ⟨v1, hw⟩ : ∃ zW, zW = (w1.setCell ⟨s + 2, 0, none⟩ (.slice pc C.length cc)) := ⟨_, rfl⟩
  rw [← hw]
  replace hs : Cells v1 [(s, 0, .slice pc C.length cc), (s + 2, 0, .slice pc C.length cc)] := by rw [hw]; exact ⟨⟨by go_cell, (fz y00f)⟩, ⟨by go_cell, (fz y20f)⟩, trivial⟩
  replace hk : Cells v1 [(s + 1, 0, .int .i64 ar1), (s + 1, 1, .slice pa a.length ca)] := by rw [hw]; exact (hk.far (by simp <;> omega))
  replace hC : CAt v1 pc cc C := by rw [hw]; exact hC.box y20 _
  replace hbw : Below w.heap.size w v1 := by rw [hw]; exact (Below.setCell hbw (by have h := HS.out; (try dsimp only); omega) _)
  replace zz : s + 3 ≤ v1.heap.size := by rw [hw]; simpa using zz
  clear hw
  clear y00 y00f y20 y20f y10 y10f y11 y11f
  clear hS
  (try simp only [Act.put, zA, zB, zC])
  iterate 1 (refine seqE_free (v := ?_) rfl (by rfl) ?_ ?_; rotate_left; (focus (intro w; go_simp; try with_reducible rfl)); (try simp only [Act.put, zA, zB, zC]))
  refine seqE_nil ?_
  intro wz hS
  replace hs := hs.up hS; replace hk := hk.up hS; replace hC := hC.mono hS; replace hbw := btr hbw hS; replace zz := Nat.le_trans zz (Below.size hS); clear hS
  obtain ⟨⟨y00, y00f⟩, ⟨y20, y20f⟩, -⟩ := id hs
  obtain ⟨⟨y10, y10f⟩, ⟨y11, y11f⟩, -⟩ := id hk
  go_wp2_with fail
  rw [HF.out]
  refine bodyPost_ret (by simp [results, Try.results57, go_sem, y20]; try rfl) rfl ?_
  exact ⟨_, _, rfl, hC, hbw⟩
 have hlt0 : (0 : Int) ≤ (K : Int) := by omega
 have hlt1 : (K : Int) < (a.length : Int) := by omega
 obtain ⟨z, hr⟩ : ∃ z, a[K]? = some z := ⟨_, List.getElem?_eq_getElem hlt⟩
 obtain ⟨rk, P⟩ := z
 have hp1 : P ≤ 100000 := RA.out _ (List.mem_of_getElem? hr)
 obtain ⟨bq, oq, rfl, hbq, j0, j1⟩ := cell_cells (HA.out.up hbw).at' hr
 dsimp only at j0 j1
 have hbo : bq < s := by have := HA.out.lt _ rfl; have := HS.out; dsimp only at *; omega
 have HTK := Lib.hid (show a.take (K + 1) = a.take K ++ [⟨rk, P⟩] by obtain ⟨hk, he⟩ := List.getElem?_eq_some_iff.1 hr; rw [List.take_succ_eq_append_getElem hk, he])
 clear hr
 obtain ⟨d1, u, hop⟩ : ∃ e y, cand C sm P = (e, y) := ⟨_, _, rfl⟩
 have h1 := cand_le (a := sm) (b := P) hCl
 rw [hop] at h1
 obtain ⟨hd1, hu⟩ := h1
 dsimp only at hd1 hu
 obtain ⟨d2, t, hop2⟩ : ∃ e y, cor d1 tw u = (e, y) := ⟨_, _, rfl⟩
 have h2 := rcor_le (a := tw) (b := u) hd1
 rw [hop2] at h2
 obtain ⟨hd2, ht⟩ := h2
 dsimp only at hd2 ht
 obtain ⟨d3, so, hop3⟩ : ∃ e y, cor d2 sm P = (e, y) := ⟨_, _, rfl⟩
 have h3 := rcor_le (a := sm) (b := P) hd2
 rw [hop3] at h3
 obtain ⟨hd3, hso⟩ := h3
 dsimp only at hd3 hso
 have HOP := Lib.hid hop; have HOP2 := Lib.hid hop2; have HOP3 := Lib.hid hop3; clear hop hop2 hop3
 clear y00 y00f y20 y20f y10 y10f y11 y11f
 obtain ⟨⟨y00, y00f⟩, ⟨y20, y20f⟩, -⟩ := id hs
 obtain ⟨⟨y10, y10f⟩, ⟨y11, y11f⟩, -⟩ := id hk
 go_upto_region 6 with fail
 go_cut [9, 10] from 22 to 33 (fun s9 s10 wx => ∃ (bd : Nat) (pd : Option Addr) (cd : Nat), s9 = .pointer (some ⟨bd, 0, none⟩) ∧ s10 = .int .i64 u ∧ Cells wx [(bd, 0, .slice pd d1.length cd)] ∧ s + 3 ≤ bd ∧ CAt wx pd cd d1 ∧ Off s 3 pd ∧ Below wr.heap.size wr wx)
 case first =>
  as_aux_lemma =>
   have hacc : Below wr.heap.size wr wr := Below.refl _ _
   clear y00 y00f y20 y20f y10 y10f y11 y11f
   obtain ⟨⟨y00, y00f⟩, -, -⟩ := hs
   have hs : Cells wr [(s, 0, .slice pc C.length cc)] := ⟨⟨y00, y00f⟩, trivial⟩
   clear y00 y00f
   refine wp_region_seqE (fun x => Below wr.heap.size wr x) (.one 0 0 (.one 1 1 (.one 2 1 (.one 3 0 (.one 4 1 (.one 5 1 (.one 6 1 (.one 7 0 (.alt 8 3 (.one 9 1 (.one 10 1 (.one 11 1 (.alt 12 2 (.alt 13 3 (.one 14 1 .nil) .stop) .stop)))) (.alt 12 2 (.alt 8 3 (.one 9 1 (.one 10 1 (.one 11 1 (.alt 13 3 (.one 14 1 .nil) .stop)))) .stop) .stop)))))))))) (by kernel_rfl) (by kernel_rfl) (by kernel_rfl) (Below.drew (Below.refl _ _)) ?_
   iterate 8 ((first | (refine seqE_free (v := ?_) rfl (by rfl) ?_ ?_; rotate_left; (focus (intro w; go_simp; try with_reducible rfl))) | (refine seqE_pure (v := ?_) rfl (by rfl) ?_ ?_; rotate_left; (focus (intro w hS; obtain ⟨⟨y00, -⟩, -⟩ := hs.up hS; obtain ⟨-, ⟨y11, -⟩, -⟩ := hk.up hS; have j0 := zD hS j0; have j1 := zD hS j1; go_simp; try with_reducible rfl)))); (try simp only [Act.put, zA, zB, zC]))
   clear hs
   clear hk
   clear j0 j1
   refine seqE_callB (f := ?_) (args := ?_) rfl (by rfl) ?_ ?_ ?_
   rotate_left 2
   focus (intro w hS; go_simp; first | done | with_reducible rfl | (refine ⟨?_, ?_⟩ <;> with_reducible rfl))
   ·
    intro w1 hS
    refine (rand_fr (hC.mono hS) (by omega) (by omega) (by omega) HOP.out).mono ?_
    rintro e v1 ⟨pd, cd, rfl, hE, hbl, frE⟩
    refine ⟨_, rfl, (fun x => Below v1.heap.size v1 x), Below.refl _ _, ?_⟩
    have hXw := Nat.le_trans zz hS.size; have hXa := Nat.le_trans hacc.size hS.size
    have hX := btr hS hbl
    replace hC := hC.mono hX; replace hbw := btr hbw hX; replace zz := Nat.le_trans zz (Below.size hX); replace hacc := btr hacc hX
    have oE : Off s 3 pd := Off.fresh frE oC hXw
    clear frE
    clear hX hS hbl hXw hXa
    (try simp only [Act.put, zA, zB, zC])
    iterate 3 (refine seqE_free (v := ?_) rfl (by rfl) ?_ ?_; rotate_left; (focus (intro w; go_simp; try with_reducible rfl)); (try simp only [Act.put, zA, zB, zC]))
    refine seqE_move rfl (by rfl) ?_ seqE_stop
    intro w2 hS
    refine ⟨.pointer (some ⟨w2.heap.size, 0, none⟩), w2.alloc (.cells #[.slice none 0 0] 27), (by go_simp; try with_reducible rfl), ?_⟩
    obtain ⟨b9, hb9⟩ : ∃ b, b = w2.heap.size := ⟨_, rfl⟩
    obtain ⟨v2, hw2⟩ : ∃ zW, zW = w2.alloc (.cells #[.slice none 0 0] 27) := ⟨_, rfl⟩
    rw [← hw2, ← hb9]
    have hbl : Below w2.heap.size w2 v2 := by rw [hw2]; go_grown
    have hge9 : s + 3 ≤ b9 := by rw [hb9]; exact Nat.le_trans zz hS.size
    have hga9 : wr.heap.size ≤ b9 := by rw [hb9]; exact Nat.le_trans hacc.size hS.size
    refine ⟨(fun x => Below v2.heap.size v2 x), Below.refl _ _, fun x hx => btr (btr hS hbl) hx, ?_⟩
    have hX := btr hS hbl
    replace hC := hC.mono hX; replace hE := hE.mono hX; replace hbw := btr hbw hX; replace zz := Nat.le_trans zz (Below.size hX); replace hacc := btr hacc hX
    have hs : Cells v2 [(b9, 0, .slice none 0 0)] := ⟨⟨by rw [hw2, hb9]; go_cell, by rw [hw2, hb9]; go_cell⟩, trivial⟩
    clear hX hS hbl hw2 hb9
    (try simp only [Act.put, zA, zB, zC])
    refine seqE_storeB rfl (by rfl) ?_ seqE_stop
    intro w3 hS
    replace hs := hs.up hS; replace hC := hC.mono hS; replace hE := hE.mono hS; replace hbw := btr hbw hS; replace zz := Nat.le_trans zz (Below.size hS); replace hacc := btr hacc hS
    obtain ⟨⟨d90, d90f⟩, -⟩ := id hs
    refine ⟨(w3.setCell ⟨b9, 0, none⟩ (.slice pd d1.length cd)), (by go_simp; try with_reducible rfl), (fun x => Below ((w3.setCell ⟨b9, 0, none⟩ (.slice pd d1.length cd))).heap.size ((w3.setCell ⟨b9, 0, none⟩ (.slice pd d1.length cd))) x), Below.refl _ _, ?_⟩
    obtain ⟨v3, hw⟩ : ∃ zW, zW = (w3.setCell ⟨b9, 0, none⟩ (.slice pd d1.length cd)) := ⟨_, rfl⟩
    rw [← hw]
    replace hs : Cells v3 [(b9, 0, .slice pd d1.length cd)] := by rw [hw]; exact ⟨⟨by go_cell, (fz d90f)⟩, trivial⟩
    replace hC : CAt v3 pc cc C := by rw [hw]; exact hC.box d90 _
    replace hE : CAt v3 pd cd d1 := by rw [hw]; exact hE.box d90 _
    replace hbw : Below w.heap.size w v3 := by rw [hw]; exact (Below.setCell hbw (by have h := HS.out; (try dsimp only); omega) _)
    replace hacc : Below wr.heap.size wr v3 := by rw [hw]; exact (Below.setCell hacc (by have h := HS.out; (try dsimp only); omega) _)
    replace zz : s + 3 ≤ v3.heap.size := by rw [hw]; simpa using zz
    clear hw
    clear d90 d90f
    clear hS
    (try simp only [Act.put, zA, zB, zC])
    iterate 1 (refine seqE_free (v := ?_) rfl (by rfl) ?_ ?_; rotate_left; (focus (intro w; go_simp; try with_reducible rfl)); (try simp only [Act.put, zA, zB, zC]))
    refine seqE_nil ?_
    intro wz hS
    replace hs := hs.up hS; replace hC := hC.mono hS; replace hE := hE.mono hS; replace hbw := btr hbw hS; replace zz := Nat.le_trans zz (Below.size hS); replace hacc := btr hacc hS; clear hS
    obtain ⟨⟨d90, d90f⟩, -⟩ := id hs
    go_wp2_with fail
    go_meet
    exact ⟨_, _, _, rfl, rfl, ⟨⟨d90, d90f⟩, trivial⟩, hge9, hE, oE, hacc⟩
   refine seqE_move rfl (by rfl) ?_ seqE_stop
   intro w4 hS
   refine ⟨.pointer (some ⟨w4.heap.size, 0, none⟩), w4.alloc (.cells #[.slice none 0 0] 27), (by go_simp; try with_reducible rfl), ?_⟩
   obtain ⟨b9, hb9⟩ : ∃ b, b = w4.heap.size := ⟨_, rfl⟩
   obtain ⟨v4, hw4⟩ : ∃ zW, zW = w4.alloc (.cells #[.slice none 0 0] 27) := ⟨_, rfl⟩
   rw [← hw4, ← hb9]
   have hbl : Below w4.heap.size w4 v4 := by rw [hw4]; go_grown
   have hge9 : s + 3 ≤ b9 := by rw [hb9]; exact Nat.le_trans zz hS.size
   have hga9 : wr.heap.size ≤ b9 := by rw [hb9]; exact Nat.le_trans hacc.size hS.size
   refine ⟨(fun x => Below v4.heap.size v4 x), Below.refl _ _, fun x hx => btr (btr hS hbl) hx, ?_⟩
   have hX := btr hS hbl
   replace hC := hC.mono hX; replace hbw := btr hbw hX; replace zz := Nat.le_trans zz (Below.size hX); replace hacc := btr hacc hX
   have hs : Cells v4 [(b9, 0, .slice none 0 0)] := ⟨⟨by rw [hw4, hb9]; go_cell, by rw [hw4, hb9]; go_cell⟩, trivial⟩
   clear hX hS hbl hw4 hb9
   (try simp only [Act.put, zA, zB, zC])
   refine seqE_callB (f := ?_) (args := ?_) rfl (by rfl) ?_ ?_ seqE_stop
   rotate_left 2
   focus (intro w hS; go_simp; first | done | with_reducible rfl | (refine ⟨?_, ?_⟩ <;> with_reducible rfl))
   intro w5 hS
   refine (rand_fr (hC.mono hS) (by omega) (by omega) (by omega) HOP.out).mono ?_
   rintro e v5 ⟨pd, cd, rfl, hE, hbl, frE⟩
   refine ⟨_, rfl, (fun x => Below v5.heap.size v5 x), Below.refl _ _, ?_⟩
   have hXw := Nat.le_trans zz hS.size; have hXa := Nat.le_trans hacc.size hS.size
   have hX := btr hS hbl
   replace hs := hs.up hX; replace hC := hC.mono hX; replace hbw := btr hbw hX; replace zz := Nat.le_trans zz (Below.size hX); replace hacc := btr hacc hX
   have oE : Off s 3 pd := Off.fresh frE oC hXw
   clear frE
   clear hX hS hbl hXw hXa
   (try simp only [Act.put, zA, zB, zC])
   iterate 3 (refine seqE_free (v := ?_) rfl (by rfl) ?_ ?_; rotate_left; (focus (intro w; go_simp; try with_reducible rfl)); (try simp only [Act.put, zA, zB, zC]))
   refine seqE_storeB rfl (by rfl) ?_ seqE_stop
   intro w6 hS
   replace hs := hs.up hS; replace hC := hC.mono hS; replace hE := hE.mono hS; replace hbw := btr hbw hS; replace zz := Nat.le_trans zz (Below.size hS); replace hacc := btr hacc hS
   obtain ⟨⟨d90, d90f⟩, -⟩ := id hs
   refine ⟨(w6.setCell ⟨b9, 0, none⟩ (.slice pd d1.length cd)), (by go_simp; try with_reducible rfl), (fun x => Below ((w6.setCell ⟨b9, 0, none⟩ (.slice pd d1.length cd))).heap.size ((w6.setCell ⟨b9, 0, none⟩ (.slice pd d1.length cd))) x), Below.refl _ _, ?_⟩
   obtain ⟨v6, hw⟩ : ∃ zW, zW = (w6.setCell ⟨b9, 0, none⟩ (.slice pd d1.length cd)) := ⟨_, rfl⟩
   rw [← hw]
   replace hs : Cells v6 [(b9, 0, .slice pd d1.length cd)] := by rw [hw]; exact ⟨⟨by go_cell, (fz d90f)⟩, trivial⟩
   replace hC : CAt v6 pc cc C := by rw [hw]; exact hC.box d90 _
   replace hE : CAt v6 pd cd d1 := by rw [hw]; exact hE.box d90 _
   replace hbw : Below w.heap.size w v6 := by rw [hw]; exact (Below.setCell hbw (by have h := HS.out; (try dsimp only); omega) _)
   replace hacc : Below wr.heap.size wr v6 := by rw [hw]; exact (Below.setCell hacc (by have h := HS.out; (try dsimp only); omega) _)
   replace zz : s + 3 ≤ v6.heap.size := by rw [hw]; simpa using zz
   clear hw
   clear d90 d90f
   clear hS
   (try simp only [Act.put, zA, zB, zC])
   iterate 1 (refine seqE_free (v := ?_) rfl (by rfl) ?_ ?_; rotate_left; (focus (intro w; go_simp; try with_reducible rfl)); (try simp only [Act.put, zA, zB, zC]))
   refine seqE_nil ?_
   intro wz hS
   replace hs := hs.up hS; replace hC := hC.mono hS; replace hE := hE.mono hS; replace hbw := btr hbw hS; replace zz := Nat.le_trans zz (Below.size hS); replace hacc := btr hacc hS; clear hS
   obtain ⟨⟨d90, d90f⟩, -⟩ := id hs
   go_wp2_with fail
   go_meet
   exact ⟨_, _, _, rfl, rfl, ⟨⟨d90, d90f⟩, trivial⟩, hge9, hE, oE, hacc⟩
 obtain ⟨b9, p9, c9, rfl, rfl, hz9, hge9, hE9, oE9, hst⟩ := hcut
 clear y00 y00f y20 y20f y10 y10f y11 y11f
 replace hs := hs.up hst; replace hk := hk.up hst; replace hC := hC.mono hst; replace hbw := btr hbw hst; replace zz := Nat.le_trans zz (Below.size hst); replace j0 := zD hst j0; replace j1 := zD hst j1; clear hst
 replace hs : Cells wc [(b9, 0, .slice p9 d1.length c9), (s, 0, .slice pc C.length cc), (s + 2, 0, .slice none 0 0)] := ⟨hz9.1, hs⟩
 clear hz9
 clear hC
 obtain ⟨⟨z9, z9f⟩, ⟨y00, y00f⟩, ⟨y20, y20f⟩, -⟩ := id hs
 obtain ⟨⟨y10, y10f⟩, ⟨y11, y11f⟩, -⟩ := id hk
 go_upto_region 7 with fail
 go_cut [11, 12] from 34 to 40 (fun s11 s12 wx => ∃ (bd : Nat) (pd : Option Addr) (cd : Nat), s11 = .pointer (some ⟨bd, 0, none⟩) ∧ s12 = .int .i64 t ∧ Cells wx [(bd, 0, .slice pd d2.length cd)] ∧ s + 3 ≤ bd ∧ CAt wx pd cd d2 ∧ Off s 3 pd ∧ Below wc.heap.size wc wx)
 case first =>
  as_aux_lemma =>
   go_wp2_with (first | (go_at_call 106; refine (ror_fr hE9 (by omega) (by omega) (by omega) HOP2.out).mono ?_; rintro e w3 ⟨pd, cd, rfl, hE, hbl, frE⟩; have oE : Off s 3 pd := Off.fresh frE oE9 zz; have z3 := hbl.size))
   go_meet
   exact ⟨_, _, _, rfl, rfl, ⟨⟨by go_cell, by go_cell⟩, trivial⟩, by omega, hE.mono (by go_grown), oE, bal hbl _⟩
 obtain ⟨b11, p11, c11, rfl, rfl, hz11, hge11, hE11, oE11, hst⟩ := hcut
 clear z9 z9f y00 y00f y20 y20f y10 y10f y11 y11f
 replace hs := hs.up hst; replace hk := hk.up hst; replace hE9 := hE9.mono hst; replace hbw := btr hbw hst; replace zz := Nat.le_trans zz (Below.size hst); replace j0 := zD hst j0; replace j1 := zD hst j1; clear hst
 replace hs : Cells wc [(b11, 0, .slice p11 d2.length c11), (b9, 0, .slice p9 d1.length c9), (s, 0, .slice pc C.length cc), (s + 2, 0, .slice none 0 0)] := ⟨hz11.1, hs⟩
 clear hz11
 clear hE9
 obtain ⟨⟨z11, z11f⟩, ⟨z9, z9f⟩, ⟨y00, y00f⟩, ⟨y20, y20f⟩, -⟩ := id hs
 obtain ⟨⟨y10, y10f⟩, ⟨y11, y11f⟩, -⟩ := id hk
 go_upto_region 8 with fail
 go_cut [13, 14] from 41 to 52 (fun s13 s14 wx => ∃ (bd : Nat) (pd : Option Addr) (cd : Nat), s13 = .pointer (some ⟨bd, 0, none⟩) ∧ s14 = .int .i64 so ∧ Cells wx [(bd, 0, .slice pd d3.length cd)] ∧ s + 3 ≤ bd ∧ CAt wx pd cd d3 ∧ Off s 3 pd ∧ Below wc.heap.size wc wx)
 case first =>
  as_aux_lemma =>
   have hacc : Below wc.heap.size wc wc := Below.refl _ _
   clear z11 z11f z9 z9f y00 y00f y20 y20f y10 y10f y11 y11f
   obtain ⟨⟨z11, z11f⟩, -, -, -, -⟩ := hs
   have hs : Cells wc [(b11, 0, .slice p11 d2.length c11)] := ⟨⟨z11, z11f⟩, trivial⟩
   clear z11 z11f
   refine wp_region_seqE (fun x => Below wc.heap.size wc x) (.one 0 0 (.one 1 1 (.one 2 1 (.one 3 0 (.one 4 1 (.one 5 1 (.one 6 1 (.one 7 0 (.alt 8 3 (.one 9 1 (.one 10 1 (.one 11 1 (.alt 12 2 (.alt 13 3 (.one 14 1 .nil) .stop) .stop)))) (.alt 12 2 (.alt 8 3 (.one 9 1 (.one 10 1 (.one 11 1 (.alt 13 3 (.one 14 1 .nil) .stop)))) .stop) .stop)))))))))) (by kernel_rfl) (by kernel_rfl) (by kernel_rfl) (Below.drew (Below.refl _ _)) ?_
   iterate 8 ((first | (refine seqE_free (v := ?_) rfl (by rfl) ?_ ?_; rotate_left; (focus (intro w; go_simp; try with_reducible rfl))) | (refine seqE_pure (v := ?_) rfl (by rfl) ?_ ?_; rotate_left; (focus (intro w hS; obtain ⟨⟨z11, -⟩, -⟩ := hs.up hS; obtain ⟨-, ⟨y11, -⟩, -⟩ := hk.up hS; have j0 := zD hS j0; have j1 := zD hS j1; go_simp; try with_reducible rfl)))); (try simp only [Act.put, zA, zB, zC]))
   clear hs
   clear hk
   clear j0 j1
   refine seqE_callB (f := ?_) (args := ?_) rfl (by rfl) ?_ ?_ ?_
   rotate_left 2
   focus (intro w hS; go_simp; first | done | with_reducible rfl | (refine ⟨?_, ?_⟩ <;> with_reducible rfl))
   ·
    intro w1 hS
    refine (ror_fr (hE11.mono hS) (by omega) (by omega) (by omega) HOP3.out).mono ?_
    rintro e v1 ⟨pd, cd, rfl, hE, hbl, frE⟩
    refine ⟨_, rfl, (fun x => Below v1.heap.size v1 x), Below.refl _ _, ?_⟩
    have hXw := Nat.le_trans zz hS.size; have hXa := Nat.le_trans hacc.size hS.size
    have hX := btr hS hbl
    replace hE11 := hE11.mono hX; replace hbw := btr hbw hX; replace zz := Nat.le_trans zz (Below.size hX); replace hacc := btr hacc hX
    have oE : Off s 3 pd := Off.fresh frE oE11 hXw
    clear frE
    clear hX hS hbl hXw hXa
    (try simp only [Act.put, zA, zB, zC])
    iterate 3 (refine seqE_free (v := ?_) rfl (by rfl) ?_ ?_; rotate_left; (focus (intro w; go_simp; try with_reducible rfl)); (try simp only [Act.put, zA, zB, zC]))
    refine seqE_move rfl (by rfl) ?_ seqE_stop
    intro w2 hS
    refine ⟨.pointer (some ⟨w2.heap.size, 0, none⟩), w2.alloc (.cells #[.slice none 0 0] 27), (by go_simp; try with_reducible rfl), ?_⟩
    obtain ⟨b13, hb13⟩ : ∃ b, b = w2.heap.size := ⟨_, rfl⟩
    obtain ⟨v2, hw2⟩ : ∃ zW, zW = w2.alloc (.cells #[.slice none 0 0] 27) := ⟨_, rfl⟩
    rw [← hw2, ← hb13]
    have hbl : Below w2.heap.size w2 v2 := by rw [hw2]; go_grown
    have hge13 : s + 3 ≤ b13 := by rw [hb13]; exact Nat.le_trans zz hS.size
    have hga13 : wc.heap.size ≤ b13 := by rw [hb13]; exact Nat.le_trans hacc.size hS.size
    refine ⟨(fun x => Below v2.heap.size v2 x), Below.refl _ _, fun x hx => btr (btr hS hbl) hx, ?_⟩
    have hX := btr hS hbl
    replace hE11 := hE11.mono hX; replace hE := hE.mono hX; replace hbw := btr hbw hX; replace zz := Nat.le_trans zz (Below.size hX); replace hacc := btr hacc hX
    have hs : Cells v2 [(b13, 0, .slice none 0 0)] := ⟨⟨by rw [hw2, hb13]; go_cell, by rw [hw2, hb13]; go_cell⟩, trivial⟩
    clear hX hS hbl hw2 hb13
    (try simp only [Act.put, zA, zB, zC])
    refine seqE_storeB rfl (by rfl) ?_ seqE_stop
    intro w3 hS
    replace hs := hs.up hS; replace hE11 := hE11.mono hS; replace hE := hE.mono hS; replace hbw := btr hbw hS; replace zz := Nat.le_trans zz (Below.size hS); replace hacc := btr hacc hS
    obtain ⟨⟨d130, d130f⟩, -⟩ := id hs
    refine ⟨(w3.setCell ⟨b13, 0, none⟩ (.slice pd d3.length cd)), (by go_simp; try with_reducible rfl), (fun x => Below ((w3.setCell ⟨b13, 0, none⟩ (.slice pd d3.length cd))).heap.size ((w3.setCell ⟨b13, 0, none⟩ (.slice pd d3.length cd))) x), Below.refl _ _, ?_⟩
    obtain ⟨v3, hw⟩ : ∃ zW, zW = (w3.setCell ⟨b13, 0, none⟩ (.slice pd d3.length cd)) := ⟨_, rfl⟩
    rw [← hw]
    replace hs : Cells v3 [(b13, 0, .slice pd d3.length cd)] := by rw [hw]; exact ⟨⟨by go_cell, (fz d130f)⟩, trivial⟩
    replace hE11 : CAt v3 p11 c11 d2 := by rw [hw]; exact hE11.box d130 _
    replace hE : CAt v3 pd cd d3 := by rw [hw]; exact hE.box d130 _
    replace hbw : Below w.heap.size w v3 := by rw [hw]; exact (Below.setCell hbw (by have h := HS.out; (try dsimp only); omega) _)
    replace hacc : Below wc.heap.size wc v3 := by rw [hw]; exact (Below.setCell hacc (by have h := HS.out; (try dsimp only); omega) _)
    replace zz : s + 3 ≤ v3.heap.size := by rw [hw]; simpa using zz
    clear hw
    clear d130 d130f
    clear hS
    (try simp only [Act.put, zA, zB, zC])
    iterate 1 (refine seqE_free (v := ?_) rfl (by rfl) ?_ ?_; rotate_left; (focus (intro w; go_simp; try with_reducible rfl)); (try simp only [Act.put, zA, zB, zC]))
    refine seqE_nil ?_
    intro wz hS
    replace hs := hs.up hS; replace hE11 := hE11.mono hS; replace hE := hE.mono hS; replace hbw := btr hbw hS; replace zz := Nat.le_trans zz (Below.size hS); replace hacc := btr hacc hS; clear hS
    obtain ⟨⟨d130, d130f⟩, -⟩ := id hs
    go_wp2_with fail
    go_meet
    exact ⟨_, _, _, rfl, rfl, ⟨⟨d130, d130f⟩, trivial⟩, hge13, hE, oE, hacc⟩
   refine seqE_move rfl (by rfl) ?_ seqE_stop
   intro w4 hS
   refine ⟨.pointer (some ⟨w4.heap.size, 0, none⟩), w4.alloc (.cells #[.slice none 0 0] 27), (by go_simp; try with_reducible rfl), ?_⟩
   obtain ⟨b13, hb13⟩ : ∃ b, b = w4.heap.size := ⟨_, rfl⟩
   obtain ⟨v4, hw4⟩ : ∃ zW, zW = w4.alloc (.cells #[.slice none 0 0] 27) := ⟨_, rfl⟩
   rw [← hw4, ← hb13]
   have hbl : Below w4.heap.size w4 v4 := by rw [hw4]; go_grown
   have hge13 : s + 3 ≤ b13 := by rw [hb13]; exact Nat.le_trans zz hS.size
   have hga13 : wc.heap.size ≤ b13 := by rw [hb13]; exact Nat.le_trans hacc.size hS.size
   refine ⟨(fun x => Below v4.heap.size v4 x), Below.refl _ _, fun x hx => btr (btr hS hbl) hx, ?_⟩
   have hX := btr hS hbl
   replace hE11 := hE11.mono hX; replace hbw := btr hbw hX; replace zz := Nat.le_trans zz (Below.size hX); replace hacc := btr hacc hX
   have hs : Cells v4 [(b13, 0, .slice none 0 0)] := ⟨⟨by rw [hw4, hb13]; go_cell, by rw [hw4, hb13]; go_cell⟩, trivial⟩
   clear hX hS hbl hw4 hb13
   (try simp only [Act.put, zA, zB, zC])
   refine seqE_callB (f := ?_) (args := ?_) rfl (by rfl) ?_ ?_ seqE_stop
   rotate_left 2
   focus (intro w hS; go_simp; first | done | with_reducible rfl | (refine ⟨?_, ?_⟩ <;> with_reducible rfl))
   intro w5 hS
   refine (ror_fr (hE11.mono hS) (by omega) (by omega) (by omega) HOP3.out).mono ?_
   rintro e v5 ⟨pd, cd, rfl, hE, hbl, frE⟩
   refine ⟨_, rfl, (fun x => Below v5.heap.size v5 x), Below.refl _ _, ?_⟩
   have hXw := Nat.le_trans zz hS.size; have hXa := Nat.le_trans hacc.size hS.size
   have hX := btr hS hbl
   replace hs := hs.up hX; replace hE11 := hE11.mono hX; replace hbw := btr hbw hX; replace zz := Nat.le_trans zz (Below.size hX); replace hacc := btr hacc hX
   have oE : Off s 3 pd := Off.fresh frE oE11 hXw
   clear frE
   clear hX hS hbl hXw hXa
   (try simp only [Act.put, zA, zB, zC])
   iterate 3 (refine seqE_free (v := ?_) rfl (by rfl) ?_ ?_; rotate_left; (focus (intro w; go_simp; try with_reducible rfl)); (try simp only [Act.put, zA, zB, zC]))
   refine seqE_storeB rfl (by rfl) ?_ seqE_stop
   intro w6 hS
   replace hs := hs.up hS; replace hE11 := hE11.mono hS; replace hE := hE.mono hS; replace hbw := btr hbw hS; replace zz := Nat.le_trans zz (Below.size hS); replace hacc := btr hacc hS
   obtain ⟨⟨d130, d130f⟩, -⟩ := id hs
   refine ⟨(w6.setCell ⟨b13, 0, none⟩ (.slice pd d3.length cd)), (by go_simp; try with_reducible rfl), (fun x => Below ((w6.setCell ⟨b13, 0, none⟩ (.slice pd d3.length cd))).heap.size ((w6.setCell ⟨b13, 0, none⟩ (.slice pd d3.length cd))) x), Below.refl _ _, ?_⟩
   obtain ⟨v6, hw⟩ : ∃ zW, zW = (w6.setCell ⟨b13, 0, none⟩ (.slice pd d3.length cd)) := ⟨_, rfl⟩
   rw [← hw]
   replace hs : Cells v6 [(b13, 0, .slice pd d3.length cd)] := by rw [hw]; exact ⟨⟨by go_cell, (fz d130f)⟩, trivial⟩
   replace hE11 : CAt v6 p11 c11 d2 := by rw [hw]; exact hE11.box d130 _
   replace hE : CAt v6 pd cd d3 := by rw [hw]; exact hE.box d130 _
   replace hbw : Below w.heap.size w v6 := by rw [hw]; exact (Below.setCell hbw (by have h := HS.out; (try dsimp only); omega) _)
   replace hacc : Below wc.heap.size wc v6 := by rw [hw]; exact (Below.setCell hacc (by have h := HS.out; (try dsimp only); omega) _)
   replace zz : s + 3 ≤ v6.heap.size := by rw [hw]; simpa using zz
   clear hw
   clear d130 d130f
   clear hS
   (try simp only [Act.put, zA, zB, zC])
   iterate 1 (refine seqE_free (v := ?_) rfl (by rfl) ?_ ?_; rotate_left; (focus (intro w; go_simp; try with_reducible rfl)); (try simp only [Act.put, zA, zB, zC]))
   refine seqE_nil ?_
   intro wz hS
   replace hs := hs.up hS; replace hE11 := hE11.mono hS; replace hE := hE.mono hS; replace hbw := btr hbw hS; replace zz := Nat.le_trans zz (Below.size hS); replace hacc := btr hacc hS; clear hS
   obtain ⟨⟨d130, d130f⟩, -⟩ := id hs
   go_wp2_with fail
   go_meet
   exact ⟨_, _, _, rfl, rfl, ⟨⟨d130, d130f⟩, trivial⟩, hge13, hE, oE, hacc⟩
 obtain ⟨b13, p13, c13, rfl, rfl, hz13, hge13, hE13, oE13, hst⟩ := hcut
 clear z11 z11f z9 z9f y00 y00f y20 y20f y10 y10f y11 y11f
 replace hs := hs.up hst; replace hk := hk.up hst; replace hE11 := hE11.mono hst; replace hbw := btr hbw hst; replace zz := Nat.le_trans zz (Below.size hst); replace j0 := zD hst j0; replace j1 := zD hst j1; clear hst
 replace hs : Cells wc [(b13, 0, .slice p13 d3.length c13), (b11, 0, .slice p11 d2.length c11), (b9, 0, .slice p9 d1.length c9), (s, 0, .slice pc C.length cc), (s + 2, 0, .slice none 0 0)] := ⟨hz13.1, hs⟩
 clear hz13
 clear hE11 j0 j1
 obtain ⟨⟨z13, z13f⟩, ⟨z11, z11f⟩, ⟨z9, z9f⟩, ⟨y00, y00f⟩, ⟨y20, y20f⟩, -⟩ := id hs
 obtain ⟨⟨y10, y10f⟩, ⟨y11, y11f⟩, -⟩ := id hk
 have HST := Lib.hid (show loneRun (a.take (K + 1)) (c, 1, 1) = (d3, so, t) by
  have e : loneRun (a.take (K + 1)) (c, 1, 1) = loneStep (loneRun (a.take K) (c, 1, 1)) ⟨rk, P⟩ := by rw [HTK.out]; unfold loneRun; rw [List.foldl_append]; rfl
  rw [e, HR.out]
  unfold loneStep
  dsimp only
  rw [HOP.out]
  dsimp only
  rw [HOP2.out]
  dsimp only
  rw [HOP3.out])
 go_upto_region 9 with fail
 go_wp2_with fail
 obtain ⟨w8, hw⟩ : ∃ zW, zW = (wc.setCell ⟨s, 0, none⟩ (.slice p13 d3.length c13)) := ⟨_, rfl⟩
 rw [← hw]
 replace hs : Cells w8 [(b13, 0, .slice p13 d3.length c13), (b11, 0, .slice p11 d2.length c11), (b9, 0, .slice p9 d1.length c9), (s, 0, .slice p13 d3.length c13), (s + 2, 0, .slice none 0 0)] := by rw [hw]; exact ⟨⟨by go_cell, (fz z13f)⟩, ⟨by go_cell, (fz z11f)⟩, ⟨by go_cell, (fz z9f)⟩, ⟨by go_cell, (fz y00f)⟩, ⟨by go_cell, (fz y20f)⟩, trivial⟩
 replace hk : Cells w8 [(s + 1, 0, .int .i64 ar1), (s + 1, 1, .slice (some ⟨bq, oq, none⟩) a.length ca)] := by rw [hw]; exact (hk.far (by simp <;> omega))
 replace hE13 : CAt w8 p13 c13 d3 := by rw [hw]; exact hE13.box y00 _
 replace hbw : Below w.heap.size w w8 := by rw [hw]; exact (Below.setCell hbw (by have h := HS.out; (try dsimp only); omega) _)
 replace zz : s + 3 ≤ w8.heap.size := by rw [hw]; simpa using zz
 clear hw
 clear z13 z13f z11 z11f z9 z9f y00 y00f y20 y20f y10 y10f y11 y11f
 replace hs := hs.2.2.2
 go_roundg (a.length - (K + 1))
 case measure => (have := HN.out; omega)
 case rel => exact ⟨K + 1, d3, so, t, p13, c13, rfl, rfl, by go_num, by omega, rfl, HST.out, hd3, hso, ht, oE13, hs, hk, hE13, hbw, zz⟩
end Go.Proofs.Ytadilppdlbhjnaa
