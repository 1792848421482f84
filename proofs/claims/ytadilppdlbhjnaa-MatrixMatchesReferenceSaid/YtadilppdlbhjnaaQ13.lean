import Derived.Test.YtadilppdlbhjnaaGL
namespace Go.Proofs.Ytadilppdlbhjnaa
set_option linter.unusedSimpArgs false
set_option linter.unusedVariables false
open Go.RowKit
set_option maxRecDepth 100000 in
set_option maxHeartbeats 8000000 in
theorem matrixMatches_any (k : Nat) (st : List Step) (ps : Option Addr) (cs : Nat) (x : List Nat) (px : Option Addr) (cx : Nat) (y : List Nat) (py : Option Addr) (cy : Nat) (z0 : Nat) (rm : List Cell) (rar : Int) (pr : Option Addr) (cr : Nat) (w : World) (hk : k < 256) (hl : st.length ≤ maxLen) (hs : ∀ s ∈ st, s.k < 256 ∧ s.a < 256 ∧ s.b < 256) (hg : StepsAt w ps st) (hlx : x.length ≤ maxLen) (h8x : ∀ v ∈ x, v < 256) (hux : UbAt w px x) (hly : y.length ≤ maxLen) (h8y : ∀ v ∈ y, v < 256) (huy : UbAt w py y) (hz : z0 < 256) (hrm : CellsAt w pr rm) (hrg : ∀ x ∈ rm, x.ref ≤ 9223372036854775807) :
 Calls Try.prog 7 #[.int .u8 k, .slice ps st.length cs, .slice px x.length cx, .slice py y.length cy, .int .u8 z0, .agg #[.int .i64 rar, .slice pr rm.length cr]] w (RetB w true) := by
 unfold maxLen at hl
 have HS8 := Lib.hid hs; have HG := Lib.hid hg; have H8x := Lib.hid h8x; have HUx := Lib.hid hux; have H8y := Lib.hid h8y; have HUy := Lib.hid huy; have HRG := Lib.hid hrg; clear hs hg hrg h8x hux h8y huy
 obtain ⟨W0, hW0, hN11, hW⟩ : ∃ W0, w.alloc (.cells #[.int .i64 rar, .slice pr rm.length cr] 30) = W0 ∧ RM W0 w.heap.size rar rm ∧ Below w.heap.size w W0 := ⟨_, rfl, RM.new hrm _, by go_grown⟩
 have HW0 := Lib.hid hW0; clear hW0 hrm
 by_cases h20 : (20 : Int) < (st.length : Int)
 case pos =>
  go_enter Try.func7, Try.ntmps7
  go_upto_region 1 with fail
  rw [HW0.out]
  go_wp2_with (first | (go_at_call 32; refine (head14_any _).mono ?_; rintro e w1 ⟨rfl, hb1⟩))
  go_ret
  exact ⟨rfl, btr hW hb1⟩
 by_cases h100 : (100 : Int) < (rm.length : Int)
 case pos =>
  obtain ⟨q11, cq11, ⟨⟨m11, m11f⟩, ⟨n11, n11f⟩, -⟩, hM11⟩ := id hN11
  go_enter Try.func7, Try.ntmps7
  go_upto_region 1 with fail
  rw [HW0.out]
  go_wp2_with (first | (go_at_call 32; refine (head14_any _).mono ?_; rintro e w1 ⟨rfl, hb1⟩; replace n11 := zD hb1 n11))
  go_ret
  exact ⟨rfl, btr hW hb1⟩
 obtain ⟨n, hn⟩ : ∃ n, k % 3 + 1 = n := ⟨_, rfl⟩
 obtain ⟨kk, hkk⟩ : ∃ n, k / 3 % 2 + 1 = n := ⟨_, rfl⟩
 obtain ⟨k2, hk2⟩ : ∃ n, k / 6 % 2 + 1 = n := ⟨_, rfl⟩
 have hn0 : 0 < n := by omega
 have hn3 : n ≤ 3 := by omega
 have hkk0 : 0 < kk := by omega
 have hkk2 : kk ≤ 2 := by omega
 obtain ⟨c, refs, hcb, gc, hcl, hrl, hrr, hma⟩ := made_plain2 st (by omega)
 obtain ⟨N, hN, hN9⟩ : ∃ N, n ^ kk = N ∧ N ≤ 9 := ⟨_, rfl, pow_9 hn3 hkk2⟩
 have hc0 : 0 < c.length := gc.ne
 have hrml : rm.length ≤ 20000 := by omega
 obtain ⟨a, ha⟩ : ∃ a, mMade refs x N = a := ⟨_, rfl⟩
 obtain ⟨b, hb⟩ : ∃ a, mMade refs y N = a := ⟨_, rfl⟩
 have oa := (hma x N).1; have ob := (hma y N).1
 rw [ha] at oa; rw [hb] at ob
 have oa2 : MOk c ((n ^ kk : Nat) : Int) a := by rw [hN]; exact oa
 have ob2 : MOk c ((n ^ kk : Nat) : Int) b := by rw [hN]; exact ob
 have la : a.length ≤ 9 := Nat.le_trans oa2.len (pow_9 hn3 hkk2)
 have lb : b.length ≤ 9 := Nat.le_trans ob2.len (pow_9 hn3 hkk2)
 obtain ⟨V, hV0⟩ : ∃ V, vbits z0 8 = V := ⟨_, rfl⟩
 have hVl : V.length = 8 := by rw [← hV0]; exact vbits_len _ _
 obtain ⟨d1, m1, d2, m2, d3, m3, d4, m4, d5, r5, d6, r6, d7, r7, va, ma, e1, e2, e3, e4, e5, e6, e7, hva, hma2⟩ := match_plain (kk := kk) (n := n) (c := c) (a := a) (b := b) V
 obtain ⟨hm1, hm2, hm3, hm4⟩ := match_len hkk2 hn3 gc hcl oa2 ob2 e1 e2 e3 e4
 have lva := mValue_len c V a
 rw [hva] at lva
 have lva9 : va.length ≤ 9 := Nat.le_trans lva la
 have lma : ma.length ≤ 9 := by rw [← hma2]; unfold mConst; rw [List.length_map]; exact lva9
 obtain ⟨tv, htv⟩ : ∃ t, mvalid c.length rar rm = t := ⟨_, rfl⟩
 obtain ⟨tv2, htv2⟩ : ∃ t, mvalid c.length kk a = t := ⟨_, rfl⟩
 have hrga : ∀ x ∈ a, x.ref ≤ 9223372036854775807 := fun x hx => by have := (oa2.refs x hx).2.1; omega
 have hcl2 : c.length ≤ 10000 := by omega
 have hcl3 : c.length ≤ 20000 := by omega
 have hal : a.length ≤ 20000 := by omega
 have hVm : V.length ≤ maxLen := by rw [hVl]; decide
 have HA := Lib.hid ha; have HB := Lib.hid hb; have OA := Lib.hid oa2; have OB := Lib.hid ob2; have HVB := Lib.hid hV0; have HVA := Lib.hid hva; have HMA := Lib.hid hma2; have HRGA := Lib.hid hrga; have HTV := Lib.hid htv; have HTV2 := Lib.hid htv2
 have E1 := Lib.hid e1; have E2 := Lib.hid e2; have E3 := Lib.hid e3; have E4 := Lib.hid e4; have E5 := Lib.hid e5; have E6 := Lib.hid e6; have E7 := Lib.hid e7
 clear ha hb oa ob oa2 ob2 hV0 hVl hva hma2 hrga htv htv2 e1 e2 e3 e4 e5 e6 e7 lva
 have HN := Lib.hid hn; have HKK := Lib.hid hkk; have HK2 := Lib.hid hk2; have HCB := Lib.hid hcb; have GC := Lib.hid gc; have HR := Lib.hid hrr; have HNP := Lib.hid hN
 clear hn hkk hk2 hcb gc hrr hma hN
 go_enter Try.func7, Try.ntmps7
 go_upto_region 1 with fail
 rw [HW0.out]
 go_upto_region 1 with fail
 go_cut [13] from 51 to 51 (fun s13 wx => (s13 = .bool true) ∧ Below W0.heap.size W0 wx)
 case first =>
  as_aux_lemma =>
   go_wp2_with (first | (go_at_call 32; refine (head14_any _).mono ?_; rintro e w2 ⟨rfl, hbl⟩))
   go_meet
   exact ⟨rfl, (by first | exact hbl | exact btr (by go_grown) hbl)⟩
 obtain ⟨rfl, hst⟩ := hcut
 replace hN11 := hN11.up hst
 replace hW := btr hW hst
 clear hst
 obtain ⟨q11, cq11, ⟨⟨m11, m11f⟩, ⟨n11, n11f⟩, -⟩, hM11⟩ := id hN11
 go_upto_region 4 with fail
 go_cut [14, 15] from 62 to 66 (fun s14 s15 wx => (∃ (b : Nat) (q : Option Addr) (cq : Nat), s14 = .pointer (some ⟨b, 0, none⟩) ∧ s15 = .slice q refs.length cq ∧ Bx wx b c ∧ LAt wx q refs) ∧ Below wc.heap.size wc wx)
 case first =>
  as_aux_lemma =>
   go_wp2_with (first | (go_at_call 33; refine (rbuild_any st ps cs _ (by omega) HS8.out (HG.out.mono hW)).mono ?_; rintro e w2 ⟨pc, cc, pr2, cr2, he, o1, o2, o3, o4, r1, r2, r3, r4, hbl⟩; rw [HCB.out] at he o1 o4 r1 r4; subst he; dsimp only at o1 o4 r1 r4; have hC2 : CAt w2 pc cc c := ⟨o1, o2, o3, o4⟩; have hL2 : LAt w2 pr2 refs := r4; clear o1 o2 o3 o4 r1 r2 r3 r4))
   go_meet
   exact ⟨⟨_, _, _, rfl, rfl, Bx.new hC2 _, hL2.up (bal (Below.refl _ _) _)⟩, bal hbl _⟩
 obtain ⟨⟨b14, q15, cq15, rfl, rfl, hB14, hL15⟩, hst⟩ := hcut
 replace hN11 := hN11.up hst
 replace hW := btr hW hst
 clear hst
 clear m11 m11f n11 n11f hM11
 go_upto_region 5 with fail
 go_cut [16, 17, 18] from 67 to 72 (fun s16 s17 s18 wx => (s16 = .int .i64 n ∧ s17 = .int .i64 kk ∧ s18 = .int .i64 k2) ∧ Below wc.heap.size wc wx)
 case first =>
  as_aux_lemma =>
   go_wp2_with (first | (go_at_call 34; refine (atoms_any k _ hk).mono ?_; rw [HN.out, HKK.out, HK2.out]; rintro e w2 ⟨rfl, hbl⟩))
   go_meet
   exact ⟨⟨rfl, rfl, rfl⟩, hbl⟩
 obtain ⟨⟨rfl, rfl, rfl⟩, hst⟩ := hcut
 replace hN11 := hN11.up hst
 replace hB14 := hB14.up hst
 replace hL15 := hL15.up hst
 replace hW := btr hW hst
 clear hst
 go_upto_region 6 with fail
 go_cut [19] from 73 to 77 (fun s19 wx => (∃ (bk : Nat), s19 = .pointer (some ⟨bk, 0, none⟩) ∧ BM wx bk kk a) ∧ Below wc.heap.size wc wx)
 case first =>
  as_aux_lemma =>
   go_wp2_with (first | (go_at_call 35; refine ((made14_any refs x n kk q15 px cq15 cx _ hL15 (by omega) HR.out (HUx.out.mono hW) hlx H8x.out hn0 (by omega) hkk0 (by omega)).mono fun e w' h => RetMF.eq h ((congrArg _ HNP.out).trans HA.out)).mono ?_; rintro e w2 ⟨p2, cap2, rfl, hM2, hbl, -⟩))
   go_meet
   exact ⟨⟨_, rfl, BM.newAt hM2 _ rfl⟩, bal hbl _⟩
 obtain ⟨⟨b19, rfl, hN19⟩, hst⟩ := hcut
 replace hN11 := hN11.up hst
 replace hB14 := hB14.up hst
 replace hL15 := hL15.up hst
 replace hW := btr hW hst
 clear hst
 go_upto_region 7 with fail
 go_cut [20] from 78 to 82 (fun s20 wx => (∃ (bk : Nat), s20 = .pointer (some ⟨bk, 0, none⟩) ∧ BM wx bk kk b) ∧ Below wc.heap.size wc wx)
 case first =>
  as_aux_lemma =>
   go_wp2_with (first | (go_at_call 35; refine ((made14_any refs y n kk q15 py cq15 cy _ hL15 (by omega) HR.out (HUy.out.mono hW) hly H8y.out hn0 (by omega) hkk0 (by omega)).mono fun e w' h => RetMF.eq h ((congrArg _ HNP.out).trans HB.out)).mono ?_; rintro e w2 ⟨p2, cap2, rfl, hM2, hbl, -⟩))
   go_meet
   exact ⟨⟨_, rfl, BM.newAt hM2 _ rfl⟩, bal hbl _⟩
 obtain ⟨⟨b20, rfl, hN20⟩, hst⟩ := hcut
 replace hN11 := hN11.up hst
 replace hB14 := hB14.up hst
 replace hL15 := hL15.up hst
 replace hN19 := hN19.up hst
 replace hW := btr hW hst
 clear hst
 clear hL15
 go_upto_region 8 with fail
 obtain ⟨p14, c14, k14, k14f, hC14⟩ := id hB14
 obtain ⟨q11, cq11, ⟨⟨m11, m11f⟩, ⟨n11, n11f⟩, -⟩, hM11⟩ := id hN11
 obtain ⟨q19, cq19, ⟨⟨m19, m19f⟩, ⟨n19, n19f⟩, -⟩, hM19⟩ := id hN19
 go_cut [98] from 83 to 97 (fun s98 wx => s98 = .bool false ∧ Below wc.heap.size wc wx)
 case first =>
  as_aux_lemma =>
   have T0 := Lib.hid (fun (w' : World) (hB' : Below wc.heap.size wc w') => mxvalid_is (c := c) (p := p14) (cap := c14) (cm := cq11) (hM11.mono hB') hrml HRG.out hcl3 HTV.out)
   have T1 := Lib.hid (fun (w' : World) (hB' : Below wc.heap.size wc w') => rxvalid_is (c := c) (p := p14) (cap := c14) (cm := cq11) (hM11.mono hB') hrml hcl3 HTV.out)
   have T2 := Lib.hid (fun (w' : World) (hB' : Below wc.heap.size wc w') => mxvalid_is (c := c) (p := p14) (cap := c14) (cm := cq19) (hM19.up hB').at' hal HRGA.out hcl3 HTV2.out)
   have T3 := Lib.hid (fun (w' : World) (hB' : Below wc.heap.size wc w') => rxvalid_is (c := c) (p := p14) (cap := c14) (cm := cq19) (hM19.up hB').at' hal hcl3 HTV2.out)
   refine wp_region_seq (fun w' => Below wc.heap.size wc w') (by kernel_rfl) (by kernel_rfl) (by first | assumption | go_grown) ?_
   refine seq_pure (v := ?_) (by rfl) ?_ ?_
   rotate_left
   · (intro w hS; have kk := zD hS k14; go_simp; try with_reducible rfl)
   (try simp only [Act.put, zA, zB, zC])
   refine seq_pure (v := ?_) (by rfl) ?_ ?_
   rotate_left
   · (intro w hS; have kk := zD hS m11; have kk2 := zD hS n11; go_simp; try with_reducible rfl)
   (try simp only [Act.put, zA, zB, zC])
   refine seq_call (v := .bool tv) (f := ?_) (args := ?_) (by rfl) ?_ ?_ ?_
   rotate_left 2
   · (intro w hS; go_simp; first | done | with_reducible rfl | (refine ⟨?_, ?_⟩ <;> with_reducible rfl))
   · (intro w hS; refine (T0.out w hS).mono ?_; rintro e w' ⟨he, hb⟩; exact ⟨he, btr hS hb⟩)
   (try simp only [Act.put, zA, zB, zC])
   refine seq_pure (v := ?_) (by rfl) ?_ ?_
   rotate_left
   · (intro w hS; have kk := zD hS k14; go_simp; try with_reducible rfl)
   (try simp only [Act.put, zA, zB, zC])
   refine seq_pure (v := ?_) (by rfl) ?_ ?_
   rotate_left
   · (intro w hS; have kk := zD hS m11; have kk2 := zD hS n11; go_simp; try with_reducible rfl)
   (try simp only [Act.put, zA, zB, zC])
   refine seq_call (v := .bool tv) (f := ?_) (args := ?_) (by rfl) ?_ ?_ ?_
   rotate_left 2
   · (intro w hS; go_simp; first | done | with_reducible rfl | (refine ⟨?_, ?_⟩ <;> with_reducible rfl))
   · (intro w hS; refine (T1.out w hS).mono ?_; rintro e w' ⟨he, hb⟩; exact ⟨he, btr hS hb⟩)
   (try simp only [Act.put, zA, zB, zC])
   iterate 2 (refine seq_pure (v := ?_) (by rfl) ?_ ?_; rotate_left; (focus (intro w hS; go_simp; try with_reducible rfl)); (try simp only [Act.put, zA, zB, zC]))
   refine seq_pure (v := ?_) (by rfl) ?_ ?_
   rotate_left
   · (intro w hS; have kk := zD hS k14; go_simp; try with_reducible rfl)
   (try simp only [Act.put, zA, zB, zC])
   refine seq_pure (v := ?_) (by rfl) ?_ ?_
   rotate_left
   · (intro w hS; have kk := zD hS m19; have kk2 := zD hS n19; go_simp; try with_reducible rfl)
   (try simp only [Act.put, zA, zB, zC])
   refine seq_call (v := .bool tv2) (f := ?_) (args := ?_) (by rfl) ?_ ?_ ?_
   rotate_left 2
   · (intro w hS; go_simp; first | done | with_reducible rfl | (refine ⟨?_, ?_⟩ <;> with_reducible rfl))
   · (intro w hS; refine (T2.out w hS).mono ?_; rintro e w' ⟨he, hb⟩; exact ⟨he, btr hS hb⟩)
   (try simp only [Act.put, zA, zB, zC])
   refine seq_pure (v := ?_) (by rfl) ?_ ?_
   rotate_left
   · (intro w hS; have kk := zD hS k14; go_simp; try with_reducible rfl)
   (try simp only [Act.put, zA, zB, zC])
   refine seq_pure (v := ?_) (by rfl) ?_ ?_
   rotate_left
   · (intro w hS; have kk := zD hS m19; have kk2 := zD hS n19; go_simp; try with_reducible rfl)
   (try simp only [Act.put, zA, zB, zC])
   refine seq_call (v := .bool tv2) (f := ?_) (args := ?_) (by rfl) ?_ ?_ ?_
   rotate_left 2
   · (intro w hS; go_simp; first | done | with_reducible rfl | (refine ⟨?_, ?_⟩ <;> with_reducible rfl))
   · (intro w hS; refine (T3.out w hS).mono ?_; rintro e w' ⟨he, hb⟩; exact ⟨he, btr hS hb⟩)
   (try simp only [Act.put, zA, zB, zC])
   iterate 2 (refine seq_pure (v := ?_) (by rfl) ?_ ?_; rotate_left; (focus (intro w hS; go_simp; try with_reducible rfl)); (try simp only [Act.put, zA, zB, zC]))
   refine seq_nil ?_
   intro w2 HB0
   go_wp2_with fail
   go_meet
   exact ⟨rfl, HB0⟩
 clear k14 k14f hC14
 clear m11 m11f n11 n11f hM11
 clear m19 m19f n19 n19f hM19
 obtain ⟨rfl, hst⟩ := hcut
 replace hN11 := hN11.up hst
 replace hB14 := hB14.up hst
 replace hN19 := hN19.up hst
 replace hN20 := hN20.up hst
 replace hW := btr hW hst
 clear hst
 clear hN11
 go_upto_region 10 with fail
 obtain ⟨p14, c14, k14, k14f, hC14⟩ := id hB14
 obtain ⟨q19, cq19, ⟨⟨m19, m19f⟩, ⟨n19, n19f⟩, -⟩, hM19⟩ := id hN19
 obtain ⟨q20, cq20, ⟨⟨m20, m20f⟩, ⟨n20, n20f⟩, -⟩, hM20⟩ := id hN20
 go_cut [21, 22] from 99 to 105 (fun s21 s22 wx => (∃ (b b' : Nat), s21 = .pointer (some ⟨b, 0, none⟩) ∧ s22 = .pointer (some ⟨b', 0, none⟩) ∧ Bx wx b d1 ∧ BM wx b' kk m1) ∧ Below wc.heap.size wc wx)
 case first =>
  as_aux_lemma =>
   go_wp2_with (first | (go_at_call 42; refine (unionL_is hkk2 hn3 GC.out hcl2 OA.out OB.out hC14 hM19 hM20 E1.out).mono ?_; rintro e w2 ⟨p2, cap2, y2, cy2, rfl, hC2, hM2, hbl⟩))
   go_meet
   exact ⟨⟨_, _, rfl, rfl, (Bx.new hC2 _).up (by go_grown), BM.newAt (hM2.up (bal (Below.refl _ _) _)) _ (by simp)⟩, bal (bal hbl _) _⟩
 clear k14 k14f hC14
 obtain ⟨⟨b21, b22, rfl, rfl, hB21, hN22⟩, hst⟩ := hcut
 replace hB14 := hB14.up hst
 replace hN19 := hN19.up hst
 replace hN20 := hN20.up hst
 replace hW := btr hW hst
 clear hst
 clear m19 m19f n19 n19f hM19
 clear m20 m20f n20 n20f hM20
 go_upto_region 11 with fail
 obtain ⟨p14, c14, k14, k14f, hC14⟩ := id hB14
 obtain ⟨q19, cq19, ⟨⟨m19, m19f⟩, ⟨n19, n19f⟩, -⟩, hM19⟩ := id hN19
 obtain ⟨q20, cq20, ⟨⟨m20, m20f⟩, ⟨n20, n20f⟩, -⟩, hM20⟩ := id hN20
 go_cut [23, 24] from 106 to 112 (fun s23 s24 wx => (∃ (b b' : Nat), s23 = .pointer (some ⟨b, 0, none⟩) ∧ s24 = .pointer (some ⟨b', 0, none⟩) ∧ Bx wx b d1 ∧ BM wx b' kk m1) ∧ Below wc.heap.size wc wx)
 case first =>
  as_aux_lemma =>
   go_wp2_with (first | (go_at_call 49; refine (runionL_is hkk2 hn3 GC.out hcl2 OA.out OB.out hC14 hM19 hM20 E1.out).mono ?_; rintro e w2 ⟨p2, cap2, y2, cy2, rfl, hC2, hM2, hbl⟩))
   go_meet
   exact ⟨⟨_, _, rfl, rfl, (Bx.new hC2 _).up (by go_grown), BM.newAt (hM2.up (bal (Below.refl _ _) _)) _ (by simp)⟩, bal (bal hbl _) _⟩
 clear k14 k14f hC14
 obtain ⟨⟨b23, b24, rfl, rfl, hB23, hN24⟩, hst⟩ := hcut
 replace hB14 := hB14.up hst
 replace hN19 := hN19.up hst
 replace hN20 := hN20.up hst
 replace hB21 := hB21.up hst
 replace hN22 := hN22.up hst
 replace hW := btr hW hst
 clear hst
 clear m19 m19f n19 n19f hM19
 clear m20 m20f n20 n20f hM20
 go_upto_region 12 with fail
 obtain ⟨p14, c14, k14, k14f, hC14⟩ := id hB14
 obtain ⟨q19, cq19, ⟨⟨m19, m19f⟩, ⟨n19, n19f⟩, -⟩, hM19⟩ := id hN19
 obtain ⟨q20, cq20, ⟨⟨m20, m20f⟩, ⟨n20, n20f⟩, -⟩, hM20⟩ := id hN20
 go_cut [25, 26] from 113 to 119 (fun s25 s26 wx => (∃ (b b' : Nat), s25 = .pointer (some ⟨b, 0, none⟩) ∧ s26 = .pointer (some ⟨b', 0, none⟩) ∧ Bx wx b d2 ∧ BM wx b' kk m2) ∧ Below wc.heap.size wc wx)
 case first =>
  as_aux_lemma =>
   go_wp2_with (first | (go_at_call 50; refine (interL_is hkk2 hn3 GC.out hcl2 OA.out OB.out hC14 hM19 hM20 E2.out).mono ?_; rintro e w2 ⟨p2, cap2, y2, cy2, rfl, hC2, hM2, hbl⟩))
   go_meet
   exact ⟨⟨_, _, rfl, rfl, (Bx.new hC2 _).up (by go_grown), BM.newAt (hM2.up (bal (Below.refl _ _) _)) _ (by simp)⟩, bal (bal hbl _) _⟩
 clear k14 k14f hC14
 obtain ⟨⟨b25, b26, rfl, rfl, hB25, hN26⟩, hst⟩ := hcut
 replace hB14 := hB14.up hst
 replace hN19 := hN19.up hst
 replace hN20 := hN20.up hst
 replace hB21 := hB21.up hst
 replace hN22 := hN22.up hst
 replace hB23 := hB23.up hst
 replace hN24 := hN24.up hst
 replace hW := btr hW hst
 clear hst
 clear m19 m19f n19 n19f hM19
 clear m20 m20f n20 n20f hM20
 go_upto_region 13 with fail
 obtain ⟨p14, c14, k14, k14f, hC14⟩ := id hB14
 obtain ⟨q19, cq19, ⟨⟨m19, m19f⟩, ⟨n19, n19f⟩, -⟩, hM19⟩ := id hN19
 obtain ⟨q20, cq20, ⟨⟨m20, m20f⟩, ⟨n20, n20f⟩, -⟩, hM20⟩ := id hN20
 go_cut [27, 28] from 120 to 126 (fun s27 s28 wx => (∃ (b b' : Nat), s27 = .pointer (some ⟨b, 0, none⟩) ∧ s28 = .pointer (some ⟨b', 0, none⟩) ∧ Bx wx b d2 ∧ BM wx b' kk m2) ∧ Below wc.heap.size wc wx)
 case first =>
  as_aux_lemma =>
   go_wp2_with (first | (go_at_call 51; refine (rinterL_is hkk2 hn3 GC.out hcl2 OA.out OB.out hC14 hM19 hM20 E2.out).mono ?_; rintro e w2 ⟨p2, cap2, y2, cy2, rfl, hC2, hM2, hbl⟩))
   go_meet
   exact ⟨⟨_, _, rfl, rfl, (Bx.new hC2 _).up (by go_grown), BM.newAt (hM2.up (bal (Below.refl _ _) _)) _ (by simp)⟩, bal (bal hbl _) _⟩
 clear k14 k14f hC14
 obtain ⟨⟨b27, b28, rfl, rfl, hB27, hN28⟩, hst⟩ := hcut
 replace hB14 := hB14.up hst
 replace hN19 := hN19.up hst
 replace hN20 := hN20.up hst
 replace hB21 := hB21.up hst
 replace hN22 := hN22.up hst
 replace hB23 := hB23.up hst
 replace hN24 := hN24.up hst
 replace hB25 := hB25.up hst
 replace hN26 := hN26.up hst
 replace hW := btr hW hst
 clear hst
 clear m19 m19f n19 n19f hM19
 clear m20 m20f n20 n20f hM20
 go_upto_region 14 with fail
 obtain ⟨p14, c14, k14, k14f, hC14⟩ := id hB14
 obtain ⟨q19, cq19, ⟨⟨m19, m19f⟩, ⟨n19, n19f⟩, -⟩, hM19⟩ := id hN19
 obtain ⟨q20, cq20, ⟨⟨m20, m20f⟩, ⟨n20, n20f⟩, -⟩, hM20⟩ := id hN20
 go_cut [29, 30] from 127 to 133 (fun s29 s30 wx => (∃ (b b' : Nat), s29 = .pointer (some ⟨b, 0, none⟩) ∧ s30 = .pointer (some ⟨b', 0, none⟩) ∧ Bx wx b d3 ∧ BM wx b' kk m3) ∧ Below wc.heap.size wc wx)
 case first =>
  as_aux_lemma =>
   go_wp2_with (first | (go_at_call 52; refine (diffL_is hkk2 hn3 GC.out hcl2 OA.out OB.out hC14 hM19 hM20 E3.out).mono ?_; rintro e w2 ⟨p2, cap2, y2, cy2, rfl, hC2, hM2, hbl⟩))
   go_meet
   exact ⟨⟨_, _, rfl, rfl, (Bx.new hC2 _).up (by go_grown), BM.newAt (hM2.up (bal (Below.refl _ _) _)) _ (by simp)⟩, bal (bal hbl _) _⟩
 clear k14 k14f hC14
 obtain ⟨⟨b29, b30, rfl, rfl, hB29, hN30⟩, hst⟩ := hcut
 replace hB14 := hB14.up hst
 replace hN19 := hN19.up hst
 replace hN20 := hN20.up hst
 replace hB21 := hB21.up hst
 replace hN22 := hN22.up hst
 replace hB23 := hB23.up hst
 replace hN24 := hN24.up hst
 replace hB25 := hB25.up hst
 replace hN26 := hN26.up hst
 replace hB27 := hB27.up hst
 replace hN28 := hN28.up hst
 replace hW := btr hW hst
 clear hst
 clear m19 m19f n19 n19f hM19
 clear m20 m20f n20 n20f hM20
 go_upto_region 15 with fail
 obtain ⟨p14, c14, k14, k14f, hC14⟩ := id hB14
 obtain ⟨q19, cq19, ⟨⟨m19, m19f⟩, ⟨n19, n19f⟩, -⟩, hM19⟩ := id hN19
 obtain ⟨q20, cq20, ⟨⟨m20, m20f⟩, ⟨n20, n20f⟩, -⟩, hM20⟩ := id hN20
 go_cut [31, 32] from 134 to 140 (fun s31 s32 wx => (∃ (b b' : Nat), s31 = .pointer (some ⟨b, 0, none⟩) ∧ s32 = .pointer (some ⟨b', 0, none⟩) ∧ Bx wx b d3 ∧ BM wx b' kk m3) ∧ Below wc.heap.size wc wx)
 case first =>
  as_aux_lemma =>
   go_wp2_with (first | (go_at_call 53; refine (rdiffL_is hkk2 hn3 GC.out hcl2 OA.out OB.out hC14 hM19 hM20 E3.out).mono ?_; rintro e w2 ⟨p2, cap2, y2, cy2, rfl, hC2, hM2, hbl⟩))
   go_meet
   exact ⟨⟨_, _, rfl, rfl, (Bx.new hC2 _).up (by go_grown), BM.newAt (hM2.up (bal (Below.refl _ _) _)) _ (by simp)⟩, bal (bal hbl _) _⟩
 clear k14 k14f hC14
 obtain ⟨⟨b31, b32, rfl, rfl, hB31, hN32⟩, hst⟩ := hcut
 replace hB14 := hB14.up hst
 replace hN19 := hN19.up hst
 replace hN20 := hN20.up hst
 replace hB21 := hB21.up hst
 replace hN22 := hN22.up hst
 replace hB23 := hB23.up hst
 replace hN24 := hN24.up hst
 replace hB25 := hB25.up hst
 replace hN26 := hN26.up hst
 replace hB27 := hB27.up hst
 replace hN28 := hN28.up hst
 replace hB29 := hB29.up hst
 replace hN30 := hN30.up hst
 replace hW := btr hW hst
 clear hst
 clear m19 m19f n19 n19f hM19
 clear m20 m20f n20 n20f hM20
 go_upto_region 16 with fail
 obtain ⟨p14, c14, k14, k14f, hC14⟩ := id hB14
 obtain ⟨q19, cq19, ⟨⟨m19, m19f⟩, ⟨n19, n19f⟩, -⟩, hM19⟩ := id hN19
 obtain ⟨q20, cq20, ⟨⟨m20, m20f⟩, ⟨n20, n20f⟩, -⟩, hM20⟩ := id hN20
 go_cut [33, 34] from 141 to 148 (fun s33 s34 wx => (∃ (b b' : Nat), s33 = .pointer (some ⟨b, 0, none⟩) ∧ s34 = .pointer (some ⟨b', 0, none⟩) ∧ Bx wx b d4 ∧ BM wx b' kk m4) ∧ Below wc.heap.size wc wx)
 case first =>
  as_aux_lemma =>
   go_wp2_with (first | (go_at_call 43; refine (overrideL_is hkk0 hkk2 hn0 hn3 GC.out hcl2 OA.out OB.out hC14 hM19 hM20 E4.out).mono ?_; rintro e w2 ⟨p2, cap2, y2, cy2, rfl, hC2, hM2, hbl⟩))
   go_meet
   exact ⟨⟨_, _, rfl, rfl, (Bx.new hC2 _).up (by go_grown), BM.newAt (hM2.up (bal (Below.refl _ _) _)) _ (by simp)⟩, bal (bal hbl _) _⟩
 clear k14 k14f hC14
 obtain ⟨⟨b33, b34, rfl, rfl, hB33, hN34⟩, hst⟩ := hcut
 replace hB14 := hB14.up hst
 replace hN19 := hN19.up hst
 replace hN20 := hN20.up hst
 replace hB21 := hB21.up hst
 replace hN22 := hN22.up hst
 replace hB23 := hB23.up hst
 replace hN24 := hN24.up hst
 replace hB25 := hB25.up hst
 replace hN26 := hN26.up hst
 replace hB27 := hB27.up hst
 replace hN28 := hN28.up hst
 replace hB29 := hB29.up hst
 replace hN30 := hN30.up hst
 replace hB31 := hB31.up hst
 replace hN32 := hN32.up hst
 replace hW := btr hW hst
 clear hst
 clear m19 m19f n19 n19f hM19
 clear m20 m20f n20 n20f hM20
 go_upto_region 17 with fail
 obtain ⟨p14, c14, k14, k14f, hC14⟩ := id hB14
 obtain ⟨q19, cq19, ⟨⟨m19, m19f⟩, ⟨n19, n19f⟩, -⟩, hM19⟩ := id hN19
 obtain ⟨q20, cq20, ⟨⟨m20, m20f⟩, ⟨n20, n20f⟩, -⟩, hM20⟩ := id hN20
 go_cut [35, 36] from 149 to 156 (fun s35 s36 wx => (∃ (b b' : Nat), s35 = .pointer (some ⟨b, 0, none⟩) ∧ s36 = .pointer (some ⟨b', 0, none⟩) ∧ Bx wx b d4 ∧ BM wx b' kk m4) ∧ Below wc.heap.size wc wx)
 case first =>
  as_aux_lemma =>
   go_wp2_with (first | (go_at_call 54; refine (roverrideL_is hkk2 hn3 GC.out hcl2 OA.out OB.out hkk0 hn0 hC14 hM19 hM20 E4.out).mono ?_; rintro e w2 ⟨p2, cap2, y2, cy2, rfl, hC2, hM2, hbl⟩))
   go_meet
   exact ⟨⟨_, _, rfl, rfl, (Bx.new hC2 _).up (by go_grown), BM.newAt (hM2.up (bal (Below.refl _ _) _)) _ (by simp)⟩, bal (bal hbl _) _⟩
 clear k14 k14f hC14
 obtain ⟨⟨b35, b36, rfl, rfl, hB35, hN36⟩, hst⟩ := hcut
 replace hB14 := hB14.up hst
 replace hN19 := hN19.up hst
 replace hN20 := hN20.up hst
 replace hB21 := hB21.up hst
 replace hN22 := hN22.up hst
 replace hB23 := hB23.up hst
 replace hN24 := hN24.up hst
 replace hB25 := hB25.up hst
 replace hN26 := hN26.up hst
 replace hB27 := hB27.up hst
 replace hN28 := hN28.up hst
 replace hB29 := hB29.up hst
 replace hN30 := hN30.up hst
 replace hB31 := hB31.up hst
 replace hN32 := hN32.up hst
 replace hB33 := hB33.up hst
 replace hN34 := hN34.up hst
 replace hW := btr hW hst
 clear hst
 clear m19 m19f n19 n19f hM19
 clear m20 m20f n20 n20f hM20
 go_upto_region 18 with fail
 obtain ⟨p21, c21, k21, k21f, hC21⟩ := id hB21
 obtain ⟨p23, c23, k23, k23f, hC23⟩ := id hB23
 obtain ⟨p25, c25, k25, k25f, hC25⟩ := id hB25
 obtain ⟨p27, c27, k27, k27f, hC27⟩ := id hB27
 obtain ⟨p29, c29, k29, k29f, hC29⟩ := id hB29
 obtain ⟨p31, c31, k31, k31f, hC31⟩ := id hB31
 obtain ⟨p33, c33, k33, k33f, hC33⟩ := id hB33
 obtain ⟨p35, c35, k35, k35f, hC35⟩ := id hB35
 obtain ⟨q22, cq22, ⟨⟨m22, m22f⟩, ⟨n22, n22f⟩, -⟩, hM22⟩ := id hN22
 obtain ⟨q24, cq24, ⟨⟨m24, m24f⟩, ⟨n24, n24f⟩, -⟩, hM24⟩ := id hN24
 obtain ⟨q26, cq26, ⟨⟨m26, m26f⟩, ⟨n26, n26f⟩, -⟩, hM26⟩ := id hN26
 obtain ⟨q28, cq28, ⟨⟨m28, m28f⟩, ⟨n28, n28f⟩, -⟩, hM28⟩ := id hN28
 obtain ⟨q30, cq30, ⟨⟨m30, m30f⟩, ⟨n30, n30f⟩, -⟩, hM30⟩ := id hN30
 obtain ⟨q32, cq32, ⟨⟨m32, m32f⟩, ⟨n32, n32f⟩, -⟩, hM32⟩ := id hN32
 obtain ⟨q34, cq34, ⟨⟨m34, m34f⟩, ⟨n34, n34f⟩, -⟩, hM34⟩ := id hN34
 obtain ⟨q36, cq36, ⟨⟨m36, m36f⟩, ⟨n36, n36f⟩, -⟩, hM36⟩ := id hN36
 go_cut [202] from 157 to 201 (fun s202 wx => s202 = .bool false ∧ Below wc.heap.size wc wx)
 case first =>
  as_aux_lemma =>
   have T0 := Lib.hid (fun (w' : World) (hB' : Below wc.heap.size wc w') => same_is (hC21.mono hB') (hC23.mono hB') (Below.refl _ _) (csame_self d1))
   have T1 := Lib.hid (fun (w' : World) (hB' : Below wc.heap.size wc w') => same14_is (ar := (kk : Int)) hM22 hM24 hB' (by omega))
   have T2 := Lib.hid (fun (w' : World) (hB' : Below wc.heap.size wc w') => same_is (hC25.mono hB') (hC27.mono hB') (Below.refl _ _) (csame_self d2))
   have T3 := Lib.hid (fun (w' : World) (hB' : Below wc.heap.size wc w') => same14_is (ar := (kk : Int)) hM26 hM28 hB' (by omega))
   have T4 := Lib.hid (fun (w' : World) (hB' : Below wc.heap.size wc w') => same_is (hC29.mono hB') (hC31.mono hB') (Below.refl _ _) (csame_self d3))
   have T5 := Lib.hid (fun (w' : World) (hB' : Below wc.heap.size wc w') => same14_is (ar := (kk : Int)) hM30 hM32 hB' (by omega))
   have T6 := Lib.hid (fun (w' : World) (hB' : Below wc.heap.size wc w') => same_is (hC33.mono hB') (hC35.mono hB') (Below.refl _ _) (csame_self d4))
   have T7 := Lib.hid (fun (w' : World) (hB' : Below wc.heap.size wc w') => same14_is (ar := (kk : Int)) hM34 hM36 hB' (by omega))
   refine wp_region_seqT' (fun w' => Below wc.heap.size wc w') (by first | exact Below.refl _ _ | go_grown) ?_
   refine seqT_pure (v := ?_) (by rfl) ?_ ?_
   rotate_left
   · (intro w hS; have kk := zD hS k21; go_simp; try with_reducible rfl)
   (try simp only [Act.put, zA, zB, zC])
   refine seqT_pure (v := ?_) (by rfl) ?_ ?_
   rotate_left
   · (intro w hS; have kk := zD hS k23; go_simp; try with_reducible rfl)
   (try simp only [Act.put, zA, zB, zC])
   refine seqT_call (v := .bool true) (f := ?_) (args := ?_) (by rfl) ?_ ?_ ?_
   rotate_left 2
   · (intro w hS; go_simp; first | done | with_reducible rfl | (refine ⟨?_, ?_⟩ <;> with_reducible rfl))
   · (intro w hS; refine (T0.out w hS).mono ?_; rintro e w' ⟨he, hb⟩; exact ⟨he, btr hS hb⟩)
   (try simp only [Act.put, zA, zB, zC])
   iterate 2 (refine seqT_pure (v := ?_) (by rfl) ?_ ?_; rotate_left; (focus (intro w hS; go_simp; try with_reducible rfl)); (try simp only [Act.put, zA, zB, zC]))
   refine seqT_pure (v := ?_) (by rfl) ?_ ?_
   rotate_left
   · (intro w hS; have kk := zD hS m22; have kk2 := zD hS n22; go_simp; try with_reducible rfl)
   (try simp only [Act.put, zA, zB, zC])
   refine seqT_pure (v := ?_) (by rfl) ?_ ?_
   rotate_left
   · (intro w hS; have kk := zD hS m24; have kk2 := zD hS n24; go_simp; try with_reducible rfl)
   (try simp only [Act.put, zA, zB, zC])
   refine seqT_call (v := .bool true) (f := ?_) (args := ?_) (by rfl) ?_ ?_ ?_
   rotate_left 2
   · (intro w hS; go_simp; first | done | with_reducible rfl | (refine ⟨?_, ?_⟩ <;> with_reducible rfl))
   · (intro w hS; refine (T1.out w hS).mono ?_; rintro e w' ⟨he, hb⟩; exact ⟨he, btr hS hb⟩)
   (try simp only [Act.put, zA, zB, zC])
   iterate 3 (refine seqT_pure (v := ?_) (by rfl) ?_ ?_; rotate_left; (focus (intro w hS; go_simp; try with_reducible rfl)); (try simp only [Act.put, zA, zB, zC]))
   refine seqT_pure (v := ?_) (by rfl) ?_ ?_
   rotate_left
   · (intro w hS; have kk := zD hS k25; go_simp; try with_reducible rfl)
   (try simp only [Act.put, zA, zB, zC])
   refine seqT_pure (v := ?_) (by rfl) ?_ ?_
   rotate_left
   · (intro w hS; have kk := zD hS k27; go_simp; try with_reducible rfl)
   (try simp only [Act.put, zA, zB, zC])
   refine seqT_call (v := .bool true) (f := ?_) (args := ?_) (by rfl) ?_ ?_ ?_
   rotate_left 2
   · (intro w hS; go_simp; first | done | with_reducible rfl | (refine ⟨?_, ?_⟩ <;> with_reducible rfl))
   · (intro w hS; refine (T2.out w hS).mono ?_; rintro e w' ⟨he, hb⟩; exact ⟨he, btr hS hb⟩)
   (try simp only [Act.put, zA, zB, zC])
   iterate 3 (refine seqT_pure (v := ?_) (by rfl) ?_ ?_; rotate_left; (focus (intro w hS; go_simp; try with_reducible rfl)); (try simp only [Act.put, zA, zB, zC]))
   refine seqT_pure (v := ?_) (by rfl) ?_ ?_
   rotate_left
   · (intro w hS; have kk := zD hS m26; have kk2 := zD hS n26; go_simp; try with_reducible rfl)
   (try simp only [Act.put, zA, zB, zC])
   refine seqT_pure (v := ?_) (by rfl) ?_ ?_
   rotate_left
   · (intro w hS; have kk := zD hS m28; have kk2 := zD hS n28; go_simp; try with_reducible rfl)
   (try simp only [Act.put, zA, zB, zC])
   refine seqT_call (v := .bool true) (f := ?_) (args := ?_) (by rfl) ?_ ?_ ?_
   rotate_left 2
   · (intro w hS; go_simp; first | done | with_reducible rfl | (refine ⟨?_, ?_⟩ <;> with_reducible rfl))
   · (intro w hS; refine (T3.out w hS).mono ?_; rintro e w' ⟨he, hb⟩; exact ⟨he, btr hS hb⟩)
   (try simp only [Act.put, zA, zB, zC])
   iterate 3 (refine seqT_pure (v := ?_) (by rfl) ?_ ?_; rotate_left; (focus (intro w hS; go_simp; try with_reducible rfl)); (try simp only [Act.put, zA, zB, zC]))
   refine seqT_pure (v := ?_) (by rfl) ?_ ?_
   rotate_left
   · (intro w hS; have kk := zD hS k29; go_simp; try with_reducible rfl)
   (try simp only [Act.put, zA, zB, zC])
   refine seqT_pure (v := ?_) (by rfl) ?_ ?_
   rotate_left
   · (intro w hS; have kk := zD hS k31; go_simp; try with_reducible rfl)
   (try simp only [Act.put, zA, zB, zC])
   refine seqT_call (v := .bool true) (f := ?_) (args := ?_) (by rfl) ?_ ?_ ?_
   rotate_left 2
   · (intro w hS; go_simp; first | done | with_reducible rfl | (refine ⟨?_, ?_⟩ <;> with_reducible rfl))
   · (intro w hS; refine (T4.out w hS).mono ?_; rintro e w' ⟨he, hb⟩; exact ⟨he, btr hS hb⟩)
   (try simp only [Act.put, zA, zB, zC])
   iterate 3 (refine seqT_pure (v := ?_) (by rfl) ?_ ?_; rotate_left; (focus (intro w hS; go_simp; try with_reducible rfl)); (try simp only [Act.put, zA, zB, zC]))
   refine seqT_pure (v := ?_) (by rfl) ?_ ?_
   rotate_left
   · (intro w hS; have kk := zD hS m30; have kk2 := zD hS n30; go_simp; try with_reducible rfl)
   (try simp only [Act.put, zA, zB, zC])
   refine seqT_pure (v := ?_) (by rfl) ?_ ?_
   rotate_left
   · (intro w hS; have kk := zD hS m32; have kk2 := zD hS n32; go_simp; try with_reducible rfl)
   (try simp only [Act.put, zA, zB, zC])
   refine seqT_call (v := .bool true) (f := ?_) (args := ?_) (by rfl) ?_ ?_ ?_
   rotate_left 2
   · (intro w hS; go_simp; first | done | with_reducible rfl | (refine ⟨?_, ?_⟩ <;> with_reducible rfl))
   · (intro w hS; refine (T5.out w hS).mono ?_; rintro e w' ⟨he, hb⟩; exact ⟨he, btr hS hb⟩)
   (try simp only [Act.put, zA, zB, zC])
   iterate 3 (refine seqT_pure (v := ?_) (by rfl) ?_ ?_; rotate_left; (focus (intro w hS; go_simp; try with_reducible rfl)); (try simp only [Act.put, zA, zB, zC]))
   refine seqT_pure (v := ?_) (by rfl) ?_ ?_
   rotate_left
   · (intro w hS; have kk := zD hS k33; go_simp; try with_reducible rfl)
   (try simp only [Act.put, zA, zB, zC])
   refine seqT_pure (v := ?_) (by rfl) ?_ ?_
   rotate_left
   · (intro w hS; have kk := zD hS k35; go_simp; try with_reducible rfl)
   (try simp only [Act.put, zA, zB, zC])
   refine seqT_call (v := .bool true) (f := ?_) (args := ?_) (by rfl) ?_ ?_ ?_
   rotate_left 2
   · (intro w hS; go_simp; first | done | with_reducible rfl | (refine ⟨?_, ?_⟩ <;> with_reducible rfl))
   · (intro w hS; refine (T6.out w hS).mono ?_; rintro e w' ⟨he, hb⟩; exact ⟨he, btr hS hb⟩)
   (try simp only [Act.put, zA, zB, zC])
   iterate 3 (refine seqT_pure (v := ?_) (by rfl) ?_ ?_; rotate_left; (focus (intro w hS; go_simp; try with_reducible rfl)); (try simp only [Act.put, zA, zB, zC]))
   refine seqT_pure (v := ?_) (by rfl) ?_ ?_
   rotate_left
   · (intro w hS; have kk := zD hS m34; have kk2 := zD hS n34; go_simp; try with_reducible rfl)
   (try simp only [Act.put, zA, zB, zC])
   refine seqT_pure (v := ?_) (by rfl) ?_ ?_
   rotate_left
   · (intro w hS; have kk := zD hS m36; have kk2 := zD hS n36; go_simp; try with_reducible rfl)
   (try simp only [Act.put, zA, zB, zC])
   refine seqT_call (v := .bool true) (f := ?_) (args := ?_) (by rfl) ?_ ?_ ?_
   rotate_left 2
   · (intro w hS; go_simp; first | done | with_reducible rfl | (refine ⟨?_, ?_⟩ <;> with_reducible rfl))
   · (intro w hS; refine (T7.out w hS).mono ?_; rintro e w' ⟨he, hb⟩; exact ⟨he, btr hS hb⟩)
   (try simp only [Act.put, zA, zB, zC])
   iterate 2 (refine seqT_pure (v := ?_) (by rfl) ?_ ?_; rotate_left; (focus (intro w hS; go_simp; try with_reducible rfl)); (try simp only [Act.put, zA, zB, zC]))
   refine seqT_nil ?_
   intro w2 HB0
   go_wp2_with fail
   go_meet
   exact ⟨rfl, HB0⟩
 clear k21 k21f hC21 k23 k23f hC23 k25 k25f hC25 k27 k27f hC27 k29 k29f hC29 k31 k31f hC31 k33 k33f hC33 k35 k35f hC35
 clear m22 m22f n22 n22f hM22
 clear m24 m24f n24 n24f hM24
 clear m26 m26f n26 n26f hM26
 clear m28 m28f n28 n28f hM28
 clear m30 m30f n30 n30f hM30
 clear m32 m32f n32 n32f hM32
 clear m34 m34f n34 n34f hM34
 clear m36 m36f n36 n36f hM36
 obtain ⟨rfl, hst⟩ := hcut
 replace hB14 := hB14.up hst
 replace hN19 := hN19.up hst
 replace hN20 := hN20.up hst
 replace hB21 := hB21.up hst
 replace hN22 := hN22.up hst
 replace hB23 := hB23.up hst
 replace hN24 := hN24.up hst
 replace hB25 := hB25.up hst
 replace hN26 := hN26.up hst
 replace hB27 := hB27.up hst
 replace hN28 := hN28.up hst
 replace hB29 := hB29.up hst
 replace hN30 := hN30.up hst
 replace hB31 := hB31.up hst
 replace hN32 := hN32.up hst
 replace hB33 := hB33.up hst
 replace hN34 := hN34.up hst
 replace hB35 := hB35.up hst
 replace hN36 := hN36.up hst
 replace hW := btr hW hst
 clear hst
 clear hB21
 clear hB23
 clear hB25
 clear hB27
 clear hB29
 clear hB31
 clear hB33
 clear hB35
 clear hN22
 clear hN24
 clear hN26
 clear hN28
 clear hN30
 clear hN32
 clear hN34
 clear hN36
 go_upto_region 20 with fail
 obtain ⟨p14, c14, k14, k14f, hC14⟩ := id hB14
 obtain ⟨q19, cq19, ⟨⟨m19, m19f⟩, ⟨n19, n19f⟩, -⟩, hM19⟩ := id hN19
 obtain ⟨q20, cq20, ⟨⟨m20, m20f⟩, ⟨n20, n20f⟩, -⟩, hM20⟩ := id hN20
 go_cut [37, 38] from 203 to 209 (fun s37 s38 wx => (∃ (b : Nat), s37 = .pointer (some ⟨b, 0, none⟩) ∧ s38 = .int .i64 r5 ∧ Bx wx b d5) ∧ Below wc.heap.size wc wx)
 case first =>
  as_aux_lemma =>
   go_wp2_with (first | (go_at_call 37; refine (inL_is hkk2 hn3 GC.out hcl2 OA.out OB.out hC14 hM19 hM20 E5.out).mono ?_; rintro e w2 ⟨p2, cap2, rfl, hC2, hbl⟩))
   go_meet
   exact ⟨⟨_, rfl, rfl, Bx.new hC2 _⟩, bal hbl _⟩
 clear k14 k14f hC14
 obtain ⟨⟨b37, rfl, rfl, hB37⟩, hst⟩ := hcut
 replace hB14 := hB14.up hst
 replace hN19 := hN19.up hst
 replace hN20 := hN20.up hst
 replace hW := btr hW hst
 clear hst
 clear m19 m19f n19 n19f hM19
 clear m20 m20f n20 n20f hM20
 go_upto_region 21 with fail
 obtain ⟨p14, c14, k14, k14f, hC14⟩ := id hB14
 obtain ⟨q19, cq19, ⟨⟨m19, m19f⟩, ⟨n19, n19f⟩, -⟩, hM19⟩ := id hN19
 obtain ⟨q20, cq20, ⟨⟨m20, m20f⟩, ⟨n20, n20f⟩, -⟩, hM20⟩ := id hN20
 go_cut [39, 40] from 210 to 216 (fun s39 s40 wx => (∃ (b : Nat), s39 = .pointer (some ⟨b, 0, none⟩) ∧ s40 = .int .i64 r5 ∧ Bx wx b d5) ∧ Below wc.heap.size wc wx)
 case first =>
  as_aux_lemma =>
   go_wp2_with (first | (go_at_call 55; refine (rinL_is hkk2 hn3 GC.out hcl2 OA.out OB.out hC14 hM19 hM20 E5.out).mono ?_; rintro e w2 ⟨p2, cap2, rfl, hC2, hbl⟩))
   go_meet
   exact ⟨⟨_, rfl, rfl, Bx.new hC2 _⟩, bal hbl _⟩
 clear k14 k14f hC14
 obtain ⟨⟨b39, rfl, rfl, hB39⟩, hst⟩ := hcut
 replace hB14 := hB14.up hst
 replace hN19 := hN19.up hst
 replace hN20 := hN20.up hst
 replace hB37 := hB37.up hst
 replace hW := btr hW hst
 clear hst
 clear m19 m19f n19 n19f hM19
 clear m20 m20f n20 n20f hM20
 go_upto_region 22 with fail
 obtain ⟨p14, c14, k14, k14f, hC14⟩ := id hB14
 obtain ⟨q19, cq19, ⟨⟨m19, m19f⟩, ⟨n19, n19f⟩, -⟩, hM19⟩ := id hN19
 go_cut [41, 42] from 217 to 222 (fun s41 s42 wx => (∃ (b : Nat), s41 = .pointer (some ⟨b, 0, none⟩) ∧ s42 = .int .i64 r6 ∧ Bx wx b d6) ∧ Below wc.heap.size wc wx)
 case first =>
  as_aux_lemma =>
   go_wp2_with (first | (go_at_call 38; refine (someL_is hkk2 hn3 GC.out hcl2 OA.out hC14 hM19 E6.out).mono ?_; rintro e w2 ⟨p2, cap2, rfl, hC2, hbl⟩))
   go_meet
   exact ⟨⟨_, rfl, rfl, Bx.new hC2 _⟩, bal hbl _⟩
 clear k14 k14f hC14
 obtain ⟨⟨b41, rfl, rfl, hB41⟩, hst⟩ := hcut
 replace hB14 := hB14.up hst
 replace hN19 := hN19.up hst
 replace hN20 := hN20.up hst
 replace hB37 := hB37.up hst
 replace hB39 := hB39.up hst
 replace hW := btr hW hst
 clear hst
 clear m19 m19f n19 n19f hM19
 go_upto_region 23 with fail
 obtain ⟨p14, c14, k14, k14f, hC14⟩ := id hB14
 obtain ⟨q19, cq19, ⟨⟨m19, m19f⟩, ⟨n19, n19f⟩, -⟩, hM19⟩ := id hN19
 go_cut [43, 44] from 223 to 228 (fun s43 s44 wx => (∃ (b : Nat), s43 = .pointer (some ⟨b, 0, none⟩) ∧ s44 = .int .i64 r6 ∧ Bx wx b d6) ∧ Below wc.heap.size wc wx)
 case first =>
  as_aux_lemma =>
   go_wp2_with (first | (go_at_call 56; refine (rsomeL_is hkk2 hn3 GC.out hcl2 OA.out hC14 hM19 E6.out).mono ?_; rintro e w2 ⟨p2, cap2, rfl, hC2, hbl⟩))
   go_meet
   exact ⟨⟨_, rfl, rfl, Bx.new hC2 _⟩, bal hbl _⟩
 clear k14 k14f hC14
 obtain ⟨⟨b43, rfl, rfl, hB43⟩, hst⟩ := hcut
 replace hB14 := hB14.up hst
 replace hN19 := hN19.up hst
 replace hN20 := hN20.up hst
 replace hB37 := hB37.up hst
 replace hB39 := hB39.up hst
 replace hB41 := hB41.up hst
 replace hW := btr hW hst
 clear hst
 clear m19 m19f n19 n19f hM19
 go_upto_region 24 with fail
 obtain ⟨p14, c14, k14, k14f, hC14⟩ := id hB14
 obtain ⟨q19, cq19, ⟨⟨m19, m19f⟩, ⟨n19, n19f⟩, -⟩, hM19⟩ := id hN19
 go_cut [45, 46] from 229 to 234 (fun s45 s46 wx => (∃ (b : Nat), s45 = .pointer (some ⟨b, 0, none⟩) ∧ s46 = .int .i64 r7 ∧ Bx wx b d7) ∧ Below wc.heap.size wc wx)
 case first =>
  as_aux_lemma =>
   go_wp2_with (first | (go_at_call 39; refine (loneL_is hkk2 hn3 GC.out hcl2 OA.out hC14 hM19 E7.out).mono ?_; rintro e w2 ⟨p2, cap2, rfl, hC2, hbl⟩))
   go_meet
   exact ⟨⟨_, rfl, rfl, Bx.new hC2 _⟩, bal hbl _⟩
 clear k14 k14f hC14
 obtain ⟨⟨b45, rfl, rfl, hB45⟩, hst⟩ := hcut
 replace hB14 := hB14.up hst
 replace hN19 := hN19.up hst
 replace hN20 := hN20.up hst
 replace hB37 := hB37.up hst
 replace hB39 := hB39.up hst
 replace hB41 := hB41.up hst
 replace hB43 := hB43.up hst
 replace hW := btr hW hst
 clear hst
 clear m19 m19f n19 n19f hM19
 go_upto_region 25 with fail
 obtain ⟨p14, c14, k14, k14f, hC14⟩ := id hB14
 obtain ⟨q19, cq19, ⟨⟨m19, m19f⟩, ⟨n19, n19f⟩, -⟩, hM19⟩ := id hN19
 go_cut [47, 48] from 235 to 240 (fun s47 s48 wx => (∃ (b : Nat), s47 = .pointer (some ⟨b, 0, none⟩) ∧ s48 = .int .i64 r7 ∧ Bx wx b d7) ∧ Below wc.heap.size wc wx)
 case first =>
  as_aux_lemma =>
   go_wp2_with (first | (go_at_call 57; refine (rloneL_is hkk2 hn3 GC.out hcl2 OA.out hC14 hM19 E7.out).mono ?_; rintro e w2 ⟨p2, cap2, rfl, hC2, hbl⟩))
   go_meet
   exact ⟨⟨_, rfl, rfl, Bx.new hC2 _⟩, bal hbl _⟩
 clear k14 k14f hC14
 obtain ⟨⟨b47, rfl, rfl, hB47⟩, hst⟩ := hcut
 replace hB14 := hB14.up hst
 replace hN19 := hN19.up hst
 replace hN20 := hN20.up hst
 replace hB37 := hB37.up hst
 replace hB39 := hB39.up hst
 replace hB41 := hB41.up hst
 replace hB43 := hB43.up hst
 replace hB45 := hB45.up hst
 replace hW := btr hW hst
 clear hst
 clear m19 m19f n19 n19f hM19
 go_upto_region 26 with fail
 obtain ⟨p14, c14, k14, k14f, hC14⟩ := id hB14
 obtain ⟨q19, cq19, ⟨⟨m19, m19f⟩, ⟨n19, n19f⟩, -⟩, hM19⟩ := id hN19
 go_cut [49] from 241 to 245 (fun s49 wx => (∃ b : Nat, s49 = .pointer (some ⟨b, 0, none⟩) ∧ BR wx b kk va) ∧ Below wc.heap.size wc wx)
 case first =>
  as_aux_lemma =>
   obtain ⟨s, hs0⟩ : ∃ s, w.heap.size = s := ⟨_, rfl⟩
   have HS := Lib.hid hs0; clear hs0
   have hbw := hW
   have zz : s + 0 ≤ wc.heap.size := by have := HS.out; have := hW.size; omega
   have hk : Cells wc [(b14, 0, .slice p14 (c).length c14), (b19, 0, .int .i64 kk), (b19, 1, .slice q19 (a).length cq19)] := ⟨⟨k14, k14f⟩, ⟨m19, m19f⟩, ⟨n19, n19f⟩, trivial⟩
   clear k14 k14f m19 m19f n19 n19f
   have hacc : Below wc.heap.size wc wc := Below.refl _ _
   clear hW
   refine wp_region_seqE (fun x => Below wc.heap.size wc x) (.one 0 0 (.one 1 0 (.one 2 1 (.alt 3 2 (.alt 4 3 (.alt 5 2 (.alt 6 3 .nil .stop) .stop) (.alt 5 2 (.alt 4 3 (.alt 6 3 .nil .stop) .stop) .stop)) (.alt 5 2 (.alt 3 2 (.alt 4 3 (.alt 6 3 .nil .stop) .stop) .stop) .stop))))) (by kernel_rfl) (by kernel_rfl) (by kernel_rfl) (Below.drew (Below.refl _ _)) ?_
   iterate 3 ((first | (refine seqE_free (v := ?_) rfl (by rfl) ?_ ?_; rotate_left; (focus (intro w; go_simp; try with_reducible rfl))) | (refine seqE_pure (v := ?_) rfl (by rfl) ?_ ?_; rotate_left; (focus (intro w hS; obtain ⟨⟨k14, -⟩, ⟨m19, -⟩, ⟨n19, -⟩, -⟩ := hk.up hS; go_simp; try with_reducible rfl)))); (try simp only [Act.put, zA, zB, zC]))
   clear hk
   refine seqE_call (f := ?_) (args := ?_) rfl (by rfl) ?_ ?_ ?_
   rotate_left 2
   focus (intro w hS; go_simp; first | done | with_reducible rfl | (refine ⟨?_, ?_⟩ <;> with_reducible rfl))
   ·
    intro w1 hS
    refine (values_is (b := (z0 : Int)) (by omega) (by omega) HVB.out).mono ?_
    rintro e v1 ⟨q244, cq244, rfl, hV, -, hbl⟩
    refine ⟨_, rfl, (fun x => Below v1.heap.size v1 x), Below.refl _ _, fun x hx => btr (btr hS hbl) hx, ?_⟩
    have hXw := Nat.le_trans zz hS.size; have hXa := Nat.le_trans hacc.size hS.size
    have hX := btr hS hbl
    replace hC14 := hC14.mono hX; replace hM19 := hM19.up hX; replace hbw := btr hbw hX; replace zz := Nat.le_trans zz (Below.size hX); replace hacc := btr hacc hX
    clear hX hS hbl hXw hXa
    (try simp only [Act.put, zA, zB, zC])
    refine seqE_callB (f := ?_) (args := ?_) rfl (by rfl) ?_ ?_ ?_
    rotate_left 2
    focus (intro w hS; go_simp; first | done | with_reducible rfl | (refine ⟨?_, ?_⟩ <;> with_reducible rfl))
    ·
     intro w2 hS
     refine (mvalueF_is (V := V) (nv := V.length) (ar := (kk : Int)) (p := p14) (cap := c14) (hC14.mono hS) (hM19.up hS) (hV.mono hS) GC.out.wf hcl3 hal rfl hVm HVA.out).mono ?_
     rintro e v2 ⟨q245, cq245, rfl, hX245, hf245, hbl⟩
     clear hf245
     refine ⟨_, rfl, (fun x => Below v2.heap.size v2 x), Below.refl _ _, ?_⟩
     have hXw := Nat.le_trans zz hS.size; have hXa := Nat.le_trans hacc.size hS.size
     have hX := btr hS hbl
     replace hC14 := hC14.mono hX; replace hM19 := hM19.up hX; replace hV := hV.mono hX; replace hbw := btr hbw hX; replace zz := Nat.le_trans zz (Below.size hX); replace hacc := btr hacc hX
     clear hX hS hbl hXw hXa
     (try simp only [Act.put, zA, zB, zC])
     refine seqE_move rfl (by rfl) ?_ seqE_stop
     intro w3 hS
     refine ⟨.pointer (some ⟨w3.heap.size, 0, none⟩), w3.alloc (.cells #[.int .i64 0, .slice none 0 0] 44), (by go_simp; try with_reducible rfl), ?_⟩
     obtain ⟨b49, hb49⟩ : ∃ b, b = w3.heap.size := ⟨_, rfl⟩
     obtain ⟨v3, hw3⟩ : ∃ zW, zW = w3.alloc (.cells #[.int .i64 0, .slice none 0 0] 44) := ⟨_, rfl⟩
     rw [← hw3, ← hb49]
     have hbl : Below w3.heap.size w3 v3 := by rw [hw3]; go_grown
     have hge49 : s + 0 ≤ b49 := by rw [hb49]; exact Nat.le_trans zz hS.size
     have hga49 : wc.heap.size ≤ b49 := by rw [hb49]; exact Nat.le_trans hacc.size hS.size
     have hoff : ∀ ad, q245 = some ad → b49 ≠ ad.block := fun ad h => by have := hX245.lt ad h; have := hS.size; omega
     refine ⟨(fun x => Below v3.heap.size v3 x), Below.refl _ _, fun x hx => btr (btr hS hbl) hx, ?_⟩
     have hX := btr hS hbl
     replace hX245 := hX245.up hX; replace hbw := btr hbw hX; replace zz := Nat.le_trans zz (Below.size hX); replace hacc := btr hacc hX
     have hs : Cells v3 [(b49, 0, .int .i64 0), (b49, 1, .slice none 0 0)] := ⟨⟨by rw [hw3, hb49]; go_cell, by rw [hw3, hb49]; go_cell⟩, ⟨by rw [hw3, hb49]; go_cell, by rw [hw3, hb49]; go_cell⟩, trivial⟩
     clear hX hS hbl hw3 hb49
     (try simp only [Act.put, zA, zB, zC])
     refine seqE_storeB rfl (by rfl) ?_ seqE_stop
     intro w4 hS
     replace hs := hs.up hS; replace hX245 := hX245.up hS; replace hbw := btr hbw hS; replace zz := Nat.le_trans zz (Below.size hS); replace hacc := btr hacc hS
     obtain ⟨⟨d490, d490f⟩, ⟨d491, d491f⟩, -⟩ := id hs
     refine ⟨((w4.setCell ⟨b49, 0, none⟩ (.int .i64 kk)).setCell ⟨b49, 1, none⟩ (.slice q245 va.length cq245)), (by go_simp; try with_reducible rfl), (fun x => Below (((w4.setCell ⟨b49, 0, none⟩ (.int .i64 kk)).setCell ⟨b49, 1, none⟩ (.slice q245 va.length cq245))).heap.size (((w4.setCell ⟨b49, 0, none⟩ (.int .i64 kk)).setCell ⟨b49, 1, none⟩ (.slice q245 va.length cq245))) x), Below.refl _ _, ?_⟩
     obtain ⟨v4, hw⟩ : ∃ zW, zW = ((w4.setCell ⟨b49, 0, none⟩ (.int .i64 kk)).setCell ⟨b49, 1, none⟩ (.slice q245 va.length cq245)) := ⟨_, rfl⟩
     rw [← hw]
     replace hs : Cells v4 [(b49, 0, .int .i64 kk), (b49, 1, .slice q245 va.length cq245)] := by rw [hw]; exact ⟨⟨by go_cell, (fz (fz d490f))⟩, ⟨by go_cell, (fz (fz d491f))⟩, trivial⟩
     replace hX245 : SI v4 q245 cq245 va := by rw [hw]; exact ((hX245.set (hoff) _).set (hoff) _)
     replace hbw : Below w.heap.size w v4 := by rw [hw]; exact (Below.setCell (Below.setCell hbw (by have h := HS.out; (try dsimp only); omega) _) (by have h := HS.out; (try dsimp only); omega) _)
     replace hacc : Below wc.heap.size wc v4 := by rw [hw]; exact (Below.setCell (Below.setCell hacc (by have h := HS.out; (try dsimp only); omega) _) (by have h := HS.out; (try dsimp only); omega) _)
     replace zz : s + 0 ≤ v4.heap.size := by rw [hw]; simpa using zz
     clear hw
     clear d490 d490f d491 d491f
     clear hS
     (try simp only [Act.put, zA, zB, zC])
     refine seqE_nil ?_
     intro wz hS
     replace hs := hs.up hS; replace hX245 := hX245.up hS; replace hbw := btr hbw hS; replace zz := Nat.le_trans zz (Below.size hS); replace hacc := btr hacc hS; clear hS
     obtain ⟨⟨d490, d490f⟩, ⟨d491, d491f⟩, -⟩ := id hs
     go_wp2_with fail
     go_meet
     exact ⟨⟨_, rfl, _, _, hs, hX245⟩, hacc⟩
    refine seqE_move rfl (by rfl) ?_ seqE_stop
    intro w5 hS
    refine ⟨.pointer (some ⟨w5.heap.size, 0, none⟩), w5.alloc (.cells #[.int .i64 0, .slice none 0 0] 44), (by go_simp; try with_reducible rfl), ?_⟩
    obtain ⟨b49, hb49⟩ : ∃ b, b = w5.heap.size := ⟨_, rfl⟩
    obtain ⟨v5, hw5⟩ : ∃ zW, zW = w5.alloc (.cells #[.int .i64 0, .slice none 0 0] 44) := ⟨_, rfl⟩
    rw [← hw5, ← hb49]
    have hbl : Below w5.heap.size w5 v5 := by rw [hw5]; go_grown
    have hge49 : s + 0 ≤ b49 := by rw [hb49]; exact Nat.le_trans zz hS.size
    have hga49 : wc.heap.size ≤ b49 := by rw [hb49]; exact Nat.le_trans hacc.size hS.size
    refine ⟨(fun x => Below v5.heap.size v5 x), Below.refl _ _, fun x hx => btr (btr hS hbl) hx, ?_⟩
    have hX := btr hS hbl
    replace hC14 := hC14.mono hX; replace hM19 := hM19.up hX; replace hV := hV.mono hX; replace hbw := btr hbw hX; replace zz := Nat.le_trans zz (Below.size hX); replace hacc := btr hacc hX
    have hs : Cells v5 [(b49, 0, .int .i64 0), (b49, 1, .slice none 0 0)] := ⟨⟨by rw [hw5, hb49]; go_cell, by rw [hw5, hb49]; go_cell⟩, ⟨by rw [hw5, hb49]; go_cell, by rw [hw5, hb49]; go_cell⟩, trivial⟩
    clear hX hS hbl hw5 hb49
    (try simp only [Act.put, zA, zB, zC])
    refine seqE_callB (f := ?_) (args := ?_) rfl (by rfl) ?_ ?_ seqE_stop
    rotate_left 2
    focus (intro w hS; go_simp; first | done | with_reducible rfl | (refine ⟨?_, ?_⟩ <;> with_reducible rfl))
    intro w6 hS
    refine (mvalueF_is (V := V) (nv := V.length) (ar := (kk : Int)) (p := p14) (cap := c14) (hC14.mono hS) (hM19.up hS) (hV.mono hS) GC.out.wf hcl3 hal rfl hVm HVA.out).mono ?_
    rintro e v6 ⟨q245, cq245, rfl, hX245, hf245, hbl⟩
    have hlo : b49 < _ := Nat.lt_of_lt_of_le (World.block_lt_of_cell? _ _ hs.1.1) hS.size
    have hoff : ∀ ad, q245 = some ad → b49 ≠ ad.block := fun ad h => by have := hf245 ad h; omega
    clear hlo hf245
    refine ⟨_, rfl, (fun x => Below v6.heap.size v6 x), Below.refl _ _, ?_⟩
    have hXw := Nat.le_trans zz hS.size; have hXa := Nat.le_trans hacc.size hS.size
    have hX := btr hS hbl
    replace hs := hs.up hX; replace hC14 := hC14.mono hX; replace hM19 := hM19.up hX; replace hV := hV.mono hX; replace hbw := btr hbw hX; replace zz := Nat.le_trans zz (Below.size hX); replace hacc := btr hacc hX
    clear hX hS hbl hXw hXa
    (try simp only [Act.put, zA, zB, zC])
    refine seqE_storeB rfl (by rfl) ?_ seqE_stop
    intro w7 hS
    replace hs := hs.up hS; replace hX245 := hX245.up hS; replace hbw := btr hbw hS; replace zz := Nat.le_trans zz (Below.size hS); replace hacc := btr hacc hS
    obtain ⟨⟨d490, d490f⟩, ⟨d491, d491f⟩, -⟩ := id hs
    refine ⟨((w7.setCell ⟨b49, 0, none⟩ (.int .i64 kk)).setCell ⟨b49, 1, none⟩ (.slice q245 va.length cq245)), (by go_simp; try with_reducible rfl), (fun x => Below (((w7.setCell ⟨b49, 0, none⟩ (.int .i64 kk)).setCell ⟨b49, 1, none⟩ (.slice q245 va.length cq245))).heap.size (((w7.setCell ⟨b49, 0, none⟩ (.int .i64 kk)).setCell ⟨b49, 1, none⟩ (.slice q245 va.length cq245))) x), Below.refl _ _, ?_⟩
    obtain ⟨v7, hw⟩ : ∃ zW, zW = ((w7.setCell ⟨b49, 0, none⟩ (.int .i64 kk)).setCell ⟨b49, 1, none⟩ (.slice q245 va.length cq245)) := ⟨_, rfl⟩
    rw [← hw]
    replace hs : Cells v7 [(b49, 0, .int .i64 kk), (b49, 1, .slice q245 va.length cq245)] := by rw [hw]; exact ⟨⟨by go_cell, (fz (fz d490f))⟩, ⟨by go_cell, (fz (fz d491f))⟩, trivial⟩
    replace hX245 : SI v7 q245 cq245 va := by rw [hw]; exact ((hX245.set (hoff) _).set (hoff) _)
    replace hbw : Below w.heap.size w v7 := by rw [hw]; exact (Below.setCell (Below.setCell hbw (by have h := HS.out; (try dsimp only); omega) _) (by have h := HS.out; (try dsimp only); omega) _)
    replace hacc : Below wc.heap.size wc v7 := by rw [hw]; exact (Below.setCell (Below.setCell hacc (by have h := HS.out; (try dsimp only); omega) _) (by have h := HS.out; (try dsimp only); omega) _)
    replace zz : s + 0 ≤ v7.heap.size := by rw [hw]; simpa using zz
    clear hw
    clear d490 d490f d491 d491f
    clear hS
    (try simp only [Act.put, zA, zB, zC])
    refine seqE_nil ?_
    intro wz hS
    replace hs := hs.up hS; replace hX245 := hX245.up hS; replace hbw := btr hbw hS; replace zz := Nat.le_trans zz (Below.size hS); replace hacc := btr hacc hS; clear hS
    obtain ⟨⟨d490, d490f⟩, ⟨d491, d491f⟩, -⟩ := id hs
    go_wp2_with fail
    go_meet
    exact ⟨⟨_, rfl, _, _, hs, hX245⟩, hacc⟩
   refine seqE_move rfl (by rfl) ?_ seqE_stop
   intro w8 hS
   refine ⟨.pointer (some ⟨w8.heap.size, 0, none⟩), w8.alloc (.cells #[.int .i64 0, .slice none 0 0] 44), (by go_simp; try with_reducible rfl), ?_⟩
   obtain ⟨b49, hb49⟩ : ∃ b, b = w8.heap.size := ⟨_, rfl⟩
   obtain ⟨v8, hw8⟩ : ∃ zW, zW = w8.alloc (.cells #[.int .i64 0, .slice none 0 0] 44) := ⟨_, rfl⟩
   rw [← hw8, ← hb49]
   have hbl : Below w8.heap.size w8 v8 := by rw [hw8]; go_grown
   have hge49 : s + 0 ≤ b49 := by rw [hb49]; exact Nat.le_trans zz hS.size
   have hga49 : wc.heap.size ≤ b49 := by rw [hb49]; exact Nat.le_trans hacc.size hS.size
   refine ⟨(fun x => Below v8.heap.size v8 x), Below.refl _ _, fun x hx => btr (btr hS hbl) hx, ?_⟩
   have hX := btr hS hbl
   replace hC14 := hC14.mono hX; replace hM19 := hM19.up hX; replace hbw := btr hbw hX; replace zz := Nat.le_trans zz (Below.size hX); replace hacc := btr hacc hX
   have hs : Cells v8 [(b49, 0, .int .i64 0), (b49, 1, .slice none 0 0)] := ⟨⟨by rw [hw8, hb49]; go_cell, by rw [hw8, hb49]; go_cell⟩, ⟨by rw [hw8, hb49]; go_cell, by rw [hw8, hb49]; go_cell⟩, trivial⟩
   clear hX hS hbl hw8 hb49
   (try simp only [Act.put, zA, zB, zC])
   refine seqE_call (f := ?_) (args := ?_) rfl (by rfl) ?_ ?_ seqE_stop
   rotate_left 2
   focus (intro w hS; go_simp; first | done | with_reducible rfl | (refine ⟨?_, ?_⟩ <;> with_reducible rfl))
   intro w9 hS
   refine (values_is (b := (z0 : Int)) (by omega) (by omega) HVB.out).mono ?_
   rintro e v9 ⟨q244, cq244, rfl, hV, -, hbl⟩
   refine ⟨_, rfl, (fun x => Below v9.heap.size v9 x), Below.refl _ _, fun x hx => btr (btr hS hbl) hx, ?_⟩
   have hXw := Nat.le_trans zz hS.size; have hXa := Nat.le_trans hacc.size hS.size
   have hX := btr hS hbl
   replace hs := hs.up hX; replace hC14 := hC14.mono hX; replace hM19 := hM19.up hX; replace hbw := btr hbw hX; replace zz := Nat.le_trans zz (Below.size hX); replace hacc := btr hacc hX
   clear hX hS hbl hXw hXa
   (try simp only [Act.put, zA, zB, zC])
   refine seqE_callB (f := ?_) (args := ?_) rfl (by rfl) ?_ ?_ seqE_stop
   rotate_left 2
   focus (intro w hS; go_simp; first | done | with_reducible rfl | (refine ⟨?_, ?_⟩ <;> with_reducible rfl))
   intro w10 hS
   refine (mvalueF_is (V := V) (nv := V.length) (ar := (kk : Int)) (p := p14) (cap := c14) (hC14.mono hS) (hM19.up hS) (hV.mono hS) GC.out.wf hcl3 hal rfl hVm HVA.out).mono ?_
   rintro e v10 ⟨q245, cq245, rfl, hX245, hf245, hbl⟩
   have hlo : b49 < _ := Nat.lt_of_lt_of_le (World.block_lt_of_cell? _ _ hs.1.1) hS.size
   have hoff : ∀ ad, q245 = some ad → b49 ≠ ad.block := fun ad h => by have := hf245 ad h; omega
   clear hlo hf245
   refine ⟨_, rfl, (fun x => Below v10.heap.size v10 x), Below.refl _ _, ?_⟩
   have hXw := Nat.le_trans zz hS.size; have hXa := Nat.le_trans hacc.size hS.size
   have hX := btr hS hbl
   replace hs := hs.up hX; replace hC14 := hC14.mono hX; replace hM19 := hM19.up hX; replace hV := hV.mono hX; replace hbw := btr hbw hX; replace zz := Nat.le_trans zz (Below.size hX); replace hacc := btr hacc hX
   clear hX hS hbl hXw hXa
   (try simp only [Act.put, zA, zB, zC])
   refine seqE_storeB rfl (by rfl) ?_ seqE_stop
   intro w11 hS
   replace hs := hs.up hS; replace hX245 := hX245.up hS; replace hbw := btr hbw hS; replace zz := Nat.le_trans zz (Below.size hS); replace hacc := btr hacc hS
   obtain ⟨⟨d490, d490f⟩, ⟨d491, d491f⟩, -⟩ := id hs
   refine ⟨((w11.setCell ⟨b49, 0, none⟩ (.int .i64 kk)).setCell ⟨b49, 1, none⟩ (.slice q245 va.length cq245)), (by go_simp; try with_reducible rfl), (fun x => Below (((w11.setCell ⟨b49, 0, none⟩ (.int .i64 kk)).setCell ⟨b49, 1, none⟩ (.slice q245 va.length cq245))).heap.size (((w11.setCell ⟨b49, 0, none⟩ (.int .i64 kk)).setCell ⟨b49, 1, none⟩ (.slice q245 va.length cq245))) x), Below.refl _ _, ?_⟩
   obtain ⟨v11, hw⟩ : ∃ zW, zW = ((w11.setCell ⟨b49, 0, none⟩ (.int .i64 kk)).setCell ⟨b49, 1, none⟩ (.slice q245 va.length cq245)) := ⟨_, rfl⟩
   rw [← hw]
   replace hs : Cells v11 [(b49, 0, .int .i64 kk), (b49, 1, .slice q245 va.length cq245)] := by rw [hw]; exact ⟨⟨by go_cell, (fz (fz d490f))⟩, ⟨by go_cell, (fz (fz d491f))⟩, trivial⟩
   replace hX245 : SI v11 q245 cq245 va := by rw [hw]; exact ((hX245.set (hoff) _).set (hoff) _)
   replace hbw : Below w.heap.size w v11 := by rw [hw]; exact (Below.setCell (Below.setCell hbw (by have h := HS.out; (try dsimp only); omega) _) (by have h := HS.out; (try dsimp only); omega) _)
   replace hacc : Below wc.heap.size wc v11 := by rw [hw]; exact (Below.setCell (Below.setCell hacc (by have h := HS.out; (try dsimp only); omega) _) (by have h := HS.out; (try dsimp only); omega) _)
   replace zz : s + 0 ≤ v11.heap.size := by rw [hw]; simpa using zz
   clear hw
   clear d490 d490f d491 d491f
   clear hS
   (try simp only [Act.put, zA, zB, zC])
   refine seqE_nil ?_
   intro wz hS
   replace hs := hs.up hS; replace hX245 := hX245.up hS; replace hbw := btr hbw hS; replace zz := Nat.le_trans zz (Below.size hS); replace hacc := btr hacc hS; clear hS
   obtain ⟨⟨d490, d490f⟩, ⟨d491, d491f⟩, -⟩ := id hs
   go_wp2_with fail
   go_meet
   exact ⟨⟨_, rfl, _, _, hs, hX245⟩, hacc⟩
 clear k14 k14f hC14
 clear m19 m19f n19 n19f hM19
 obtain ⟨⟨b49, rfl, hN49⟩, hst⟩ := hcut
 replace hB14 := hB14.up hst
 replace hN19 := hN19.up hst
 replace hN20 := hN20.up hst
 replace hB37 := hB37.up hst
 replace hB39 := hB39.up hst
 replace hB41 := hB41.up hst
 replace hB43 := hB43.up hst
 replace hB45 := hB45.up hst
 replace hB47 := hB47.up hst
 replace hW := btr hW hst
 clear hst
 go_upto_region 27 with fail
 obtain ⟨p14, c14, k14, k14f, hC14⟩ := id hB14
 obtain ⟨q19, cq19, ⟨⟨m19, m19f⟩, ⟨n19, n19f⟩, -⟩, hM19⟩ := id hN19
 go_cut [50] from 246 to 250 (fun s50 wx => (∃ b : Nat, s50 = .pointer (some ⟨b, 0, none⟩) ∧ BR wx b kk va) ∧ Below wc.heap.size wc wx)
 case first =>
  as_aux_lemma =>
   obtain ⟨s, hs0⟩ : ∃ s, w.heap.size = s := ⟨_, rfl⟩
   have HS := Lib.hid hs0; clear hs0
   have hbw := hW
   have zz : s + 0 ≤ wc.heap.size := by have := HS.out; have := hW.size; omega
   have hk : Cells wc [(b14, 0, .slice p14 (c).length c14), (b19, 0, .int .i64 kk), (b19, 1, .slice q19 (a).length cq19)] := ⟨⟨k14, k14f⟩, ⟨m19, m19f⟩, ⟨n19, n19f⟩, trivial⟩
   clear k14 k14f m19 m19f n19 n19f
   have hacc : Below wc.heap.size wc wc := Below.refl _ _
   clear hW
   refine wp_region_seqE (fun x => Below wc.heap.size wc x) (.one 0 0 (.one 1 0 (.one 2 1 (.alt 3 2 (.alt 4 3 (.alt 5 2 (.alt 6 3 .nil .stop) .stop) (.alt 5 2 (.alt 4 3 (.alt 6 3 .nil .stop) .stop) .stop)) (.alt 5 2 (.alt 3 2 (.alt 4 3 (.alt 6 3 .nil .stop) .stop) .stop) .stop))))) (by kernel_rfl) (by kernel_rfl) (by kernel_rfl) (Below.drew (Below.refl _ _)) ?_
   iterate 3 ((first | (refine seqE_free (v := ?_) rfl (by rfl) ?_ ?_; rotate_left; (focus (intro w; go_simp; try with_reducible rfl))) | (refine seqE_pure (v := ?_) rfl (by rfl) ?_ ?_; rotate_left; (focus (intro w hS; obtain ⟨⟨k14, -⟩, ⟨m19, -⟩, ⟨n19, -⟩, -⟩ := hk.up hS; go_simp; try with_reducible rfl)))); (try simp only [Act.put, zA, zB, zC]))
   clear hk
   refine seqE_call (f := ?_) (args := ?_) rfl (by rfl) ?_ ?_ ?_
   rotate_left 2
   focus (intro w hS; go_simp; first | done | with_reducible rfl | (refine ⟨?_, ?_⟩ <;> with_reducible rfl))
   ·
    intro w1 hS
    refine (values_is (b := (z0 : Int)) (by omega) (by omega) HVB.out).mono ?_
    rintro e v1 ⟨q249, cq249, rfl, hV, -, hbl⟩
    refine ⟨_, rfl, (fun x => Below v1.heap.size v1 x), Below.refl _ _, fun x hx => btr (btr hS hbl) hx, ?_⟩
    have hXw := Nat.le_trans zz hS.size; have hXa := Nat.le_trans hacc.size hS.size
    have hX := btr hS hbl
    replace hC14 := hC14.mono hX; replace hM19 := hM19.up hX; replace hbw := btr hbw hX; replace zz := Nat.le_trans zz (Below.size hX); replace hacc := btr hacc hX
    clear hX hS hbl hXw hXa
    (try simp only [Act.put, zA, zB, zC])
    refine seqE_callB (f := ?_) (args := ?_) rfl (by rfl) ?_ ?_ ?_
    rotate_left 2
    focus (intro w hS; go_simp; first | done | with_reducible rfl | (refine ⟨?_, ?_⟩ <;> with_reducible rfl))
    ·
     intro w2 hS
     refine (rvalueF_is (V := V) (nv := V.length) (ar := (kk : Int)) (p := p14) (cap := c14) (hC14.mono hS) (hM19.up hS) (hV.mono hS) GC.out.wf hcl3 hal rfl hVm HVA.out).mono ?_
     rintro e v2 ⟨q250, cq250, rfl, hX250, hf250, hbl⟩
     clear hf250
     refine ⟨_, rfl, (fun x => Below v2.heap.size v2 x), Below.refl _ _, ?_⟩
     have hXw := Nat.le_trans zz hS.size; have hXa := Nat.le_trans hacc.size hS.size
     have hX := btr hS hbl
     replace hC14 := hC14.mono hX; replace hM19 := hM19.up hX; replace hV := hV.mono hX; replace hbw := btr hbw hX; replace zz := Nat.le_trans zz (Below.size hX); replace hacc := btr hacc hX
     clear hX hS hbl hXw hXa
     (try simp only [Act.put, zA, zB, zC])
     refine seqE_move rfl (by rfl) ?_ seqE_stop
     intro w3 hS
     refine ⟨.pointer (some ⟨w3.heap.size, 0, none⟩), w3.alloc (.cells #[.int .i64 0, .slice none 0 0] 44), (by go_simp; try with_reducible rfl), ?_⟩
     obtain ⟨b50, hb50⟩ : ∃ b, b = w3.heap.size := ⟨_, rfl⟩
     obtain ⟨v3, hw3⟩ : ∃ zW, zW = w3.alloc (.cells #[.int .i64 0, .slice none 0 0] 44) := ⟨_, rfl⟩
     rw [← hw3, ← hb50]
     have hbl : Below w3.heap.size w3 v3 := by rw [hw3]; go_grown
     have hge50 : s + 0 ≤ b50 := by rw [hb50]; exact Nat.le_trans zz hS.size
     have hga50 : wc.heap.size ≤ b50 := by rw [hb50]; exact Nat.le_trans hacc.size hS.size
     have hoff : ∀ ad, q250 = some ad → b50 ≠ ad.block := fun ad h => by have := hX250.lt ad h; have := hS.size; omega
     refine ⟨(fun x => Below v3.heap.size v3 x), Below.refl _ _, fun x hx => btr (btr hS hbl) hx, ?_⟩
     have hX := btr hS hbl
     replace hX250 := hX250.up hX; replace hbw := btr hbw hX; replace zz := Nat.le_trans zz (Below.size hX); replace hacc := btr hacc hX
     have hs : Cells v3 [(b50, 0, .int .i64 0), (b50, 1, .slice none 0 0)] := ⟨⟨by rw [hw3, hb50]; go_cell, by rw [hw3, hb50]; go_cell⟩, ⟨by rw [hw3, hb50]; go_cell, by rw [hw3, hb50]; go_cell⟩, trivial⟩
     clear hX hS hbl hw3 hb50
     (try simp only [Act.put, zA, zB, zC])
     refine seqE_storeB rfl (by rfl) ?_ seqE_stop
     intro w4 hS
     replace hs := hs.up hS; replace hX250 := hX250.up hS; replace hbw := btr hbw hS; replace zz := Nat.le_trans zz (Below.size hS); replace hacc := btr hacc hS
     obtain ⟨⟨d500, d500f⟩, ⟨d501, d501f⟩, -⟩ := id hs
     refine ⟨((w4.setCell ⟨b50, 0, none⟩ (.int .i64 kk)).setCell ⟨b50, 1, none⟩ (.slice q250 va.length cq250)), (by go_simp; try with_reducible rfl), (fun x => Below (((w4.setCell ⟨b50, 0, none⟩ (.int .i64 kk)).setCell ⟨b50, 1, none⟩ (.slice q250 va.length cq250))).heap.size (((w4.setCell ⟨b50, 0, none⟩ (.int .i64 kk)).setCell ⟨b50, 1, none⟩ (.slice q250 va.length cq250))) x), Below.refl _ _, ?_⟩
     obtain ⟨v4, hw⟩ : ∃ zW, zW = ((w4.setCell ⟨b50, 0, none⟩ (.int .i64 kk)).setCell ⟨b50, 1, none⟩ (.slice q250 va.length cq250)) := ⟨_, rfl⟩
     rw [← hw]
     replace hs : Cells v4 [(b50, 0, .int .i64 kk), (b50, 1, .slice q250 va.length cq250)] := by rw [hw]; exact ⟨⟨by go_cell, (fz (fz d500f))⟩, ⟨by go_cell, (fz (fz d501f))⟩, trivial⟩
     replace hX250 : SI v4 q250 cq250 va := by rw [hw]; exact ((hX250.set (hoff) _).set (hoff) _)
     replace hbw : Below w.heap.size w v4 := by rw [hw]; exact (Below.setCell (Below.setCell hbw (by have h := HS.out; (try dsimp only); omega) _) (by have h := HS.out; (try dsimp only); omega) _)
     replace hacc : Below wc.heap.size wc v4 := by rw [hw]; exact (Below.setCell (Below.setCell hacc (by have h := HS.out; (try dsimp only); omega) _) (by have h := HS.out; (try dsimp only); omega) _)
     replace zz : s + 0 ≤ v4.heap.size := by rw [hw]; simpa using zz
     clear hw
     clear d500 d500f d501 d501f
     clear hS
     (try simp only [Act.put, zA, zB, zC])
     refine seqE_nil ?_
     intro wz hS
     replace hs := hs.up hS; replace hX250 := hX250.up hS; replace hbw := btr hbw hS; replace zz := Nat.le_trans zz (Below.size hS); replace hacc := btr hacc hS; clear hS
     obtain ⟨⟨d500, d500f⟩, ⟨d501, d501f⟩, -⟩ := id hs
     go_wp2_with fail
     go_meet
     exact ⟨⟨_, rfl, _, _, hs, hX250⟩, hacc⟩
    refine seqE_move rfl (by rfl) ?_ seqE_stop
    intro w5 hS
    refine ⟨.pointer (some ⟨w5.heap.size, 0, none⟩), w5.alloc (.cells #[.int .i64 0, .slice none 0 0] 44), (by go_simp; try with_reducible rfl), ?_⟩
    obtain ⟨b50, hb50⟩ : ∃ b, b = w5.heap.size := ⟨_, rfl⟩
    obtain ⟨v5, hw5⟩ : ∃ zW, zW = w5.alloc (.cells #[.int .i64 0, .slice none 0 0] 44) := ⟨_, rfl⟩
    rw [← hw5, ← hb50]
    have hbl : Below w5.heap.size w5 v5 := by rw [hw5]; go_grown
    have hge50 : s + 0 ≤ b50 := by rw [hb50]; exact Nat.le_trans zz hS.size
    have hga50 : wc.heap.size ≤ b50 := by rw [hb50]; exact Nat.le_trans hacc.size hS.size
    refine ⟨(fun x => Below v5.heap.size v5 x), Below.refl _ _, fun x hx => btr (btr hS hbl) hx, ?_⟩
    have hX := btr hS hbl
    replace hC14 := hC14.mono hX; replace hM19 := hM19.up hX; replace hV := hV.mono hX; replace hbw := btr hbw hX; replace zz := Nat.le_trans zz (Below.size hX); replace hacc := btr hacc hX
    have hs : Cells v5 [(b50, 0, .int .i64 0), (b50, 1, .slice none 0 0)] := ⟨⟨by rw [hw5, hb50]; go_cell, by rw [hw5, hb50]; go_cell⟩, ⟨by rw [hw5, hb50]; go_cell, by rw [hw5, hb50]; go_cell⟩, trivial⟩
    clear hX hS hbl hw5 hb50
    (try simp only [Act.put, zA, zB, zC])
    refine seqE_callB (f := ?_) (args := ?_) rfl (by rfl) ?_ ?_ seqE_stop
    rotate_left 2
    focus (intro w hS; go_simp; first | done | with_reducible rfl | (refine ⟨?_, ?_⟩ <;> with_reducible rfl))
    intro w6 hS
    refine (rvalueF_is (V := V) (nv := V.length) (ar := (kk : Int)) (p := p14) (cap := c14) (hC14.mono hS) (hM19.up hS) (hV.mono hS) GC.out.wf hcl3 hal rfl hVm HVA.out).mono ?_
    rintro e v6 ⟨q250, cq250, rfl, hX250, hf250, hbl⟩
    have hlo : b50 < _ := Nat.lt_of_lt_of_le (World.block_lt_of_cell? _ _ hs.1.1) hS.size
    have hoff : ∀ ad, q250 = some ad → b50 ≠ ad.block := fun ad h => by have := hf250 ad h; omega
    clear hlo hf250
    refine ⟨_, rfl, (fun x => Below v6.heap.size v6 x), Below.refl _ _, ?_⟩
    have hXw := Nat.le_trans zz hS.size; have hXa := Nat.le_trans hacc.size hS.size
    have hX := btr hS hbl
    replace hs := hs.up hX; replace hC14 := hC14.mono hX; replace hM19 := hM19.up hX; replace hV := hV.mono hX; replace hbw := btr hbw hX; replace zz := Nat.le_trans zz (Below.size hX); replace hacc := btr hacc hX
    clear hX hS hbl hXw hXa
    (try simp only [Act.put, zA, zB, zC])
    refine seqE_storeB rfl (by rfl) ?_ seqE_stop
    intro w7 hS
    replace hs := hs.up hS; replace hX250 := hX250.up hS; replace hbw := btr hbw hS; replace zz := Nat.le_trans zz (Below.size hS); replace hacc := btr hacc hS
    obtain ⟨⟨d500, d500f⟩, ⟨d501, d501f⟩, -⟩ := id hs
    refine ⟨((w7.setCell ⟨b50, 0, none⟩ (.int .i64 kk)).setCell ⟨b50, 1, none⟩ (.slice q250 va.length cq250)), (by go_simp; try with_reducible rfl), (fun x => Below (((w7.setCell ⟨b50, 0, none⟩ (.int .i64 kk)).setCell ⟨b50, 1, none⟩ (.slice q250 va.length cq250))).heap.size (((w7.setCell ⟨b50, 0, none⟩ (.int .i64 kk)).setCell ⟨b50, 1, none⟩ (.slice q250 va.length cq250))) x), Below.refl _ _, ?_⟩
    obtain ⟨v7, hw⟩ : ∃ zW, zW = ((w7.setCell ⟨b50, 0, none⟩ (.int .i64 kk)).setCell ⟨b50, 1, none⟩ (.slice q250 va.length cq250)) := ⟨_, rfl⟩
    rw [← hw]
    replace hs : Cells v7 [(b50, 0, .int .i64 kk), (b50, 1, .slice q250 va.length cq250)] := by rw [hw]; exact ⟨⟨by go_cell, (fz (fz d500f))⟩, ⟨by go_cell, (fz (fz d501f))⟩, trivial⟩
    replace hX250 : SI v7 q250 cq250 va := by rw [hw]; exact ((hX250.set (hoff) _).set (hoff) _)
    replace hbw : Below w.heap.size w v7 := by rw [hw]; exact (Below.setCell (Below.setCell hbw (by have h := HS.out; (try dsimp only); omega) _) (by have h := HS.out; (try dsimp only); omega) _)
    replace hacc : Below wc.heap.size wc v7 := by rw [hw]; exact (Below.setCell (Below.setCell hacc (by have h := HS.out; (try dsimp only); omega) _) (by have h := HS.out; (try dsimp only); omega) _)
    replace zz : s + 0 ≤ v7.heap.size := by rw [hw]; simpa using zz
    clear hw
    clear d500 d500f d501 d501f
    clear hS
    (try simp only [Act.put, zA, zB, zC])
    refine seqE_nil ?_
    intro wz hS
    replace hs := hs.up hS; replace hX250 := hX250.up hS; replace hbw := btr hbw hS; replace zz := Nat.le_trans zz (Below.size hS); replace hacc := btr hacc hS; clear hS
    obtain ⟨⟨d500, d500f⟩, ⟨d501, d501f⟩, -⟩ := id hs
    go_wp2_with fail
    go_meet
    exact ⟨⟨_, rfl, _, _, hs, hX250⟩, hacc⟩
   refine seqE_move rfl (by rfl) ?_ seqE_stop
   intro w8 hS
   refine ⟨.pointer (some ⟨w8.heap.size, 0, none⟩), w8.alloc (.cells #[.int .i64 0, .slice none 0 0] 44), (by go_simp; try with_reducible rfl), ?_⟩
   obtain ⟨b50, hb50⟩ : ∃ b, b = w8.heap.size := ⟨_, rfl⟩
   obtain ⟨v8, hw8⟩ : ∃ zW, zW = w8.alloc (.cells #[.int .i64 0, .slice none 0 0] 44) := ⟨_, rfl⟩
   rw [← hw8, ← hb50]
   have hbl : Below w8.heap.size w8 v8 := by rw [hw8]; go_grown
   have hge50 : s + 0 ≤ b50 := by rw [hb50]; exact Nat.le_trans zz hS.size
   have hga50 : wc.heap.size ≤ b50 := by rw [hb50]; exact Nat.le_trans hacc.size hS.size
   refine ⟨(fun x => Below v8.heap.size v8 x), Below.refl _ _, fun x hx => btr (btr hS hbl) hx, ?_⟩
   have hX := btr hS hbl
   replace hC14 := hC14.mono hX; replace hM19 := hM19.up hX; replace hbw := btr hbw hX; replace zz := Nat.le_trans zz (Below.size hX); replace hacc := btr hacc hX
   have hs : Cells v8 [(b50, 0, .int .i64 0), (b50, 1, .slice none 0 0)] := ⟨⟨by rw [hw8, hb50]; go_cell, by rw [hw8, hb50]; go_cell⟩, ⟨by rw [hw8, hb50]; go_cell, by rw [hw8, hb50]; go_cell⟩, trivial⟩
   clear hX hS hbl hw8 hb50
   (try simp only [Act.put, zA, zB, zC])
   refine seqE_call (f := ?_) (args := ?_) rfl (by rfl) ?_ ?_ seqE_stop
   rotate_left 2
   focus (intro w hS; go_simp; first | done | with_reducible rfl | (refine ⟨?_, ?_⟩ <;> with_reducible rfl))
   intro w9 hS
   refine (values_is (b := (z0 : Int)) (by omega) (by omega) HVB.out).mono ?_
   rintro e v9 ⟨q249, cq249, rfl, hV, -, hbl⟩
   refine ⟨_, rfl, (fun x => Below v9.heap.size v9 x), Below.refl _ _, fun x hx => btr (btr hS hbl) hx, ?_⟩
   have hXw := Nat.le_trans zz hS.size; have hXa := Nat.le_trans hacc.size hS.size
   have hX := btr hS hbl
   replace hs := hs.up hX; replace hC14 := hC14.mono hX; replace hM19 := hM19.up hX; replace hbw := btr hbw hX; replace zz := Nat.le_trans zz (Below.size hX); replace hacc := btr hacc hX
   clear hX hS hbl hXw hXa
   (try simp only [Act.put, zA, zB, zC])
   refine seqE_callB (f := ?_) (args := ?_) rfl (by rfl) ?_ ?_ seqE_stop
   rotate_left 2
   focus (intro w hS; go_simp; first | done | with_reducible rfl | (refine ⟨?_, ?_⟩ <;> with_reducible rfl))
   intro w10 hS
   refine (rvalueF_is (V := V) (nv := V.length) (ar := (kk : Int)) (p := p14) (cap := c14) (hC14.mono hS) (hM19.up hS) (hV.mono hS) GC.out.wf hcl3 hal rfl hVm HVA.out).mono ?_
   rintro e v10 ⟨q250, cq250, rfl, hX250, hf250, hbl⟩
   have hlo : b50 < _ := Nat.lt_of_lt_of_le (World.block_lt_of_cell? _ _ hs.1.1) hS.size
   have hoff : ∀ ad, q250 = some ad → b50 ≠ ad.block := fun ad h => by have := hf250 ad h; omega
   clear hlo hf250
   refine ⟨_, rfl, (fun x => Below v10.heap.size v10 x), Below.refl _ _, ?_⟩
   have hXw := Nat.le_trans zz hS.size; have hXa := Nat.le_trans hacc.size hS.size
   have hX := btr hS hbl
   replace hs := hs.up hX; replace hC14 := hC14.mono hX; replace hM19 := hM19.up hX; replace hV := hV.mono hX; replace hbw := btr hbw hX; replace zz := Nat.le_trans zz (Below.size hX); replace hacc := btr hacc hX
   clear hX hS hbl hXw hXa
   (try simp only [Act.put, zA, zB, zC])
   refine seqE_storeB rfl (by rfl) ?_ seqE_stop
   intro w11 hS
   replace hs := hs.up hS; replace hX250 := hX250.up hS; replace hbw := btr hbw hS; replace zz := Nat.le_trans zz (Below.size hS); replace hacc := btr hacc hS
   obtain ⟨⟨d500, d500f⟩, ⟨d501, d501f⟩, -⟩ := id hs
   refine ⟨((w11.setCell ⟨b50, 0, none⟩ (.int .i64 kk)).setCell ⟨b50, 1, none⟩ (.slice q250 va.length cq250)), (by go_simp; try with_reducible rfl), (fun x => Below (((w11.setCell ⟨b50, 0, none⟩ (.int .i64 kk)).setCell ⟨b50, 1, none⟩ (.slice q250 va.length cq250))).heap.size (((w11.setCell ⟨b50, 0, none⟩ (.int .i64 kk)).setCell ⟨b50, 1, none⟩ (.slice q250 va.length cq250))) x), Below.refl _ _, ?_⟩
   obtain ⟨v11, hw⟩ : ∃ zW, zW = ((w11.setCell ⟨b50, 0, none⟩ (.int .i64 kk)).setCell ⟨b50, 1, none⟩ (.slice q250 va.length cq250)) := ⟨_, rfl⟩
   rw [← hw]
   replace hs : Cells v11 [(b50, 0, .int .i64 kk), (b50, 1, .slice q250 va.length cq250)] := by rw [hw]; exact ⟨⟨by go_cell, (fz (fz d500f))⟩, ⟨by go_cell, (fz (fz d501f))⟩, trivial⟩
   replace hX250 : SI v11 q250 cq250 va := by rw [hw]; exact ((hX250.set (hoff) _).set (hoff) _)
   replace hbw : Below w.heap.size w v11 := by rw [hw]; exact (Below.setCell (Below.setCell hbw (by have h := HS.out; (try dsimp only); omega) _) (by have h := HS.out; (try dsimp only); omega) _)
   replace hacc : Below wc.heap.size wc v11 := by rw [hw]; exact (Below.setCell (Below.setCell hacc (by have h := HS.out; (try dsimp only); omega) _) (by have h := HS.out; (try dsimp only); omega) _)
   replace zz : s + 0 ≤ v11.heap.size := by rw [hw]; simpa using zz
   clear hw
   clear d500 d500f d501 d501f
   clear hS
   (try simp only [Act.put, zA, zB, zC])
   refine seqE_nil ?_
   intro wz hS
   replace hs := hs.up hS; replace hX250 := hX250.up hS; replace hbw := btr hbw hS; replace zz := Nat.le_trans zz (Below.size hS); replace hacc := btr hacc hS; clear hS
   obtain ⟨⟨d500, d500f⟩, ⟨d501, d501f⟩, -⟩ := id hs
   go_wp2_with fail
   go_meet
   exact ⟨⟨_, rfl, _, _, hs, hX250⟩, hacc⟩
 clear k14 k14f hC14
 clear m19 m19f n19 n19f hM19
 obtain ⟨⟨b50, rfl, hN50⟩, hst⟩ := hcut
 replace hB14 := hB14.up hst
 replace hN19 := hN19.up hst
 replace hN20 := hN20.up hst
 replace hB37 := hB37.up hst
 replace hB39 := hB39.up hst
 replace hB41 := hB41.up hst
 replace hB43 := hB43.up hst
 replace hB45 := hB45.up hst
 replace hB47 := hB47.up hst
 replace hN49 := hN49.up hst
 replace hW := btr hW hst
 clear hst
 clear hB14
 clear hN19
 clear hN20
 go_upto_region 28 with fail
 obtain ⟨p37, c37, k37, k37f, hC37⟩ := id hB37
 obtain ⟨p39, c39, k39, k39f, hC39⟩ := id hB39
 obtain ⟨p41, c41, k41, k41f, hC41⟩ := id hB41
 obtain ⟨p43, c43, k43, k43f, hC43⟩ := id hB43
 obtain ⟨p45, c45, k45, k45f, hC45⟩ := id hB45
 obtain ⟨p47, c47, k47, k47f, hC47⟩ := id hB47
 obtain ⟨q49, cq49, ⟨⟨m49, m49f⟩, ⟨n49, n49f⟩, -⟩, hM49⟩ := id hN49
 obtain ⟨q50, cq50, ⟨⟨m50, m50f⟩, ⟨n50, n50f⟩, -⟩, hM50⟩ := id hN50
 obtain ⟨s, hs0⟩ : ∃ s, wc.heap.size = s := ⟨_, rfl⟩
 have HS := Lib.hid hs0; clear hs0
 obtain ⟨tab, htab⟩ : ∃ t : Nat → Ent, t = tabL [(4, eK (.bool true)), (14, eK (.bool true)), (24, eK (.bool true)), (34, eK (.bool true)), (38, eM kk ma), (40, eM kk ma), (41, eK (.bool true))] := ⟨_, rfl⟩
 refine wp_region_tab wc tab [(0, 0), (1, 0), (2, 0), (3, 0), (4, 1), (5, 0), (6, 0), (7, 0), (8, 0), (9, 0), (10, 0), (11, 0), (12, 0), (13, 0), (14, 1), (15, 0), (16, 0), (17, 0), (18, 0), (19, 0), (20, 0), (21, 0), (22, 0), (23, 0), (24, 1), (25, 0), (26, 0), (27, 0), (28, 0), (29, 0), (30, 0), (31, 0), (32, 0), (33, 0), (34, 1), (35, 0), (36, 0), (37, 0), (38, 1), (39, 0), (40, 1), (41, 1), (42, 0), (43, 0)] .nil (by kernel_rfl) (by kernel_rfl) (by kernel_rfl) (Below.drew (Below.refl _ _)) ?_
 iterate 2 (refine seqX_pure (v := ?_) rfl (by rfl) ?_ ?_; rotate_left; (focus (intro w hS hF; go_simp; try with_reducible rfl)); (try simp only [Act.put, zA, zB, zC]))
 refine seqX_pure (v := ?_) rfl (by rfl) ?_ ?_
 rotate_left
 · (intro w hS hF; have kk := zD hS k37; go_simp; try with_reducible rfl)
 (try simp only [Act.put, zA, zB, zC])
 refine seqX_pure (v := ?_) rfl (by rfl) ?_ ?_
 rotate_left
 · (intro w hS hF; have kk := zD hS k39; go_simp; try with_reducible rfl)
 (try simp only [Act.put, zA, zB, zC])
 refine seqX_call (e := eK (.bool true)) (f := ?_) (args := ?_) (by rw [htab]; rfl) rfl (by rfl) ?_ ?_ ?_
 rotate_left 2
 · (intro w; go_simp; first | done | with_reducible rfl | (refine ⟨?_, ?_⟩ <;> with_reducible rfl))
 · (intro w hS hF; refine (same_is hC37 hC39 hS (csame_self d5)).mono ?_; intro e w' h; exact keep_x h)
 rintro ⟨p255, c255, q255, d255, b255⟩
 (try dsimp only [eCM, eC, eCI, eM, eR, eS, eX, eB, eK, eVC, eVM])
 (try simp only [Act.put, zA, zB, zC])
 iterate 7 (refine seqX_pure (v := ?_) rfl (by rfl) ?_ ?_; rotate_left; (focus (intro w hS hF; go_simp; try with_reducible rfl)); (try simp only [Act.put, zA, zB, zC]))
 refine seqX_pure (v := ?_) rfl (by rfl) ?_ ?_
 rotate_left
 · (intro w hS hF; have kk := zD hS k41; go_simp; try with_reducible rfl)
 (try simp only [Act.put, zA, zB, zC])
 refine seqX_pure (v := ?_) rfl (by rfl) ?_ ?_
 rotate_left
 · (intro w hS hF; have kk := zD hS k43; go_simp; try with_reducible rfl)
 (try simp only [Act.put, zA, zB, zC])
 refine seqX_call (e := eK (.bool true)) (f := ?_) (args := ?_) (by rw [htab]; rfl) rfl (by rfl) ?_ ?_ ?_
 rotate_left 2
 · (intro w; go_simp; first | done | with_reducible rfl | (refine ⟨?_, ?_⟩ <;> with_reducible rfl))
 · (intro w hS hF; refine (same_is hC41 hC43 hS (csame_self d6)).mono ?_; intro e w' h; exact keep_x h)
 rintro ⟨p265, c265, q265, d265, b265⟩
 (try dsimp only [eCM, eC, eCI, eM, eR, eS, eX, eB, eK, eVC, eVM])
 (try simp only [Act.put, zA, zB, zC])
 iterate 7 (refine seqX_pure (v := ?_) rfl (by rfl) ?_ ?_; rotate_left; (focus (intro w hS hF; go_simp; try with_reducible rfl)); (try simp only [Act.put, zA, zB, zC]))
 refine seqX_pure (v := ?_) rfl (by rfl) ?_ ?_
 rotate_left
 · (intro w hS hF; have kk := zD hS k45; go_simp; try with_reducible rfl)
 (try simp only [Act.put, zA, zB, zC])
 refine seqX_pure (v := ?_) rfl (by rfl) ?_ ?_
 rotate_left
 · (intro w hS hF; have kk := zD hS k47; go_simp; try with_reducible rfl)
 (try simp only [Act.put, zA, zB, zC])
 refine seqX_call (e := eK (.bool true)) (f := ?_) (args := ?_) (by rw [htab]; rfl) rfl (by rfl) ?_ ?_ ?_
 rotate_left 2
 · (intro w; go_simp; first | done | with_reducible rfl | (refine ⟨?_, ?_⟩ <;> with_reducible rfl))
 · (intro w hS hF; refine (same_is hC45 hC47 hS (csame_self d7)).mono ?_; intro e w' h; exact keep_x h)
 rintro ⟨p275, c275, q275, d275, b275⟩
 (try dsimp only [eCM, eC, eCI, eM, eR, eS, eX, eB, eK, eVC, eVM])
 (try simp only [Act.put, zA, zB, zC])
 iterate 7 (refine seqX_pure (v := ?_) rfl (by rfl) ?_ ?_; rotate_left; (focus (intro w hS hF; go_simp; try with_reducible rfl)); (try simp only [Act.put, zA, zB, zC]))
 refine seqX_pure (v := ?_) rfl (by rfl) ?_ ?_
 rotate_left
 · (intro w hS hF; have kk := zD hS m49; have kk2 := zD hS n49; go_simp; try with_reducible rfl)
 (try simp only [Act.put, zA, zB, zC])
 refine seqX_pure (v := ?_) rfl (by rfl) ?_ ?_
 rotate_left
 · (intro w hS hF; have kk := zD hS m50; have kk2 := zD hS n50; go_simp; try with_reducible rfl)
 (try simp only [Act.put, zA, zB, zC])
 refine seqX_call (e := eK (.bool true)) (f := ?_) (args := ?_) (by rw [htab]; rfl) rfl (by rfl) ?_ ?_ ?_
 rotate_left 2
 · (intro w; go_simp; first | done | with_reducible rfl | (refine ⟨?_, ?_⟩ <;> with_reducible rfl))
 · (intro w hS hF; refine (requal_is (hM49.up hS) (hM50.up hS) rfl).mono ?_; intro e w' h; exact keep_x h)
 rintro ⟨p285, c285, q285, d285, b285⟩
 (try dsimp only [eCM, eC, eCI, eM, eR, eS, eX, eB, eK, eVC, eVM])
 (try simp only [Act.put, zA, zB, zC])
 iterate 2 (refine seqX_pure (v := ?_) rfl (by rfl) ?_ ?_; rotate_left; (focus (intro w hS hF; go_simp; try with_reducible rfl)); (try simp only [Act.put, zA, zB, zC]))
 refine seqX_pure (v := ?_) rfl (by rfl) ?_ ?_
 rotate_left
 · (intro w hS hF; have kk := zD hS m50; have kk2 := zD hS n50; go_simp; try with_reducible rfl)
 (try simp only [Act.put, zA, zB, zC])
 refine seqX_call (e := eM kk ma) (f := ?_) (args := ?_) (by rw [htab]; rfl) rfl (by rfl) ?_ ?_ ?_
 rotate_left 2
 · (intro w; go_simp; first | done | with_reducible rfl | (refine ⟨?_, ?_⟩ <;> with_reducible rfl))
 · (intro w hS hF; refine (const_is (ar := kk) (hM50.up hS) (by omega) HMA.out).mono ?_; intro e w' h; exact RetM.x h)
 rintro ⟨p289, c289, q289, d289, b289⟩
 (try dsimp only [eCM, eC, eCI, eM, eR, eS, eX, eB, eK, eVC, eVM])
 (try simp only [Act.put, zA, zB, zC])
 refine seqX_pure (v := ?_) rfl (by rfl) ?_ ?_
 rotate_left
 · (intro w hS hF; have kk := zD hS m50; have kk2 := zD hS n50; go_simp; try with_reducible rfl)
 (try simp only [Act.put, zA, zB, zC])
 refine seqX_call (e := eM kk ma) (f := ?_) (args := ?_) (by rw [htab]; rfl) rfl (by rfl) ?_ ?_ ?_
 rotate_left 2
 · (intro w; go_simp; first | done | with_reducible rfl | (refine ⟨?_, ?_⟩ <;> with_reducible rfl))
 · (intro w hS hF; refine (rconst_is (ar := kk) (hM50.up hS) (by omega) HMA.out).mono ?_; intro e w' h; exact RetM.x h)
 rintro ⟨p291, c291, q291, d291, b291⟩
 (try dsimp only [eCM, eC, eCI, eM, eR, eS, eX, eB, eK, eVC, eVM])
 (try simp only [Act.put, zA, zB, zC])
 refine seqX_call (e := eK (.bool true)) (f := ?_) (args := ?_) (by rw [htab]; rfl) rfl (by rfl) ?_ ?_ ?_
 rotate_left 2
 · (intro w; go_simp; first | done | with_reducible rfl | (refine ⟨?_, ?_⟩ <;> with_reducible rfl))
 · (intro w hS hF; have f1 : MxAt w q289 d289 ma := hF 38 (by kernel_rfl); have f2 : MxAt w q291 d291 ma := hF 40 (by kernel_rfl); refine (same14_is (ar := kk) f1 f2 (Below.refl _ _) (by omega)).mono ?_; intro e w' h; exact keep_x h)
 rintro ⟨p292, c292, q292, d292, b292⟩
 (try dsimp only [eCM, eC, eCI, eM, eR, eS, eX, eB, eK, eVC, eVM])
 (try simp only [Act.put, zA, zB, zC])
 iterate 2 (refine seqX_pure (v := ?_) rfl (by rfl) ?_ ?_; rotate_left; (focus (intro w hS hF; go_simp; try with_reducible rfl)); (try simp only [Act.put, zA, zB, zC]))
 refine seqX_nil ?_
 refine seqE_nil ?_
 intro w hS
 go_wp2_with fail
 go_ret
 exact ⟨rfl, btr hW hS.1⟩
end Go.Proofs.Ytadilppdlbhjnaa
