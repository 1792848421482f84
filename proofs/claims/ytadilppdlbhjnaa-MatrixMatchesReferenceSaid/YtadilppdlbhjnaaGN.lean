import Derived.Test.YtadilppdlbhjnaaGI
import Derived.Test.YtadilppdlbhjnaaGH
import Derived.Test.YtadilppdlbhjnaaJ1
import Derived.Test.YtadilppdlbhjnaaGF
namespace Go.Proofs.Ytadilppdlbhjnaa
set_option linter.unusedSimpArgs false
set_option linter.unusedVariables false
open Go.RowKit
theorem butM_is {L : List Nat} {c d : List Gate} {x y r : Int} {b : Nat} {w : World} (hx : x ≤ 9223372036854775807) (hy : y ≤ 1000000) (hl : c.length ≤ 20000) (hB : BxA L w b c) (hL : ∀ k ∈ L, k < w.heap.size) (e : cbut c x y = (d, r)) :
 Calls Try.prog 90 #[.pointer (some ⟨b, 0, none⟩), .int .i64 x, .int .i64 y] w (MRet L w b (d, r)) := e ▸ butM_any L c x y b w hx hy hl hB hL
theorem find_is {m : List Cell} {ar r y : Int} {p : Option Addr} {cap : Nat} {w : World} (hM : MxAt w p cap m) (hs : Sorted m) (hr : ∀ x ∈ m, 0 ≤ x.rank ∧ x.rank ≤ 1000000) (hl : m.length ≤ 100000) (h2 : -1000000 ≤ r) (h3 : r ≤ 1000000) (e : mat m r = y) :
 Calls Try.prog 91 #[.agg #[.int .i64 ar, .slice p m.length cap], .int .i64 r] w fun e w' => e = .returned (.int .i64 y) ∧ Below w.heap.size w w' := e ▸ find_any m ar r p cap w hM hs hr hl h2 h3
theorem in_pre {N : Int} {c : List Gate} {a b : List Cell} (hg : Good c) (hl : c.length + 2 * a.length ≤ 20000) (ha : ∀ x ∈ a, In c x.ref) (hb : MOk c N b) (k : Nat) (hk : k ≤ a.length) :
 Grow c ((a.take k).foldl (inStep b) (c, 0)).1 (2 * k) ∧ In ((a.take k).foldl (inStep b) (c, 0)).1 ((a.take k).foldl (inStep b) (c, 0)).2 := by
 have hlt : (a.take k).length = k := by rw [List.length_take]; omega
 have h := inRun_ok (a.take k) c b 0 hg (by rw [hlt]; omega) (in_0 hg.ne) (fun x hx => ha x (List.mem_of_mem_take hx)) hb
 rw [hlt] at h
 exact ⟨h.1, h.2.1⟩
theorem or_pre {c : List Gate} {l : List Int} (hg : Good c) (hl : c.length + l.length ≤ 20000) (hr : ∀ r ∈ l, In c r) (k : Nat) (hk : k ≤ l.length) :
 Grow c (orAll (l.take k) (c, 1)).1 k ∧ In (orAll (l.take k) (c, 1)).1 (orAll (l.take k) (c, 1)).2 := by
 have hlt : (l.take k).length = k := by rw [List.length_take]; omega
 have h := orAll_ok (l.take k) c 1 hg (by rw [hlt]; omega) (in_1 hg.ne) (fun r hx => hr r (List.mem_of_mem_take hx))
 rw [hlt] at h
 exact ⟨h.1, h.2.1⟩
set_option maxRecDepth 100000 in
set_option maxHeartbeats 4000000 in
theorem in_any (c : List Gate) (a b : List Cell) (ar1 ar2 N : Int) (p pa pb : Option Addr) (cap ca cb : Nat) (w : World) (hC : CAt w p cap c) (hA : MxAt w pa ca a) (hD : MxAt w pb cb b) (hg : Good c) (hl : c.length + 2 * a.length + 2 ≤ 20000) (ha : MOk c N a) (hb : MOk c N b) (hN : N ≤ 100000) (hbl : b.length ≤ 100000) :
 Calls Try.prog 37 #[.agg #[.slice p c.length cap], .agg #[.int .i64 ar1, .slice pa a.length ca], .agg #[.int .i64 ar2, .slice pb b.length cb]] w (RetC w (mIn c a b).1 (mIn c a b).2) := by
 obtain ⟨s, hs0⟩ : ∃ s, w.heap.size = s := ⟨_, rfl⟩
 obtain ⟨W2, hW2⟩ : ∃ W2, W2 = (((((w.alloc (.cells #[.slice p c.length cap] 27)).alloc (.cells #[.int .i64 ar1, .slice pa a.length ca] 30)).alloc (.cells #[.int .i64 ar2, .slice pb b.length cb] 30)).alloc (.cells #[.slice none 0 0] 27)).alloc (.cells #[.slice p c.length cap] 87)) := ⟨_, rfl⟩
 have hbw : Below w.heap.size w W2 := by rw [hW2]; go_grown
 have zz : s + 5 ≤ W2.heap.size := by rw [hW2, ← hs0]; simp
 have hs : Cells W2 [(s + 2, 0, .int .i64 ar2), (s + 2, 1, .slice pb b.length cb), (s + 3, 0, .slice none 0 0), (s + 4, 0, .slice p c.length cap)] := by rw [hW2, ← hs0]; exact ⟨⟨by go_cell, by go_cell⟩, ⟨by go_cell, by go_cell⟩, ⟨by go_cell, by go_cell⟩, ⟨by go_cell, by go_cell⟩, trivial⟩
 have hk : Cells W2 [(s, 0, .slice p c.length cap), (s + 1, 0, .int .i64 ar1), (s + 1, 1, .slice pa a.length ca)] := by rw [hW2, ← hs0]; exact ⟨⟨by go_cell, by go_cell⟩, ⟨by go_cell, by go_cell⟩, ⟨by go_cell, by go_cell⟩, trivial⟩
 have HW2 := Lib.hid hW2; have HS := Lib.hid hs0
 clear hW2 hs0
 have hc0 : 0 < c.length := hg.ne
 have LO := Lib.hid (in_pre (b := b) hg (by omega) (fun x hx => ha.ref_in hx) hb)
 have HMA := Lib.hid ha; have HMB := Lib.hid hb; have HA := Lib.hid hA; have HD := Lib.hid hD; have HG := Lib.hid hg
 obtain ⟨L0, hL0⟩ : ∃ L, L = (s + 3) :: oth s p := ⟨_, rfl⟩
 have hpl : ∀ ad, p = some ad → ad.block < s := by rw [← HS.out]; exact hC.lt hc0
 have hL1 : ∀ k ∈ L0, k < W2.heap.size := by
  intro k hk; rw [hL0] at hk
  simp only [List.mem_cons] at hk
  rcases hk with e | hk
  all_goals first | omega | (have := oth_lt hk; omega)
 have hL3 : ∀ ad, p = some ad → ad.block ∉ L0 := by
  intro ad h hm; rw [hL0] at hm
  have := hpl ad h
  simp only [List.mem_cons] at hm
  rcases hm with e | hm
  all_goals first | omega | exact oth_not h hm
 have HL2 := Lib.hid (show ∀ k, k ∉ L0 → k ≠ s + 3 from by
  intro k hk; rw [hL0] at hk
  simp only [List.mem_cons, not_or] at hk
  exact hk.1)
 obtain ⟨⟨x0, -⟩, ⟨x1, -⟩, ⟨z0, z0f⟩, ⟨z1, z1f⟩, -⟩ := id hs
 have hBx : BxA L0 W2 (s + 4) c := ⟨p, cap, z1, z1f, hC.mono hbw, hL3⟩
 have HRS := Lib.hid z0; have HRF := Lib.hid z0f; have HBW := Lib.hid hbw; have HB0 := Lib.hid x0; have HB1 := Lib.hid x1
 clear hA hD ha hb hg hC hL0 hL3 hpl z0 z0f z1 z1f x0 x1
 clear hs
 go_enter Try.func37, Try.ntmps37
 go_upto_region 2 with fail
 rw [← HW2.out]
 simp only [HS.out, Nat.add_assoc, Nat.reduceAdd]
 obtain ⟨⟨y00, y00f⟩, ⟨y10, y10f⟩, ⟨y11, y11f⟩, -⟩ := id hk
 clear hbw
 go_wp2_with fail
 clear hk y00 y00f y10 y10f y11 y11f
 go_loopg [18, 9] a.length (fun M s18 s9 wr => ∃ (K : Nat) (C : List Gate) (r : Int), s18 = .int .i64 K ∧ s9 = .int .i64 r ∧ K ≤ a.length ∧ M = a.length - K ∧ (a.take K).foldl (inStep b) (c, 0) = (C, r) ∧ BxA L0 wr (s + 4) C ∧ KeepX [s + 4] W2 wr)
 case atStart => exact ⟨0, c, 0, rfl, rfl, by omega, rfl, rfl, hBx, KeepX.refl _ _⟩
 clear hBx
 obtain ⟨K, C, r, rfl, rfl, hK, hM, hrun, hBx, hkx⟩ := hrel
 obtain ⟨gC, iS⟩ := LO.out K hK
 rw [hrun] at gC iS
 dsimp only at gC iS
 have hCl := gC.len; have hCg := gC.ge
 have iS1 := iS.1; have iS2 := iS.2
 have HM := Lib.hid hM; have HR := Lib.hid hrun; have GC := Lib.hid gC; have IS := Lib.hid iS; clear hM hrun gC iS
 have hszr := hkx.size
 have hBR : Below w.heap.size w wr := KeepX.below' HBW.out hkx HBW.out.size (by have := HS.out; simp; omega)
 have hLr : ∀ k ∈ L0, k < wr.heap.size := fun k hk => Nat.lt_of_lt_of_le (hL1 k hk) hszr
 by_cases hlt : K < a.length
 case pos =>
  have hlt0 : (0 : Int) ≤ (K : Int) := by omega
  have hlt1 : (K : Int) < (a.length : Int) := by omega
  obtain ⟨x, hx⟩ : ∃ x, a[K]? = some x := ⟨_, List.getElem?_eq_getElem hlt⟩
  obtain ⟨bx, ox, rfl, hbx, jx0, jx1⟩ := cell_cells HA.out.at' hx
  have hx1 := HMA.out.ranks x (List.mem_of_getElem? hx)
  have hx2 := HMA.out.refs x (List.mem_of_getElem? hx)
  replace jx0 := oldcell hBR jx0 hbx; replace jx1 := oldcell hBR jx1 hbx
  have HNX := Lib.hid (show (a.take (K + 1)).foldl (inStep b) (c, 0) = inStep b ((a.take K).foldl (inStep b) (c, 0)) x by obtain ⟨h1, h2⟩ := List.getElem?_eq_some_iff.1 hx; rw [List.take_succ_eq_append_getElem h1, h2, List.foldl_append]; rfl)
  obtain ⟨xr, hxr⟩ : ∃ z, x.rank = z := ⟨_, rfl⟩
  obtain ⟨xf, hxf⟩ : ∃ z, x.ref = z := ⟨_, rfl⟩
  rw [hxr] at jx0 hx1; rw [hxf] at jx1 hx2
  have HXF := Lib.hid hxf; have HXR := Lib.hid hxr; clear hxr hxf hx hbx
  obtain ⟨y, e0⟩ : ∃ y, mat b xr = y := ⟨_, rfl⟩
  obtain ⟨D, u, e1⟩ : ∃ D u, cbut C xf y = (D, u) := ⟨_, _, rfl⟩
  obtain ⟨E, t, e2⟩ : ∃ E t, cbut D r u = (E, t) := ⟨_, _, rfl⟩
  have iX : In C xf := ⟨hx2.1, by omega⟩
  have iY : In C y := by rw [← e0]; exact (HMB.out.mat_in' HG.out xr).up GC.out
  obtain ⟨g1, j1, _⟩ := ok_but.one GC.out.good (by omega) iX iY
  rw [e1] at g1 j1; dsimp only at g1 j1
  have l1 := g1.len; have q1 := g1.ge
  have ju1 := j1.1; have ju2 := j1.2; have jy1 := iY.1; have jy2 := iY.2
  have E0 := Lib.hid e0; have E1 := Lib.hid e1; have E2 := Lib.hid e2
  clear e0 e1 e2 g1 j1 iX iY
  have hlC : C.length ≤ 20000 := by omega
  have hlD : D.length ≤ 20000 := by omega
  have p0 := hkx.cell HB0.out (by simp)
  have p1 := hkx.cell HB1.out (by simp)
  go_upto_region 5 with fail
  obtain ⟨b11, hb11⟩ : ∃ b, b = wr.heap.size := ⟨_, rfl⟩
  obtain ⟨wx, hwx⟩ : ∃ x, x = wr.alloc (.cells #[.int .i64 xr, .int .i64 xf] 76) := ⟨_, rfl⟩
  rw [← hwx, ← hb11]
  have hBx1 : Below wr.heap.size wr wx := by rw [hwx]; go_grown
  have z0 : wx.cell? ⟨b11, 0, none⟩ = some (.int .i64 xr) := by rw [hwx, hb11]; go_cell
  have z1 : wx.cell? ⟨b11, 1, none⟩ = some (.int .i64 xf) := by rw [hwx, hb11]; go_cell
  replace p0 := zD hBx1 p0; replace p1 := zD hBx1 p1
  replace hBx := hBx.upB hBx1; replace hkx := hkx.upB hBx1
  have hLx : ∀ k ∈ L0, k < wx.heap.size := fun k hk => Nat.lt_of_lt_of_le (hLr k hk) hBx1.size
  have hbw := btr hBR hBx1
  have zz : s + 5 ≤ wx.heap.size := by have := hBx1.size; omega
  clear hwx hBx1 jx0 jx1 hBR hszr hb11 hLr
  refine wp_region_seqE (fun x => Below wx.heap.size wx x) (.one 0 1 (.one 1 1 (.one 2 1 (.one 3 1 (.one 4 0 (.one 5 0 (.one 6 1 (.one 7 0 (.alt 8 2 (.alt 9 3 (.alt 10 3 (.one 11 1 .nil) .stop) .stop) .stop))))))))) (by kernel_rfl) (by kernel_rfl) (by kernel_rfl) (Below.drew (Below.refl _ _)) ?_
  iterate 8 ((first | (refine seqE_free (v := ?_) rfl (by rfl) ?_ ?_; rotate_left; (focus (intro w; go_simp; try with_reducible rfl))) | (refine seqE_pure (v := ?_) rfl (by rfl) ?_ ?_; rotate_left; (focus (intro w hS; have z0 := zD hS z0; have z1 := zD hS z1; have p0 := zD hS p0; have p1 := zD hS p1; go_simp; try with_reducible rfl)))); (try simp only [Act.put, zA, zB, zC]))
  refine seqE_keep (v := .int .i64 y) (f := ?_) (args := ?_) rfl (by rfl) ?_ ?_ ?_ seqE_stop
  rotate_left 2
  focus (intro w hS; go_simp; first | done | with_reducible rfl | (refine ⟨?_, ?_⟩ <;> with_reducible rfl))
  focus (intro w hS; refine (find_is (HD.out.up (btr hbw hS)) HMB.out.sorted (fun x hx => by have := HMB.out.ranks x hx; omega) hbl (by omega) (by omega) E0.out).mono ?_; rintro e w2 ⟨rfl, hbl⟩; exact ⟨rfl, btr hS hbl⟩)
  (try simp only [Act.put, zA, zB, zC])
  refine seqE_callB (f := ?_) (args := ?_) rfl (by rfl) ?_ ?_ seqE_stop
  rotate_left 2
  focus (intro w hS; go_simp; first | done | with_reducible rfl | (refine ⟨?_, ?_⟩ <;> with_reducible rfl))
  intro w2 hS
  have hX := hS.size
  refine (butM_is (by omega) (by omega) hlC (hBx.upB hS) (fun k hk => Nat.lt_of_lt_of_le (hLx k hk) hX) E1.out).mono ?_
  rintro e v2 ⟨rfl, hb2, hk2⟩
  refine ⟨_, rfl, (fun x => Below v2.heap.size v2 x), Below.refl _ _, ?_⟩
  have hL2 : ∀ k ∈ L0, k < v2.heap.size := fun k hk => Nat.lt_of_lt_of_le (hLx k hk) (Nat.le_trans hX hk2.size)
  replace hkx := (hkx.upB hS).trans hk2
  replace hbw : Below w.heap.size w v2 := KeepX.below' HBW.out hkx HBW.out.size (by have := HS.out; simp; omega)
  replace zz := Nat.le_trans zz (Nat.le_trans hX hk2.size)
  clear hS hX hk2 hBx
  clear z0 z1 p0 p1
  (try simp only [Act.put, zA, zB, zC])
  refine seqE_callB (f := ?_) (args := ?_) rfl (by rfl) ?_ ?_ seqE_stop
  rotate_left 2
  focus (intro w hS; go_simp; first | done | with_reducible rfl | (refine ⟨?_, ?_⟩ <;> with_reducible rfl))
  intro w3 hS
  have hX := hS.size
  refine (butM_is (by omega) (by omega) hlD (hb2.upB hS) (fun k hk => Nat.lt_of_lt_of_le (hL2 k hk) hX) E2.out).mono ?_
  rintro e v3 ⟨rfl, hb3, hk3⟩
  refine ⟨_, rfl, (fun x => Below v3.heap.size v3 x), Below.refl _ _, ?_⟩
  replace hkx := (hkx.upB hS).trans hk3
  replace hbw : Below w.heap.size w v3 := KeepX.below' HBW.out hkx HBW.out.size (by have := HS.out; simp; omega)
  replace zz := Nat.le_trans zz (Nat.le_trans hX hk3.size)
  clear hS hX hk3 hb2
  (try simp only [Act.put, zA, zB, zC])
  iterate 1 (refine seqE_free (v := ?_) rfl (by rfl) ?_ ?_; rotate_left; (focus (intro w; go_simp; try with_reducible rfl)); (try simp only [Act.put, zA, zB, zC]))
  refine seqE_nil ?_
  intro wz hS
  replace hb3 := hb3.upB hS; replace hkx := hkx.upB hS; replace hbw := btr hbw hS; replace zz := Nat.le_trans zz (Below.size hS); clear hS
  go_wp2_with fail
  go_roundg (a.length - (K + 1))
  case measure => (have := HM.out; omega)
  case rel => exact ⟨K + 1, E, t, by go_num, rfl, by omega, rfl, by rw [HNX.out, HR.out]; unfold inStep; dsimp only; rw [HXF.out, HXR.out, E0.out, E1.out]; exact E2.out, hb3, hkx⟩
 obtain rfl : K = a.length := by omega
 have HF := Lib.hid (show mIn c a b = (C, r) by unfold mIn; have h := HR.out; rw [List.take_length] at h; exact h)
 obtain ⟨pC, cC, e1, e1f, hCC, hnL⟩ := hBx
 have n2 : ∀ ad, pC = some ad → s + 3 ≠ ad.block := fun ad h e => (HL2.out _ (hnL ad h)) e.symm
 have r0 := hkx.cell HRS.out (by simp)
 have r0f := hkx.free HRF.out (World.block_lt_of_cell? _ _ HRS.out) (by simp)
 go_wp2_with fail
 obtain ⟨W9, hW9⟩ : ∃ W9, W9 = wr.setCell ⟨s + 3, 0, none⟩ (.slice pC C.length cC) := ⟨_, rfl⟩
 rw [← hW9]
 have r1 : W9.cell? ⟨s + 3, 0, none⟩ = some (.slice pC C.length cC) := by rw [hW9]; go_cell
 replace hCC : CAt W9 pC cC C := by rw [hW9]; exact hCC.set n2 _
 have B9 : Below w.heap.size w W9 := by rw [hW9]; exact Below.setCell hBR (by have h := HS.out; (try dsimp only); omega) _
 clear hW9
 rw [HF.out]
 refine bodyPost_ret (by simp [results, Try.results37, go_sem, r1]; try rfl) rfl ?_
 exact ⟨_, _, rfl, hCC, B9⟩
end Go.Proofs.Ytadilppdlbhjnaa
namespace Go.Proofs.Ytadilppdlbhjnaa
set_option linter.unusedSimpArgs false
set_option linter.unusedVariables false
open Go.RowKit
set_option maxRecDepth 100000 in
set_option maxHeartbeats 2000000 in
theorem fold_or (L0 : List Nat) (c : List Gate) (a : List Cell) (bb : Nat) (pa : Option Addr) (ca : Nat) (w : World) (hB : BxA L0 w bb c) (hL : ∀ k ∈ L0, k < w.heap.size) (hA : MxAt w pa ca a) (hna : ∀ ad, pa = some ad → ad.block ≠ bb) (hg : Good c) (hl : c.length + a.length + 2 ≤ 20000) (hr : ∀ x ∈ a, In c x.ref) :
 Calls Try.prog 92 #[.int .i64 1, .slice pa a.length ca, .func (.func 93) #[.pointer (some ⟨bb, 0, none⟩)] #[]] w (MRet L0 w bb (mSome c a)) := by
 have LO := Lib.hid (or_pre (l := a.map Cell.ref) hg (by rw [List.length_map]; omega) (fun r hr' => by obtain ⟨x, hx, rfl⟩ := List.mem_map.1 hr'; exact hr x hx))
 have HA := Lib.hid hA; have HR0 := Lib.hid hr; have HNA := Lib.hid hna
 clear hA hr hna hg
 go_enter Try.func92, Try.ntmps92
 go_wp2_with fail
 go_loopg [11, 0] a.length (fun M s11 s0 wr => ∃ (K : Nat) (C : List Gate) (r : Int), s11 = .int .i64 K ∧ s0 = .int .i64 r ∧ K ≤ a.length ∧ M = a.length - K ∧ orAll ((a.map Cell.ref).take K) (c, 1) = (C, r) ∧ BxA L0 wr bb C ∧ KeepX [bb] w wr)
 case atStart => exact ⟨0, c, 1, rfl, rfl, by omega, rfl, rfl, hB, KeepX.refl _ _⟩
 clear hB
 obtain ⟨K, C, r, rfl, rfl, hK, hM, hrun, hBx, hkx⟩ := hrel
 obtain ⟨gC, iS⟩ := LO.out K (by rw [List.length_map]; exact hK)
 rw [hrun] at gC iS
 dsimp only at gC iS
 have hCl := gC.len; have hCg := gC.ge
 have iS1 := iS.1; have iS2 := iS.2
 have HM := Lib.hid hM; have HR := Lib.hid hrun; have GC := Lib.hid gC; have IS := Lib.hid iS; clear hM hrun gC iS
 have hszr := hkx.size
 have hLr : ∀ k ∈ L0, k < wr.heap.size := fun k hk => Nat.lt_of_lt_of_le (hL k hk) hszr
 by_cases hlt : K < a.length
 case pos =>
  have hlt0 : (0 : Int) ≤ (K : Int) := by omega
  have hlt1 : (K : Int) < (a.length : Int) := by omega
  obtain ⟨x, hx⟩ : ∃ x, a[K]? = some x := ⟨_, List.getElem?_eq_getElem hlt⟩
  obtain ⟨bx, ox, rfl, hbx, jx0, jx1⟩ := cell_cells HA.out.at' hx
  have hx2 := HR0.out x (List.mem_of_getElem? hx)
  have hne := HNA.out _ rfl
  dsimp only at hne
  replace jx0 := hkx.cell jx0 (by simp; exact hne); replace jx1 := hkx.cell jx1 (by simp; exact hne)
  have HNX := Lib.hid (show orAll ((a.map Cell.ref).take (K + 1)) (c, 1) = cor (orAll ((a.map Cell.ref).take K) (c, 1)).1 (orAll ((a.map Cell.ref).take K) (c, 1)).2 x.ref by
   have h1 : (a.map Cell.ref)[K]? = some x.ref := by rw [List.getElem?_map, hx]; rfl
   obtain ⟨h1, h2⟩ := List.getElem?_eq_some_iff.1 h1
   rw [List.take_succ_eq_append_getElem h1, h2, orAll, List.foldl_append]; rfl)
  obtain ⟨xr, hxr⟩ : ∃ z, x.rank = z := ⟨_, rfl⟩
  obtain ⟨xf, hxf⟩ : ∃ z, x.ref = z := ⟨_, rfl⟩
  rw [hxr] at jx0; rw [hxf] at jx1 hx2
  have HXF := Lib.hid hxf; clear hxr hxf hx hbx
  have hx21 := hx2.1; have hx22 := hx2.2
  obtain ⟨D, t, e1⟩ : ∃ D t, cor C r xf = (D, t) := ⟨_, _, rfl⟩
  have E1 := Lib.hid e1
  clear e1
  have hlC : C.length ≤ 20000 := by rw [show C.length ≤ 20000 ↔ True by simp; omega]; trivial
  go_upto_region 4 with fail
  obtain ⟨b8, hb8⟩ : ∃ b, b = wr.heap.size := ⟨_, rfl⟩
  obtain ⟨wx, hwx⟩ : ∃ x, x = wr.alloc (.cells #[.int .i64 xr, .int .i64 xf] 76) := ⟨_, rfl⟩
  rw [← hwx, ← hb8]
  have hBx1 : Below wr.heap.size wr wx := by rw [hwx]; go_grown
  have z1 : wx.cell? ⟨b8, 1, none⟩ = some (.int .i64 xf) := by rw [hwx, hb8]; go_cell
  replace hBx := hBx.upB hBx1; replace hkx := hkx.upB hBx1
  have hLx : ∀ k ∈ L0, k < wx.heap.size := fun k hk => Nat.lt_of_lt_of_le (hLr k hk) hBx1.size
  clear hwx hBx1 jx0 jx1 hszr hb8 hLr
  go_wp2_with (first | (go_at_call 93; refine (orM_is (by omega) (by omega) hlC hBx hLx E1.out).mono ?_; rintro e w2 ⟨rfl, hb2, hk2⟩))
  go_roundg (a.length - (K + 1))
  case measure => (have := HM.out; omega)
  case rel => exact ⟨K + 1, D, t, by go_num, rfl, by omega, rfl, by rw [HNX.out, HR.out, HXF.out]; exact E1.out, hb2, hkx.trans hk2⟩
 obtain rfl : K = a.length := by omega
 have HF := Lib.hid (show mSome c a = (C, r) by unfold mSome; have h := HR.out; rw [← List.length_map (f := Cell.ref), List.take_length] at h; exact h)
 go_wp2_with fail
 go_ret
 rw [HF.out]
 exact ⟨rfl, hBx, hkx⟩
set_option maxRecDepth 100000 in
set_option maxHeartbeats 4000000 in
theorem some_any (c : List Gate) (a : List Cell) (ar N : Int) (p pa : Option Addr) (cap ca : Nat) (w : World) (hC : CAt w p cap c) (hA : MxAt w pa ca a) (hg : Good c) (hl : c.length + a.length + 2 ≤ 20000) (ha : MOk c N a) :
 Calls Try.prog 38 #[.agg #[.slice p c.length cap], .agg #[.int .i64 ar, .slice pa a.length ca]] w (RetC w (mSome c a).1 (mSome c a).2) := by
 obtain ⟨s, hs0⟩ : ∃ s, w.heap.size = s := ⟨_, rfl⟩
 obtain ⟨W2, hW2⟩ : ∃ W2, W2 = ((((w.alloc (.cells #[.slice p c.length cap] 27)).alloc (.cells #[.int .i64 ar, .slice pa a.length ca] 30)).alloc (.cells #[.slice none 0 0] 27)).alloc (.cells #[.slice p c.length cap] 87)) := ⟨_, rfl⟩
 have hbw : Below w.heap.size w W2 := by rw [hW2]; go_grown
 have zz : s + 4 ≤ W2.heap.size := by rw [hW2, ← hs0]; simp
 have hs : Cells W2 [(s + 1, 0, .int .i64 ar), (s + 1, 1, .slice pa a.length ca), (s + 2, 0, .slice none 0 0), (s + 3, 0, .slice p c.length cap)] := by rw [hW2, ← hs0]; exact ⟨⟨by go_cell, by go_cell⟩, ⟨by go_cell, by go_cell⟩, ⟨by go_cell, by go_cell⟩, ⟨by go_cell, by go_cell⟩, trivial⟩
 have hk : Cells W2 [(s, 0, .slice p c.length cap)] := by rw [hW2, ← hs0]; exact ⟨⟨by go_cell, by go_cell⟩, trivial⟩
 have HW2 := Lib.hid hW2; have HS := Lib.hid hs0
 clear hW2 hs0
 have hc0 : 0 < c.length := hg.ne
 have HMA := Lib.hid ha; have HA := Lib.hid hA; have HG := Lib.hid hg
 have hpa : ∀ ad, pa = some ad → ad.block ≠ s + 3 := fun ad h e => by have := hA.lt ad h; have := HS.out; omega
 obtain ⟨L0, hL0⟩ : ∃ L, L = (s + 2) :: oth s p := ⟨_, rfl⟩
 have hpl : ∀ ad, p = some ad → ad.block < s := by rw [← HS.out]; exact hC.lt hc0
 have hL1 : ∀ k ∈ L0, k < W2.heap.size := by
  intro k hk; rw [hL0] at hk
  simp only [List.mem_cons] at hk
  rcases hk with e | hk
  all_goals first | omega | (have := oth_lt hk; omega)
 have hL3 : ∀ ad, p = some ad → ad.block ∉ L0 := by
  intro ad h hm; rw [hL0] at hm
  have := hpl ad h
  simp only [List.mem_cons] at hm
  rcases hm with e | hm
  all_goals first | omega | exact oth_not h hm
 have HL2 := Lib.hid (show ∀ k, k ∉ L0 → k ≠ s + 2 from by
  intro k hk; rw [hL0] at hk
  simp only [List.mem_cons, not_or] at hk
  exact hk.1)
 obtain ⟨⟨x0, -⟩, ⟨x1, -⟩, ⟨z0, z0f⟩, ⟨z1, z1f⟩, -⟩ := id hs
 have hBx : BxA L0 W2 (s + 3) c := ⟨p, cap, z1, z1f, hC.mono hbw, hL3⟩
 clear ha hg hA hC hL0 hL3 hpl z1 z1f x0
 clear hs hk
 go_enter Try.func38, Try.ntmps38
 go_upto_region 2 with fail
 rw [← HW2.out]
 simp only [HS.out, Nat.add_assoc, Nat.reduceAdd]
 go_upto_region 3 with (first | (go_at_call 92; refine (fold_or L0 c a (s + 3) pa ca W2 hBx hL1 (HA.out.up hbw) hpa HG.out hl (fun x hx => HMA.out.ref_in hx)).mono ?_; rintro e w3 ⟨rfl, hb3, hk3⟩))
 obtain ⟨C, r, hCr⟩ : ∃ C r, mSome c a = (C, r) := ⟨_, _, rfl⟩
 rw [hCr] at hb3
 dsimp only at hb3
 have HCr := Lib.hid hCr
 obtain ⟨pC, cC, e1, e1f, hCC, hnL⟩ := hb3
 have n2 : ∀ ad, pC = some ad → s + 2 ≠ ad.block := fun ad h e => (HL2.out _ (hnL ad h)) e.symm
 have r0 := hk3.cell z0 (by simp)
 have r0f := hk3.free z0f (World.block_lt_of_cell? _ _ z0) (by simp)
 have hB3 : Below w.heap.size w w3 := KeepX.below' hbw hk3 hbw.size (by have := HS.out; simp; omega)
 clear hCr z0 z0f x1
 go_wp2_with fail
 obtain ⟨W9, hW9⟩ : ∃ W9, W9 = w3.setCell ⟨s + 2, 0, none⟩ (.slice pC C.length cC) := ⟨_, rfl⟩
 rw [← hW9]
 have r1 : W9.cell? ⟨s + 2, 0, none⟩ = some (.slice pC C.length cC) := by rw [hW9]; go_cell
 replace hCC : CAt W9 pC cC C := by rw [hW9]; exact hCC.set n2 _
 have B9 : Below w.heap.size w W9 := by rw [hW9]; exact Below.setCell hB3 (by have h := HS.out; (try dsimp only); omega) _
 clear hW9
 rw [HCr.out]
 refine bodyPost_ret (by simp [results, Try.results38, go_sem, r1]; try rfl) rfl ?_
 exact ⟨_, _, rfl, hCC, B9⟩
end Go.Proofs.Ytadilppdlbhjnaa
namespace Go.Proofs.Ytadilppdlbhjnaa
set_option linter.unusedSimpArgs false
set_option linter.unusedVariables false
open Go.RowKit
set_option maxRecDepth 100000 in
set_option maxHeartbeats 4000000 in
theorem mxvalid_no (c : List Gate) (m : List Cell) (y : Cell) (ar : Int) (p pm : Option Addr) (cap cm : Nat) (w : World) (hM : MxAt w pm cm m) (hl : c.length ≤ 20000) (hml : m.length ≤ 20000) (hy0 : m[0]? = some y) (hy1 : 0 ≤ y.rank ∧ y.rank ≤ 100000) (hy2 : 0 ≤ y.ref ∧ y.ref ≠ 1 ∧ y.ref ≤ 100000) (hy3 : (c.length : Int) ≤ y.ref / 2) :
 Calls Try.prog 28 #[.agg #[.slice p c.length cap], .agg #[.int .i64 ar, .slice pm m.length cm]] w (fun e w' => e = .returned (.bool false) ∧ Below w.heap.size w w') := by
 have HY0 := Lib.hid hy0; clear hy0
 obtain ⟨s, hs0⟩ : ∃ s, w.heap.size = s := ⟨_, rfl⟩
 obtain ⟨W2, hW2⟩ : ∃ W2, W2 = ((w.alloc (.cells #[.slice p c.length cap] 27)).alloc (.cells #[.int .i64 ar, .slice pm m.length cm] 30)) := ⟨_, rfl⟩
 have hbw : Below w.heap.size w W2 := by rw [hW2]; go_grown
 have zz : s + 2 ≤ W2.heap.size := by rw [hW2, ← hs0]; simp
 have hk : Cells W2 [(s, 0, .slice p c.length cap), (s + 1, 0, .int .i64 ar), (s + 1, 1, .slice pm m.length cm)] := by rw [hW2, ← hs0]; exact ⟨⟨by go_cell, by go_cell⟩, ⟨by go_cell, by go_cell⟩, ⟨by go_cell, by go_cell⟩, trivial⟩
 have HW2 := Lib.hid hW2; have HS := Lib.hid hs0
 clear hW2 hs0
 replace hM : MxAt W2 pm cm m := hM.up hbw
 go_enter Try.func28, Try.ntmps28
 go_upto_region 1 with fail
 rw [← HW2.out]
 simp only [HS.out, Nat.add_assoc, Nat.reduceAdd]
 obtain ⟨⟨y00, y00f⟩, ⟨y10, y10f⟩, ⟨y11, y11f⟩, -⟩ := id hk
 go_upto_region 2 with fail
 obtain ⟨w3, hw⟩ : ∃ zW, zW = (W2.alloc (.cells #[.slice p c.length cap] 87)) := ⟨_, rfl⟩
 rw [← hw]
 obtain ⟨b5, hb5⟩ : ∃ zW, zW = W2.heap.size := ⟨_, rfl⟩
 rw [← hb5]
 have hbl : Below W2.heap.size W2 w3 := by rw [hw]; go_grown
 have hge5 : s + 2 ≤ b5 := by rw [hb5]; omega
 have hgw5 : W2.heap.size ≤ b5 := by rw [hb5]; omega
 clear y00 y00f y10 y10f y11 y11f
 replace hk := hk.up hbl; replace hM := hM.up hbl; replace hbw := btr hbw hbl; replace zz := Nat.le_trans zz (Below.size hbl)
 have hs : Cells w3 [(b5, 0, .slice p c.length cap)] := ⟨⟨by rw [hw, hb5]; go_cell, by rw [hw, hb5]; go_cell⟩, trivial⟩
 clear hbl hw hb5
 have hk0 := hk; clear hk; have hk := (show Cells w3 [(b5, 0, .slice p c.length cap), (s, 0, .slice p c.length cap), (s + 1, 0, .int .i64 ar), (s + 1, 1, .slice pm m.length cm)] from ⟨hs.1, hk0⟩); clear hs hk0
 obtain ⟨⟨d50, d50f⟩, ⟨y00, y00f⟩, ⟨y10, y10f⟩, ⟨y11, y11f⟩, -⟩ := id hk
 go_wp2_with fail
 go_loopg [6, 14] 0 (fun N s6 s14 wr => ∃ K : Nat, ∃ V : Int, s14 = .int .i64 K ∧ s6 = .int .i64 V ∧ K = 0 ∧ N = 0 ∧ V = -1 ∧ Cells wr [(b5, 0, .slice p c.length cap), (s, 0, .slice p c.length cap), (s + 1, 0, .int .i64 ar), (s + 1, 1, .slice pm m.length cm)] ∧ MxAt wr pm cm m ∧ Below w.heap.size w wr ∧ s + 2 ≤ wr.heap.size)
 case atStart => exact ⟨0, -1, rfl, rfl, rfl, rfl, rfl, hk, hM, hbw, zz⟩
 clear hk hM hbw zz
 obtain ⟨K, V, rfl, rfl, rfl, hN, rfl, hk, hM, hbw, zz⟩ := hrel
 have hlt : 0 < m.length := (List.getElem?_eq_some_iff.1 HY0.out).1
 have hlt1 : (0 : Int) < (m.length : Int) := by omega
 have hy := HY0.out
 obtain ⟨by', oy, rfl, hby, jy0, jy1⟩ := cell_cells hM.at' hy
 obtain ⟨yr, hyr⟩ : ∃ z, y.rank = z := ⟨_, rfl⟩
 obtain ⟨yf, hyf⟩ : ∃ z, y.ref = z := ⟨_, rfl⟩
 rw [hyr] at jy0 hy1; rw [hyf] at jy1 hy2 hy3
 clear hyr hyf hy
 obtain ⟨t1, t3, t4⟩ := hy2
 have g1 : ¬ yr ≤ -1 := by omega
 have g2 : ¬ yf < 0 := by omega
 have g4 : yf.tdiv 2 = yf / 2 := Int.tdiv_eq_ediv_of_nonneg t1
 have g5 : IntKind.i64.wrap (yf / 2) = yf / 2 := by rw [IntWalk.i64_in]; omega
 have g6 : (c.length : Int) ≤ yf / 2 := hy3
 have g7 : (yf == 1) = false := by simp [t3]
 have g8 : decide (yr ≤ -1) = false := by simp [g1]
 have g9 : decide (yf < 0) = false := by simp [g2]
 have g10 : decide ((c.length : Int) ≤ yf / 2) = true := by simp [g6]
 simp only [Nat.zero_mul, Nat.add_zero] at jy0 jy1
 clear d50 d50f y00 y00f y10 y10f y11 y11f
 obtain ⟨⟨d50, d50f⟩, ⟨y00, y00f⟩, ⟨y10, y10f⟩, ⟨y11, y11f⟩, -⟩ := id hk
 go_upto_region 5 with fail
 obtain ⟨wy, hw⟩ : ∃ zW, zW = wr.alloc (.cells #[.int .i64 yr, .int .i64 yf] 76) := ⟨_, rfl⟩
 obtain ⟨b8, hb8⟩ : ∃ zW, zW = wr.heap.size := ⟨_, rfl⟩
 rw [← hw, ← hb8]
 have hbl : Below wr.heap.size wr wy := by rw [hw]; go_grown
 have hge8 : s + 2 ≤ b8 := by rw [hb8]; exact zz
 have hgw8 : wr.heap.size ≤ b8 := by rw [hb8]; exact Nat.le_refl _
 clear d50 d50f y00 y00f y10 y10f y11 y11f
 replace jy0 := zD hbl jy0
 replace jy1 := zD hbl jy1
 replace hk := hk.up hbl; replace hM := hM.up hbl; replace hbw := btr hbw hbl; replace zz := Nat.le_trans zz (Below.size hbl)
 have hs : Cells wy [(b8, 0, .int .i64 yr), (b8, 1, .int .i64 yf)] := ⟨⟨by rw [hw, hb8]; go_cell, by rw [hw, hb8]; go_cell⟩, ⟨by rw [hw, hb8]; go_cell, by rw [hw, hb8]; go_cell⟩, trivial⟩
 clear hbl hw hb8
 clear jy0 jy1
 refine wp_region_seqE (fun x => Below wy.heap.size wy x) (.one 0 1 (.one 1 0 (.one 2 1 (.one 3 1 (.one 4 1 (.one 5 1 (.one 6 0 (.one 7 1 (.one 8 1 (.one 9 1 (.one 10 1 (.one 11 0 (.one 12 1 (.one 13 1 (.one 14 1 (.one 15 1 (.one 16 0 (.one 17 1 (.one 18 0 (.one 19 1 (.one 20 1 .nil))))))))))))))))))))) (by kernel_rfl) (by kernel_rfl) (by kernel_rfl) (Below.drew (Below.refl _ _)) ?_
 iterate 18 ((first | (refine seqE_free (v := ?_) rfl (by rfl) ?_ ?_; rotate_left; (focus (intro w; go_simp; try with_reducible rfl))) | (refine seqE_pure (v := ?_) rfl (by rfl) ?_ ?_; rotate_left; (focus (intro w hS; obtain ⟨⟨d80, -⟩, ⟨d81, -⟩, -⟩ := hs.up hS; go_simp; try with_reducible rfl)))); (try simp only [Act.put, zA, zB, zC]))
 refine seqE_still (v := .int .i64 c.length) (f := ?_) (args := ?_) rfl (by rfl) ?_ ?_ ?_
 rotate_left 2
 focus (intro w hS; go_simp; first | done | with_reducible rfl | (refine ⟨?_, ?_⟩ <;> with_reducible rfl))
 focus (intro w hS; obtain ⟨⟨q0, -⟩, -⟩ := hk.up hS; exact size_any c p cap _ _ q0)
 (try simp only [Act.put, zA, zB, zC])
 iterate 2 (refine seqE_free (v := ?_) rfl (by rfl) ?_ ?_; rotate_left; (focus (intro w; go_simp; try with_reducible rfl)); (try simp only [Act.put, zA, zB, zC]))
 refine seqE_nil ?_
 intro wz hS
 replace hs := hs.up hS; replace hk := hk.up hS; replace hM := hM.up hS; replace hbw := btr hbw hS; replace zz := Nat.le_trans zz (Below.size hS); clear hS
 obtain ⟨⟨d80, d80f⟩, ⟨d81, d81f⟩, -⟩ := id hs
 obtain ⟨⟨d50, d50f⟩, ⟨y00, y00f⟩, ⟨y10, y10f⟩, ⟨y11, y11f⟩, -⟩ := id hk
 go_wp2_with fail
 refine bodyPost_ret (by simp [results, Try.results28, go_sem]; try rfl) rfl ?_
 exact ⟨rfl, hbw⟩
end Go.Proofs.Ytadilppdlbhjnaa
namespace Go.Proofs.Ytadilppdlbhjnaa
set_option linter.unusedSimpArgs false
set_option linter.unusedVariables false
open Go.RowKit
def CMap (D : DM) (l : List Int) : Prop := Maps.IsMap D ∧ ∀ r : Int, D.atKey (keyI r) (numI 0) = numI ((l.count r : Nat) : Int)
theorem CMap.start : CMap (.map []) [] := ⟨⟨_, rfl⟩, fun r => rfl⟩
theorem CMap.put {D : DM} {l : List Int} (h : CMap D l) (t : Int) {c : Int} (hc : c = ((l.count t : Nat) : Int) + 1) : CMap (D.put (keyI t) (numI c)) (l ++ [t]) := by
 refine ⟨Maps.IsMap.put h.1 _ _, fun r => ?_⟩
 by_cases e : r = t
 · subst e
   rw [Maps.atKey_put_same h.1 (keyI_key _), hc, List.count_append]
   simp
 · rw [Maps.atKey_put_other (keyI_ne e), h.2 r, List.count_append, List.count_singleton]
   have : (t == r) = false := by simp; exact fun h => e h.symm
   rw [this]; simp
theorem CMap.read {D : DM} {l : List Int} (h : CMap D l) {t c : Int} (hat : D.atKey (keyI t) (numI 0) = numI c) : c = ((l.count t : Nat) : Int) := by
 rw [h.2 t] at hat; simpa [numI] using hat.symm
end Go.Proofs.Ytadilppdlbhjnaa
