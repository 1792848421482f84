/- Walks of layer 14: In, fold, Some. -/
import Derived.Test.YtadilppdlbhjnaaGI
namespace Go.Proofs.Ytadilppdlbhjnaa
set_option linter.unusedSimpArgs false
set_option linter.unusedVariables false
open Go.RowKit


theorem butM_is {L : List Nat} {c d : List Gate} {x y r : Int} {b : Nat} {w : World} (hx : x ≤ 9223372036854775807) (hy : y ≤ 1000000) (hl : c.length ≤ 20000) (hB : BxA L w b c) (hL : ∀ k ∈ L, k < w.heap.size) (e : cbut c x y = (d, r)) :
    Calls Try.prog 90 #[.pointer (some ⟨b, 0, none⟩), .int .i64 x, .int .i64 y] w (MRet L w b (d, r)) := e ▸ butM_any L c x y b w hx hy hl hB hL
theorem find_is {m : List Cell} {ar r y : Int} {p : Option Addr} {cap : Nat} {w : World} (hM : MxAt w p cap m) (hs : Sorted m) (hr : ∀ x ∈ m, 0 ≤ x.rank ∧ x.rank ≤ 1000000) (hl : m.length ≤ 100000) (h2 : -1000000 ≤ r) (h3 : r ≤ 1000000) (e : mat m r = y) :
    Calls Try.prog 91 #[.agg #[.int .i64 ar, .slice p m.length cap], .int .i64 r] w fun e w' => e = .returned (.int .i64 y) ∧ Below w.heap.size w w' := e ▸ find_any m ar r p cap w hM hs hr hl h2 h3
theorem in_pre {N : Int} {c : List Gate} {a b : List Cell} (hg : Good c) (hl : c.length + 2 * a.length ≤ 20000) (ha : ∀ x ∈ a, In c x.ref) (hb : MOk c N b) (k : Nat) (hk : k ≤ a.length) :
    Grow c ((a.take k).foldl (inStep b) (c, 0)).1 (2 * k) ∧ In ((a.take k).foldl (inStep b) (c, 0)).1 ((a.take k).foldl (inStep b) (c, 0)).2 := by
  have hlt : (a.take k).length = k := by rw [List.length_take]; omega
  have h := inRun_ok (a.take k) c b 0 hg (by rw [hlt]; omega) (in_0 hg.ne) (fun x hx => ha x (List.mem_of_mem_take hx)) hb
  rw [hlt] at h
  exact ⟨h.1, h.2.1⟩
theorem or_pre {c : List Gate} {l : List Int} (hg : Good c) (hl : c.length + l.length ≤ 20000) (hr : ∀ r ∈ l, In c r) (k : Nat) (hk : k ≤ l.length) :
    Grow c (orAll (l.take k) (c, 1)).1 k ∧ In (orAll (l.take k) (c, 1)).1 (orAll (l.take k) (c, 1)).2 := by
  have hlt : (l.take k).length = k := by rw [List.length_take]; omega
  have h := orAll_ok (l.take k) c 1 hg (by rw [hlt]; omega) (in_1 hg.ne) (fun r hx => hr r (List.mem_of_mem_take hx))
  rw [hlt] at h
  exact ⟨h.1, h.2.1⟩

set_option maxRecDepth 100000 in
set_option maxHeartbeats 4000000 in
theorem in_any (c : List Gate) (a b : List Cell) (ar1 ar2 N : Int) (p pa pb : Option Addr) (cap ca cb : Nat) (w : World) (hC : CAt w p cap c) (hA : MxAt w pa ca a) (hD : MxAt w pb cb b) (hg : Good c) (hl : c.length + 2 * a.length + 2 ≤ 20000) (ha : MOk c N a) (hb : MOk c N b) (hN : N ≤ 100000) (hbl : b.length ≤ 100000) :
    Calls Try.prog 37 #[.agg #[.slice p c.length cap], .agg #[.int .i64 ar1, .slice pa a.length ca], .agg #[.int .i64 ar2, .slice pb b.length cb]] w (RetC w (mIn c a b).1 (mIn c a b).2) := by
 obtain ⟨s, hs0⟩ : ∃ s, w.heap.size = s := ⟨_, rfl⟩
 obtain ⟨W2, hW2⟩ : ∃ W2, W2 = (((((w.alloc (.cells #[.slice p c.length cap] 27)).alloc (.cells #[.int .i64 ar1, .slice pa a.length ca] 30)).alloc (.cells #[.int .i64 ar2, .slice pb b.length cb] 30)).alloc (.cells #[.slice none 0 0] 27)).alloc (.cells #[.slice p c.length cap] 87)) := ⟨_, rfl⟩
 have hbw : Below w.heap.size w W2 := by rw [hW2]; go_grown
 have zz : s + 5 ≤ W2.heap.size := by rw [hW2, ← hs0]; simp
 have hs : Cells W2 [(s + 2, 0, .int .i64 ar2), (s + 2, 1, .slice pb b.length cb), (s + 3, 0, .slice none 0 0), (s + 4, 0, .slice p c.length cap)] := by rw [hW2, ← hs0]; exact ⟨⟨by go_cell, by go_cell⟩, ⟨by go_cell, by go_cell⟩, ⟨by go_cell, by go_cell⟩, ⟨by go_cell, by go_cell⟩, trivial⟩
 have hk : Cells W2 [(s, 0, .slice p c.length cap), (s + 1, 0, .int .i64 ar1), (s + 1, 1, .slice pa a.length ca)] := by rw [hW2, ← hs0]; exact ⟨⟨by go_cell, by go_cell⟩, ⟨by go_cell, by go_cell⟩, ⟨by go_cell, by go_cell⟩, trivial⟩
 have HW2 := Lib.hid hW2; have HS := Lib.hid hs0
 clear hW2 hs0
 have hc0 : 0 < c.length := hg.ne
 have LO := Lib.hid (in_pre (b := b) hg (by omega) (fun x hx => ha.ref_in hx) hb)
 have HMA := Lib.hid ha; have HMB := Lib.hid hb; have HA := Lib.hid hA; have HD := Lib.hid hD; have HG := Lib.hid hg
 obtain ⟨L0, hL0⟩ : ∃ L, L = (s + 3) :: oth s p := ⟨_, rfl⟩
 have hpl : ∀ ad, p = some ad → ad.block < s := by rw [← HS.out]; exact hC.lt hc0
 have hL1 : ∀ k ∈ L0, k < W2.heap.size := by
   intro k hk; rw [hL0] at hk
   simp only [List.mem_cons] at hk
   rcases hk with e | hk
   all_goals first | omega | (have := oth_lt hk; omega)
 have hL3 : ∀ ad, p = some ad → ad.block ∉ L0 := by
   intro ad h hm; rw [hL0] at hm
   have := hpl ad h
   simp only [List.mem_cons] at hm
   rcases hm with e | hm
   all_goals first | omega | exact oth_not h hm
 have HL2 := Lib.hid (show ∀ k, k ∉ L0 → k ≠ s + 3 from by
   intro k hk; rw [hL0] at hk
   simp only [List.mem_cons, not_or] at hk
   exact hk.1)
 
 obtain ⟨⟨x0, -⟩, ⟨x1, -⟩, ⟨z0, z0f⟩, ⟨z1, z1f⟩, -⟩ := id hs
 have hBx : BxA L0 W2 (s + 4) c := ⟨p, cap, z1, z1f, hC.mono hbw, hL3⟩
 have HRS := Lib.hid z0; have HRF := Lib.hid z0f; have HBW := Lib.hid hbw; have HB0 := Lib.hid x0; have HB1 := Lib.hid x1
 clear hA hD ha hb hg hC hL0 hL3 hpl z0 z0f z1 z1f x0 x1
 clear hs
 go_enter Try.func37, Try.ntmps37
 go_upto_region 2 with fail
 rw [← HW2.out]
 simp only [HS.out, Nat.add_assoc, Nat.reduceAdd]
 obtain ⟨⟨y00, y00f⟩, ⟨y10, y10f⟩, ⟨y11, y11f⟩, -⟩ := id hk
 clear hbw
 go_wp2_with fail
 clear hk y00 y00f y10 y10f y11 y11f
 go_loopg [18, 9] a.length (fun M s18 s9 wr => ∃ (K : Nat) (C : List Gate) (r : Int), s18 = .int .i64 K ∧ s9 = .int .i64 r ∧ K ≤ a.length ∧ M = a.length - K ∧ (a.take K).foldl (inStep b) (c, 0) = (C, r) ∧ BxA L0 wr (s + 4) C ∧ KeepX [s + 4] W2 wr)
 case atStart => exact ⟨0, c, 0, rfl, rfl, by omega, rfl, rfl, hBx, KeepX.refl _ _⟩
 case round =>
  clear hBx
  obtain ⟨K, C, r, rfl, rfl, hK, hM, hrun, hBx, hkx⟩ := hrel
  obtain ⟨gC, iS⟩ := LO.out K hK
  rw [hrun] at gC iS
  dsimp only at gC iS
  have hCl := gC.len; have hCg := gC.ge
  have iS1 := iS.1; have iS2 := iS.2
  have HM := Lib.hid hM; have HR := Lib.hid hrun; have GC := Lib.hid gC; have IS := Lib.hid iS; clear hM hrun gC iS
  have hszr := hkx.size
  have hBR : Below w.heap.size w wr := KeepX.below' HBW.out hkx HBW.out.size (by have := HS.out; simp; omega)
  have hLr : ∀ k ∈ L0, k < wr.heap.size := fun k hk => Nat.lt_of_lt_of_le (hL1 k hk) hszr
  by_cases hlt : K < a.length
  case pos =>
   have hlt0 : (0 : Int) ≤ (K : Int) := by omega
   have hlt1 : (K : Int) < (a.length : Int) := by omega
   obtain ⟨x, hx⟩ : ∃ x, a[K]? = some x := ⟨_, List.getElem?_eq_getElem hlt⟩
   obtain ⟨bx, ox, rfl, hbx, jx0, jx1⟩ := cell_cells HA.out.at' hx
   have hx1 := HMA.out.ranks x (List.mem_of_getElem? hx)
   have hx2 := HMA.out.refs x (List.mem_of_getElem? hx)
   replace jx0 := oldcell hBR jx0 hbx; replace jx1 := oldcell hBR jx1 hbx
   have HNX := Lib.hid (show (a.take (K + 1)).foldl (inStep b) (c, 0) = inStep b ((a.take K).foldl (inStep b) (c, 0)) x by obtain ⟨h1, h2⟩ := List.getElem?_eq_some_iff.1 hx; rw [List.take_succ_eq_append_getElem h1, h2, List.foldl_append]; rfl)
   obtain ⟨xr, hxr⟩ : ∃ z, x.rank = z := ⟨_, rfl⟩
   obtain ⟨xf, hxf⟩ : ∃ z, x.ref = z := ⟨_, rfl⟩
   rw [hxr] at jx0 hx1; rw [hxf] at jx1 hx2
   have HXF := Lib.hid hxf; have HXR := Lib.hid hxr; clear hxr hxf hx hbx
   obtain ⟨y, e0⟩ : ∃ y, mat b xr = y := ⟨_, rfl⟩
   obtain ⟨D, u, e1⟩ : ∃ D u, cbut C xf y = (D, u) := ⟨_, _, rfl⟩
   obtain ⟨E, t, e2⟩ : ∃ E t, cbut D r u = (E, t) := ⟨_, _, rfl⟩
   have iX : In C xf := ⟨hx2.1, by omega⟩
   have iY : In C y := by rw [← e0]; exact (HMB.out.mat_in' HG.out xr).up GC.out
   obtain ⟨g1, j1, _⟩ := ok_but.one GC.out.good (by omega) iX iY
   rw [e1] at g1 j1; dsimp only at g1 j1
   have l1 := g1.len; have q1 := g1.ge
   have ju1 := j1.1; have ju2 := j1.2; have jy1 := iY.1; have jy2 := iY.2
   have E0 := Lib.hid e0; have E1 := Lib.hid e1; have E2 := Lib.hid e2
   clear e0 e1 e2 g1 j1 iX iY
   have hlC : C.length ≤ 20000 := by omega
   have hlD : D.length ≤ 20000 := by omega
   have p0 := hkx.cell HB0.out (by simp)
   have p1 := hkx.cell HB1.out (by simp)
   go_upto_region 5 with fail
   obtain ⟨b11, hb11⟩ : ∃ b, b = wr.heap.size := ⟨_, rfl⟩
   obtain ⟨wx, hwx⟩ : ∃ x, x = wr.alloc (.cells #[.int .i64 xr, .int .i64 xf] 76) := ⟨_, rfl⟩
   rw [← hwx, ← hb11]
   have hBx1 : Below wr.heap.size wr wx := by rw [hwx]; go_grown
   have z0 : wx.cell? ⟨b11, 0, none⟩ = some (.int .i64 xr) := by rw [hwx, hb11]; go_cell
   have z1 : wx.cell? ⟨b11, 1, none⟩ = some (.int .i64 xf) := by rw [hwx, hb11]; go_cell
   replace p0 := oldcell hBx1 p0 (World.block_lt_of_cell? _ _ p0); replace p1 := oldcell hBx1 p1 (World.block_lt_of_cell? _ _ p1)
   replace hBx := hBx.upB hBx1; replace hkx := hkx.upB hBx1
   have hLx : ∀ k ∈ L0, k < wx.heap.size := fun k hk => Nat.lt_of_lt_of_le (hLr k hk) hBx1.size
   have hbw := btr hBR hBx1
   have zz : s + 5 ≤ wx.heap.size := by have := hBx1.size; omega
   clear hwx hBx1 jx0 jx1 hBR hszr hb11 hLr
   refine wp_region_seqE (fun x => Below wx.heap.size wx x) (.one 0 1 (.one 1 1 (.one 2 1 (.one 3 1 (.one 4 0 (.one 5 0 (.one 6 1 (.one 7 0 (.alt 8 2 (.alt 9 3 (.alt 10 3 (.one 11 1 .nil) .stop) .stop) .stop))))))))) (by kernel_rfl) (by kernel_rfl) (by kernel_rfl) (Below.drew (Below.refl _ _)) ?_
   iterate 8 (first | (refine seqE_free (v := ?_) rfl (by rfl) ?_ ?_; rotate_left; (focus (intro w; go_simp; try with_reducible rfl)); (try simp only [Act.put, List.setIfInBounds_toArray, List.set_cons_zero, List.set_cons_succ])) | (refine seqE_pure (v := ?_) rfl (by rfl) ?_ ?_; rotate_left; (focus (intro w hS; have z0 := oldcell hS z0 (World.block_lt_of_cell? _ _ z0); have z1 := oldcell hS z1 (World.block_lt_of_cell? _ _ z1); have p0 := oldcell hS p0 (World.block_lt_of_cell? _ _ p0); have p1 := oldcell hS p1 (World.block_lt_of_cell? _ _ p1); go_simp; try with_reducible rfl)); (try simp only [Act.put, List.setIfInBounds_toArray, List.set_cons_zero, List.set_cons_succ])))
   refine seqE_keep (v := .int .i64 y) (f := ?_) (args := ?_) rfl (by rfl) ?_ ?_ ?_ seqE_stop
   rotate_left 2
   focus (intro w hS; go_simp; first | done | with_reducible rfl | (refine ⟨?_, ?_⟩ <;> with_reducible rfl))
   focus (intro w hS; refine (find_is (HD.out.up (btr hbw hS)) HMB.out.sorted (fun x hx => by have := HMB.out.ranks x hx; omega) hbl (by omega) (by omega) E0.out).mono ?_; rintro e w2 ⟨rfl, hbl⟩; exact ⟨rfl, btr hS hbl⟩)
   (try simp only [Act.put, List.setIfInBounds_toArray, List.set_cons_zero, List.set_cons_succ])
   refine seqE_callB (f := ?_) (args := ?_) rfl (by rfl) ?_ ?_ seqE_stop
   rotate_left 2
   focus (intro w hS; go_simp; first | done | with_reducible rfl | (refine ⟨?_, ?_⟩ <;> with_reducible rfl))
   intro w2 hS
   have hX := hS.size
   refine (butM_is (by omega) (by omega) hlC (hBx.upB hS) (fun k hk => Nat.lt_of_lt_of_le (hLx k hk) hX) E1.out).mono ?_
   rintro e v2 ⟨rfl, hb2, hk2⟩
   refine ⟨_, rfl, (fun x => Below v2.heap.size v2 x), Below.refl _ _, ?_⟩
   have hL2 : ∀ k ∈ L0, k < v2.heap.size := fun k hk => Nat.lt_of_lt_of_le (hLx k hk) (Nat.le_trans hX hk2.size)
   replace hkx := (hkx.upB hS).trans hk2
   replace hbw : Below w.heap.size w v2 := KeepX.below' HBW.out hkx HBW.out.size (by have := HS.out; simp; omega)
   replace zz := Nat.le_trans zz (Nat.le_trans hX hk2.size)
   clear hS hX hk2 hBx
   clear z0 z1 p0 p1
   (try simp only [Act.put, List.setIfInBounds_toArray, List.set_cons_zero, List.set_cons_succ])
   refine seqE_callB (f := ?_) (args := ?_) rfl (by rfl) ?_ ?_ seqE_stop
   rotate_left 2
   focus (intro w hS; go_simp; first | done | with_reducible rfl | (refine ⟨?_, ?_⟩ <;> with_reducible rfl))
   intro w3 hS
   have hX := hS.size
   refine (butM_is (by omega) (by omega) hlD (hb2.upB hS) (fun k hk => Nat.lt_of_lt_of_le (hL2 k hk) hX) E2.out).mono ?_
   rintro e v3 ⟨rfl, hb3, hk3⟩
   refine ⟨_, rfl, (fun x => Below v3.heap.size v3 x), Below.refl _ _, ?_⟩
   replace hkx := (hkx.upB hS).trans hk3
   replace hbw : Below w.heap.size w v3 := KeepX.below' HBW.out hkx HBW.out.size (by have := HS.out; simp; omega)
   replace zz := Nat.le_trans zz (Nat.le_trans hX hk3.size)
   clear hS hX hk3 hb2
   (try simp only [Act.put, List.setIfInBounds_toArray, List.set_cons_zero, List.set_cons_succ])
   iterate 1 (refine seqE_free (v := ?_) rfl (by rfl) ?_ ?_; rotate_left; (focus (intro w; go_simp; try with_reducible rfl)); (try simp only [Act.put, List.setIfInBounds_toArray, List.set_cons_zero, List.set_cons_succ]))
   refine seqE_nil ?_
   intro wz hS
   replace hb3 := hb3.upB hS; replace hkx := hkx.upB hS; replace hbw := btr hbw hS; replace zz := Nat.le_trans zz (Below.size hS); clear hS
   go_wp2_with fail
   go_roundg (a.length - (K + 1))
   case measure => (have := HM.out; omega)
   case rel => exact ⟨K + 1, E, t, by go_num, rfl, by omega, rfl, by rw [HNX.out, HR.out]; unfold inStep; dsimp only; rw [HXF.out, HXR.out, E0.out, E1.out]; exact E2.out, hb3, hkx⟩
  case neg =>
   obtain rfl : K = a.length := by omega
   have HF := Lib.hid (show mIn c a b = (C, r) by unfold mIn; have h := HR.out; rw [List.take_length] at h; exact h)
   obtain ⟨pC, cC, e1, e1f, hCC, hnL⟩ := hBx
   have n2 : ∀ ad, pC = some ad → s + 3 ≠ ad.block := fun ad h e => (HL2.out _ (hnL ad h)) e.symm
   have r0 := hkx.cell HRS.out (by simp)
   have r0f := hkx.free HRF.out (World.block_lt_of_cell? _ _ HRS.out) (by simp)
   go_wp2_with fail
   obtain ⟨W9, hW9⟩ : ∃ W9, W9 = wr.setCell ⟨s + 3, 0, none⟩ (.slice pC C.length cC) := ⟨_, rfl⟩
   rw [← hW9]
   have r1 : W9.cell? ⟨s + 3, 0, none⟩ = some (.slice pC C.length cC) := by rw [hW9]; go_cell
   replace hCC : CAt W9 pC cC C := by rw [hW9]; exact hCC.set n2 _
   have B9 : Below w.heap.size w W9 := by rw [hW9]; exact Below.setCell hBR (by have h := HS.out; (try dsimp only); omega) _
   clear hW9
   rw [HF.out]
   refine bodyPost_ret (by simp [results, Try.results37, go_sem, r1]; try rfl) rfl ?_
   exact ⟨_, _, rfl, hCC, B9⟩
end Go.Proofs.Ytadilppdlbhjnaa
