import Derived.Test.YtadilppdlbhjnaaGB
import Derived.Test.YtadilppdlbhjnaaJ1
import Derived.Test.YtadilppdlbhjnaaMH
namespace Go.Proofs.Ytadilppdlbhjnaa
set_option linter.unusedSimpArgs false
set_option linter.unusedVariables false
def cntT (c : List Gate) (V : List Bool) (l : List Cell) : Nat := (l.filter fun x => cv c V x.ref).length
theorem loneRun_snoc {l : List Cell} {y : Cell} {x : List Gate × Int × Int} : loneRun (l ++ [y]) x = loneStep (loneRun l x) y := by simp [loneRun, List.foldl_append]
theorem lone_ok {c : List Gate} (hg : Good c) : ∀ (l : List Cell), c.length + 3 * l.length ≤ 20000 → (∀ x ∈ l, In c x.ref) → ∀ k, k ≤ l.length →
 Grow c (loneRun (l.take k) (c, 1, 1)).1 (3 * k) ∧ In (loneRun (l.take k) (c, 1, 1)).1 (loneRun (l.take k) (c, 1, 1)).2.1 ∧ In (loneRun (l.take k) (c, 1, 1)).1 (loneRun (l.take k) (c, 1, 1)).2.2 ∧
  ∀ V, cv (loneRun (l.take k) (c, 1, 1)).1 V (loneRun (l.take k) (c, 1, 1)).2.1 = decide (1 ≤ cntT c V (l.take k)) ∧ cv (loneRun (l.take k) (c, 1, 1)).1 V (loneRun (l.take k) (c, 1, 1)).2.2 = decide (2 ≤ cntT c V (l.take k)) := by
 intro l hl hr k
 induction k with
 | zero =>
  intro _
  refine ⟨.refl hg _, in_1 hg.ne, in_1 hg.ne, fun V => ?_⟩
  have h0 : cntT c V (l.take 0) = 0 := by simp [cntT]
  have h1 : cv c V 1 = false := cv_1 hg V
  exact ⟨by rw [h0]; exact h1, by rw [h0]; exact h1⟩
 | succ k ih =>
  intro hk
  obtain ⟨g0, i1, i2, hv⟩ := ih (by omega)
  have hkl : k < l.length := by omega
  have hm : l[k] ∈ l := List.getElem_mem hkl
  rw [List.take_succ_eq_append_getElem hkl, loneRun_snoc]
  obtain ⟨C, so, tw, hC⟩ : ∃ C so tw, loneRun (l.take k) (c, 1, 1) = (C, so, tw) := ⟨_, _, _, rfl⟩
  rw [hC] at g0 i1 i2 hv ⊢
  dsimp only at g0 i1 i2 hv
  have l0 := g0.len
  have iy := (hr _ hm).up g0
  obtain ⟨g1, j1, v1⟩ := ok_and.one g0.good (by omega) i1 iy
  have l1 := g1.len
  obtain ⟨g2, j2, v2⟩ := ok_or.one g1.good (by omega) (i2.up g1) j1
  have l2 := g2.len
  have g12 := g1.trans g2
  obtain ⟨g3, j3, v3⟩ := ok_or.one g2.good (by omega) (i1.up g12) (iy.up g12)
  have g123 := g12.trans g3
  refine ⟨(g0.trans g123).more (by omega), j3, j2.up g3, fun V => ?_⟩
  have e1 : cntT c V (l.take k ++ [l[k]]) = cntT c V (l.take k) + (if cv c V l[k].ref = true then 1 else 0) := by
   unfold cntT; rw [List.filter_append, List.length_append]
   congr 1
   by_cases h : cv c V l[k].ref = true <;> simp [h]
  have ey : cv C V l[k].ref = cv c V l[k].ref := (hr _ hm).cv g0 V
  obtain ⟨h1, h2⟩ := hv V
  have r1 : cv (cor (cor (cand C so l[k].ref).1 tw (cand C so l[k].ref).2).1 so l[k].ref).1 V (cor (cor (cand C so l[k].ref).1 tw (cand C so l[k].ref).2).1 so l[k].ref).2 = (cv C V so || cv c V l[k].ref) := by
   rw [v3 V, i1.cv g12 V, iy.cv g12 V, ey]
  have r2 : cv (cor (cor (cand C so l[k].ref).1 tw (cand C so l[k].ref).2).1 so l[k].ref).1 V (cor (cand C so l[k].ref).1 tw (cand C so l[k].ref).2).2 = (cv C V tw || (cv C V so && cv c V l[k].ref)) := by
   rw [j2.cv g3 V, v2 V, i2.cv g1 V, v1 V, ey]
  refine ⟨r1.trans ?_, r2.trans ?_⟩
  · rw [h1, e1]
    cases cv c V l[k].ref <;> simp
  · rw [h1, h2, e1]
    cases cv c V l[k].ref <;> simp <;> omega
end Go.Proofs.Ytadilppdlbhjnaa
namespace Go.Proofs.Ytadilppdlbhjnaa
set_option linter.unusedSimpArgs false
set_option linter.unusedVariables false
open Go.RowKit
set_option maxRecDepth 100000 in
set_option maxHeartbeats 4000000 in
theorem lone_any (c : List Gate) (a : List Cell) (ar N : Int) (p pa : Option Addr) (cap ca : Nat) (w : World) (hC : CAt w p cap c) (hA : MxAt w pa ca a) (hg : Good c) (hl : c.length + 3 * a.length + 2 ≤ 20000) (ha : MOk c N a) :
 Calls Try.prog 39 #[.agg #[.slice p c.length cap], .agg #[.int .i64 ar, .slice pa a.length ca]] w (RetC w (mLone c a).1 (mLone c a).2) := by
 obtain ⟨s, hs0⟩ : ∃ s, w.heap.size = s := ⟨_, rfl⟩
 obtain ⟨W2, hW2⟩ : ∃ W2, W2 = ((((w.alloc (.cells #[.slice p c.length cap] 27)).alloc (.cells #[.int .i64 ar, .slice pa a.length ca] 30)).alloc (.cells #[.slice none 0 0] 27)).alloc (.cells #[.slice p c.length cap] 87)) := ⟨_, rfl⟩
 have hbw : Below w.heap.size w W2 := by rw [hW2]; go_grown
 have zz : s + 4 ≤ W2.heap.size := by rw [hW2, ← hs0]; simp
 have hs : Cells W2 [(s + 2, 0, .slice none 0 0), (s + 3, 0, .slice p c.length cap)] := by rw [hW2, ← hs0]; exact ⟨⟨by go_cell, by go_cell⟩, ⟨by go_cell, by go_cell⟩, trivial⟩
 have hk : Cells W2 [(s, 0, .slice p c.length cap), (s + 1, 0, .int .i64 ar), (s + 1, 1, .slice pa a.length ca)] := by rw [hW2, ← hs0]; exact ⟨⟨by go_cell, by go_cell⟩, ⟨by go_cell, by go_cell⟩, ⟨by go_cell, by go_cell⟩, trivial⟩
 have HW2 := Lib.hid hW2; have HS := Lib.hid hs0
 clear hW2 hs0
 have hc0 : 0 < c.length := hg.ne
 have LO := Lib.hid (lone_ok hg a (by omega) (fun x hx => ha.ref_in hx))
 have HMA := Lib.hid ha; have HA := Lib.hid hA; have HG := Lib.hid hg
 obtain ⟨L0, hL0⟩ : ∃ L, L = (s + 2) :: oth s p := ⟨_, rfl⟩
 have hpl : ∀ ad, p = some ad → ad.block < s := by rw [← HS.out]; exact hC.lt hc0
 have hL1 : ∀ k ∈ L0, k < W2.heap.size := by
  intro k hk; rw [hL0] at hk
  simp only [List.mem_cons] at hk
  rcases hk with e | hk
  all_goals first | omega | (have := oth_lt hk; omega)
 have hL3 : ∀ ad, p = some ad → ad.block ∉ L0 := by
  intro ad h hm; rw [hL0] at hm
  have := hpl ad h
  simp only [List.mem_cons] at hm
  rcases hm with e | hm
  all_goals first | omega | exact oth_not h hm
 have HL2 := Lib.hid (show ∀ k, k ∉ L0 → k ≠ s + 2 from by
  intro k hk; rw [hL0] at hk
  simp only [List.mem_cons, not_or] at hk
  exact hk.1)
 obtain ⟨⟨z0, z0f⟩, ⟨z1, z1f⟩, -⟩ := id hs
 have hBx : BxA L0 W2 (s + 3) c := ⟨p, cap, z1, z1f, hC.mono hbw, hL3⟩
 have HRS := Lib.hid z0; have HRF := Lib.hid z0f; have HBW := Lib.hid hbw
 clear hA ha hg hC hL0 hL3 hpl z0 z0f z1 z1f
 clear hs
 go_enter Try.func39, Try.ntmps39
 go_upto_region 2 with fail
 rw [← HW2.out]
 simp only [HS.out, Nat.add_assoc, Nat.reduceAdd]
 obtain ⟨⟨y00, y00f⟩, ⟨y10, y10f⟩, ⟨y11, y11f⟩, -⟩ := id hk
 clear hbw
 go_wp2_with fail
 clear hk y00 y00f y10 y10f y11 y11f
 go_loopg [17, 7, 8] a.length (fun M s17 s7 s8 wr => ∃ (K : Nat) (C : List Gate) (so tw : Int), s17 = .int .i64 K ∧ s7 = .int .i64 so ∧ s8 = .int .i64 tw ∧ K ≤ a.length ∧ M = a.length - K ∧ loneRun (a.take K) (c, 1, 1) = (C, so, tw) ∧ BxA L0 wr (s + 3) C ∧ KeepX [s + 3] W2 wr)
 case atStart => exact ⟨0, c, 1, 1, rfl, rfl, rfl, by omega, rfl, rfl, hBx, KeepX.refl _ _⟩
 clear hBx
 obtain ⟨K, C, so, tw, rfl, rfl, rfl, hK, hM, hrun, hBx, hkx⟩ := hrel
 obtain ⟨gC, iS, iT, _⟩ := LO.out K hK
 rw [hrun] at gC iS iT
 dsimp only at gC iS iT
 have hCl := gC.len; have hCg := gC.ge
 have iS1 := iS.1; have iS2 := iS.2; have iT1 := iT.1; have iT2 := iT.2
 have HM := Lib.hid hM; have HR := Lib.hid hrun; have GC := Lib.hid gC; have IS := Lib.hid iS; have IT := Lib.hid iT; clear hM hrun gC iS iT
 have hszr := hkx.size
 have hBR : Below w.heap.size w wr := KeepX.below' HBW.out hkx HBW.out.size (by have := HS.out; simp; omega)
 have hLr : ∀ k ∈ L0, k < wr.heap.size := fun k hk => Nat.lt_of_lt_of_le (hL1 k hk) hszr
 by_cases hlt : K < a.length
 case pos =>
  have hlt0 : (0 : Int) ≤ (K : Int) := by omega
  have hlt1 : (K : Int) < (a.length : Int) := by omega
  obtain ⟨x, hx⟩ : ∃ x, a[K]? = some x := ⟨_, List.getElem?_eq_getElem hlt⟩
  obtain ⟨bx, ox, rfl, hbx, jx0, jx1⟩ := cell_cells HA.out.at' hx
  have hx2 := HMA.out.refs x (List.mem_of_getElem? hx)
  replace jx0 := oldcell hBR jx0 hbx; replace jx1 := oldcell hBR jx1 hbx
  have HNX := Lib.hid (show loneRun (a.take (K + 1)) (c, 1, 1) = loneStep (loneRun (a.take K) (c, 1, 1)) x by obtain ⟨h1, h2⟩ := List.getElem?_eq_some_iff.1 hx; rw [List.take_succ_eq_append_getElem h1, h2, loneRun_snoc])
  obtain ⟨xr, hxr⟩ : ∃ z, x.rank = z := ⟨_, rfl⟩
  obtain ⟨xf, hxf⟩ : ∃ z, x.ref = z := ⟨_, rfl⟩
  rw [hxr] at jx0; rw [hxf] at jx1 hx2
  have HXF := Lib.hid hxf; clear hxr hxf hx hbx
  obtain ⟨D, u, e1⟩ : ∃ D u, cand C so xf = (D, u) := ⟨_, _, rfl⟩
  obtain ⟨E, t, e2⟩ : ∃ E t, cor D tw u = (E, t) := ⟨_, _, rfl⟩
  obtain ⟨F, o, e3⟩ : ∃ F o, cor E so xf = (F, o) := ⟨_, _, rfl⟩
  have iX : In C xf := ⟨hx2.1, by omega⟩
  obtain ⟨g1, j1, _⟩ := ok_and.one GC.out.good (by omega) IS.out iX
  rw [e1] at g1 j1; dsimp only at g1 j1
  have l1 := g1.len; have q1 := g1.ge
  obtain ⟨g2, j2, _⟩ := ok_or.one g1.good (by omega) (IT.out.up g1) j1
  rw [e2] at g2 j2; dsimp only at g2 j2
  have l2 := g2.len; have q2 := g2.ge
  have ju1 := j1.1; have ju2 := j1.2; have jt1 := j2.1; have jt2 := j2.2
  have E1 := Lib.hid e1; have E2 := Lib.hid e2; have E3 := Lib.hid e3
  clear e1 e2 e3 g1 g2 j1 j2 iX
  have hlC : C.length ≤ 20000 := by omega
  have hlD : D.length ≤ 20000 := by omega
  have hlE : E.length ≤ 20000 := by omega
  go_upto_region 5 with fail
  obtain ⟨b10, hb10⟩ : ∃ b, b = wr.heap.size := ⟨_, rfl⟩
  obtain ⟨wx, hwx⟩ : ∃ x, x = wr.alloc (.cells #[.int .i64 xr, .int .i64 xf] 76) := ⟨_, rfl⟩
  rw [← hwx, ← hb10]
  have hBx1 : Below wr.heap.size wr wx := by rw [hwx]; go_grown
  have z1 : wx.cell? ⟨b10, 1, none⟩ = some (.int .i64 xf) := by rw [hwx, hb10]; go_cell
  have hne : b10 ≠ s + 3 := by have := hBx.lt; omega
  replace hBx := hBx.upB hBx1; replace hkx := hkx.upB hBx1
  have hLx : ∀ k ∈ L0, k < wx.heap.size := fun k hk => Nat.lt_of_lt_of_le (hLr k hk) hBx1.size
  clear hwx hBx1 jx0 jx1 hBR hszr hb10 hLr
  go_upto_region 6 with (first | (go_at_call 94; refine (andM_is (by omega) (by omega) hlC hBx hLx E1.out).mono ?_; rintro e w2 ⟨rfl, hb2, hk2⟩; have hs2 := hk2.size) | (go_at_call 93; refine (orM_is (by omega) (by omega) hlD hb2 (fun k hk => Nat.lt_of_lt_of_le (hLx k hk) hs2) E2.out).mono ?_; rintro e w3 ⟨rfl, hb3, hk3'⟩; have hs3 := hk3'.size; have z3 := (hk2.trans hk3').cell z1 (by simp; exact hne)))
  go_wp2_with (first | (go_at_call 93; refine (orM_is (by omega) (by omega) hlE hb3 (fun k hk => Nat.lt_of_lt_of_le (hLx k hk) (Nat.le_trans hs2 hs3)) E3.out).mono ?_; rintro e w4 ⟨rfl, hb4, hk4⟩))
  go_roundg (a.length - (K + 1))
  case measure => (have := HM.out; omega)
  case rel => exact ⟨K + 1, F, o, t, by go_num, rfl, rfl, by omega, rfl, by rw [HNX.out, HR.out]; show ((cor (cor (cand C so x.ref).1 tw (cand C so x.ref).2).1 so x.ref).1, _, _) = _; rw [HXF.out, E1.out]; dsimp only; rw [E2.out]; dsimp only; rw [E3.out], hb4, hkx.trans (hk2.trans (hk3'.trans hk4))⟩
 obtain rfl : K = a.length := by omega
 have HF := Lib.hid (show mLone c a = (C, cnot tw) by unfold mLone; have h := HR.out; rw [List.take_length] at h; rw [h])
 obtain ⟨pC, cC, e1, e1f, hCC, hnL⟩ := hBx
 have n2 : ∀ ad, pC = some ad → s + 2 ≠ ad.block := fun ad h e => (HL2.out _ (hnL ad h)) e.symm
 have r0 := hkx.cell HRS.out (by simp)
 have r0f := hkx.free HRF.out (World.block_lt_of_cell? _ _ HRS.out) (by simp)
 have hbw := hBR
 have zz : s + 4 ≤ wr.heap.size := by omega
 have hs : Cells wr [(s + 2, 0, .slice none 0 0)] := ⟨⟨r0, r0f⟩, trivial⟩
 clear hnL r0 r0f hLr hszr hBR
 go_upto_region 8 with fail
 refine wp_region_seqE (fun x => Below wr.heap.size wr x) (.one 0 1 (.one 1 1 (.one 2 1 (.one 3 0 (.one 4 1 (.one 5 1 (.alt 6 3 (.one 7 1 .nil) .stop))))))) (by kernel_rfl) (by kernel_rfl) (by kernel_rfl) (Below.drew (Below.refl _ _)) ?_
 iterate 5 ((first | (refine seqE_free (v := ?_) rfl (by rfl) ?_ ?_; rotate_left; (focus (intro w; go_simp; try with_reducible rfl))) | (refine seqE_pure (v := ?_) rfl (by rfl) ?_ ?_; rotate_left; (focus (intro w hS; have e1 := zD hS e1; go_simp; try with_reducible rfl)))); (try simp only [Act.put, zA, zB, zC]))
 refine seqE_fcall (v := .int .i64 (cnot tw)) (f := ?_) (args := ?_) rfl (by rfl) ?_ ?_ ?_
 rotate_left 2
 focus (intro w; go_simp; first | done | with_reducible rfl | (refine ⟨?_, ?_⟩ <;> with_reducible rfl))
 focus (intro w; refine (not_any tw w (by omega)).mono ?_; rintro e w' ⟨rfl, hw⟩; exact ⟨rfl, hw⟩)
 (try simp only [Act.put, zA, zB, zC])
 refine seqE_storeB rfl (by rfl) ?_ seqE_stop
 intro w1 hS; replace e1 := zD hS e1
 replace hs := hs.up hS; replace hCC := hCC.mono hS; replace hbw := btr hbw hS; replace zz := Nat.le_trans zz (Below.size hS)
 obtain ⟨⟨r0, r0f⟩, -⟩ := id hs
 refine ⟨(w1.setCell ⟨s + 2, 0, none⟩ (.slice pC C.length cC)), (by go_simp; try with_reducible rfl), (fun x => Below ((w1.setCell ⟨s + 2, 0, none⟩ (.slice pC C.length cC))).heap.size ((w1.setCell ⟨s + 2, 0, none⟩ (.slice pC C.length cC))) x), Below.refl _ _, ?_⟩
 obtain ⟨v1, hw⟩ : ∃ zW, zW = (w1.setCell ⟨s + 2, 0, none⟩ (.slice pC C.length cC)) := ⟨_, rfl⟩
 rw [← hw]
 replace hs : Cells v1 [(s + 2, 0, .slice pC C.length cC)] := by rw [hw]; exact ⟨⟨by go_cell, (fz r0f)⟩, trivial⟩
 replace hCC : CAt v1 pC cC C := by rw [hw]; exact hCC.box r0 _
 replace e1 : v1.cell? ⟨s + 3, 0, none⟩ = some (.slice pC C.length cC) := by rw [hw]; exact (keep_far e1 (by first | omega | (dsimp only; omega)))
 replace hbw : Below w.heap.size w v1 := by rw [hw]; exact (Below.setCell hbw (by have h := HS.out; (try dsimp only); omega) _)
 replace zz : s + 4 ≤ v1.heap.size := by rw [hw]; simpa using zz
 clear hw
 clear r0 r0f
 clear hS
 (try simp only [Act.put, zA, zB, zC])
 iterate 1 (refine seqE_free (v := ?_) rfl (by rfl) ?_ ?_; rotate_left; (focus (intro w; go_simp; try with_reducible rfl)); (try simp only [Act.put, zA, zB, zC]))
 refine seqE_nil ?_
 intro wz hS; replace e1 := zD hS e1
 replace hs := hs.up hS; replace hCC := hCC.mono hS; replace hbw := btr hbw hS; replace zz := Nat.le_trans zz (Below.size hS); clear hS
 obtain ⟨⟨r0, r0f⟩, -⟩ := id hs
 go_wp2_with fail
 rw [HF.out]
 refine bodyPost_ret (by simp [results, Try.results39, go_sem, r0]; try rfl) rfl ?_
 exact ⟨_, _, rfl, hCC, hbw⟩
end Go.Proofs.Ytadilppdlbhjnaa
namespace Go.Proofs.Ytadilppdlbhjnaa
set_option linter.unusedSimpArgs false
set_option linter.unusedVariables false
open Go.RowKit
set_option maxRecDepth 100000 in
set_option maxHeartbeats 1000000 in
theorem findcmp_any (xr xf r : Int) (w : World) (h0 : 0 ≤ xr) (h1 : xr ≤ 1000000) (h2 : -1000000 ≤ r) (h3 : r ≤ 1000000) :
 Calls Try.prog 134 #[.agg #[.int .i64 xr, .int .i64 xf], .int .i64 r] w fun e w' => e = .returned (.int .i64 (xr - r)) ∧ Below w.heap.size w w' := by
 have hw : IntKind.i64.wrap (xr - r) = xr - r := by rw [IntWalk.i64_in]; omega
 go_enter Try.func134, Try.ntmps134
 go_wp2_with fail
 refine bodyPost_ret (by simp [results, Try.results134, go_sem]; try rfl) rfl ?_
 exact ⟨by first | rfl | rw [hw], by go_grown⟩
def Found (m : List Cell) (r : Int) (i : Nat) (b : Bool) : Prop := i ≤ m.length ∧ (b = true → ∃ x, m[i]? = some x ∧ x.rank = r) ∧ (b = false → ∀ x ∈ m, x.rank ≠ r)
set_option maxRecDepth 100000 in
set_option maxHeartbeats 2000000 in
theorem bsearch_any (m : List Cell) (r : Int) (p : Option Addr) (cap : Nat) (w : World) (hM : MxAt w p cap m) (hs : Sorted m) (hr : ∀ x ∈ m, 0 ≤ x.rank ∧ x.rank ≤ 1000000) (hl : m.length ≤ 100000) (h2 : -1000000 ≤ r) (h3 : r ≤ 1000000) :
 Calls Try.prog 133 #[.slice p m.length cap, .int .i64 r, .func (.func 134) #[] #[]] w
  fun e w' => ∃ i b, e = .returned (.tuple #[.int .i64 (i : Nat), .bool b]) ∧ Found m r i b ∧ Below w.heap.size w w' := by
 have HM := Lib.hid hM; have HR := Lib.hid hr
 have HS := Lib.hid (show ∀ (i j : Nat) (x y : Cell), m[i]? = some x → m[j]? = some y → i < j → x.rank < y.rank from fun i j x y hx hy hij => by
  obtain ⟨h1, e1⟩ := List.getElem?_eq_some_iff.1 hx
  obtain ⟨h4, e2⟩ := List.getElem?_eq_some_iff.1 hy
  rw [← e1, ← e2]; exact List.pairwise_iff_getElem.1 hs i j h1 h4 hij)
 clear hM hs hr
 go_enter Try.func133, Try.ntmps133
 go_wp2_with fail
 go_loopg [9, 10] m.length (fun M s9 s10 wr => ∃ lo hi : Nat, s9 = .int .i64 lo ∧ s10 = .int .i64 hi ∧ lo ≤ hi ∧ hi ≤ m.length ∧ M = hi - lo ∧ (∀ i x, m[i]? = some x → i < lo → x.rank < r) ∧ (∀ i x, m[i]? = some x → hi ≤ i → r ≤ x.rank) ∧ Below w.heap.size w wr)
 case atStart => exact ⟨0, m.length, rfl, rfl, by omega, by omega, rfl, fun i x _ h => by omega, fun i x h1 h2 => by have := (List.getElem?_eq_some_iff.1 h1).1; omega, Below.refl _ _⟩
 obtain ⟨lo, hi, rfl, rfl, hlh, hhi, hM, hlow, hhigh, hb⟩ := hrel
 have HMM := Lib.hid hM; have HL := Lib.hid hlow; have HH := Lib.hid hhigh; clear hM hlow hhigh
 by_cases hlt : lo < hi
 case pos =>
  obtain ⟨h, hh⟩ : ∃ h, (lo + hi) / 2 = h := ⟨_, rfl⟩
  have hh1 : lo ≤ h := by omega
  have hh2 : h < hi := by omega
  have hh0 : (0 : Int) ≤ (h : Int) := by omega
  have hh3 : (h : Int) < (m.length : Int) := by omega
  obtain ⟨x, hx⟩ : ∃ x, m[h]? = some x := ⟨_, List.getElem?_eq_getElem (by omega)⟩
  obtain ⟨bx, ox, rfl, hbx, j0, j1⟩ := cell_cells HM.out.at' hx
  replace j0 := oldcell hb j0 hbx; replace j1 := oldcell hb j1 hbx
  have hxr := HR.out x (List.mem_of_getElem? hx)
  obtain ⟨xr, hxe⟩ : ∃ z, x.rank = z := ⟨_, rfl⟩
  obtain ⟨xf, hxf⟩ : ∃ z, x.ref = z := ⟨_, rfl⟩
  rw [hxe] at j0 hxr; rw [hxf] at j1
  have HX := Lib.hid hx; have HXE := Lib.hid hxe
  have q1 := hxr.1; have q2 := hxr.2
  clear hx hxe hxf hbx hxr
  by_cases hc : xr - r < 0
  · go_wp2_with (first | (go_at_call 134; refine (findcmp_any xr xf r _ q1 q2 h2 h3).mono ?_; rintro e w2 ⟨rfl, hb2⟩))
    go_roundg (hi - (h + 1))
    case measure => (have := HMM.out; omega)
    case rel => exact ⟨h + 1, hi, by go_num, rfl, by omega, hhi, rfl, fun i y hy hi' => by
     by_cases e : i = h
     · subst e; rw [HX.out] at hy; cases hy; have := HXE.out; omega
     · have := HS.out i h y x hy HX.out (by omega); have := HXE.out; omega, HH.out, btr hb hb2⟩
  · go_wp2_with (first | (go_at_call 134; refine (findcmp_any xr xf r _ q1 q2 h2 h3).mono ?_; rintro e w2 ⟨rfl, hb2⟩))
    go_roundg (h - lo)
    case measure => (have := HMM.out; omega)
    case rel => exact ⟨lo, h, rfl, by first | rfl | go_num, by omega, by omega, rfl, HL.out, fun i y hy hi' => by
     by_cases e : i = h
     · subst e; rw [HX.out] at hy; cases hy; have := HXE.out; omega
     · have := HS.out h i x y HX.out hy (by omega); have := HXE.out; omega, btr hb hb2⟩
 obtain rfl : lo = hi := by omega
 by_cases hlm : lo < m.length
 · have hlm2 : (lo : Int) < (m.length : Int) := by omega
   have hl0 : (0 : Int) ≤ (lo : Int) := by omega
   obtain ⟨x, hx⟩ : ∃ x, m[lo]? = some x := ⟨_, List.getElem?_eq_getElem hlm⟩
   obtain ⟨bx, ox, rfl, hbx, j0, j1⟩ := cell_cells HM.out.at' hx
   replace j0 := oldcell hb j0 hbx; replace j1 := oldcell hb j1 hbx
   have hxr := HR.out x (List.mem_of_getElem? hx)
   obtain ⟨xr, hxe⟩ : ∃ z, x.rank = z := ⟨_, rfl⟩
   obtain ⟨xf, hxf⟩ : ∃ z, x.ref = z := ⟨_, rfl⟩
   rw [hxe] at j0 hxr; rw [hxf] at j1
   have HX := Lib.hid hx; have HXE := Lib.hid hxe
   have q1 := hxr.1; have q2 := hxr.2
   clear hx hxe hxf hbx hxr
   obtain ⟨t, ht⟩ : ∃ t, (xr - r == 0) = t := ⟨_, rfl⟩
   have HT := Lib.hid ht
   go_wp2_with (first | (go_at_call 134; refine (findcmp_any xr xf r _ q1 q2 h2 h3).mono ?_; rintro e w2 ⟨rfl, hb2⟩))
   refine bodyPost_ret (by simp [results, Try.results133, go_sem]; try rfl) rfl ?_
   refine ⟨lo, t, rfl, ⟨hhi, fun h => ⟨x, HX.out, ?_⟩, fun h y hy he => ?_⟩, btr hb hb2⟩
   · have h5 := HT.out; rw [h] at h5; have := HXE.out; simp at h5; omega
   · have h5 := HT.out; rw [h] at h5; have := HXE.out; simp at h5
     obtain ⟨i, hi⟩ := List.getElem?_of_mem hy
     rcases Nat.lt_trichotomy i lo with h6 | rfl | h6
     · have := HL.out i y hi h6; omega
     · rw [HX.out] at hi; cases hi; omega
     · have := HS.out lo i x y HX.out hi h6; have := HH.out lo x HX.out (Nat.le_refl _); omega
 · obtain rfl : lo = m.length := by omega
   go_wp2_with fail
   refine bodyPost_ret (by simp [results, Try.results133, go_sem]; try rfl) rfl ?_
   refine ⟨_, false, rfl, ⟨Nat.le_refl _, (fun h => by cases h), fun _ y hy he => ?_⟩, hb⟩
   obtain ⟨i, hi⟩ := List.getElem?_of_mem hy
   have := HL.out i y hi (List.getElem?_eq_some_iff.1 hi).1
   omega
theorem Found.mat {m : List Cell} {r : Int} {i : Nat} {b : Bool} (h : Found m r i b) (hs : Sorted m) : (b = true → ∃ x, m[i]? = some x ∧ mat m r = x.ref) ∧ (b = false → mat m r = 1) :=
 ⟨fun hb => by obtain ⟨x, hx, rfl⟩ := h.2.1 hb; exact ⟨x, hx, mat_mem hs (List.mem_of_getElem? hx)⟩, fun hb => mat_out (h.2.2 hb)⟩
set_option maxRecDepth 100000 in
set_option maxHeartbeats 2000000 in
theorem find_any (m : List Cell) (ar r : Int) (p : Option Addr) (cap : Nat) (w : World) (hM : MxAt w p cap m) (hs : Sorted m) (hr : ∀ x ∈ m, 0 ≤ x.rank ∧ x.rank ≤ 1000000) (hl : m.length ≤ 100000) (h2 : -1000000 ≤ r) (h3 : r ≤ 1000000) :
 Calls Try.prog 91 #[.agg #[.int .i64 ar, .slice p m.length cap], .int .i64 r] w fun e w' => e = .returned (.int .i64 (mat m r)) ∧ Below w.heap.size w w' := by
 have HM := Lib.hid hM; have HR := Lib.hid hr; have HSO := Lib.hid hs
 clear hM hs hr
 obtain ⟨W2, hW2⟩ : ∃ W2, W2 = w.alloc (.cells #[.int .i64 ar, .slice p m.length cap] 30) := ⟨_, rfl⟩
 have hB : Below w.heap.size w W2 := by rw [hW2]; go_grown
 obtain ⟨s, hs⟩ : ∃ s, w.heap.size = s := ⟨_, rfl⟩
 have y1 : W2.cell? ⟨s, 1, none⟩ = some (.slice p m.length cap) := by rw [hW2, ← hs]; go_cell
 have HW2 := Lib.hid hW2; have HS := Lib.hid hs
 clear hW2 hs
 go_enter Try.func91, Try.ntmps91
 go_upto_region 1 with fail
 rw [← HW2.out]
 simp only [HS.out]
 go_upto_region 2 with (first | (go_at_call 133; refine (bsearch_any m r p cap W2 (HM.out.up hB) HSO.out HR.out hl h2 h3).mono ?_; rintro e w2 ⟨i, b, rfl, hF, hb2⟩))
 have hFM := hF.mat HSO.out
 have y1 := zD hb2 y1
 cases b
 case false =>
  have HE := Lib.hid (hFM.2 rfl)
  clear hFM hF
  go_wp2_with fail
  go_ret
  exact ⟨by rw [HE.out]; rfl, btr hB hb2⟩
 obtain ⟨x, hx, he⟩ := hFM.1 rfl
 have HE := Lib.hid he
 have hi0 : (0 : Int) ≤ (i : Int) := by omega
 have hi1 : (i : Int) < (m.length : Int) := by have := (List.getElem?_eq_some_iff.1 hx).1; omega
 obtain ⟨bx, ox, rfl, hbx, j0, j1⟩ := cell_cells HM.out.at' hx
 replace j1 := oldcell (btr hB hb2) j1 hbx
 clear hFM hF hx he j0 hbx
 go_wp2_with fail
 go_ret
 exact ⟨by rw [HE.out]; rfl, btr hB hb2⟩
end Go.Proofs.Ytadilppdlbhjnaa
