/- Walks of layer 14: fold at or, Some. -/
import Derived.Test.YtadilppdlbhjnaaN17
namespace Go.Proofs.Ytadilppdlbhjnaa
set_option linter.unusedSimpArgs false
set_option linter.unusedVariables false
open Go.RowKit


set_option maxRecDepth 100000 in
set_option maxHeartbeats 2000000 in
theorem fold_or (L0 : List Nat) (c : List Gate) (a : List Cell) (bb : Nat) (pa : Option Addr) (ca : Nat) (w : World) (hB : BxA L0 w bb c) (hL : ∀ k ∈ L0, k < w.heap.size) (hA : MxAt w pa ca a) (hna : ∀ ad, pa = some ad → ad.block ≠ bb) (hg : Good c) (hl : c.length + a.length + 2 ≤ 20000) (hr : ∀ x ∈ a, In c x.ref) :
    Calls Try.prog 92 #[.int .i64 1, .slice pa a.length ca, .func (.func 93) #[.pointer (some ⟨bb, 0, none⟩)] #[]] w (MRet L0 w bb (mSome c a)) := by
  have LO := Lib.hid (or_pre (l := a.map Cell.ref) hg (by rw [List.length_map]; omega) (fun r hr' => by obtain ⟨x, hx, rfl⟩ := List.mem_map.1 hr'; exact hr x hx))
  have HA := Lib.hid hA; have HR0 := Lib.hid hr; have HNA := Lib.hid hna
  clear hA hr hna hg
  go_enter Try.func92, Try.ntmps92
  go_wp2_with fail
  go_loopg [11, 0] a.length (fun M s11 s0 wr => ∃ (K : Nat) (C : List Gate) (r : Int), s11 = .int .i64 K ∧ s0 = .int .i64 r ∧ K ≤ a.length ∧ M = a.length - K ∧ orAll ((a.map Cell.ref).take K) (c, 1) = (C, r) ∧ BxA L0 wr bb C ∧ KeepX [bb] w wr)
  case atStart => exact ⟨0, c, 1, rfl, rfl, by omega, rfl, rfl, hB, KeepX.refl _ _⟩
  case round =>
    clear hB
    obtain ⟨K, C, r, rfl, rfl, hK, hM, hrun, hBx, hkx⟩ := hrel
    obtain ⟨gC, iS⟩ := LO.out K (by rw [List.length_map]; exact hK)
    rw [hrun] at gC iS
    dsimp only at gC iS
    have hCl := gC.len; have hCg := gC.ge
    have iS1 := iS.1; have iS2 := iS.2
    have HM := Lib.hid hM; have HR := Lib.hid hrun; have GC := Lib.hid gC; have IS := Lib.hid iS; clear hM hrun gC iS
    have hszr := hkx.size
    have hLr : ∀ k ∈ L0, k < wr.heap.size := fun k hk => Nat.lt_of_lt_of_le (hL k hk) hszr
    by_cases hlt : K < a.length
    case pos =>
      have hlt0 : (0 : Int) ≤ (K : Int) := by omega
      have hlt1 : (K : Int) < (a.length : Int) := by omega
      obtain ⟨x, hx⟩ : ∃ x, a[K]? = some x := ⟨_, List.getElem?_eq_getElem hlt⟩
      obtain ⟨bx, ox, rfl, hbx, jx0, jx1⟩ := cell_cells HA.out.at' hx
      have hx2 := HR0.out x (List.mem_of_getElem? hx)
      have hne := HNA.out _ rfl
      dsimp only at hne
      replace jx0 := hkx.cell jx0 (by simp; exact hne); replace jx1 := hkx.cell jx1 (by simp; exact hne)
      have HNX := Lib.hid (show orAll ((a.map Cell.ref).take (K + 1)) (c, 1) = cor (orAll ((a.map Cell.ref).take K) (c, 1)).1 (orAll ((a.map Cell.ref).take K) (c, 1)).2 x.ref by
        have h1 : (a.map Cell.ref)[K]? = some x.ref := by rw [List.getElem?_map, hx]; rfl
        obtain ⟨h1, h2⟩ := List.getElem?_eq_some_iff.1 h1
        rw [List.take_succ_eq_append_getElem h1, h2, orAll, List.foldl_append]; rfl)
      obtain ⟨xr, hxr⟩ : ∃ z, x.rank = z := ⟨_, rfl⟩
      obtain ⟨xf, hxf⟩ : ∃ z, x.ref = z := ⟨_, rfl⟩
      rw [hxr] at jx0; rw [hxf] at jx1 hx2
      have HXF := Lib.hid hxf; clear hxr hxf hx hbx
      have hx21 := hx2.1; have hx22 := hx2.2
      obtain ⟨D, t, e1⟩ : ∃ D t, cor C r xf = (D, t) := ⟨_, _, rfl⟩
      have E1 := Lib.hid e1
      clear e1
      have hlC : C.length ≤ 20000 := by rw [show C.length ≤ 20000 ↔ True by simp; omega]; trivial
      go_upto_region 4 with fail
      obtain ⟨b8, hb8⟩ : ∃ b, b = wr.heap.size := ⟨_, rfl⟩
      obtain ⟨wx, hwx⟩ : ∃ x, x = wr.alloc (.cells #[.int .i64 xr, .int .i64 xf] 76) := ⟨_, rfl⟩
      rw [← hwx, ← hb8]
      have hBx1 : Below wr.heap.size wr wx := by rw [hwx]; go_grown
      have z1 : wx.cell? ⟨b8, 1, none⟩ = some (.int .i64 xf) := by rw [hwx, hb8]; go_cell
      replace hBx := hBx.upB hBx1; replace hkx := hkx.upB hBx1
      have hLx : ∀ k ∈ L0, k < wx.heap.size := fun k hk => Nat.lt_of_lt_of_le (hLr k hk) hBx1.size
      clear hwx hBx1 jx0 jx1 hszr hb8 hLr
      go_wp2_with (first | (go_at_call 93; refine (orM_is (by omega) (by omega) hlC hBx hLx E1.out).mono ?_; rintro e w2 ⟨rfl, hb2, hk2⟩))
      go_roundg (a.length - (K + 1))
      case measure => (have := HM.out; omega)
      case rel => exact ⟨K + 1, D, t, by go_num, rfl, by omega, rfl, by rw [HNX.out, HR.out, HXF.out]; exact E1.out, hb2, hkx.trans hk2⟩
    case neg =>
      obtain rfl : K = a.length := by omega
      have HF := Lib.hid (show mSome c a = (C, r) by unfold mSome; have h := HR.out; rw [← List.length_map (f := Cell.ref), List.take_length] at h; exact h)
      go_wp2_with fail
      go_ret
      rw [HF.out]
      exact ⟨rfl, hBx, hkx⟩

set_option maxRecDepth 100000 in
set_option maxHeartbeats 4000000 in
theorem some_any (c : List Gate) (a : List Cell) (ar N : Int) (p pa : Option Addr) (cap ca : Nat) (w : World) (hC : CAt w p cap c) (hA : MxAt w pa ca a) (hg : Good c) (hl : c.length + a.length + 2 ≤ 20000) (ha : MOk c N a) :
    Calls Try.prog 38 #[.agg #[.slice p c.length cap], .agg #[.int .i64 ar, .slice pa a.length ca]] w (RetC w (mSome c a).1 (mSome c a).2) := by
 obtain ⟨s, hs0⟩ : ∃ s, w.heap.size = s := ⟨_, rfl⟩
 obtain ⟨W2, hW2⟩ : ∃ W2, W2 = ((((w.alloc (.cells #[.slice p c.length cap] 27)).alloc (.cells #[.int .i64 ar, .slice pa a.length ca] 30)).alloc (.cells #[.slice none 0 0] 27)).alloc (.cells #[.slice p c.length cap] 87)) := ⟨_, rfl⟩
 have hbw : Below w.heap.size w W2 := by rw [hW2]; go_grown
 have zz : s + 4 ≤ W2.heap.size := by rw [hW2, ← hs0]; simp
 have hs : Cells W2 [(s + 1, 0, .int .i64 ar), (s + 1, 1, .slice pa a.length ca), (s + 2, 0, .slice none 0 0), (s + 3, 0, .slice p c.length cap)] := by rw [hW2, ← hs0]; exact ⟨⟨by go_cell, by go_cell⟩, ⟨by go_cell, by go_cell⟩, ⟨by go_cell, by go_cell⟩, ⟨by go_cell, by go_cell⟩, trivial⟩
 have hk : Cells W2 [(s, 0, .slice p c.length cap)] := by rw [hW2, ← hs0]; exact ⟨⟨by go_cell, by go_cell⟩, trivial⟩
 have HW2 := Lib.hid hW2; have HS := Lib.hid hs0
 clear hW2 hs0
 have hc0 : 0 < c.length := hg.ne
 have HMA := Lib.hid ha; have HA := Lib.hid hA; have HG := Lib.hid hg
 have hpa : ∀ ad, pa = some ad → ad.block ≠ s + 3 := fun ad h e => by have := hA.lt ad h; have := HS.out; omega
 obtain ⟨L0, hL0⟩ : ∃ L, L = (s + 2) :: oth s p := ⟨_, rfl⟩
 have hpl : ∀ ad, p = some ad → ad.block < s := by rw [← HS.out]; exact hC.lt hc0
 have hL1 : ∀ k ∈ L0, k < W2.heap.size := by
   intro k hk; rw [hL0] at hk
   simp only [List.mem_cons] at hk
   rcases hk with e | hk
   all_goals first | omega | (have := oth_lt hk; omega)
 have hL3 : ∀ ad, p = some ad → ad.block ∉ L0 := by
   intro ad h hm; rw [hL0] at hm
   have := hpl ad h
   simp only [List.mem_cons] at hm
   rcases hm with e | hm
   all_goals first | omega | exact oth_not h hm
 have HL2 := Lib.hid (show ∀ k, k ∉ L0 → k ≠ s + 2 from by
   intro k hk; rw [hL0] at hk
   simp only [List.mem_cons, not_or] at hk
   exact hk.1)
 
 obtain ⟨⟨x0, -⟩, ⟨x1, -⟩, ⟨z0, z0f⟩, ⟨z1, z1f⟩, -⟩ := id hs
 have hBx : BxA L0 W2 (s + 3) c := ⟨p, cap, z1, z1f, hC.mono hbw, hL3⟩
 clear ha hg hA hC hL0 hL3 hpl z1 z1f x0
 clear hs hk
 go_enter Try.func38, Try.ntmps38
 go_upto_region 2 with fail
 rw [← HW2.out]
 simp only [HS.out, Nat.add_assoc, Nat.reduceAdd]
 go_upto_region 3 with (first | (go_at_call 92; refine (fold_or L0 c a (s + 3) pa ca W2 hBx hL1 (HA.out.up hbw) hpa HG.out hl (fun x hx => HMA.out.ref_in hx)).mono ?_; rintro e w3 ⟨rfl, hb3, hk3⟩))
 obtain ⟨C, r, hCr⟩ : ∃ C r, mSome c a = (C, r) := ⟨_, _, rfl⟩
 rw [hCr] at hb3
 dsimp only at hb3
 have HCr := Lib.hid hCr
 obtain ⟨pC, cC, e1, e1f, hCC, hnL⟩ := hb3
 have n2 : ∀ ad, pC = some ad → s + 2 ≠ ad.block := fun ad h e => (HL2.out _ (hnL ad h)) e.symm
 have r0 := hk3.cell z0 (by simp)
 have r0f := hk3.free z0f (World.block_lt_of_cell? _ _ z0) (by simp)
 have hB3 : Below w.heap.size w w3 := KeepX.below' hbw hk3 hbw.size (by have := HS.out; simp; omega)
 clear hCr z0 z0f x1
 go_wp2_with fail
 obtain ⟨W9, hW9⟩ : ∃ W9, W9 = w3.setCell ⟨s + 2, 0, none⟩ (.slice pC C.length cC) := ⟨_, rfl⟩
 rw [← hW9]
 have r1 : W9.cell? ⟨s + 2, 0, none⟩ = some (.slice pC C.length cC) := by rw [hW9]; go_cell
 replace hCC : CAt W9 pC cC C := by rw [hW9]; exact hCC.set n2 _
 have B9 : Below w.heap.size w W9 := by rw [hW9]; exact Below.setCell hB3 (by have h := HS.out; (try dsimp only); omega) _
 clear hW9
 rw [HCr.out]
 refine bodyPost_ret (by simp [results, Try.results38, go_sem, r1]; try rfl) rfl ?_
 exact ⟨_, _, rfl, hCC, B9⟩
end Go.Proofs.Ytadilppdlbhjnaa
