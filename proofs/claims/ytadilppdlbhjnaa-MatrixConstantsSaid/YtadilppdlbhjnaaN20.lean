/- Walks of layer 14: the Valid at a matrix whose first reference is none of the circuit's. -/
import Derived.Test.YtadilppdlbhjnaaGH
namespace Go.Proofs.Ytadilppdlbhjnaa
set_option linter.unusedSimpArgs false
set_option linter.unusedVariables false
open Go.RowKit

set_option maxRecDepth 100000 in
set_option maxHeartbeats 4000000 in
theorem mxvalid_no (c : List Gate) (m : List Cell) (y : Cell) (ar : Int) (p pm : Option Addr) (cap cm : Nat) (w : World) (hM : MxAt w pm cm m) (hl : c.length ≤ 20000) (hml : m.length ≤ 20000) (hy0 : m[0]? = some y) (hy1 : 0 ≤ y.rank ∧ y.rank ≤ 100000) (hy2 : 0 ≤ y.ref ∧ y.ref ≠ 1 ∧ y.ref ≤ 100000) (hy3 : (c.length : Int) ≤ y.ref / 2) :
    Calls Try.prog 28 #[.agg #[.slice p c.length cap], .agg #[.int .i64 ar, .slice pm m.length cm]] w (fun e w' => e = .returned (.bool false) ∧ Below w.heap.size w w') := by
 have HY0 := Lib.hid hy0; clear hy0
 obtain ⟨s, hs0⟩ : ∃ s, w.heap.size = s := ⟨_, rfl⟩
 obtain ⟨W2, hW2⟩ : ∃ W2, W2 = ((w.alloc (.cells #[.slice p c.length cap] 27)).alloc (.cells #[.int .i64 ar, .slice pm m.length cm] 30)) := ⟨_, rfl⟩
 have hbw : Below w.heap.size w W2 := by rw [hW2]; go_grown
 have zz : s + 2 ≤ W2.heap.size := by rw [hW2, ← hs0]; simp
 have hk : Cells W2 [(s, 0, .slice p c.length cap), (s + 1, 0, .int .i64 ar), (s + 1, 1, .slice pm m.length cm)] := by rw [hW2, ← hs0]; exact ⟨⟨by go_cell, by go_cell⟩, ⟨by go_cell, by go_cell⟩, ⟨by go_cell, by go_cell⟩, trivial⟩
 have HW2 := Lib.hid hW2; have HS := Lib.hid hs0
 clear hW2 hs0
 replace hM : MxAt W2 pm cm m := hM.up hbw
 go_enter Try.func28, Try.ntmps28
 go_upto_region 1 with fail
 rw [← HW2.out]
 simp only [HS.out, Nat.add_assoc, Nat.reduceAdd]
 obtain ⟨⟨y00, y00f⟩, ⟨y10, y10f⟩, ⟨y11, y11f⟩, -⟩ := id hk
 go_upto_region 2 with fail
 obtain ⟨w3, hw⟩ : ∃ zW, zW = (W2.alloc (.cells #[.slice p c.length cap] 87)) := ⟨_, rfl⟩
 rw [← hw]
 obtain ⟨b5, hb5⟩ : ∃ zW, zW = W2.heap.size := ⟨_, rfl⟩
 rw [← hb5]
 have hbl : Below W2.heap.size W2 w3 := by rw [hw]; go_grown
 have hge5 : s + 2 ≤ b5 := by rw [hb5]; omega
 have hgw5 : W2.heap.size ≤ b5 := by rw [hb5]; omega
 clear y00 y00f y10 y10f y11 y11f
 replace hk := hk.up hbl; replace hM := hM.up hbl; replace hbw := btr hbw hbl; replace zz := Nat.le_trans zz (Below.size hbl)
 have hs : Cells w3 [(b5, 0, .slice p c.length cap)] := ⟨⟨by rw [hw, hb5]; go_cell, by rw [hw, hb5]; go_cell⟩, trivial⟩
 clear hbl hw hb5
 have hk0 := hk; clear hk; have hk := (show Cells w3 [(b5, 0, .slice p c.length cap), (s, 0, .slice p c.length cap), (s + 1, 0, .int .i64 ar), (s + 1, 1, .slice pm m.length cm)] from ⟨hs.1, hk0⟩); clear hs hk0
 obtain ⟨⟨d50, d50f⟩, ⟨y00, y00f⟩, ⟨y10, y10f⟩, ⟨y11, y11f⟩, -⟩ := id hk
 go_wp2_with fail
 go_loopg [6, 14] 0 (fun N s6 s14 wr => ∃ K : Nat, ∃ V : Int, s14 = .int .i64 K ∧ s6 = .int .i64 V ∧ K = 0 ∧ N = 0 ∧ V = -1 ∧ Cells wr [(b5, 0, .slice p c.length cap), (s, 0, .slice p c.length cap), (s + 1, 0, .int .i64 ar), (s + 1, 1, .slice pm m.length cm)] ∧ MxAt wr pm cm m ∧ Below w.heap.size w wr ∧ s + 2 ≤ wr.heap.size)
 case atStart => exact ⟨0, -1, rfl, rfl, rfl, rfl, rfl, hk, hM, hbw, zz⟩
 case round =>
  clear hk hM hbw zz
  obtain ⟨K, V, rfl, rfl, rfl, hN, rfl, hk, hM, hbw, zz⟩ := hrel
  have hlt : 0 < m.length := (List.getElem?_eq_some_iff.1 HY0.out).1
  have hlt1 : (0 : Int) < (m.length : Int) := by omega
  have hy := HY0.out
  obtain ⟨by', oy, rfl, hby, jy0, jy1⟩ := cell_cells hM.at' hy
  obtain ⟨yr, hyr⟩ : ∃ z, y.rank = z := ⟨_, rfl⟩
  obtain ⟨yf, hyf⟩ : ∃ z, y.ref = z := ⟨_, rfl⟩
  rw [hyr] at jy0 hy1; rw [hyf] at jy1 hy2 hy3
  clear hyr hyf hy
  obtain ⟨t1, t3, t4⟩ := hy2
  have g1 : ¬ yr ≤ -1 := by omega
  have g2 : ¬ yf < 0 := by omega
  have g4 : yf.tdiv 2 = yf / 2 := Int.tdiv_eq_ediv_of_nonneg t1
  have g5 : IntKind.i64.wrap (yf / 2) = yf / 2 := by rw [IntWalk.i64_in]; omega
  have g6 : (c.length : Int) ≤ yf / 2 := hy3
  have g7 : (yf == 1) = false := by simp [t3]
  have g8 : decide (yr ≤ -1) = false := by simp [g1]
  have g9 : decide (yf < 0) = false := by simp [g2]
  have g10 : decide ((c.length : Int) ≤ yf / 2) = true := by simp [g6]
  simp only [Nat.zero_mul, Nat.add_zero] at jy0 jy1
  clear d50 d50f y00 y00f y10 y10f y11 y11f
  obtain ⟨⟨d50, d50f⟩, ⟨y00, y00f⟩, ⟨y10, y10f⟩, ⟨y11, y11f⟩, -⟩ := id hk
  go_upto_region 5 with fail
  obtain ⟨wy, hw⟩ : ∃ zW, zW = wr.alloc (.cells #[.int .i64 yr, .int .i64 yf] 76) := ⟨_, rfl⟩
  obtain ⟨b8, hb8⟩ : ∃ zW, zW = wr.heap.size := ⟨_, rfl⟩
  rw [← hw, ← hb8]
  have hbl : Below wr.heap.size wr wy := by rw [hw]; go_grown
  have hge8 : s + 2 ≤ b8 := by rw [hb8]; exact zz
  have hgw8 : wr.heap.size ≤ b8 := by rw [hb8]; exact Nat.le_refl _
  clear d50 d50f y00 y00f y10 y10f y11 y11f
  replace jy0 := oldcell hbl jy0 (World.block_lt_of_cell? _ _ jy0)
  replace jy1 := oldcell hbl jy1 (World.block_lt_of_cell? _ _ jy1)
  replace hk := hk.up hbl; replace hM := hM.up hbl; replace hbw := btr hbw hbl; replace zz := Nat.le_trans zz (Below.size hbl)
  have hs : Cells wy [(b8, 0, .int .i64 yr), (b8, 1, .int .i64 yf)] := ⟨⟨by rw [hw, hb8]; go_cell, by rw [hw, hb8]; go_cell⟩, ⟨by rw [hw, hb8]; go_cell, by rw [hw, hb8]; go_cell⟩, trivial⟩
  clear hbl hw hb8
  clear jy0 jy1
  refine wp_region_seqE (fun x => Below wy.heap.size wy x) (.one 0 1 (.one 1 0 (.one 2 1 (.one 3 1 (.one 4 1 (.one 5 1 (.one 6 0 (.one 7 1 (.one 8 1 (.one 9 1 (.one 10 1 (.one 11 0 (.one 12 1 (.one 13 1 (.one 14 1 (.one 15 1 (.one 16 0 (.one 17 1 (.one 18 0 (.one 19 1 (.one 20 1 .nil))))))))))))))))))))) (by kernel_rfl) (by kernel_rfl) (by kernel_rfl) (Below.drew (Below.refl _ _)) ?_
  iterate 18 (first | (refine seqE_free (v := ?_) rfl (by rfl) ?_ ?_; rotate_left; (focus (intro w; go_simp; try with_reducible rfl)); (try simp only [Act.put, List.setIfInBounds_toArray, List.set_cons_zero, List.set_cons_succ])) | (refine seqE_pure (v := ?_) rfl (by rfl) ?_ ?_; rotate_left; (focus (intro w hS; obtain ⟨⟨d80, -⟩, ⟨d81, -⟩, -⟩ := hs.up hS; go_simp; try with_reducible rfl)); (try simp only [Act.put, List.setIfInBounds_toArray, List.set_cons_zero, List.set_cons_succ])))
  refine seqE_still (v := .int .i64 c.length) (f := ?_) (args := ?_) rfl (by rfl) ?_ ?_ ?_
  rotate_left 2
  focus (intro w hS; go_simp; first | done | with_reducible rfl | (refine ⟨?_, ?_⟩ <;> with_reducible rfl))
  focus (intro w hS; obtain ⟨⟨q0, -⟩, -⟩ := hk.up hS; exact size_any c p cap _ _ q0)
  (try simp only [Act.put, List.setIfInBounds_toArray, List.set_cons_zero, List.set_cons_succ])
  iterate 2 (refine seqE_free (v := ?_) rfl (by rfl) ?_ ?_; rotate_left; (focus (intro w; go_simp; try with_reducible rfl)); (try simp only [Act.put, List.setIfInBounds_toArray, List.set_cons_zero, List.set_cons_succ]))
  refine seqE_nil ?_
  intro wz hS
  replace hs := hs.up hS; replace hk := hk.up hS; replace hM := hM.up hS; replace hbw := btr hbw hS; replace zz := Nat.le_trans zz (Below.size hS); clear hS
  obtain ⟨⟨d80, d80f⟩, ⟨d81, d81f⟩, -⟩ := id hs
  obtain ⟨⟨d50, d50f⟩, ⟨y00, y00f⟩, ⟨y10, y10f⟩, ⟨y11, y11f⟩, -⟩ := id hk
  go_wp2_with fail
  refine bodyPost_ret (by simp [results, Try.results28, go_sem]; try rfl) rfl ?_
  exact ⟨rfl, hbw⟩
end Go.Proofs.Ytadilppdlbhjnaa
