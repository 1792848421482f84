import Derived.Test.YtadilppdlbhjnaaM4
namespace Go.Proofs.Ytadilppdlbhjnaa
set_option linter.unusedSimpArgs false
set_option linter.unusedVariables false
open Go.RowKit
theorem cell_held : Try.prog.stoodInHeld 76 = false := by kernel_rfl
@[go_sem] theorem cell_neq_self (a b : Int) (w : World) : (binOp .neq 76 (.agg #[.int .i64 a, .int .i64 b]) (.agg #[.int .i64 a, .int .i64 b])).run Try.prog w = .ok (.bool false) w := by
 have h1 := cell_held
 simp [binOp, Op.equal, Op.maxDepth, go_sem, h1]
set_option maxRecDepth 100000 in
set_option maxHeartbeats 2000000 in
theorem same14_any (m : List Cell) (ar : Int) (p q : Option Addr) (cap cq : Nat) (w : World) (h : MxAt w p cap m) (k : MxAt w q cq m) (hl : m.length ≤ 20000) :
 Calls Try.prog 27 #[.agg #[.int .i64 ar, .slice p m.length cap], .agg #[.int .i64 ar, .slice q m.length cq]] w (RetB w true) := by
 have H := Lib.hid h; have K0 := Lib.hid k; clear h k
 obtain ⟨s, hs⟩ : ∃ s, w.heap.size = s := ⟨_, rfl⟩
 obtain ⟨W2, hW2⟩ : ∃ W2, W2 = (w.alloc (.cells #[.int .i64 ar, .slice p m.length cap] 30)).alloc (.cells #[.int .i64 ar, .slice q m.length cq] 30) := ⟨_, rfl⟩
 have hB : Below w.heap.size w W2 := by rw [hW2]; go_grown
 have y0 : W2.cell? ⟨s, 0, none⟩ = some (.int .i64 ar) := by rw [hW2, ← hs]; go_cell
 have y1 : W2.cell? ⟨s, 1, none⟩ = some (.slice p m.length cap) := by rw [hW2, ← hs]; go_cell
 have x0 : W2.cell? ⟨s + 1, 0, none⟩ = some (.int .i64 ar) := by rw [hW2, ← hs]; go_cell
 have x1 : W2.cell? ⟨s + 1, 1, none⟩ = some (.slice q m.length cq) := by rw [hW2, ← hs]; go_cell
 have HB := Lib.hid hB; have HW2 := Lib.hid hW2; have HS := Lib.hid hs
 clear hB hW2 hs
 go_enter Try.func27, Try.ntmps27
 go_upto_region 1 with fail
 rw [← HW2.out]
 simp only [HS.out]
 go_wp2_with fail
 go_loopg [5] m.length (fun N v5 wr => ∃ K : Nat, v5 = .int .i64 K ∧ K ≤ m.length ∧ N = m.length - K ∧ Below W2.heap.size W2 wr)
 case atStart => exact ⟨0, rfl, by omega, rfl, Below.refl _ _⟩
 obtain ⟨K, rfl, hK, hN, hb⟩ := hrel
 have HNk := Lib.hid hN; clear hN
 have y1 := zD hb y1
 have x1 := zD hb x1
 have HBR := Lib.hid (HB.out.trans (hb.mono HB.out.size))
 have HBW := Lib.hid hb
 by_cases hlt : K < m.length
 case neg =>
  go_wp2_with fail
  go_ret
  exact ⟨rfl, HBR.out⟩
 have hlt0 : (0 : Int) ≤ (K : Int) := by omega
 have hlt1 : (K : Int) < (m.length : Int) := by omega
 obtain ⟨x, hx⟩ : ∃ x, m[K]? = some x := ⟨_, List.getElem?_eq_getElem hlt⟩
 obtain ⟨b, off, rfl, hb1, h0, h1⟩ := cell_cells H.out.at' hx
 obtain ⟨b2, off2, rfl, hb2, g0, g1⟩ := cell_cells K0.out.at' hx
 have k0 := oldcell HBR.out h0 hb1
 have k1 := oldcell HBR.out h1 hb1
 have j0 := oldcell HBR.out g0 hb2
 have j1 := oldcell HBR.out g1 hb2
 clear hx h0 h1 g0 g1 hb
 go_upto_region 6 with fail
 go_cut [37] from 27 to 36 (fun s37 wx => s37 = .bool false ∧ Below wr.heap.size wr wx)
 case first =>
  as_aux_lemma =>
   refine wp_region_seq (fun w' => Below wr.heap.size wr w') (by kernel_rfl) (by kernel_rfl) (by first | assumption | go_grown) ?_
   refine seq_pure (v := ?_) (by rfl) ?_ ?_
   rotate_left
   · (intro w hS; go_simp; try with_reducible rfl)
   (try simp only [Act.put, zA, zB, zC])
   refine seq_pure (v := ?_) (by rfl) ?_ ?_
   rotate_left
   · (intro w hS; have y1 := zD hS y1; go_simp; try with_reducible rfl)
   (try simp only [Act.put, zA, zB, zC])
   iterate 2 (refine seq_pure (v := ?_) (by rfl) ?_ ?_; rotate_left; (focus (intro w hS; go_simp; try with_reducible rfl)); (try simp only [Act.put, zA, zB, zC]))
   refine seq_pure (v := ?_) (by rfl) ?_ ?_
   rotate_left
   · (intro w hS; have k0 := zD hS k0; have k1 := zD hS k1; go_simp; try with_reducible rfl)
   (try simp only [Act.put, zA, zB, zC])
   refine seq_pure (v := ?_) (by rfl) ?_ ?_
   rotate_left
   · (intro w hS; go_simp; try with_reducible rfl)
   (try simp only [Act.put, zA, zB, zC])
   refine seq_pure (v := ?_) (by rfl) ?_ ?_
   rotate_left
   · (intro w hS; have x1 := zD hS x1; go_simp; try with_reducible rfl)
   (try simp only [Act.put, zA, zB, zC])
   iterate 2 (refine seq_pure (v := ?_) (by rfl) ?_ ?_; rotate_left; (focus (intro w hS; go_simp; try with_reducible rfl)); (try simp only [Act.put, zA, zB, zC]))
   refine seq_pure (v := ?_) (by rfl) ?_ ?_
   rotate_left
   · (intro w hS; have j0 := zD hS j0; have j1 := zD hS j1; go_simp; try with_reducible rfl)
   (try simp only [Act.put, zA, zB, zC])
   refine seq_pure (v := ?_) (by rfl) ?_ ?_
   rotate_left
   · (intro w hS; go_simp; try with_reducible rfl)
   (try simp only [Act.put, zA, zB, zC])
   refine seq_nil ?_
   intro w2 HB0
   go_wp2_with fail
   go_meet
   exact ⟨rfl, HB0⟩
 obtain ⟨rfl, hst⟩ := hcut
 go_wp2_with fail
 go_roundg (m.length - (K + 1))
 case measure => (have := HNk.out; omega)
 case rel => exact ⟨K + 1, by go_num, by omega, rfl, HBW.out.trans (hst.mono HBW.out.size)⟩
end Go.Proofs.Ytadilppdlbhjnaa
