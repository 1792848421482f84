/- Walk of law 14: prefix. -/
import Derived.Test.YtadilppdlbhjnaaLR
namespace Go.Proofs.Ytadilppdlbhjnaa
set_option linter.unusedSimpArgs false
set_option linter.unusedVariables false
open Go.RowKit

theorem CAt.pref {w : World} {p : Option Addr} {cap : Nat} {c d : List Gate} (h : CAt w p cap d) (hp : c <+: d) : CAt w p cap c := by
  refine ⟨Nat.le_trans hp.length_le h.le, h.cm, h.p0, ?_⟩
  rcases h.at' with h | ⟨b, off, h1, h2, h3⟩
  · subst h; exact .inl (List.prefix_nil.1 hp)
  · refine .inr ⟨b, off, h1, h2, fun i x hx j hj => h3 i x ?_ j hj⟩
    obtain ⟨t, rfl⟩ := hp
    rw [List.getElem?_append_left (List.getElem?_eq_some_iff.1 hx).1]; exact hx
set_option maxRecDepth 100000 in
set_option maxHeartbeats 2000000 in
theorem prefix14_is {c d : List Gate} {p q : Option Addr} {cap cq : Nat} {w W : World} (h : CAt W p cap c) (k : CAt W q cq d) (hB : Below W.heap.size W w) (hp : c <+: d) :
    Calls Try.prog 46 #[.agg #[.slice p c.length cap], .agg #[.slice q d.length cq]] w (RetB w true) := by
  have HC := Lib.hid (h.mono hB); have HD := Lib.hid (k.mono hB)
  have hle : ¬ (d.length : Int) < (c.length : Int) := by have := hp.length_le; omega
  have hle2 : ¬ d.length < c.length := by have := hp.length_le; omega
  have hcq : (c.length : Int) ≤ (cq : Int) := by have := k.le; omega
  have hcq' : c.length ≤ cq := by omega
  have hm : cq ≤ 9223372036854775807 := by have := k.cm; unfold maxLen at this; exact this
  have hc0 : (0 : Int) ≤ (c.length : Int) := by omega
  have HP := Lib.hid hp
  clear h k hB hp
  go_enter Try.func46, Try.ntmps46
  go_upto_region 1 with fail
  obtain ⟨W2, hW2, y2, y3⟩ : ∃ W2, (w.alloc (.cells #[.slice p c.length cap] 27)).alloc (.cells #[.slice q d.length cq] 27) = W2 ∧ W2.cell? ⟨w.heap.size, 0, none⟩ = some (.slice p c.length cap) ∧ W2.cell? ⟨w.heap.size + 1, 0, none⟩ = some (.slice q d.length cq) := ⟨_, rfl, by go_cell, by go_cell⟩
  have K2 := Lib.hid (show Below w.heap.size w W2 from by rw [← hW2]; go_grown)
  have T1 := Lib.hid (fun (w' : World) (hB' : Below W2.heap.size W2 w') => same_is (HC.out.mono K2.out) ((HD.out.pref HP.out).mono K2.out) hB' (csame_self c))
  rw [hW2]
  clear hW2
  go_upto_region 3 with fail
  refine wp_region_seq (fun w' => Below W2.heap.size W2 w') (by kernel_rfl) (by kernel_rfl) (by first | assumption | go_grown) ?_
  refine seq_pure (v := ?_) (by rfl) ?_ ?_
  rotate_left
  · (intro w hS; have kk := oldcell hS y2 (World.block_lt_of_cell? _ _ y2); go_simp; try with_reducible rfl)
  (try simp only [Act.put, List.setIfInBounds_toArray, List.set_cons_zero, List.set_cons_succ])
  refine seq_pure (v := ?_) (by rfl) ?_ ?_
  rotate_left
  · (intro w hS; go_simp; try with_reducible rfl)
  (try simp only [Act.put, List.setIfInBounds_toArray, List.set_cons_zero, List.set_cons_succ])
  refine seq_pure (v := ?_) (by rfl) ?_ ?_
  rotate_left
  · (intro w hS; have kk := oldcell hS y3 (World.block_lt_of_cell? _ _ y3); go_simp; try with_reducible rfl)
  (try simp only [Act.put, List.setIfInBounds_toArray, List.set_cons_zero, List.set_cons_succ])
  refine seq_pure (v := ?_) (by rfl) ?_ ?_
  rotate_left
  · (intro w hS; go_simp; try with_reducible rfl)
  (try simp only [Act.put, List.setIfInBounds_toArray, List.set_cons_zero, List.set_cons_succ])
  refine seq_pure (v := ?_) (by rfl) ?_ ?_
  rotate_left
  · (intro w hS; have kk := oldcell hS y2 (World.block_lt_of_cell? _ _ y2); go_simp; try with_reducible rfl)
  (try simp only [Act.put, List.setIfInBounds_toArray, List.set_cons_zero, List.set_cons_succ])
  refine seq_pure (v := ?_) (by rfl) ?_ ?_
  rotate_left
  · (intro w hS; go_simp; try with_reducible rfl)
  (try simp only [Act.put, List.setIfInBounds_toArray, List.set_cons_zero, List.set_cons_succ])
  refine seq_pure (v := ?_) (by rfl) ?_ ?_
  rotate_left
  · (intro w hS; go_simp; try with_reducible rfl)
  (try simp only [Act.put, List.setIfInBounds_toArray, List.set_cons_zero, List.set_cons_succ])
  refine seq_pure (v := ?_) (by rfl) ?_ ?_
  rotate_left
  · (intro w hS; go_simp; try with_reducible rfl)
  (try simp only [Act.put, List.setIfInBounds_toArray, List.set_cons_zero, List.set_cons_succ])
  refine seq_call (v := .bool true) (f := ?_) (args := ?_) (by rfl) ?_ ?_ ?_
  rotate_left 2
  · (intro w hS; go_simp; first | done | with_reducible rfl | (refine ⟨?_, ?_⟩ <;> with_reducible rfl))
  · (intro w hS; refine (T1.out w hS).mono ?_; rintro e w' ⟨he, hb⟩; exact ⟨he, btr hS hb⟩)
  (try simp only [Act.put, List.setIfInBounds_toArray, List.set_cons_zero, List.set_cons_succ])
  refine seq_pure (v := ?_) (by rfl) ?_ ?_
  rotate_left
  · (intro w hS; go_simp; try with_reducible rfl)
  (try simp only [Act.put, List.setIfInBounds_toArray, List.set_cons_zero, List.set_cons_succ])
  refine seq_nil ?_
  intro w2 HB0
  go_wp2_with fail
  go_ret
  exact ⟨rfl, btr K2.out HB0⟩
end Go.Proofs.Ytadilppdlbhjnaa
