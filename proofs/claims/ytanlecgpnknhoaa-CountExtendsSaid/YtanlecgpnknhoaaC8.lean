/- Walks of layer 16: Unary, Valid, Same of the reference, where they hold. -/
import Derived.Test.YtanlecgpnknhoaaC7
namespace Go.Proofs.Ytanlecgpnknhoaa
set_option linter.unusedSimpArgs false
set_option linter.unusedVariables false
open Go.RowKit

set_option maxRecDepth 100000 in
set_option maxHeartbeats 2000000 in
theorem unary_any (c : List Gate) (l : List Int) (vals : List Bool) (t : Int) (n nv : Nat) (p pl pv : Option Addr) (cap cl cv : Nat) (w : World) (hn : l.length = n) (hnv : vals.length = nv) (h6 : n ≤ 20000) (hl : c.length ≤ 20000) (hw : WfC c) (hvm : nv ≤ maxLen) (ht : t ≤ n)
    (hun : ∀ (i : Nat) (r : Int), l[i]? = some r → ceval c vals r = decide ((i : Int) < t)) (hC : CAt w p cap c) (hi : IntsAt w pl l) (hv : BoolsAt w pv vals) :
    Calls Try.prog 45 #[.agg #[.slice p c.length cap], .slice pl n cl, .slice pv nv cv, .int .i64 t] w (RetB w true) := by
  have HN := Lib.hid hn; have HNV := Lib.hid hnv; have HWF := Lib.hid hw; have HC := Lib.hid hC; have HI := Lib.hid hi; have HV := Lib.hid hv; have HU := Lib.hid hun
  clear hn hnv hw hC hi hv hun
  have K0 := Lib.hid (show Below w.heap.size w (w.alloc (.cells #[.slice p c.length cap] 25)) from by go_grown)
  go_enter Try.func45, Try.ntmps45
  go_wp2_with fail
  go_loopg [9] n (fun N v2 wr => ∃ k : Nat, v2 = .int .i64 k ∧ k ≤ n ∧ N = n - k ∧ Below (w.heap.size + 1) (w.alloc (.cells #[.slice p c.length cap] 25)) wr)
  case atStart => exact ⟨0, rfl, by omega, by omega, Below.refl _ _⟩
  case round =>
    obtain ⟨k, rfl, hk, hN, hB⟩ := hrel
    have HNk := Lib.hid hN; clear hN
    have j3 := oldcell (b := w.heap.size) (o := 0) (v := .slice p c.length cap) hB (by go_cell) (by omega)
    have HB := Lib.hid hB; clear hB
    have HW := Lib.hid (show Below w.heap.size w wr from K0.out.trans (HB.out.mono (by omega)))
    by_cases hlt : k < n
    case neg =>
      have hge : (n : Int) ≤ (k : Int) := by omega
      go_wp2_with fail
      go_ret
      exact ⟨rfl, HW.out⟩
    case pos =>
      have hlt0 : (0 : Int) ≤ (k : Int) := by omega
      have hlt1 : (k : Int) < (n : Int) := by omega
      obtain ⟨r, hr⟩ : ∃ r, l[k]? = some r := ⟨_, List.getElem?_eq_getElem (by rw [HN.out]; exact hlt)⟩
      have hx0 := HU.out k r hr
      obtain ⟨b, off, rfl, hb, hcl⟩ := int_cell HI.out hr
      have j5 := oldcell HW.out hcl hb
      obtain ⟨X, hX⟩ : ∃ X, decide ((k : Int) < t) = X := ⟨_, rfl⟩
      rw [hX] at hx0
      have HX := Lib.hid hx0; clear hr hcl hx0
      have T := Lib.hid (fun (w' : World) (hB' : Below wr.heap.size wr w') => reval_is (cv := cv) (HC.out.mono HW.out) hB' ((HV.out.mono HW.out).mono hB') HWF.out HX.out HNV.out hl hvm)
      go_wp2_with fail
      refine wp_region_seq (fun w' => Below wr.heap.size wr w') (by kernel_rfl) (by kernel_rfl) (by go_grown) ?_
      refine seq_pure (v := ?_) (by rfl) ?_ ?_
      rotate_left
      · (intro w hS; have kk := oldcell hS j3 (World.block_lt_of_cell? _ _ j3); go_simp; try with_reducible rfl)
      (try simp only [Act.put, List.setIfInBounds_toArray, List.set_cons_zero, List.set_cons_succ])
      refine seq_pure (v := ?_) (by rfl) ?_ ?_
      rotate_left
      · (intro w hS; go_simp; try with_reducible rfl)
      (try simp only [Act.put, List.setIfInBounds_toArray, List.set_cons_zero, List.set_cons_succ])
      refine seq_pure (v := ?_) (by rfl) ?_ ?_
      rotate_left
      · (intro w hS; go_simp; try with_reducible rfl)
      (try simp only [Act.put, List.setIfInBounds_toArray, List.set_cons_zero, List.set_cons_succ])
      refine seq_pure (v := ?_) (by rfl) ?_ ?_
      rotate_left
      · (intro w hS; go_simp; try with_reducible rfl)
      (try simp only [Act.put, List.setIfInBounds_toArray, List.set_cons_zero, List.set_cons_succ])
      refine seq_pure (v := ?_) (by rfl) ?_ ?_
      rotate_left
      · (intro w hS; go_simp; try with_reducible rfl)
      (try simp only [Act.put, List.setIfInBounds_toArray, List.set_cons_zero, List.set_cons_succ])
      refine seq_pure (v := ?_) (by rfl) ?_ ?_
      rotate_left
      · (intro w hS; have kk := oldcell hS j5 (World.block_lt_of_cell? _ _ j5); go_simp; try with_reducible rfl)
      (try simp only [Act.put, List.setIfInBounds_toArray, List.set_cons_zero, List.set_cons_succ])
      refine seq_call (v := .bool X) (f := ?_) (args := ?_) (by rfl) ?_ ?_ ?_
      rotate_left 2
      · (intro w hS; go_simp; first | done | with_reducible rfl | (refine ⟨?_, ?_⟩ <;> with_reducible rfl))
      · (intro w hS; refine (T.out w hS).mono ?_; rintro e w' ⟨he, hb⟩; exact ⟨he, btr hS hb⟩)
      (try simp only [Act.put, List.setIfInBounds_toArray, List.set_cons_zero, List.set_cons_succ])
      refine seq_pure (v := ?_) (by rfl) ?_ ?_
      rotate_left
      · (intro w hS; go_simp; try with_reducible rfl)
      (try simp only [Act.put, List.setIfInBounds_toArray, List.set_cons_zero, List.set_cons_succ])
      refine seq_pure (v := ?_) (by rfl) ?_ ?_
      rotate_left
      · (intro w hS; go_simp; try with_reducible rfl)
      (try simp only [Act.put, List.setIfInBounds_toArray, List.set_cons_zero, List.set_cons_succ])
      refine seq_pure (v := ?_) (by rfl) ?_ ?_
      rotate_left
      · (intro w hS; go_simp; try with_reducible rfl)
      (try simp only [Act.put, List.setIfInBounds_toArray, List.set_cons_zero, List.set_cons_succ])
      refine seq_pure (v := ?_) (by rfl) ?_ ?_
      rotate_left
      · (intro w hS; go_simp; try with_reducible rfl)
      (try simp only [Act.put, List.setIfInBounds_toArray, List.set_cons_zero, List.set_cons_succ])
      refine seq_nil ?_
      intro w2 HB0
      have HBX := HB0
      go_wp2_with fail
      go_roundg (n - (k + 1))
      case measure => (have := HNk.out; omega)
      case rel => exact ⟨k + 1, by go_num, by omega, rfl, HB.out.trans (HBX.mono (by have := HB.out.size; simp at this; omega))⟩

set_option maxRecDepth 100000 in
set_option maxHeartbeats 2000000 in
theorem rvalid16_any (c : List Gate) (l : List Int) (n : Nat) (p pl : Option Addr) (cap cl : Nat) (w : World) (hn : l.length = n) (h6 : n ≤ 20000) (hl : c.length ≤ 20000) (hcap : c.length ≤ cap)
    (hun : ∀ r ∈ l, 0 ≤ r ∧ r < 2 * (c.length : Int)) (hi : IntsAt w pl l) :
    Calls Try.prog 52 #[.agg #[.slice p c.length cap], .slice pl n cl] w (RetB w true) := by
  have HN := Lib.hid hn; have HI := Lib.hid hi; have HU := Lib.hid hun
  clear hn hi hun
  have K0 := Lib.hid (show Below w.heap.size w (w.alloc (.cells #[.slice p c.length cap] 25)) from by go_grown)
  go_enter Try.func52, Try.ntmps52
  go_wp2_with fail
  go_loopg [5] n (fun N v2 wr => ∃ k : Nat, v2 = .int .i64 k ∧ k ≤ n ∧ N = n - k ∧ Below (w.heap.size + 1) (w.alloc (.cells #[.slice p c.length cap] 25)) wr)
  case atStart => exact ⟨0, rfl, by omega, by omega, Below.refl _ _⟩
  case round =>
    obtain ⟨k, rfl, hk, hN, hB⟩ := hrel
    have HNk := Lib.hid hN; clear hN
    have j3 := oldcell (b := w.heap.size) (o := 0) (v := .slice p c.length cap) hB (by go_cell) (by omega)
    have HB := Lib.hid hB; clear hB
    have HW := Lib.hid (show Below w.heap.size w wr from K0.out.trans (HB.out.mono (by omega)))
    by_cases hlt : k < n
    case neg =>
      have hge : (n : Int) ≤ (k : Int) := by omega
      go_wp2_with fail
      go_ret
      exact ⟨rfl, HW.out⟩
    case pos =>
      have hlt0 : (0 : Int) ≤ (k : Int) := by omega
      have hlt1 : (k : Int) < (n : Int) := by omega
      obtain ⟨r, hr⟩ : ∃ r, l[k]? = some r := ⟨_, List.getElem?_eq_getElem (by rw [HN.out]; exact hlt)⟩
      obtain ⟨r0, r1⟩ := HU.out r (List.mem_of_getElem? hr)
      obtain ⟨b, off, rfl, hb, hcl⟩ := int_cell HI.out hr
      have j5 := oldcell HW.out hcl hb
      have d0 : decide (r < 0) = false := by rw [decide_eq_false_iff_not]; omega
      have d1 : decide (2 * (c.length : Int) ≤ r) = false := by rw [decide_eq_false_iff_not]; omega
      have dw : IntKind.i64.wrap (2 * (c.length : Int)) = 2 * (c.length : Int) := by (rw [IntWalk.i64_in]; omega)
      clear hr hcl
      go_wp2_with fail
      refine wp_region_seq (fun w' => Below wr.heap.size wr w') (by kernel_rfl) (by kernel_rfl) (by go_grown) ?_
      refine seq_pure (v := ?_) (by rfl) ?_ ?_
      rotate_left
      · (intro w hS; go_simp; try with_reducible rfl)
      (try simp only [Act.put, List.setIfInBounds_toArray, List.set_cons_zero, List.set_cons_succ])
      refine seq_pure (v := ?_) (by rfl) ?_ ?_
      rotate_left
      · (intro w hS; go_simp; try with_reducible rfl)
      (try simp only [Act.put, List.setIfInBounds_toArray, List.set_cons_zero, List.set_cons_succ])
      refine seq_pure (v := ?_) (by rfl) ?_ ?_
      rotate_left
      · (intro w hS; go_simp; try with_reducible rfl)
      (try simp only [Act.put, List.setIfInBounds_toArray, List.set_cons_zero, List.set_cons_succ])
      refine seq_pure (v := ?_) (by rfl) ?_ ?_
      rotate_left
      · (intro w hS; have kk := oldcell hS j5 (World.block_lt_of_cell? _ _ j5); go_simp; try with_reducible rfl)
      (try simp only [Act.put, List.setIfInBounds_toArray, List.set_cons_zero, List.set_cons_succ])
      refine seq_pure (v := ?_) (by rfl) ?_ ?_
      rotate_left
      · (intro w hS; go_simp; try with_reducible rfl)
      (try simp only [Act.put, List.setIfInBounds_toArray, List.set_cons_zero, List.set_cons_succ])
      refine seq_pure (v := ?_) (by rfl) ?_ ?_
      rotate_left
      · (intro w hS; go_simp; try with_reducible rfl)
      (try simp only [Act.put, List.setIfInBounds_toArray, List.set_cons_zero, List.set_cons_succ])
      refine seq_pure (v := ?_) (by rfl) ?_ ?_
      rotate_left
      · (intro w hS; go_simp; try with_reducible rfl)
      (try simp only [Act.put, List.setIfInBounds_toArray, List.set_cons_zero, List.set_cons_succ])
      refine seq_pure (v := ?_) (by rfl) ?_ ?_
      rotate_left
      · (intro w hS; go_simp; try with_reducible rfl)
      (try simp only [Act.put, List.setIfInBounds_toArray, List.set_cons_zero, List.set_cons_succ])
      refine seq_pure (v := ?_) (by rfl) ?_ ?_
      rotate_left
      · (intro w hS; go_simp; try with_reducible rfl)
      (try simp only [Act.put, List.setIfInBounds_toArray, List.set_cons_zero, List.set_cons_succ])
      refine seq_pure (v := ?_) (by rfl) ?_ ?_
      rotate_left
      · (intro w hS; have kk := oldcell hS j5 (World.block_lt_of_cell? _ _ j5); go_simp; try with_reducible rfl)
      (try simp only [Act.put, List.setIfInBounds_toArray, List.set_cons_zero, List.set_cons_succ])
      refine seq_pure (v := ?_) (by rfl) ?_ ?_
      rotate_left
      · (intro w hS; go_simp; try with_reducible rfl)
      (try simp only [Act.put, List.setIfInBounds_toArray, List.set_cons_zero, List.set_cons_succ])
      refine seq_pure (v := ?_) (by rfl) ?_ ?_
      rotate_left
      · (intro w hS; have kk := oldcell hS j3 (World.block_lt_of_cell? _ _ j3); go_simp; try with_reducible rfl)
      (try simp only [Act.put, List.setIfInBounds_toArray, List.set_cons_zero, List.set_cons_succ])
      refine seq_pure (v := ?_) (by rfl) ?_ ?_
      rotate_left
      · (intro w hS; go_simp; try with_reducible rfl)
      (try simp only [Act.put, List.setIfInBounds_toArray, List.set_cons_zero, List.set_cons_succ])
      refine seq_pure (v := ?_) (by rfl) ?_ ?_
      rotate_left
      · (intro w hS; go_simp; try with_reducible rfl)
      (try simp only [Act.put, List.setIfInBounds_toArray, List.set_cons_zero, List.set_cons_succ])
      refine seq_pure (v := ?_) (by rfl) ?_ ?_
      rotate_left
      · (intro w hS; go_simp; try with_reducible rfl)
      (try simp only [Act.put, List.setIfInBounds_toArray, List.set_cons_zero, List.set_cons_succ])
      refine seq_pure (v := ?_) (by rfl) ?_ ?_
      rotate_left
      · (intro w hS; go_simp; try with_reducible rfl)
      (try simp only [Act.put, List.setIfInBounds_toArray, List.set_cons_zero, List.set_cons_succ])
      refine seq_nil ?_
      intro w2 HB0
      have HBX := HB0
      go_wp2_with fail
      go_roundg (n - (k + 1))
      case measure => (have := HNk.out; omega)
      case rel => exact ⟨k + 1, by go_num, by omega, rfl, HB.out.trans (HBX.mono (by have := HB.out.size; simp at this; omega))⟩

set_option maxRecDepth 100000 in
set_option maxHeartbeats 2000000 in
theorem same16_any (l : List Int) (n : Nat) (pl ql : Option Addr) (cl dl : Nat) (w : World) (hn : l.length = n) (h6 : n ≤ 20000) (hi : IntsAt w pl l) (hj : IntsAt w ql l) :
    Calls Try.prog 54 #[.slice pl n cl, .slice ql n dl] w (RetB w true) := by
  have HN := Lib.hid hn; have HI := Lib.hid hi; have HJ := Lib.hid hj
  clear hn hi hj
  go_enter Try.func54, Try.ntmps54
  go_wp2_with fail
  go_loopg [5] n (fun N v2 wr => ∃ k : Nat, v2 = .int .i64 k ∧ k ≤ n ∧ N = n - k ∧ Below w.heap.size w wr)
  case atStart => exact ⟨0, rfl, by omega, by omega, Below.refl _ _⟩
  case round =>
    obtain ⟨k, rfl, hk, hN, hB⟩ := hrel
    have HNk := Lib.hid hN; clear hN
    have HW := Lib.hid hB; clear hB
    by_cases hlt : k < n
    case neg =>
      have hge : (n : Int) ≤ (k : Int) := by omega
      go_wp2_with fail
      go_ret
      exact ⟨rfl, HW.out⟩
    case pos =>
      have hlt0 : (0 : Int) ≤ (k : Int) := by omega
      have hlt1 : (k : Int) < (n : Int) := by omega
      obtain ⟨r, hr⟩ : ∃ r, l[k]? = some r := ⟨_, List.getElem?_eq_getElem (by rw [HN.out]; exact hlt)⟩
      obtain ⟨b, off, rfl, hb, hcl⟩ := int_cell HI.out hr
      obtain ⟨b', off', rfl, hb', hcl'⟩ := int_cell HJ.out hr
      have j5 := oldcell HW.out hcl hb
      have j6 := oldcell HW.out hcl' hb'
      clear hr hcl hcl'
      go_wp2_with fail
      refine wp_region_seq (fun w' => Below wr.heap.size wr w') (by kernel_rfl) (by kernel_rfl) (by go_grown) ?_
      refine seq_pure (v := ?_) (by rfl) ?_ ?_
      rotate_left
      · (intro w hS; go_simp; try with_reducible rfl)
      (try simp only [Act.put, List.setIfInBounds_toArray, List.set_cons_zero, List.set_cons_succ])
      refine seq_pure (v := ?_) (by rfl) ?_ ?_
      rotate_left
      · (intro w hS; go_simp; try with_reducible rfl)
      (try simp only [Act.put, List.setIfInBounds_toArray, List.set_cons_zero, List.set_cons_succ])
      refine seq_pure (v := ?_) (by rfl) ?_ ?_
      rotate_left
      · (intro w hS; go_simp; try with_reducible rfl)
      (try simp only [Act.put, List.setIfInBounds_toArray, List.set_cons_zero, List.set_cons_succ])
      refine seq_pure (v := ?_) (by rfl) ?_ ?_
      rotate_left
      · (intro w hS; have kk := oldcell hS j5 (World.block_lt_of_cell? _ _ j5); go_simp; try with_reducible rfl)
      (try simp only [Act.put, List.setIfInBounds_toArray, List.set_cons_zero, List.set_cons_succ])
      refine seq_pure (v := ?_) (by rfl) ?_ ?_
      rotate_left
      · (intro w hS; go_simp; try with_reducible rfl)
      (try simp only [Act.put, List.setIfInBounds_toArray, List.set_cons_zero, List.set_cons_succ])
      refine seq_pure (v := ?_) (by rfl) ?_ ?_
      rotate_left
      · (intro w hS; go_simp; try with_reducible rfl)
      (try simp only [Act.put, List.setIfInBounds_toArray, List.set_cons_zero, List.set_cons_succ])
      refine seq_pure (v := ?_) (by rfl) ?_ ?_
      rotate_left
      · (intro w hS; go_simp; try with_reducible rfl)
      (try simp only [Act.put, List.setIfInBounds_toArray, List.set_cons_zero, List.set_cons_succ])
      refine seq_pure (v := ?_) (by rfl) ?_ ?_
      rotate_left
      · (intro w hS; have kk := oldcell hS j6 (World.block_lt_of_cell? _ _ j6); go_simp; try with_reducible rfl)
      (try simp only [Act.put, List.setIfInBounds_toArray, List.set_cons_zero, List.set_cons_succ])
      refine seq_pure (v := ?_) (by rfl) ?_ ?_
      rotate_left
      · (intro w hS; go_simp; try with_reducible rfl)
      (try simp only [Act.put, List.setIfInBounds_toArray, List.set_cons_zero, List.set_cons_succ])
      refine seq_nil ?_
      intro w2 HB0
      have HBX := HB0
      go_wp2_with fail
      go_roundg (n - (k + 1))
      case measure => (have := HNk.out; omega)
      case rel => exact ⟨k + 1, by go_num, by omega, rfl, btr HW.out HBX⟩
end Go.Proofs.Ytanlecgpnknhoaa
