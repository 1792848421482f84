/- Walks of layer 16: Number, Value. -/
import Derived.Test.YtanlecgpnknhoaaC4
namespace Go.Proofs.Ytanlecgpnknhoaa
set_option linter.unusedSimpArgs false
set_option linter.unusedVariables false
open Go.RowKit

def cnum (c : List Gate) (vals : List Bool) (l : List Int) : Nat := cnt (l.map (ceval c vals))
theorem cnum_snoc (c : List Gate) (vals : List Bool) (l : List Int) {k : Nat} {r : Int} (h : l[k]? = some r) : cnum c vals (l.take (k + 1)) = cnum c vals (l.take k) + if ceval c vals r = true then 1 else 0 := by
  obtain ⟨hk, he⟩ := List.getElem?_eq_some_iff.1 h
  unfold cnum
  rw [List.take_succ_eq_append_getElem hk, he, List.map_append, cnt_append]
  congr 1
  cases hx : ceval c vals r <;> simp [cnt, hx]
theorem cnum_le (c : List Gate) (vals : List Bool) (l : List Int) : cnum c vals l ≤ l.length := by
  unfold cnum; have := cnt_le (l.map (ceval c vals)); simpa using this

set_option maxRecDepth 100000 in
set_option maxHeartbeats 2000000 in
theorem number_any (c : List Gate) (l : List Int) (vals : List Bool) (n nv : Nat) (p pl pv : Option Addr) (cap cl cv : Nat) (w : World) (hn : l.length = n) (hnv : vals.length = nv) (h6 : n ≤ 20000) (hl : c.length ≤ 20000) (hw : WfC c) (hvm : nv ≤ maxLen)
    (hC : CAt w p cap c) (hi : IntsAt w pl l) (hv : BoolsAt w pv vals) :
    Calls Try.prog 42 #[.agg #[.slice p c.length cap], .slice pl n cl, .slice pv nv cv] w fun e w' => e = .returned (.int .i64 (cnum c vals l : Nat)) ∧ Below w.heap.size w w' := by
  have HN := Lib.hid hn; have HNV := Lib.hid hnv; have HWF := Lib.hid hw; have HC := Lib.hid hC; have HI := Lib.hid hi; have HV := Lib.hid hv
  clear hn hnv hw hC hi hv
  have K0 := Lib.hid (show Below w.heap.size w (w.alloc (.cells #[.slice p c.length cap] 25)) from by go_grown)
  go_enter Try.func42, Try.ntmps42
  go_wp2_with fail
  go_loopg [7, 8] n (fun N v1 v2 wr => ∃ k m : Nat, v1 = .int .i64 m ∧ v2 = .int .i64 k ∧ k ≤ n ∧ N = n - k ∧ m ≤ k ∧ cnum c vals (l.take k) = m ∧ Below (w.heap.size + 1) (w.alloc (.cells #[.slice p c.length cap] 25)) wr)
  case atStart => exact ⟨0, 0, rfl, rfl, by omega, by omega, by omega, rfl, Below.refl _ _⟩
  case round =>
    obtain ⟨k, m, rfl, rfl, hk, hN, hmk, hm, hB⟩ := hrel
    have HNk := Lib.hid hN; have HM := Lib.hid hm; clear hN hm
    have j3 := oldcell (b := w.heap.size) (o := 0) (v := .slice p c.length cap) hB (by go_cell) (by omega)
    have HB := Lib.hid hB; clear hB
    have HW := Lib.hid (show Below w.heap.size w wr from K0.out.trans (HB.out.mono (by omega)))
    by_cases hlt : k < n
    case neg =>
      have hge : (n : Int) ≤ (k : Int) := by omega
      have HK := Lib.hid (show k = n by omega)
      go_wp2_with fail
      go_ret
      refine ⟨congrArg (fun z : Nat => Ending.returned (.int .i64 (z : Int))) ?_, HW.out⟩
      rw [← HM.out, HK.out, ← HN.out, List.take_length]
    case pos =>
      have hlt0 : (0 : Int) ≤ (k : Int) := by omega
      have hlt1 : (k : Int) < (n : Int) := by omega
      obtain ⟨r, hr⟩ : ∃ r, l[k]? = some r := ⟨_, List.getElem?_eq_getElem (by rw [HN.out]; exact hlt)⟩
      have HS := Lib.hid (cnum_snoc c vals l hr)
      obtain ⟨b, off, rfl, hb, hcl⟩ := int_cell HI.out hr
      have j5 := oldcell HW.out hcl hb
      have hb2 : b < wr.heap.size := World.block_lt_of_cell? _ _ j5
      obtain ⟨X, hX⟩ : ∃ X, ceval c vals r = X := ⟨_, rfl⟩
      rw [hX] at HS
      have HX := Lib.hid hX; clear hX hr hcl

      have T := Lib.hid (fun (w' : World) (hB' : Below wr.heap.size wr w') => reval_is (cv := cv) (HC.out.mono HW.out) hB' ((HV.out.mono HW.out).mono hB') HWF.out HX.out HNV.out hl hvm)
      go_wp2_with fail
      refine wp_region_seq (fun w' => Below wr.heap.size wr w') (by kernel_rfl) (by kernel_rfl) (by go_grown) ?_
      refine seq_pure (v := ?_) (by rfl) ?_ ?_
      rotate_left
      · (intro w hS; have kk := oldcell hS j3 (World.block_lt_of_cell? _ _ j3); go_simp; try with_reducible rfl)
      (try simp only [Act.put, List.setIfInBounds_toArray, List.set_cons_zero, List.set_cons_succ])
      refine seq_pure (v := ?_) (by rfl) ?_ ?_
      rotate_left
      · (intro w hS; go_simp; try with_reducible rfl)
      (try simp only [Act.put, List.setIfInBounds_toArray, List.set_cons_zero, List.set_cons_succ])
      refine seq_pure (v := ?_) (by rfl) ?_ ?_
      rotate_left
      · (intro w hS; go_simp; try with_reducible rfl)
      (try simp only [Act.put, List.setIfInBounds_toArray, List.set_cons_zero, List.set_cons_succ])
      refine seq_pure (v := ?_) (by rfl) ?_ ?_
      rotate_left
      · (intro w hS; go_simp; try with_reducible rfl)
      (try simp only [Act.put, List.setIfInBounds_toArray, List.set_cons_zero, List.set_cons_succ])
      refine seq_pure (v := ?_) (by rfl) ?_ ?_
      rotate_left
      · (intro w hS; go_simp; try with_reducible rfl)
      (try simp only [Act.put, List.setIfInBounds_toArray, List.set_cons_zero, List.set_cons_succ])
      refine seq_pure (v := ?_) (by rfl) ?_ ?_
      rotate_left
      · (intro w hS; have kk := oldcell hS j5 (World.block_lt_of_cell? _ _ j5); go_simp; try with_reducible rfl)
      (try simp only [Act.put, List.setIfInBounds_toArray, List.set_cons_zero, List.set_cons_succ])
      refine seq_call (v := .bool X) (f := ?_) (args := ?_) (by rfl) ?_ ?_ ?_
      rotate_left 2
      · (intro w hS; go_simp; first | done | with_reducible rfl | (refine ⟨?_, ?_⟩ <;> with_reducible rfl))
      · (intro w hS; refine (T.out w hS).mono ?_; rintro e w' ⟨he, hb⟩; exact ⟨he, btr hS hb⟩)
      (try simp only [Act.put, List.setIfInBounds_toArray, List.set_cons_zero, List.set_cons_succ])
      refine seq_nil ?_
      intro w2 HB0
      have HBX := HB0
      cases X
      · go_wp2_with fail
        go_roundg (n - (k + 1))
        case measure => (have := HNk.out; omega)
        case rel => exact ⟨k + 1, m, rfl, by go_num, by omega, rfl, by omega, by rw [HS.out, HM.out]; rfl, HB.out.trans (HBX.mono (by have := HB.out.size; simp at this; omega))⟩
      · go_wp2_with fail
        go_roundg (n - (k + 1))
        case measure => (have := HNk.out; omega)
        case rel => exact ⟨k + 1, m + 1, by go_num, by go_num, by omega, rfl, by omega, by rw [HS.out, HM.out]; rfl, HB.out.trans (HBX.mono (by have := HB.out.size; simp at this; omega))⟩

set_option maxRecDepth 100000 in
set_option maxHeartbeats 2000000 in
theorem value16_any (c : List Gate) (l : List Int) (vals : List Bool) (n nv : Nat) (p pl pv : Option Addr) (cap cl cv : Nat) (w : World) (hn : l.length = n) (hnv : vals.length = nv) (h6 : n ≤ 20000) (hl : c.length ≤ 20000) (hw : WfC c) (hvm : nv ≤ maxLen)
    (hC : CAt w p cap c) (hi : IntsAt w pl l) (hv : BoolsAt w pv vals) :
    Calls Try.prog 50 #[.agg #[.slice p c.length cap], .slice pl n cl, .slice pv nv cv] w fun e w' => e = .returned (.int .i64 (cnum c vals l : Nat)) ∧ Below w.heap.size w w' := by
  have HN := Lib.hid hn; have HNV := Lib.hid hnv; have HWF := Lib.hid hw; have HC := Lib.hid hC; have HI := Lib.hid hi; have HV := Lib.hid hv
  clear hn hnv hw hC hi hv
  have K0 := Lib.hid (show Below w.heap.size w (w.alloc (.cells #[.slice p c.length cap] 25)) from by go_grown)
  go_enter Try.func50, Try.ntmps50
  go_wp2_with fail
  go_loopg [7, 12] n (fun N v1 v2 wr => ∃ k m : Nat, v1 = .int .i64 m ∧ v2 = .int .i64 k ∧ k ≤ n ∧ N = n - k ∧ m ≤ k ∧ cnum c vals (l.take k) = m ∧ Below (w.heap.size + 1) (w.alloc (.cells #[.slice p c.length cap] 25)) wr)
  case atStart => exact ⟨0, 0, rfl, rfl, by omega, by omega, by omega, rfl, Below.refl _ _⟩
  case round =>
    obtain ⟨k, m, rfl, rfl, hk, hN, hmk, hm, hB⟩ := hrel
    have HNk := Lib.hid hN; have HM := Lib.hid hm; clear hN hm
    have j3 := oldcell (b := w.heap.size) (o := 0) (v := .slice p c.length cap) hB (by go_cell) (by omega)
    have HB := Lib.hid hB; clear hB
    have HW := Lib.hid (show Below w.heap.size w wr from K0.out.trans (HB.out.mono (by omega)))
    by_cases hlt : k < n
    case neg =>
      have hge : (n : Int) ≤ (k : Int) := by omega
      have HK := Lib.hid (show k = n by omega)
      go_wp2_with fail
      go_ret
      refine ⟨congrArg (fun z : Nat => Ending.returned (.int .i64 (z : Int))) ?_, HW.out⟩
      rw [← HM.out, HK.out, ← HN.out, List.take_length]
    case pos =>
      have hlt0 : (0 : Int) ≤ (k : Int) := by omega
      have hlt1 : (k : Int) < (n : Int) := by omega
      obtain ⟨r, hr⟩ : ∃ r, l[k]? = some r := ⟨_, List.getElem?_eq_getElem (by rw [HN.out]; exact hlt)⟩
      have HS := Lib.hid (cnum_snoc c vals l hr)
      obtain ⟨b, off, rfl, hb, hcl⟩ := int_cell HI.out hr
      have j5 := oldcell HW.out hcl hb
      have hb2 : b < wr.heap.size := World.block_lt_of_cell? _ _ j5
      obtain ⟨X, hX⟩ : ∃ X, ceval c vals r = X := ⟨_, rfl⟩
      rw [hX] at HS
      have HX := Lib.hid hX; clear hX hr hcl

      have T := Lib.hid (fun (w' : World) (hB' : Below wr.heap.size wr w') => eval_is (cv := cv) (HC.out.mono HW.out) hB' ((HV.out.mono HW.out).mono hB') HWF.out HX.out HNV.out hl hvm)
      go_wp2_with fail
      refine (T.out _ (Below.refl _ _)).mono ?_
      rintro e w2 ⟨rfl, HBX⟩
      cases X
      · go_wp2_with fail
        go_roundg (n - (k + 1))
        case measure => (have := HNk.out; omega)
        case rel => exact ⟨k + 1, m, rfl, by go_num, by omega, rfl, by omega, by rw [HS.out, HM.out]; rfl, HB.out.trans (HBX.mono (by have := HB.out.size; simp at this; omega))⟩
      · go_wp2_with fail
        go_roundg (n - (k + 1))
        case measure => (have := HNk.out; omega)
        case rel => exact ⟨k + 1, m + 1, by go_num, by go_num, by omega, rfl, by omega, by rw [HS.out, HM.out]; rfl, HB.out.trans (HBX.mono (by have := HB.out.size; simp at this; omega))⟩
end Go.Proofs.Ytanlecgpnknhoaa
