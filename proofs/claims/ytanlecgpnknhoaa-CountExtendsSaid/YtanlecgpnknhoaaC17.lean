/- Walks of layer 16: fixed, extends of the laws. -/
import Derived.Test.YtanlecgpnknhoaaC16
namespace Go.Proofs.Ytanlecgpnknhoaa
set_option linter.unusedSimpArgs false
set_option linter.unusedVariables false
open Go.RowKit

def cfix1 (c : List Gate) (vals : List Bool) (r : Int) : Int := if ceval c vals r = true then 0 else 1
def cfix (c : List Gate) (vals : List Bool) (l : List Int) : List Int := l.map (cfix1 c vals)
theorem cfix_bits (c : List Gate) (vals : List Bool) (l : List Int) : Bits (cfix c vals l) := by
  intro r hr
  obtain ⟨x, _, rfl⟩ := List.mem_map.1 hr
  unfold cfix1; split <;> simp
/-- A slice of n references is returned. -/
def RetS (w : World) (n : Nat) (s : List Int) (e : Ending) (w' : World) : Prop := ∃ q cq, e = .returned (.slice q n cq) ∧ SA w' q n cq s ∧ Below w.heap.size w w'

set_option maxRecDepth 100000 in
set_option maxHeartbeats 4000000 in
theorem fixed_any (c : List Gate) (l : List Int) (vals : List Bool) (n nv : Nat) (p pl pv : Option Addr) (cap cl cv : Nat) (w : World) (h6 : n ≤ 500) (hl : c.length ≤ 20000) (hw : WfC c) (hC : CAt w p cap c) (hS : SA w pl n cl l) (hV : VA w pv nv vals) :
    Calls Try.prog 73 #[.agg #[.slice p c.length cap], .slice pl n cl, .slice pv nv cv] w (RetS w n (cfix c vals l)) := by
  obtain ⟨i0, hi0, hz0, hz1, hz2⟩ := info_parts int_info
  have HWF := Lib.hid hw; have HC := Lib.hid hC; have HS := Lib.hid hS; have HV := Lib.hid hV
  clear hw hC hS hV
  obtain ⟨W2, hW2, y0⟩ : ∃ W2, (w.alloc (.cells #[.slice p c.length cap] 25)).alloc (.cells #[] 3) = W2 ∧ W2.cell? ⟨w.heap.size, 0, none⟩ = some (.slice p c.length cap) := ⟨_, rfl, by go_cell⟩
  have K2 := Lib.hid (show Below w.heap.size w W2 from by rw [← hW2]; go_grown)
  have z2 : W2.heap.size = w.heap.size + 1 + 1 := by rw [← hW2]; simp
  have O7 := Lib.hid (show W2.ownsRow (w.heap.size + 1) 3 1 (.slice (some ⟨w.heap.size + 1, 0, none⟩) 0 0) 0 (flat 1 iEnc []) by
    have := World.ownsRow_lit (e := 3) (size := 1) (base := w.heap.size + 1) (w.alloc (.cells #[.slice p c.length cap] 25)) #[] 0 (by simp) (by decide) rfl
    rw [show (w.alloc (.cells #[.slice p c.length cap] 25)).heap.size = w.heap.size + 1 by simp] at this
    rw [← hW2]; exact this)
  have HW2 := Lib.hid hW2; clear hW2
  go_enter Try.func73, Try.ntmps73
  go_wp2_with fail
  rw [HW2.out]
  go_loopg [7, 8] n (fun N s7 v8 wr => ∃ (K : Nat) (v7 : Value), v8 = .int .i64 K ∧ v7 = s7 ∧ K ≤ n ∧ N = n - K ∧ wr.ownsRow (w.heap.size + 1) 3 1 v7 (cfix c vals (l.take K)).length (flat 1 iEnc (cfix c vals (l.take K))) ∧ Below (w.heap.size + 1) W2 wr)
  case atStart => exact ⟨0, _, rfl, rfl, by omega, rfl, O7.out, Below.refl _ _⟩
  case round =>
    obtain ⟨K, v7, rfl, rfl, hK, hN, ho7, hB⟩ := hrel
    have HNk := Lib.hid hN; clear hN
    have hsr : w.heap.size + 1 + 1 ≤ wr.heap.size := by have := hB.size; omega
    have x0 := oldcell hB y0 (by omega)
    have HB := Lib.hid hB; have HO := Lib.hid ho7
    have HW := Lib.hid (show Below w.heap.size w wr from K2.out.trans (hB.mono (by omega)))
    have hml : (cfix c vals (l.take K)).length = K := by have := HS.out.len; simp [cfix]; omega
    have HML := Lib.hid hml
    clear hB ho7 hml
    by_cases hlt : K < n
    case neg =>
      have hkA : K = n := by omega
      have htk : l.take K = l := by rw [hkA, ← HS.out.len]; exact List.take_length
      have HOa := Lib.hid (show wr.ownsRow (w.heap.size + 1) 3 1 v7 (cfix c vals l).length (flat 1 iEnc (cfix c vals l)) by have := HO.out; rw [htk] at this; exact this)
      have hfl : (cfix c vals l).length = n := by simp [cfix, HS.out.len]
      obtain ⟨q7, c7, hv7, t1, t2, t3, t4⟩ := owns_val (by omega) HOa.out
      subst hv7
      have hlt' := HOa.out.lt
      rw [hfl] at t1 hlt' ⊢
      have T1 := Lib.hid t1; have T2 := Lib.hid t2; have T3 := Lib.hid t3; have T4 := Lib.hid t4; have TL := Lib.hid hlt'; have HFL := Lib.hid hfl
      clear hkA htk t1 t2 t3 t4 hlt' hfl HO HML HOa
      go_wp2_with fail
      go_ret
      exact ⟨q7, c7, rfl, ⟨HFL.out, T1.out, T2.out, T3.out, T4.out, fun a ha => (TL.out a.block (by rw [ha]; rfl)).2⟩, HW.out⟩
    case pos =>
      have hlt0 : (0 : Int) ≤ (K : Int) := by omega
      have hlt1 : (K : Int) < (n : Int) := by omega
      obtain ⟨r, hr⟩ : ∃ r, l[K]? = some r := ⟨_, List.getElem?_eq_getElem (by rw [HS.out.len]; exact hlt)⟩
      have HSN := Lib.hid (map_take_snoc (cfix1 c vals) l hr)
      obtain ⟨b, off, rfl, hb, hcl⟩ := int_cell HS.out.at' hr
      have j5 := oldcell HW.out hcl hb
      obtain ⟨X, hX⟩ : ∃ X, ceval c vals r = X := ⟨_, rfl⟩
      have HX := Lib.hid hX; clear hX hr hcl
      have T := Lib.hid (fun (w' : World) (hB' : Below wr.heap.size wr w') => reval_is (cv := cv) (HC.out.mono HW.out) hB' ((HV.out.at'.mono HW.out).mono hB') HWF.out HX.out HV.out.len hl HV.out.cm)
      go_wp2_with fail
      refine wp_region_seq (fun w' => Below wr.heap.size wr w') (by kernel_rfl) (by kernel_rfl) (by go_grown) ?_
      refine seq_pure (v := ?_) (by rfl) ?_ ?_
      rotate_left
      · (intro w hS; have kk := oldcell hS x0 (World.block_lt_of_cell? _ _ x0); go_simp; try with_reducible rfl)
      (try simp only [Act.put, List.setIfInBounds_toArray, List.set_cons_zero, List.set_cons_succ])
      refine seq_pure (v := ?_) (by rfl) ?_ ?_
      rotate_left
      · (intro w hS; go_simp; try with_reducible rfl)
      (try simp only [Act.put, List.setIfInBounds_toArray, List.set_cons_zero, List.set_cons_succ])
      refine seq_pure (v := ?_) (by rfl) ?_ ?_
      rotate_left
      · (intro w hS; go_simp; try with_reducible rfl)
      (try simp only [Act.put, List.setIfInBounds_toArray, List.set_cons_zero, List.set_cons_succ])
      refine seq_pure (v := ?_) (by rfl) ?_ ?_
      rotate_left
      · (intro w hS; go_simp; try with_reducible rfl)
      (try simp only [Act.put, List.setIfInBounds_toArray, List.set_cons_zero, List.set_cons_succ])
      refine seq_pure (v := ?_) (by rfl) ?_ ?_
      rotate_left
      · (intro w hS; go_simp; try with_reducible rfl)
      (try simp only [Act.put, List.setIfInBounds_toArray, List.set_cons_zero, List.set_cons_succ])
      refine seq_pure (v := ?_) (by rfl) ?_ ?_
      rotate_left
      · (intro w hS; have kk := oldcell hS j5 (World.block_lt_of_cell? _ _ j5); go_simp; try with_reducible rfl)
      (try simp only [Act.put, List.setIfInBounds_toArray, List.set_cons_zero, List.set_cons_succ])
      refine seq_call (v := .bool X) (f := ?_) (args := ?_) (by rfl) ?_ ?_ ?_
      rotate_left 2
      · (intro w hS; go_simp; first | done | with_reducible rfl | (refine ⟨?_, ?_⟩ <;> with_reducible rfl))
      · (intro w hS; refine (T.out w hS).mono ?_; rintro e w' ⟨he, hb⟩; exact ⟨he, btr hS hb⟩)
      (try simp only [Act.put, List.setIfInBounds_toArray, List.set_cons_zero, List.set_cons_succ])
      refine seq_nil ?_
      intro w2 HB0
      have HBX := Lib.hid HB0
      have HOX := Lib.hid (owns_below HO.out HB0)
      have hs2 := HB0.size
      clear HB0
      cases X
      · go_wp2_with (first | (at_builtin; go_must (refine wpList_app2 (enc := iEnc) rfl _ _ _ rfl (w.heap.size + 1) 3 i0 _ 8 Try.underlying28 hi0 hz0 hz1 hz2 rfl (by omega) _ (cfix c vals (l.take K)) rfl (HOX.out.alloc _) (some ⟨w2.heap.size, 0, none⟩) [1] 1 rfl (fun h => by cases h) (SlAt.int1 (by go_cell)) iEnc_one (by rw [HML.out]; simp [maxLen]; omega) (by rw [HML.out]; simp; omega) (by simp; omega) ?_); intro v2 w3 hown2 hgr2 hbl2 hat2; have HOW2 := Lib.hid hown2; have HBL2 := Lib.hid hbl2; clear hown2 hgr2 hbl2 hat2))
        go_roundg (n - (K + 1))
        case measure => (have := HNk.out; omega)
        case rel =>
          refine ⟨K + 1, _, by go_num, rfl, by omega, rfl, ?_, HB.out.trans (Below.trans (Below.trans (HBX.out.mono (by omega)) (Below.alloc (Below.refl _ _) (by omega) _)) HBL2.out)⟩
          unfold cfix; rw [HSN.out, show cfix1 c vals r = 1 by unfold cfix1; rw [HX.out]; rfl]; exact HOW2.out
      · go_wp2_with (first | (at_builtin; go_must (refine wpList_app2 (enc := iEnc) rfl _ _ _ rfl (w.heap.size + 1) 3 i0 _ 8 Try.underlying28 hi0 hz0 hz1 hz2 rfl (by omega) _ (cfix c vals (l.take K)) rfl (HOX.out.alloc _) (some ⟨w2.heap.size, 0, none⟩) [0] 1 rfl (fun h => by cases h) (SlAt.int1 (by go_cell)) iEnc_one (by rw [HML.out]; simp [maxLen]; omega) (by rw [HML.out]; simp; omega) (by simp; omega) ?_); intro v2 w3 hown2 hgr2 hbl2 hat2; have HOW2 := Lib.hid hown2; have HBL2 := Lib.hid hbl2; clear hown2 hgr2 hbl2 hat2))
        go_roundg (n - (K + 1))
        case measure => (have := HNk.out; omega)
        case rel =>
          refine ⟨K + 1, _, by go_num, rfl, by omega, rfl, ?_, HB.out.trans (Below.trans (Below.trans (HBX.out.mono (by omega)) (Below.alloc (Below.refl _ _) (by omega) _)) HBL2.out)⟩
          unfold cfix; rw [HSN.out, show cfix1 c vals r = 0 by unfold cfix1; rw [HX.out]; rfl]; exact HOW2.out

theorem CAt.pre {w : World} {p : Option Addr} {cap : Nat} {c d : List Gate} (h : CAt w p cap d) (hp : c <+: d) : CAt w p cap c := by
  refine ⟨Nat.le_trans hp.length_le h.le, h.cm, h.p0, ?_⟩
  rcases h.at' with h | ⟨b, off, h1, h2, h3⟩
  · subst h; exact .inl (List.prefix_nil.1 hp)
  · refine .inr ⟨b, off, h1, h2, fun i x hx j hj => h3 i x ?_ j hj⟩
    obtain ⟨t, rfl⟩ := hp
    rw [List.getElem?_append_left (List.getElem?_eq_some_iff.1 hx).1]; exact hx

set_option maxRecDepth 100000 in
set_option maxHeartbeats 2000000 in
theorem extends_is {c d : List Gate} {p q : Option Addr} {cap cq : Nat} {w W : World} (h : CAt W p cap c) (k : CAt W q cq d) (hB : Below W.heap.size W w) (hp : c <+: d) (hv : cvalid d = true) :
    Calls Try.prog 51 #[.agg #[.slice p c.length cap], .agg #[.slice q d.length cq]] w (RetB w true) := by
  have HC := Lib.hid (h.mono hB); have HD := Lib.hid (k.mono hB)
  have hle : (c.length : Int) ≤ (d.length : Int) := by have := hp.length_le; omega
  have hcq : (c.length : Int) ≤ (cq : Int) := by have := k.le; omega
  have hcq' : c.length ≤ cq := by omega
  have hm : cq ≤ 9223372036854775807 := by have := k.cm; unfold maxLen at this; exact this
  have d1 : decide ((c.length : Int) ≤ (d.length : Int)) = true := decide_eq_true hle
  have d2 : decide (c.length ≤ d.length) = true := decide_eq_true hp.length_le
  have hc0 : (0 : Int) ≤ (c.length : Int) := by omega
  have HP := Lib.hid hp; have HV := Lib.hid hv
  clear h k hB hp hv
  go_enter Try.func51, Try.ntmps51
  go_upto_region 1 with fail
  obtain ⟨W2, hW2, y2, y3⟩ : ∃ W2, (w.alloc (.cells #[.slice p c.length cap] 25)).alloc (.cells #[.slice q d.length cq] 25) = W2 ∧ W2.cell? ⟨w.heap.size, 0, none⟩ = some (.slice p c.length cap) ∧ W2.cell? ⟨w.heap.size + 1, 0, none⟩ = some (.slice q d.length cq) := ⟨_, rfl, by go_cell, by go_cell⟩
  have K2 := Lib.hid (show Below w.heap.size w W2 from by rw [← hW2]; go_grown)
  have T1 := Lib.hid (fun (w' : World) (hB' : Below W2.heap.size W2 w') => same_is (HC.out.mono K2.out) ((HD.out.pre HP.out).mono K2.out) hB' (csame_self c))
  have T2 := Lib.hid (fun (w' : World) (hB' : Below W2.heap.size W2 w') => rvalid_is (HD.out.mono K2.out) hB' HV.out)
  rw [hW2]
  clear hW2
  refine wp_region_seq (fun w' => Below W2.heap.size W2 w') (by kernel_rfl) (by kernel_rfl) (by go_grown) ?_
  refine seq_pure (v := ?_) (by rfl) ?_ ?_
  rotate_left
  · (intro w hS; go_simp; try with_reducible rfl)
  (try simp only [Act.put, List.setIfInBounds_toArray, List.set_cons_zero, List.set_cons_succ])
  refine seq_pure (v := ?_) (by rfl) ?_ ?_
  rotate_left
  · (intro w hS; have kk := oldcell hS y3 (World.block_lt_of_cell? _ _ y3); go_simp; try with_reducible rfl)
  (try simp only [Act.put, List.setIfInBounds_toArray, List.set_cons_zero, List.set_cons_succ])
  refine seq_pure (v := ?_) (by rfl) ?_ ?_
  rotate_left
  · (intro w hS; go_simp; try with_reducible rfl)
  (try simp only [Act.put, List.setIfInBounds_toArray, List.set_cons_zero, List.set_cons_succ])
  refine seq_pure (v := ?_) (by rfl) ?_ ?_
  rotate_left
  · (intro w hS; go_simp; try with_reducible rfl)
  (try simp only [Act.put, List.setIfInBounds_toArray, List.set_cons_zero, List.set_cons_succ])
  refine seq_pure (v := ?_) (by rfl) ?_ ?_
  rotate_left
  · (intro w hS; have kk := oldcell hS y2 (World.block_lt_of_cell? _ _ y2); go_simp; try with_reducible rfl)
  (try simp only [Act.put, List.setIfInBounds_toArray, List.set_cons_zero, List.set_cons_succ])
  refine seq_pure (v := ?_) (by rfl) ?_ ?_
  rotate_left
  · (intro w hS; go_simp; try with_reducible rfl)
  (try simp only [Act.put, List.setIfInBounds_toArray, List.set_cons_zero, List.set_cons_succ])
  refine seq_pure (v := ?_) (by rfl) ?_ ?_
  rotate_left
  · (intro w hS; go_simp; try with_reducible rfl)
  (try simp only [Act.put, List.setIfInBounds_toArray, List.set_cons_zero, List.set_cons_succ])
  refine seq_pure (v := ?_) (by rfl) ?_ ?_
  rotate_left
  · (intro w hS; go_simp; try with_reducible rfl)
  (try simp only [Act.put, List.setIfInBounds_toArray, List.set_cons_zero, List.set_cons_succ])
  refine seq_pure (v := ?_) (by rfl) ?_ ?_
  rotate_left
  · (intro w hS; have kk := oldcell hS y2 (World.block_lt_of_cell? _ _ y2); go_simp; try with_reducible rfl)
  (try simp only [Act.put, List.setIfInBounds_toArray, List.set_cons_zero, List.set_cons_succ])
  refine seq_pure (v := ?_) (by rfl) ?_ ?_
  rotate_left
  · (intro w hS; go_simp; try with_reducible rfl)
  (try simp only [Act.put, List.setIfInBounds_toArray, List.set_cons_zero, List.set_cons_succ])
  refine seq_pure (v := ?_) (by rfl) ?_ ?_
  rotate_left
  · (intro w hS; have kk := oldcell hS y3 (World.block_lt_of_cell? _ _ y3); go_simp; try with_reducible rfl)
  (try simp only [Act.put, List.setIfInBounds_toArray, List.set_cons_zero, List.set_cons_succ])
  refine seq_pure (v := ?_) (by rfl) ?_ ?_
  rotate_left
  · (intro w hS; go_simp; try with_reducible rfl)
  (try simp only [Act.put, List.setIfInBounds_toArray, List.set_cons_zero, List.set_cons_succ])
  refine seq_pure (v := ?_) (by rfl) ?_ ?_
  rotate_left
  · (intro w hS; have kk := oldcell hS y2 (World.block_lt_of_cell? _ _ y2); go_simp; try with_reducible rfl)
  (try simp only [Act.put, List.setIfInBounds_toArray, List.set_cons_zero, List.set_cons_succ])
  refine seq_pure (v := ?_) (by rfl) ?_ ?_
  rotate_left
  · (intro w hS; go_simp; try with_reducible rfl)
  (try simp only [Act.put, List.setIfInBounds_toArray, List.set_cons_zero, List.set_cons_succ])
  refine seq_pure (v := ?_) (by rfl) ?_ ?_
  rotate_left
  · (intro w hS; go_simp; try with_reducible rfl)
  (try simp only [Act.put, List.setIfInBounds_toArray, List.set_cons_zero, List.set_cons_succ])
  refine seq_pure (v := ?_) (by rfl) ?_ ?_
  rotate_left
  · (intro w hS; go_simp; try with_reducible rfl)
  (try simp only [Act.put, List.setIfInBounds_toArray, List.set_cons_zero, List.set_cons_succ])
  refine seq_call (v := .bool true) (f := ?_) (args := ?_) (by rfl) ?_ ?_ ?_
  rotate_left 2
  · (intro w hS; go_simp; first | done | with_reducible rfl | (refine ⟨?_, ?_⟩ <;> with_reducible rfl))
  · (intro w hS; refine (T1.out w hS).mono ?_; rintro e w' ⟨he, hb⟩; exact ⟨he, btr hS hb⟩)
  (try simp only [Act.put, List.setIfInBounds_toArray, List.set_cons_zero, List.set_cons_succ])
  refine seq_pure (v := ?_) (by rfl) ?_ ?_
  rotate_left
  · (intro w hS; go_simp; try with_reducible rfl)
  (try simp only [Act.put, List.setIfInBounds_toArray, List.set_cons_zero, List.set_cons_succ])
  refine seq_pure (v := ?_) (by rfl) ?_ ?_
  rotate_left
  · (intro w hS; go_simp; try with_reducible rfl)
  (try simp only [Act.put, List.setIfInBounds_toArray, List.set_cons_zero, List.set_cons_succ])
  refine seq_pure (v := ?_) (by rfl) ?_ ?_
  rotate_left
  · (intro w hS; have kk := oldcell hS y3 (World.block_lt_of_cell? _ _ y3); go_simp; try with_reducible rfl)
  (try simp only [Act.put, List.setIfInBounds_toArray, List.set_cons_zero, List.set_cons_succ])
  refine seq_call (v := .bool true) (f := ?_) (args := ?_) (by rfl) ?_ ?_ ?_
  rotate_left 2
  · (intro w hS; go_simp; first | done | with_reducible rfl | (refine ⟨?_, ?_⟩ <;> with_reducible rfl))
  · (intro w hS; refine (T2.out w hS).mono ?_; rintro e w' ⟨he, hb⟩; exact ⟨he, btr hS hb⟩)
  (try simp only [Act.put, List.setIfInBounds_toArray, List.set_cons_zero, List.set_cons_succ])
  refine seq_pure (v := ?_) (by rfl) ?_ ?_
  rotate_left
  · (intro w hS; go_simp; try with_reducible rfl)
  (try simp only [Act.put, List.setIfInBounds_toArray, List.set_cons_zero, List.set_cons_succ])
  refine seq_pure (v := ?_) (by rfl) ?_ ?_
  rotate_left
  · (intro w hS; go_simp; try with_reducible rfl)
  (try simp only [Act.put, List.setIfInBounds_toArray, List.set_cons_zero, List.set_cons_succ])
  refine seq_nil ?_
  intro w2 HB0
  go_wp2_with fail
  go_ret
  exact ⟨rfl, K2.out.trans (HB0.mono (by have := K2.out.size; omega))⟩
end Go.Proofs.Ytanlecgpnknhoaa
