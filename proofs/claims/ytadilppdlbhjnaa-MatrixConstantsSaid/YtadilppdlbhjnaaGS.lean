/- Texts R2, R3, R4, R5 in one. -/
import Derived.Test.YtadilppdlbhjnaaN21
import Derived.Test.YtadilppdlbhjnaaR1
import Derived.Test.YtadilppdlbhjnaaGR
import Derived.Lib.AppendZerosOnto
namespace Go.Proofs.Ytadilppdlbhjnaa
set_option linter.unusedSimpArgs false
set_option linter.unusedVariables false
open Go.RowKit

theorem flat_int (l : List Int) : flat 1 iEnc l = l.map (Value.int .i64) := by rw [flat1]; rfl
/-- slices.Sort at a row of the call's own: only that row turns. -/
theorem sort_own2 {ss : List Int} {B : Nat} {v : Value} {w : World} (h : w.ownsRow B 3 1 v ss.length (flat 1 iEnc ss)) (hl : ss.length < 100000000) :
    Calls Try.prog 101 #[v] w fun e w' => e = .returned (.tuple #[]) ∧ w'.ownsRow B 3 1 v (sortI ss).length (flat 1 iEnc (sortI ss)) ∧ KeepX (rowOf v) w w' := by
  have hlen : (sortI ss).length = ss.length := List.length_mergeSort ss
  rcases h.2 with ⟨rfl, h0⟩ | ⟨g, cap, cur, rfl, hB, hb, h1, h2, h3, h4⟩
  · obtain rfl := List.length_eq_zero_iff.1 h0
    refine (Try.slices_Sort_int_none none 0 w).mono ?_
    rintro e w' ⟨rfl, rfl⟩
    exact ⟨rfl, by rw [show sortI [] = [] from List.mergeSort_nil]; exact World.ownsRow_nil _ _ _ _, KeepX.refl _ _⟩
  · rw [flat_int, Nat.mul_one] at h4
    refine (Try.slices_Sort_int g 0 cap ss w (holds_of_blockI hb h4) (Array.getElem?_eq_some_iff.1 hb).1 (by omega)).mono ?_
    rintro e w' ⟨rfl, n, os, rfl⟩
    refine ⟨rfl, ?_, ?_⟩
    · rw [flat_int, hlen]
      exact ownsRow_sortedI hlen hB hb h1 h2 h3
    · have hg := grownBy_sortedI (w := w) (g := g) (n := n) (os := os) (sortI ss).toArray
      exact KeepX.of_grown hg (fun k hk => by simp only [Option.some.injEq] at hk; subst hk; simp [rowOf, Value.ownBlock])
/-- slices.Compact at a row of the call's own. -/
theorem compact_own {ss : List Int} {B : Nat} {v : Value} {w : World} (h : w.ownsRow B 3 1 v ss.length (flat 1 iEnc ss)) (hl : ss.length < 100000000) :
    Calls Try.prog 141 #[v] w fun e w' => ∃ q cq, e = .returned (.slice q (Lib.compact ss).length cq) ∧ SI w' q cq (Lib.compact ss) ∧ (∀ ad, q = some ad → v.ownBlock = some ad.block) ∧ KeepX (rowOf v) w w' := by
  rcases h.2 with ⟨rfl, h0⟩ | ⟨g, cap, cur, rfl, hg, hb, h1, h2, h3, h4⟩
  · obtain rfl := List.length_eq_zero_iff.1 h0
    refine (Try.slices_Compact_int_empty none 0 w).mono ?_
    rintro e w' ⟨rfl, rfl⟩
    exact ⟨none, 0, rfl, ⟨Nat.le_refl _, Nat.zero_le _, fun _ => rfl, .inl rfl, fun _ h => by cases h⟩, (fun _ h => by cases h), KeepX.refl _ _⟩
  · rw [flat_int, Nat.mul_one] at h4
    have hH := holds_of_blockI hb h4
    have hcl := Lib.compact_length_le ss
    have hgl := (Array.getElem?_eq_some_iff.1 hb).1
    refine (Try.slices_Compact_int g 0 cap ss w hH (by omega) h1).mono ?_
    rintro e w' ⟨rfl, n, rfl⟩
    obtain ⟨d, hd⟩ : ∃ d, (Lib.compact ss ++ List.replicate (ss.length - (Lib.compact ss).length) 0).toArray = d := ⟨_, rfl⟩
    have hds : d.size = ss.toArray.size := by rw [← hd]; simp; omega
    have hH2 : Sort.Holds (Value.int .i64) (Sort.ahead w n) g 0 ss.toArray := hH
    have hsz := Sort.size_putRow (Value.int .i64) (Sort.ahead w n) g 0 d
    have hgl2 : g < (Sort.putRow (Value.int .i64) (Sort.ahead w n) g 0 d).heap.size := by rw [hsz]; exact hgl
    rw [hd]
    refine ⟨some ⟨g, 0, none⟩, cap, rfl, ⟨by omega, h2, (fun h => by cases h), .inr ⟨g, 0, rfl, hgl2, fun i x hx j hj => ?_⟩, fun ad h => by cases h; exact hgl2⟩, (fun ad h => by cases h; rfl), ?_⟩
    · obtain rfl : j = 0 := by omega
      obtain ⟨hi, he⟩ := List.getElem?_eq_some_iff.1 hx
      have hi2 : i < d.size := by rw [hds]; simp; omega
      have := Sort.cell?_putRow (Value.int .i64) (Sort.ahead w n) g 0 ss.toArray d hH2 hds i hi2
      rw [Nat.mul_one, Nat.add_zero, this, getElem!_pos d i hi2]
      have : d[i] = x := by
        subst hd
        simp [List.getElem_append, hi, he]
      rw [this]; rfl
    · refine ⟨rfl, rfl, rfl, Nat.le_of_eq hsz.symm, fun k hk hx => ?_⟩
      have hne : k ≠ g := fun e => hx (by rw [e]; simp [rowOf, Value.ownBlock])
      simp only [Sort.putRow, Sort.mapBlock]
      rw [Array.getElem?_modify, if_neg (by omega)]; rfl

set_option maxRecDepth 100000 in
set_option maxHeartbeats 2000000 in
theorem sorted_any (zs : List Int) (ar : Int) (v : Value) (B : Nat) (w : World) (h : w.ownsRow B 3 1 v zs.length (flat 1 iEnc zs)) (hl : zs.length < 100000000) :
    Calls Try.prog 113 #[.int .i64 ar, v] w fun e w' => ∃ q cq, e = .returned (.agg #[.int .i64 ar, .slice q (nrm zs).length cq]) ∧ SI w' q cq (nrm zs) ∧ (∀ ad, q = some ad → v.ownBlock = some ad.block) ∧ KeepX (rowOf v) w w' := by
  obtain ⟨q0, cq0, rfl, -⟩ := owns_val (by decide) h
  obtain ⟨s, hs⟩ : ∃ s, w.heap.size = s := ⟨_, rfl⟩
  obtain ⟨W1, hW1⟩ : ∃ x, x = w.alloc (.cells #[.int .i64 0, .slice none 0 0] 44) := ⟨_, rfl⟩
  have hB1 : Below w.heap.size w W1 := by rw [hW1]; go_grown
  have y0 : W1.cell? ⟨s, 0, none⟩ = some (.int .i64 0) := by rw [hW1, ← hs]; go_cell
  have y1 : W1.cell? ⟨s, 1, none⟩ = some (.slice none 0 0) := by rw [hW1, ← hs]; go_cell
  have y0f : W1.frozen? ⟨s, 0, none⟩ = false := by rw [hW1, ← hs]; go_cell
  have y1f : W1.frozen? ⟨s, 1, none⟩ = false := by rw [hW1, ← hs]; go_cell
  have HO := Lib.hid (show W1.ownsRow B 3 1 (.slice q0 zs.length cq0) zs.length (flat 1 iEnc zs) by rw [hW1]; exact h.alloc _)
  obtain ⟨R, hR⟩ : ∃ R, rowOf (.slice q0 zs.length cq0) = R := ⟨_, rfl⟩
  have HNR := Lib.hid (show s ∉ R from fun hm => by rw [← hR] at hm; have := (h.lt s (rowOf_mem hm)).2; omega)
  have HR := Lib.hid hR; have HS := Lib.hid hs; have HW1 := Lib.hid hW1
  have hs1 := World.block_lt_of_cell? _ _ y0
  have hl2 : (sortI zs).length < 100000000 := by rw [List.length_mergeSort]; exact hl
  clear h hR hs hW1
  go_enter Try.func113, Try.ntmps113
  go_upto_region 1 with fail
  rw [← HW1.out]
  simp only [HS.out]
  go_upto_region 2 with (first | (go_at_call 101; refine (sort_own2 HO.out hl).mono ?_; rintro e w2 ⟨rfl, hown2, hk2⟩; rw [HR.out] at hk2))
  have HO2 := Lib.hid hown2
  replace y0 := hk2.cell y0 HNR.out; replace y1 := hk2.cell y1 HNR.out; replace y0f := hk2.free y0f hs1 HNR.out; replace y1f := hk2.free y1f hs1 HNR.out
  have hs2 := World.block_lt_of_cell? _ _ y0
  have HK2 := Lib.hid hk2
  clear hown2 hk2 HO
  go_wp2_with (first | (go_at_call 141; refine (compact_own HO2.out hl2).mono ?_; rintro e w3 ⟨q, cq, rfl, hS3, hq3, hk3⟩; rw [HR.out] at hk3; have z0 := hk3.cell y0 HNR.out; have z1 := hk3.cell y1 HNR.out; have z0f := hk3.free y0f hs2 HNR.out; have z1f := hk3.free y1f hs2 HNR.out; clear y0 y1 y0f y1f))
  obtain ⟨W9, hW9⟩ : ∃ W9, W9 = (w3.setCell ⟨s, 0, none⟩ (.int .i64 ar)).setCell ⟨s, 1, none⟩ (.slice q (Lib.compact (sortI zs)).length cq) := ⟨_, rfl⟩
  rw [← hW9]
  have e0 : W9.cell? ⟨s, 0, none⟩ = some (.int .i64 ar) := by rw [hW9]; go_cell
  have e1 : W9.cell? ⟨s, 1, none⟩ = some (.slice q (Lib.compact (sortI zs)).length cq) := by rw [hW9]; go_cell
  have hqs : ∀ ad, q = some ad → s ≠ ad.block := fun ad h e => HNR.out (by rw [← HR.out, e]; exact mem_rowOf (hq3 ad h))
  have hS9 : SI W9 q cq (Lib.compact (sortI zs)) := by rw [hW9]; exact (hS3.set hqs _).set hqs _
  have hk9 : KeepX (s :: R) w W9 := by
    rw [hW9]
    exact ((((KeepX.of_below hB1).trans (HK2.out.sub fun k hk => List.mem_cons_of_mem _ hk)).trans (hk3.sub fun k hk => List.mem_cons_of_mem _ hk)).setCell (by simp) _).setCell (by simp) _
  clear hW9
  refine bodyPost_ret (by simp [results, Try.results113, go_sem, e0, e1]; try rfl) rfl ?_
  refine ⟨q, cq, rfl, hS9, hq3, ?_⟩
  rw [HR.out]
  exact hk9.fresh fun k hk => by
    rcases List.mem_cons.1 hk with e | e
    · exact .inr (by rw [e]; exact Nat.le_of_eq HS.out)
    · exact .inl e

set_option maxRecDepth 100000 in
set_option maxHeartbeats 2000000 in
theorem grow_nil (n : Nat) (w : World) (hn : n ≤ 40000) :
    Calls Try.prog 142 #[.slice none 0 0, .int .i64 n] w fun e w' => ∃ v, e = .returned v ∧ w'.ownsRow w.heap.size 3 1 v 0 [] ∧ Below w.heap.size w w' := by
  by_cases h0 : n = 0
  · subst h0
    go_enter Try.func142, Try.ntmps142
    go_wp2_with fail
    go_ret
    exact ⟨_, rfl, World.ownsRow_nil _ _ _ _, Below.refl _ _⟩
  · obtain ⟨i0, hi0, hz0, hz1, hz2⟩ := info_parts int_info
    have h1 : ¬ ((n : Int) < 0) := by omega
    have h4 : (n : Int) > 0 := by omega
    have h48 : n * i0.bytes ≤ 281474976710656 := by rw [hz2]; omega
    have hfit : Builtin.nextslicecap (0 + n) 0 * i0.bytes ≤ 281474976710656 := by
      refine growslice_fits (by omega) ?_
      rw [hz2]; omega
    have hrz : ∀ ty, (Builtin.append_ #[42, 3] ty #[.slice none 0 0, .int .i64 (n : Int)]).run Try.prog w = .ok (.slice (some ⟨w.heap.size, 0, none⟩) n (grownCap w n 0 3)) (w.drew.alloc (.cells (([] : List Value).toArray ++ Builtin.zeroCells (Value.int .i64 0).cells n ++ Builtin.zeroCells (Value.int .i64 0).cells (grownCap w n 0 3 - n)) 3)) := fun ty => by
      have h := Lib.run_append_grow_zeros w 42 3 ty 3 i0 _ .i64 .i64 Try.underlying42 Try.underlying3 hi0 hz0 none 0 0 [] (run_firstCells_none w.drew i0.size 0 0 0) n (by omega) (by rw [hz1]; decide) (by omega) (by omega) h48 hfit
      simp only [Nat.zero_add] at h
      exact h
    have hG := grownCap_ge w n 0 3
    have hG2 := grownCap_le_maxLen w n 0 3 (by unfold maxLen; omega)
    obtain ⟨G, hGe⟩ : ∃ G, G = grownCap w n 0 3 := ⟨_, rfl⟩
    rw [← hGe] at hrz hG hG2
    have hG63 : G ≤ 9223372036854775807 := by unfold maxLen at hG2; omega
    obtain ⟨cur, hcur⟩ : ∃ c, c = (([] : List Value).toArray ++ Builtin.zeroCells (Value.int .i64 0).cells n ++ Builtin.zeroCells (Value.int .i64 0).cells (G - n)) := ⟨_, rfl⟩
    have hcs : cur.size = G * 1 := by rw [hcur]; simp [Builtin.zeroCells, Value.cells]; omega
    rw [← hcur] at hrz
    clear hi0 hz0 hz1 hz2 hfit hGe hcur h48 i0
    go_enter Try.func142, Try.ntmps142
    go_wp2_with (at_builtin; refine Lib.wpList_append_run _ rfl _ _ _ _ rfl _ _ rfl rfl _ _ (hrz _) ?_)
    all_goals go_ret
    all_goals exact ⟨_, rfl, World.ownsRow_made w.drew cur G (Nat.le_refl _) hG2 hcs, by go_grown⟩

set_option maxRecDepth 100000 in
set_option maxHeartbeats 4000000 in
theorem concat_any (a b : List Int) (pa pb : Option Addr) (ca cb g : Nat) (w : World) (h0 : w.cell? ⟨g, 0, none⟩ = some (.slice pa a.length ca)) (h1 : w.cell? ⟨g, 1, none⟩ = some (.slice pb b.length cb)) (hA : SI w pa ca a) (hD : SI w pb cb b) (hl : a.length + b.length ≤ 40000) :
    Calls Try.prog 114 #[.slice (some ⟨g, 0, none⟩) 2 2] w fun e w' => ∃ v, e = .returned v ∧ w'.ownsRow w.heap.size 3 1 v (a ++ b).length (flat 1 iEnc (a ++ b)) ∧ Below w.heap.size w w' := by
  obtain ⟨i0, hi0, hz0, hz1, hz2⟩ := info_parts int_info
  have HA := Lib.hid hA; have HD := Lib.hid hD
  have hg := World.block_lt_of_cell? _ _ h0
  have q1 : IntKind.i64.wrap ((a.length : Int) + (b.length : Int)) = (a.length : Int) + (b.length : Int) := by rw [IntWalk.i64_in]; omega
  have q2 : ¬ ((a.length : Int) + (b.length : Int) < 0) := by omega
  clear hA hD
  go_enter Try.func114, Try.ntmps114
  go_wp2_with fail
  go_loopg [11, 3] 2 (fun M s11 s3 wr => ∃ K : Nat, s11 = .int .i64 K ∧ s3 = .int .i64 (match K with | 0 => 0 | 1 => (a.length : Int) | _ => (a.length : Int) + (b.length : Int)) ∧ K ≤ 2 ∧ M = 2 - K ∧ wr = w)
  case atStart => exact ⟨0, rfl, rfl, by omega, rfl, rfl⟩
  case round =>
    obtain ⟨K, rfl, hs3, hK, hM, hw⟩ := hrel
    replace hw := hw.symm
    subst hw
    obtain rfl | rfl | rfl : K = 0 ∨ K = 1 ∨ K = 2 := by omega
    · subst hM hs3
      go_wp2_with fail
      go_roundg 1
      case measure => decide
      case rel => exact ⟨1, by go_num, by go_num, by omega, rfl, rfl⟩
    · subst hM hs3
      go_wp2_with fail
      go_roundg 0
      case measure => decide
      case rel => exact ⟨2, by go_num, by go_num, by omega, rfl, rfl⟩
    · subst hM hs3
      go_upto_region 9 with fail
      obtain ⟨z, hz⟩ : ∃ z : Nat, (a.length : Int) + (b.length : Int) = z := ⟨a.length + b.length, by omega⟩
      have hzl : z ≤ 40000 := by omega
      try dsimp only
      rw [hz]
      rw [hz] at q1 q2
      clear hz q1 q2
      go_wp2_with (first | (go_at_call 142; refine (grow_nil z _ hzl).mono ?_; rintro e w1 ⟨v1, rfl, hown1, hb1⟩))
      have HO1 := Lib.hid hown1
      clear hown1
      go_loopg [27, 6] 2 (fun M s27 s6 wr => ∃ (K : Nat) (v : Value) (o : List Int), s27 = .int .i64 K ∧ s6 = v ∧ K ≤ 2 ∧ M = 2 - K ∧ o = (match K with | 0 => [] | 1 => a | _ => a ++ b) ∧ wr.ownsRow w.heap.size 3 1 v o.length (flat 1 iEnc o) ∧ Below w.heap.size w wr)
      case atStart => exact ⟨0, v1, [], rfl, rfl, by omega, rfl, rfl, HO1.out, hb1⟩
      case round =>
        clear HO1 hb1
        obtain ⟨K, v, o, rfl, hsv, hK, hM, ho, hown, hb⟩ := hrel
        replace hsv := hsv.symm
        subst hsv
        replace ho := ho.symm
        have HO := Lib.hid hown
        have hsz := hb.size
        clear hown
        obtain rfl | rfl | rfl : K = 0 ∨ K = 1 ∨ K = 2 := by omega
        · subst hM ho
          replace h0 := oldcell hb h0 hg
          go_wp2_with (first | (at_builtin; go_must (refine wpList_app2 (enc := iEnc) rfl _ _ _ rfl w.heap.size 3 i0 _ 8 Try.underlying42 hi0 hz0 hz1 hz2 rfl (by omega) _ [] rfl HO.out pa a ca rfl HA.out.q0 (HA.out.up hb).at' iEnc_one (by (try simp [maxLen]); omega) (by (try simp); omega) hsz ?_); intro v2 w3 hown2 hgr2 hbl2 hat2; have HOW2 := Lib.hid hown2; clear hown2 hgr2 hat2))
          go_roundg 1
          case measure => decide
          case rel => exact ⟨1, _, a, by go_num, rfl, by omega, rfl, rfl, HOW2.out, hb.trans hbl2⟩
        · subst hM ho
          replace h1 := oldcell hb h1 hg
          go_wp2_with (first | (at_builtin; go_must (refine wpList_app2 (enc := iEnc) rfl _ _ _ rfl w.heap.size 3 i0 _ 8 Try.underlying42 hi0 hz0 hz1 hz2 rfl (by omega) _ a rfl HO.out pb b cb rfl HD.out.q0 (HD.out.up hb).at' iEnc_one (by (try simp [maxLen]); omega) (by (try simp); omega) hsz ?_); intro v2 w3 hown2 hgr2 hbl2 hat2; have HOW2 := Lib.hid hown2; clear hown2 hgr2 hat2))
          go_roundg 0
          case measure => decide
          case rel => exact ⟨2, _, a ++ b, by go_num, rfl, by omega, rfl, rfl, HOW2.out, hb.trans hbl2⟩
        · subst hM ho
          go_wp2_with fail
          go_ret
          exact ⟨v, rfl, (by have h := HO.out; rw [List.length_append] at h; exact h), hb⟩
end Go.Proofs.Ytadilppdlbhjnaa

namespace Go.Proofs.Ytadilppdlbhjnaa
set_option linter.unusedSimpArgs false
set_option linter.unusedVariables false
open Go.RowKit Go.Maps

/-- A row of ints of the call's own. -/
def OwnR (w : World) (B : Nat) (v : Value) (l : List Int) : Prop := w.ownsRow B 3 1 v l.length (flat 1 iEnc l)
theorem OwnR.keep {w w' : World} {B : Nat} {v : Value} {l : List Int} {X : List Nat} (h : OwnR w B v l) (hk : KeepX X w w') (hx : ∀ k, v.ownBlock = some k → k ∉ X) : OwnR w' B v l := by
  refine ⟨h.1, ?_⟩
  rcases h.2 with hn | ⟨g, cap, cur, rfl, hb, hgg, rest⟩
  · exact .inl hn
  · refine .inr ⟨g, cap, cur, rfl, hb, ?_, rest⟩
    rw [hk.block g (Array.getElem?_eq_some_iff.1 hgg).1 (hx g rfl)]
    exact hgg
theorem OwnR.up {w w' : World} {B : Nat} {v : Value} {l : List Int} (h : OwnR w B v l) (hB : Below w.heap.size w w') : OwnR w' B v l := h.keep (X := []) (KeepX.of_below hB) (by simp)
theorem OwnR.low {w : World} {B C : Nat} {v : Value} {l : List Int} (h : OwnR w B v l) (hC : C ≤ B) : OwnR w C v l := by
  refine ⟨h.1, ?_⟩
  rcases h.2 with hn | ⟨g, cap, cur, rfl, hb, rest⟩
  · exact .inl hn
  · exact .inr ⟨g, cap, cur, rfl, Nat.le_trans hC hb, rest⟩
/-- A relation is returned, in new memory. -/
def RetRF (w : World) (ar : Int) (l : List Int) (e : Ending) (w' : World) : Prop := ∃ q cq, e = .returned (.agg #[.int .i64 ar, .slice q l.length cq]) ∧ SI w' q cq l ∧ (∀ ad, q = some ad → w.heap.size ≤ ad.block) ∧ Below w.heap.size w w'

set_option maxRecDepth 100000 in
set_option maxHeartbeats 4000000 in
theorem relunion_any (a b : List Int) (ar1 ar2 : Int) (pa pb : Option Addr) (ca cb : Nat) (w : World) (hA : SI w pa ca a) (hD : SI w pb cb b) (hl : a.length + b.length ≤ 40000) :
    Calls Try.prog 63 #[.agg #[.int .i64 ar1, .slice pa a.length ca], .agg #[.int .i64 ar2, .slice pb b.length cb]] w (RetRF w ar1 (rUnion a b)) := by
 obtain ⟨s, hs0⟩ : ∃ s, w.heap.size = s := ⟨_, rfl⟩
 obtain ⟨W2, hW2⟩ : ∃ W2, W2 = (((w.alloc (.cells #[.int .i64 ar1, .slice pa a.length ca] 44)).alloc (.cells #[.int .i64 ar2, .slice pb b.length cb] 44)).alloc (.cells #[.int .i64 0, .slice none 0 0] 44)) := ⟨_, rfl⟩
 have hbw : Below w.heap.size w W2 := by rw [hW2]; go_grown
 have zz : s + 3 ≤ W2.heap.size := by rw [hW2, ← hs0]; simp
 have hs : Cells W2 [(s + 2, 0, .int .i64 0), (s + 2, 1, .slice none 0 0)] := by rw [hW2, ← hs0]; exact ⟨⟨by go_cell, by go_cell⟩, ⟨by go_cell, by go_cell⟩, trivial⟩
 have hk : Cells W2 [(s, 0, .int .i64 ar1), (s, 1, .slice pa a.length ca), (s + 1, 0, .int .i64 ar2), (s + 1, 1, .slice pb b.length cb)] := by rw [hW2, ← hs0]; exact ⟨⟨by go_cell, by go_cell⟩, ⟨by go_cell, by go_cell⟩, ⟨by go_cell, by go_cell⟩, ⟨by go_cell, by go_cell⟩, trivial⟩
 have HW2 := Lib.hid hW2; have HS := Lib.hid hs0
 clear hW2 hs0
 have HA := Lib.hid hA; have HD := Lib.hid hD
 clear hA hD
 go_enter Try.func63, Try.ntmps63
 go_upto_region 1 with fail
 rw [← HW2.out]
 simp only [HS.out, Nat.add_assoc, Nat.reduceAdd]
 obtain ⟨⟨y20, y20f⟩, ⟨y21, y21f⟩, -⟩ := id hs
 obtain ⟨⟨y00, y00f⟩, ⟨y01, y01f⟩, ⟨y10, y10f⟩, ⟨y11, y11f⟩, -⟩ := id hk
 clear y20 y20f y21 y21f y00 y00f y01 y01f y10 y10f y11 y11f
 refine wp_region_seqE (fun x => Below W2.heap.size W2 x) (.one 0 1 (.one 1 0 (.one 2 1 (.one 3 0 (.one 4 1 (.one 5 0 (.alt 6 2 (.alt 7 2 (.alt 8 3 (.alt 9 3 .nil .stop) .stop) .stop) .stop))))))) (by kernel_rfl) (by kernel_rfl) (by kernel_rfl) (Below.drew (Below.refl _ _)) ?_
 iterate 6 (first | (refine seqE_free (v := ?_) rfl (by rfl) ?_ ?_; rotate_left; (focus (intro w; go_simp; try with_reducible rfl)); (try simp only [Act.put, List.setIfInBounds_toArray, List.set_cons_zero, List.set_cons_succ])) | (refine seqE_pure (v := ?_) rfl (by rfl) ?_ ?_; rotate_left; (focus (intro w hS; obtain ⟨⟨y00, -⟩, ⟨y01, -⟩, -, ⟨y11, -⟩, -⟩ := hk.up hS; go_simp; try with_reducible rfl)); (try simp only [Act.put, List.setIfInBounds_toArray, List.set_cons_zero, List.set_cons_succ])))
 refine seqE_move rfl (by rfl) ?_ seqE_stop
 intro w1 hS
 refine ⟨.slice (some ⟨w1.heap.size, 0, none⟩) 2 2, w1.alloc (.cells #[.slice pa a.length ca, .slice pb b.length cb] 42), (by go_simp; try with_reducible rfl), ?_⟩
 obtain ⟨b11, hb11⟩ : ∃ b, b = w1.heap.size := ⟨_, rfl⟩
 obtain ⟨v1, hw1⟩ : ∃ zW, zW = w1.alloc (.cells #[.slice pa a.length ca, .slice pb b.length cb] 42) := ⟨_, rfl⟩
 rw [← hw1, ← hb11]
 have hbl : Below w1.heap.size w1 v1 := by rw [hw1]; go_grown
 refine ⟨(fun x => Below v1.heap.size v1 x), Below.refl _ _, fun x hx => btr (btr hS hbl) hx, ?_⟩
 have hX := btr hS hbl
 replace hs := hs.up hX; replace hk := hk.up hX; replace hbw := btr hbw hX; replace zz := Nat.le_trans zz (Below.size hX)
 have hL : Cells v1 [(b11, 0, .slice pa a.length ca), (b11, 1, .slice pb b.length cb)] := by rw [hw1, hb11]; exact ⟨⟨by go_cell, by go_cell⟩, ⟨by go_cell, by go_cell⟩, trivial⟩
 clear hX hS hbl hw1 hb11
 (try simp only [Act.put, List.setIfInBounds_toArray, List.set_cons_zero, List.set_cons_succ])
 refine seqE_call (f := ?_) (args := ?_) rfl (by rfl) ?_ ?_ seqE_stop
 rotate_left 2
 focus (intro w hS; go_simp; first | done | with_reducible rfl | (refine ⟨?_, ?_⟩ <;> with_reducible rfl))
 intro w2 hS
 refine (concat_any a b pa pb ca cb b11 w2 (hL.up hS).1.1 (hL.up hS).2.1.1 (HA.out.up (btr hbw hS)) (HD.out.up (btr hbw hS)) hl).mono ?_
 rintro e v2 ⟨v, rfl, hown0, hbl⟩
 refine ⟨_, rfl, (fun x => Below v2.heap.size v2 x), Below.refl _ _, fun x hx => btr (btr hS hbl) hx, ?_⟩
 have hXw := Nat.le_trans zz hS.size
 have hX := btr hS hbl
 replace hs := hs.up hX; replace hk := hk.up hX; replace hL := hL.up hX; replace hbw := btr hbw hX; replace zz := Nat.le_trans zz (Below.size hX)
 have hown := OwnR.low (v := v) (l := a ++ b) hown0 hXw
 clear hown0
 clear hX hS hbl hXw
 (try simp only [Act.put, List.setIfInBounds_toArray, List.set_cons_zero, List.set_cons_succ])
 refine seqE_callB (f := ?_) (args := ?_) rfl (by rfl) ?_ ?_ seqE_stop
 rotate_left 2
 focus (intro w hS; go_simp; first | done | with_reducible rfl | (refine ⟨?_, ?_⟩ <;> with_reducible rfl))
 intro w3 hS
 have hX := hS.size
 replace hown := hown.up hS; replace hs := hs.up hS; replace hk := hk.up hS; replace hbw := btr hbw hS
 have hv3 : ∀ k ∈ rowOf v, s + 3 ≤ k := fun k hk => (World.ownsRow.lt hown k (rowOf_mem hk)).1
 refine (sorted_any (a ++ b) ar1 v (s + 3) w3 hown (by simp; omega)).mono ?_
 rintro e v3 ⟨q, cq, rfl, hR, hqv, hkx⟩
 refine ⟨_, rfl, (fun x => Below v3.heap.size v3 x), Below.refl _ _, ?_⟩
 have hqf : ∀ ad, q = some ad → s + 3 ≤ ad.block := fun ad h => hv3 _ (mem_rowOf (hqv ad h))
 have oR : ∀ ad, q = some ad → s + 2 ≠ ad.block := fun ad h e => by have := hv3 _ (mem_rowOf (hqv ad h)); omega
 replace hs := hs.keep hkx (by intro x hx hm; have h1 := hv3 _ hm; simp at hx; rcases hx with rfl | rfl <;> (dsimp only at h1; omega))
 replace hk := hk.keep hkx (by intro x hx hm; have h1 := hv3 _ hm; simp at hx; rcases hx with rfl | rfl | rfl | rfl <;> (dsimp only at h1; omega))
 replace hbw : Below w.heap.size w v3 := KeepX.below' hbw hkx hbw.size (fun k hk => by have := hv3 k hk; have := HS.out; omega)
 replace zz : s + 3 ≤ v3.heap.size := Nat.le_trans zz (Nat.le_trans hX hkx.size)
 clear hS hX hkx hown hqv hv3
 (try simp only [Act.put, List.setIfInBounds_toArray, List.set_cons_zero, List.set_cons_succ])
 refine seqE_storeB rfl (by rfl) ?_ seqE_stop
 intro w4 hS
 replace hs := hs.up hS; replace hk := hk.up hS; replace hR := hR.up hS; replace hbw := btr hbw hS; replace zz := Nat.le_trans zz (Below.size hS)
 obtain ⟨⟨y20, y20f⟩, ⟨y21, y21f⟩, -⟩ := id hs
 obtain ⟨⟨y00, y00f⟩, ⟨y01, y01f⟩, ⟨y10, y10f⟩, ⟨y11, y11f⟩, -⟩ := id hk
 refine ⟨((w4.setCell ⟨s + 2, 0, none⟩ (.int .i64 ar1)).setCell ⟨s + 2, 1, none⟩ (.slice q (nrm (a ++ b)).length cq)), (by go_simp; try with_reducible rfl), (fun x => Below (((w4.setCell ⟨s + 2, 0, none⟩ (.int .i64 ar1)).setCell ⟨s + 2, 1, none⟩ (.slice q (nrm (a ++ b)).length cq))).heap.size (((w4.setCell ⟨s + 2, 0, none⟩ (.int .i64 ar1)).setCell ⟨s + 2, 1, none⟩ (.slice q (nrm (a ++ b)).length cq))) x), Below.refl _ _, ?_⟩
 obtain ⟨v4, hw⟩ : ∃ zW, zW = ((w4.setCell ⟨s + 2, 0, none⟩ (.int .i64 ar1)).setCell ⟨s + 2, 1, none⟩ (.slice q (nrm (a ++ b)).length cq)) := ⟨_, rfl⟩
 rw [← hw]
 replace hs : Cells v4 [(s + 2, 0, .int .i64 ar1), (s + 2, 1, .slice q (nrm (a ++ b)).length cq)] := by rw [hw]; exact ⟨⟨by go_cell, (fz (fz y20f))⟩, ⟨by go_cell, (fz (fz y21f))⟩, trivial⟩
 replace hk : Cells v4 [(s, 0, .int .i64 ar1), (s, 1, .slice pa a.length ca), (s + 1, 0, .int .i64 ar2), (s + 1, 1, .slice pb b.length cb)] := by rw [hw]; exact ((hk.far (by simp <;> omega)).far (by simp <;> omega))
 replace hR : SI v4 q cq (nrm (a ++ b)) := by rw [hw]; exact ((hR.set (oR) _).set (oR) _)
 replace hbw : Below w.heap.size w v4 := by rw [hw]; exact (Below.setCell (Below.setCell hbw (by have h := HS.out; (try dsimp only); omega) _) (by have h := HS.out; (try dsimp only); omega) _)
 replace zz : s + 3 ≤ v4.heap.size := by rw [hw]; simpa using zz
 clear hw
 clear y20 y20f y21 y21f y00 y00f y01 y01f y10 y10f y11 y11f
 clear hS
 (try simp only [Act.put, List.setIfInBounds_toArray, List.set_cons_zero, List.set_cons_succ])
 refine seqE_nil ?_
 intro wz hS
 replace hs := hs.up hS; replace hk := hk.up hS; replace hR := hR.up hS; replace hbw := btr hbw hS; replace zz := Nat.le_trans zz (Below.size hS); clear hS
 obtain ⟨⟨y20, y20f⟩, ⟨y21, y21f⟩, -⟩ := id hs
 obtain ⟨⟨y00, y00f⟩, ⟨y01, y01f⟩, ⟨y10, y10f⟩, ⟨y11, y11f⟩, -⟩ := id hk
 go_wp2_with fail
 refine bodyPost_ret (by simp [results, Try.results63, go_sem, y20, y21]; try rfl) rfl ?_
 exact ⟨_, _, rfl, hR, fun ad h => by have h1 := hqf ad h; have h2 := HS.out; omega, hbw⟩
end Go.Proofs.Ytadilppdlbhjnaa

namespace Go.Proofs.Ytadilppdlbhjnaa
set_option linter.unusedSimpArgs false
set_option linter.unusedVariables false
open Go.RowKit Go.Maps

set_option maxRecDepth 100000 in
set_option maxHeartbeats 1000000 in
theorem rpow_any (n k : Nat) (w : World) (hn : n ≤ 12) (hk : k ≤ 3) :
    Calls Try.prog 112 #[.int .i64 n, .int .i64 k] w fun e w' => e = .returned (.int .i64 ((n ^ k : Nat) : Int)) ∧ w' = w := by
  have hb : ∀ i, i ≤ 3 → n ^ i ≤ 1728 := by
    intro i hi
    exact Nat.le_trans (Nat.pow_le_pow_left hn i) (Nat.le_trans (Nat.pow_le_pow_right (by decide) hi) (by decide))
  go_enter Try.func112, Try.ntmps112
  go_wp2_with fail
  go_loopg [5, 7] k (fun N s5 s7 wr => ∃ i : Nat, s5 = .int .i64 ((n ^ i : Nat) : Int) ∧ s7 = .int .i64 i ∧ i ≤ k ∧ N = k - i ∧ wr = w)
  case atStart => exact ⟨0, rfl, rfl, by omega, rfl, rfl⟩
  case round =>
    obtain ⟨i, rfl, rfl, hi, hN, rfl⟩ := hrel
    have HNk := Lib.hid hN; clear hN
    obtain ⟨q, hq⟩ : ∃ q, n ^ i = q := ⟨_, rfl⟩
    have hq1 : q ≤ 1728 := by rw [← hq]; exact hb i (by omega)
    have HQ := Lib.hid hq
    rw [hq]
    clear hq hb
    by_cases hlt : i < k
    case pos =>
      have hm : (q : Int) * (n : Int) = ((q * n : Nat) : Int) := by simp
      have hm2 : q * n ≤ 20736 := Nat.mul_le_mul hq1 hn
      obtain ⟨z, hz⟩ : ∃ z : Int, (q : Int) * (n : Int) = z := ⟨_, rfl⟩
      have HZ := Lib.hid (hm.symm.trans hz)
      have hw : IntKind.i64.wrap z = z := by (rw [IntWalk.i64_in]; omega)
      clear hm
      go_wp2_with fail
      go_roundg (k - (i + 1))
      case measure => (have := HNk.out; omega)
      case rel => exact ⟨i + 1, by rw [Nat.pow_succ, HQ.out, HZ.out], by go_num, by omega, rfl, rfl⟩
    case neg =>
      obtain rfl : i = k := by omega
      go_wp2_with fail
      go_ret
      exact ⟨congrArg (fun x : Int => Ending.returned (.int .i64 x)) (by rw [HQ.out]), rfl⟩

/-- append of one: what is appended, and that the old slice still reads as it did -/
theorem app_two {P : Program} (w : World) (base : Nat) (t ty e : TypeId) (i : TypeInfo) (z : Value) (bytes : Nat) (ht : P.underlying t = some (.slice e)) (hi : P.info? e = some i) (hz : i.zero = some z)
    (hsize : i.size = 1) (hby : i.bytes = bytes) (hzs : z.cells.size = 1) (v : Value) (n : Nat) (xs : List Value) (hown : w.ownsRow base e 1 v n xs) (b c : Nat) (u : Value) (hu : w.cell? ⟨b, 0, none⟩ = some u) (h1 : u.oneCell' = true)
    (h63 : n + 1 ≤ maxLen) (hbytes : (n + 1) * bytes ≤ 140737488355328) (hbase : base ≤ w.heap.size) :
    ∃ v' w', (Builtin.append_ #[t, t] ty #[v, .slice (some ⟨b, 0, none⟩) 1 c]).run P w = .ok v' w' ∧ w'.ownsRow base e 1 v' (n + 1) (xs ++ [u]) ∧ w'.ownsRow base e 1 v n xs ∧ w.grownBy w' v.ownBlock ∧ (v'.ownBlock = v.ownBlock ∨ v'.ownBlock = some w.heap.size) := by
  subst hby
  have hnews : ∀ j x, [u][j]? = some x → w.cell? ((⟨b, 0, none⟩ : Addr).add j) = some x := by
    intro j x hj
    cases j with
    | zero => simp at hj; subst hj; simpa [Addr.add_lit] using hu
    | succ j => simp at hj
  have hl : [u].length = 1 * i.size := by rw [hsize]; rfl
  have hone : ∀ x ∈ [u], x.oneCell' = true := fun x hx => by rw [List.mem_singleton.1 hx]; exact h1
  have hsmall : n + 1 ≤ 9223372036854775807 := by simp only [maxLen] at h63; omega
  have hlen : (xs ++ [u]).length = (n + 1) * 1 := by rw [List.length_append, hown.1]; simp
  have grown : ∀ (old : Nat), old < n + 1 → ∀ (row : Option Nat),
      (w.drew.alloc (.cells (xs.toArray ++ [u].toArray ++ Builtin.zeroCells z.cells (grownCap w (n + 1) old e - (n + 1))) e)).ownsRow base e 1
        (.slice (some ⟨w.heap.size, 0, none⟩) (n + 1) (grownCap w (n + 1) old e)) (n + 1) (xs ++ [u]) ∧
      w.grownBy (w.drew.alloc (.cells (xs.toArray ++ [u].toArray ++ Builtin.zeroCells z.cells (grownCap w (n + 1) old e - (n + 1))) e)) row := by
    intro old ho row
    have hge := grownCap_ge w (n + 1) old e
    have hcm : grownCap w (n + 1) old e ≤ maxLen := grownCap_le_maxLen w (n + 1) old e h63
    refine ⟨⟨hlen, .inr ⟨w.heap.size, _, _, rfl, hbase, heap_alloc_new w.drew _, hge, hcm, ?_, ?_⟩⟩, ⟨rfl, rfl, rfl, by simp, fun k hk hne => (World.grownBy_alloc w.drew _ row).block k hk hne⟩⟩
    · simp only [Array.size_append, List.size_toArray, size_zeroCells, hzs, hown.1, List.length_singleton]
      omega
    · simp only [Array.toList_append, List.append_assoc]
      rw [← List.append_assoc, ← hlen]
      exact List.take_left
  rcases hown.2 with ⟨rfl, rfl⟩ | ⟨g, cap, cur, rfl, hbg, hg, hnc, hcm, hcs, htake⟩
  · have hx : xs = [] := List.eq_nil_of_length_eq_zero (by simpa using hown.1)
    subst hx
    have hr := run_append_nil (P := P) w t ty e i z ht hi hz ⟨b, 0, none⟩ 1 c [u] hl hnews (by omega) (by omega) (by have hb := hbytes; simp only [Nat.zero_add] at hb; omega)
    have hgr := grown 0 (by omega) (Value.ownBlock (.slice none 0 0))
    simp only [Nat.zero_add, List.nil_append, Array.empty_append] at hgr ⊢
    exact ⟨_, _, hr, hgr.1, World.ownsRow_nil _ _ _ _, hgr.2, .inr rfl⟩
  · by_cases hroom : n + 1 ≤ cap
    · have hfit : n * i.size + [u].length ≤ cur.size := by rw [hcs, hsize]; simp; omega
      have hr := run_append_room (P := P) w t ty e i ht hi g n cap cur hg ⟨b, 0, none⟩ 1 c [u] hl hnews hone hroom hfit
      rw [hsize] at hr
      have hsz : ((List.take (n * 1) cur.toList ++ [u] ++ List.drop (n * 1 + [u].length) cur.toList).toArray).size = cap * 1 := by
        simp only [List.size_toArray, List.length_append, List.length_take, List.length_drop, Array.length_toList, List.length_singleton]
        omega
      refine ⟨_, _, hr, ⟨hlen, .inr ⟨g, cap, _, rfl, hbg, setRow_heap w g cur _ e _ hg, hroom, hcm, hsz, ?_⟩⟩, ⟨hown.1, .inr ⟨g, cap, _, rfl, hbg, setRow_heap w g cur _ e _ hg, hnc, hcm, hsz, ?_⟩⟩, ⟨rfl, rfl, rfl, by simp, fun k _ hk => setRow_other w g k _ (fun e => hk (by simp [Value.ownBlock, e]))⟩, .inl rfl⟩
      · rw [htake, ← hlen]
        exact List.take_left
      · rw [htake, List.append_assoc, ← hown.1]
        exact List.take_left
    · have holds : ∀ j x, xs[j]? = some x → w.cell? ((⟨g, 0, none⟩ : Addr).add j) = some x := hown.cells (g := g) rfl
      have hr := run_append_grow (P := P) w t ty e i z ht hi hz ⟨g, 0, none⟩ n cap xs (by rw [hsize]; exact hown.1) holds ⟨b, 0, none⟩ 1 c [u] hl hnews (by omega) (by omega) (growslice_fits (by omega) hbytes)
      have hgr := grown cap (by omega) (Value.ownBlock (.slice (some ⟨g, 0, none⟩) n cap))
      refine ⟨_, _, hr, hgr.1, ?_, hgr.2, .inr rfl⟩
      exact (show w.drew.ownsRow base e 1 (.slice (some ⟨g, 0, none⟩) n cap) n xs from hown).alloc _

/- how a slice reads, by itself -/
abbrev nilD : DM := .agg [numI 0, numI 0, numI 0]
def slRd : Value → Option (DM × List MemPlace)
  | .slice none n c => some (.agg [numI 0, numI n, numI c], [])
  | .slice (some ⟨b, o, none⟩) n c => some (.agg [numI 1, numI b, numI o, numI n, numI c], [])
  | _ => none
theorem slRd_inj {u v : Value} {d : DM} {ps qs : List MemPlace} (hu : slRd u = some (d, ps)) (hv : slRd v = some (d, qs)) : u = v := by
  unfold slRd at hu hv
  split at hu <;> split at hv <;> simp only [Option.some.injEq, Prod.mk.injEq, reduceCtorEq] at hu hv
  all_goals (obtain ⟨hd, -⟩ := hu; obtain ⟨h, -⟩ := hv; rw [← hd] at h; simp [numI] at h)
  all_goals (simp only [Value.slice.injEq, Option.some.injEq, Addr.mk.injEq, and_true, true_and]; omega)
/-- The map at bm holds, at key r, the slice S r. -/
def ByAt (w : World) (bm nn : Nat) (S : Int → Value) : Prop := ∃ D : DM, w.ownsMap Try.prog 3 slRd bm nn D ∧ Maps.IsMap D ∧ ∀ r, slRd (S r) = some (D.atKey (keyI r) nilD, [])
theorem ByAt.start (w : World) : ByAt (w.alloc (.map #[] 0)) w.heap.size 0 (fun _ => .slice none 0 0) := ⟨.map [], World.ownsMap_made _ _ _ _, ⟨_, rfl⟩, fun _ => rfl⟩
theorem ByAt.keep {w w' : World} {bm nn : Nat} {S : Int → Value} (h : ByAt w bm nn S) (hb : w'.heap[bm]? = w.heap[bm]?) : ByAt w' bm nn S := by
  obtain ⟨D, ⟨es, clock, h1, F, h2, h3⟩, h4, h5⟩ := h
  exact ⟨D, ⟨es, clock, hb.trans h1, F, h2, h3⟩, h4, h5⟩
theorem ByAt.lt {w : World} {bm nn : Nat} {S : Int → Value} (h : ByAt w bm nn S) : bm < w.heap.size := by
  obtain ⟨D, h1, _⟩ := h
  exact World.ownsMap.lt h1
theorem ByAt.look {w : World} {bm nn : Nat} {S : Int → Value} (h : ByAt w bm nn S) {t : Int} (h0 : 0 ≤ t) (h1 : t < 100000) :
    (Instr.lookup 133 (.map (some bm)) (.int .i64 t) false).run Try.prog w = .ok (S t) w := by
  obtain ⟨D, hm, hI, hS⟩ := h
  obtain ⟨v, ps, hrun, hv⟩ := hm.lookup int_keyed' Try.underlying133 (Try.zeroValue42 _) (zd := nilD) (zp := []) rfl (int_key h0 h1)
  rw [hrun, slRd_inj hv (hS t)]
theorem own_rd {w : World} {B : Nat} {v : Value} {l : List Int} (h : OwnR w B v l) : ∃ d, slRd v = some (d, []) := by
  rcases h.2 with ⟨rfl, _⟩ | ⟨g, cap, cur, rfl, _⟩
  · exact ⟨_, rfl⟩
  · exact ⟨_, rfl⟩
theorem ByAt.put {w : World} {bm nn : Nat} {S : Int → Value} (h : ByAt w bm nn S) (hn : nn < maxLen) {t : Int} (h0 : 0 ≤ t) (h1 : t < 100000) {v : Value} {d : DM} (hv : slRd v = some (d, [])) :
    ∃ w', (Instr.mapUpdate 133 (.map (some bm)) (.int .i64 t) v).run Try.prog w = .ok () w' ∧ ByAt w' bm (nn + 1) (fun r => if r = t then v else S r) ∧ w.grownBy w' (some bm) := by
  obtain ⟨D, hm, hI, hS⟩ := h
  obtain ⟨w', hrun, hm', hg⟩ := hm.update int_keyed' Try.underlying133 hn (int_key h0 h1) hv
  refine ⟨w', hrun, ⟨_, hm', Maps.IsMap.put hI _ _, fun r => ?_⟩, hg⟩
  show slRd (if r = t then v else S r) = _
  by_cases e : r = t
  · subst e
    rw [if_pos rfl, Maps.atKey_put_same hI (keyI_key _)]; exact hv
  · rw [if_neg e, Maps.atKey_put_other (keyI_ne e)]; exact hS r
/-- The rows that the map's slices hold; no two share a block. -/
structure RowsAt (w : World) (B : Nat) (S : Int → Value) (F : Int → List Int) : Prop where
  own : ∀ r, OwnR w B (S r) (F r)
  dis : ∀ r r' g, (S r).ownBlock = some g → (S r').ownBlock = some g → r = r'
theorem RowsAt.keep {w w' : World} {B : Nat} {S : Int → Value} {F : Int → List Int} {X : List Nat} (h : RowsAt w B S F) (hk : KeepX X w w') (hx : ∀ k ∈ X, k < B) : RowsAt w' B S F :=
  ⟨fun r => (h.own r).keep hk fun k hk' hm => by have := ((h.own r).lt k hk').1; have := hx k hm; omega, h.dis⟩
def rowsOf (p : Int) (b : List Int) (r : Int) : List Int := (b.filter fun y => y / p == r).map fun y => y % p
theorem rowsOf_snoc {p : Int} {b : List Int} {K : Nat} {t : Int} (h : b[K]? = some t) (r : Int) : rowsOf p (b.take (K + 1)) r = if r = t / p then rowsOf p (b.take K) r ++ [t % p] else rowsOf p (b.take K) r := by
  obtain ⟨hk, he⟩ := List.getElem?_eq_some_iff.1 h
  unfold rowsOf
  rw [List.take_succ_eq_append_getElem hk, he, List.filter_append, List.map_append]
  by_cases e : r = t / p
  · rw [if_pos e, List.filter_cons_of_pos (by simp [e])]; rfl
  · rw [if_neg e, List.filter_cons_of_neg (by simp; exact fun h => e h.symm)]; simp
theorem rowsOf_len (p : Int) (b : List Int) (r : Int) : (rowsOf p b r).length ≤ b.length := by unfold rowsOf; rw [List.length_map]; exact List.length_filter_le _ _
/-- one more: row t / p grows by t % p -/
theorem RowsAt.next {w w3 w4 : World} {B bm : Nat} {S : Int → Value} {p : Int} {b : List Int} {K : Nat} {t : Int} {v2 : Value} (h : RowsAt w B S (rowsOf p (b.take K))) (ht : b[K]? = some t)
    (hv2 : OwnR w3 B v2 (rowsOf p (b.take K) (t / p) ++ [t % p])) (hk3 : KeepX (rowOf (S (t / p))) w w3) (hb2 : v2.ownBlock = (S (t / p)).ownBlock ∨ ∃ g, v2.ownBlock = some g ∧ w.heap.size ≤ g) (hk4 : KeepX [bm] w3 w4) (hbm : bm < B) :
    RowsAt w4 B (fun r => if r = t / p then v2 else S r) (rowsOf p (b.take (K + 1))) := by
  refine ⟨fun r => ?_, fun r r' g h1 h2 => ?_⟩
  · rw [rowsOf_snoc ht]
    (try dsimp only)
    by_cases e : r = t / p
    · rw [if_pos e, if_pos e]
      subst e
      exact hv2.keep hk4 fun k hk hm => by have := (hv2.lt k hk).1; rw [List.mem_singleton.1 hm] at this; omega
    · rw [if_neg e, if_neg e]
      exact ((h.own r).keep hk3 fun k hk hm => e (h.dis r _ k hk (rowOf_mem hm))).keep hk4 fun k hk hm => by have := ((h.own r).lt k hk).1; rw [List.mem_singleton.1 hm] at this; omega
  · (try dsimp only at h1 h2)
    have key : ∀ r'', r'' ≠ t / p → (S r'').ownBlock = some g → v2.ownBlock = some g → False := fun r'' hne hs hv => by
      rcases hb2 with e | ⟨g', e, hg⟩
      · rw [e] at hv; exact hne (h.dis _ _ g hs hv)
      · rw [e] at hv; cases hv; have := ((h.own r'').lt _ hs).2; omega
    by_cases e : r = t / p
    · rw [if_pos e] at h1
      by_cases e' : r' = t / p
      · rw [e, e']
      · rw [if_neg e'] at h2; exact (key r' e' h2 h1).elim
    · rw [if_neg e] at h1
      by_cases e' : r' = t / p
      · rw [if_pos e'] at h2; exact (key r e h1 h2).elim
      · rw [if_neg e'] at h2; exact h.dis _ _ g h1 h2
end Go.Proofs.Ytadilppdlbhjnaa

namespace Go.Proofs.Ytadilppdlbhjnaa
set_option linter.unusedSimpArgs false
set_option linter.unusedVariables false
open Go.RowKit Go.Maps

theorem exec_append {P : Program} {o : Oper} {a : Act} {w w' : World} {v' v y : Value} {s x : Operand} {t : TypeId} (ho : o.op = .call { callee := .builtin .append, args := #[s, x], argTypes := #[t, t] }) (hs : a.eval s = v) (hx : a.eval x = y)
    (hr : (Builtin.append_ #[t, t] o.type #[v, y]).run P w = .ok v' w') : (execOp a.eval o).run P w = .ok (.value v') w' := by
  unfold execOp
  simp only [ho, resolve, invoke, builtin, Sem.run_bind, Sem.run_pure, Result.andThen_ok, List.map_toArray, List.map_cons, List.map_nil, hs, hx, hr]
theorem exec_mapUpdate {P : Program} {o : Oper} {a : Act} {w w' : World} {m x v : Operand} {mv key val : Value} {t : TypeId} (ho : o.op = Op.mapUpdate t m x v) (hm : a.eval m = mv) (hx : a.eval x = key) (hv : a.eval v = val)
    (hr : (Instr.mapUpdate t mv key val).run P w = .ok () w') : (execOp a.eval o).run P w = .ok .skip w' := by
  simp [execOp, ho, hm, hx, hv, hr, Result.andThen]
theorem RowsAt.low {w : World} {B C : Nat} {S : Int → Value} {F : Int → List Int} (h : RowsAt w B S F) (hC : C ≤ B) : RowsAt w C S F := ⟨fun r => (h.own r).low hC, h.dis⟩
/-- What the iterator of a join finds. -/
structure MSt (w : World) (B ba bb bn bs bm nn : Nat) (n p : Int) (a : List Int) (pa : Option Addr) (ca : Nat) (S : Int → Value) (F : Int → List Int) : Prop where
  a1 : w.cell? ⟨ba, 1, none⟩ = some (.slice pa a.length ca)
  m0 : w.cell? ⟨bb, 0, none⟩ = some (.map (some bm))
  n0 : w.cell? ⟨bn, 0, none⟩ = some (.int .i64 n)
  p0 : w.cell? ⟨bs, 0, none⟩ = some (.int .i64 p)
  by' : ByAt w bm nn S
  rows : RowsAt w B S F
  hB : B ≤ ba ∧ B ≤ bb ∧ B ≤ bn ∧ B ≤ bs ∧ B ≤ bm

set_option maxRecDepth 100000 in
set_option maxHeartbeats 4000000 in
theorem matches_any (n p : Nat) (a b : List Int) (ar1 ar2 : Int) (pa pb : Option Addr) (ca cb : Nat) (w : World) (hA : SI w pa ca a) (hD : SI w pb cb b) (hlb : b.length ≤ 20000) (hb : ∀ x ∈ b, 0 ≤ x ∧ x < 100000) (hp0 : 0 < p) (hp1 : p ≤ 1728) :
    Calls Try.prog 111 #[.int .i64 n, .int .i64 p, .agg #[.int .i64 ar1, .slice pa a.length ca], .agg #[.int .i64 ar2, .slice pb b.length cb]] w
      fun e w' => ∃ ba bb bn bs bm nn S, e = .returned (.func (.func 140) #[] #[.pointer (some ⟨ba, 0, none⟩), .pointer (some ⟨bb, 0, none⟩), .pointer (some ⟨bn, 0, none⟩), .pointer (some ⟨bs, 0, none⟩)]) ∧ MSt w' w.heap.size ba bb bn bs bm nn n p a pa ca S (rowsOf p b) ∧ Below w.heap.size w w' := by
  obtain ⟨i0, hi0, hz0, hz1, hz2⟩ := info_parts int_info
  obtain ⟨s, hs⟩ : ∃ s, w.heap.size = s := ⟨_, rfl⟩
  obtain ⟨W2, hW2⟩ : ∃ x, x = (((w.alloc (.cells #[.int .i64 n] 3)).alloc (.cells #[.int .i64 p] 3)).alloc (.cells #[.int .i64 ar1, .slice pa a.length ca] 44)).alloc (.cells #[.int .i64 ar2, .slice pb b.length cb] 44) := ⟨_, rfl⟩
  have hB2 : Below w.heap.size w W2 := by rw [hW2]; go_grown
  have z2 : W2.heap.size = s + 4 := by rw [hW2, ← hs]; simp
  have y0 : W2.cell? ⟨s, 0, none⟩ = some (.int .i64 n) := by rw [hW2, ← hs]; go_cell
  have y1 : W2.cell? ⟨s + 1, 0, none⟩ = some (.int .i64 p) := by rw [hW2, ← hs]; go_cell
  have y2 : W2.cell? ⟨s + 2, 1, none⟩ = some (.slice pa a.length ca) := by rw [hW2, ← hs]; go_cell
  have y3 : W2.cell? ⟨s + 3, 1, none⟩ = some (.slice pb b.length cb) := by rw [hW2, ← hs]; go_cell
  have HA := Lib.hid hA; have HD := Lib.hid hD; have HRB := Lib.hid hb; have HW2 := Lib.hid hW2; have HS := Lib.hid hs; have HB2 := Lib.hid hB2
  clear hA hD hb hW2 hs hB2
  go_enter Try.func111, Try.ntmps111
  go_upto_region 1 with fail
  rw [← HW2.out]
  simp only [HS.out, Nat.add_assoc, Nat.reduceAdd]
  have hmk := run_makeMap (P := Try.prog) 133 W2
  go_upto_region 2 with fail
  obtain ⟨w4, hw4⟩ : ∃ x, x = (W2.alloc (.map #[] 0)).alloc (.cells #[.map (some (s + 4))] 133) := ⟨_, rfl⟩
  rw [← hw4]
  simp only [Nat.add_assoc, Nat.reduceAdd]
  have hB4 : Below W2.heap.size W2 w4 := by rw [hw4]; go_grown
  have z4 : w4.heap.size = s + 6 := by rw [hw4]; simp [z2]
  have v0 : w4.cell? ⟨s + 5, 0, none⟩ = some (.map (some (s + 4))) := by rw [hw4, show s + 5 = W2.heap.size + 1 by omega]; go_cell
  have HBY0 := Lib.hid (show ByAt w4 (s + 4) 0 (fun _ => .slice none 0 0) by
    have := ByAt.start W2
    rw [z2] at this
    rw [hw4]
    exact this.keep (Below.heap_alloc _ _ _ (by simp [z2])))
  have HR0 := Lib.hid (show RowsAt w4 (s + 6) (fun _ => .slice none 0 0) (rowsOf p (b.take 0)) from ⟨fun r => World.ownsRow_nil _ _ _ _, fun r r' g h1 _ => by simp [Value.ownBlock] at h1⟩)
  replace y0 := oldcell hB4 y0 (by omega); replace y1 := oldcell hB4 y1 (by omega); replace y2 := oldcell hB4 y2 (by omega); replace y3 := oldcell hB4 y3 (by omega)
  have HB4 := Lib.hid (btr HB2.out hB4)
  clear hw4 hB4 hmk
  go_wp2_with fail
  go_loopg [16] b.length (fun M s16 wr => ∃ (K nn : Nat) (S : Int → Value), s16 = .int .i64 K ∧ K ≤ b.length ∧ M = b.length - K ∧ nn ≤ K ∧ ByAt wr (s + 4) nn S ∧ RowsAt wr (s + 6) S (rowsOf p (b.take K)) ∧ KeepX [s + 4] w4 wr)
  case atStart => exact ⟨0, 0, _, rfl, by omega, rfl, by omega, HBY0.out, HR0.out, KeepX.refl _ _⟩
  case round =>
    clear HBY0 HR0
    obtain ⟨K, nn, S, rfl, hK, hM, hnn, hby, hrow, hkx⟩ := hrel
    have HM := Lib.hid hM; have HBY := Lib.hid hby; have HROW := Lib.hid hrow
    have hszr := hkx.size
    have hBR : Below w.heap.size w wr := KeepX.below' HB4.out hkx HB4.out.size (by have := HS.out; simp; omega)
    clear hM hby hrow
    replace v0 := hkx.cell v0 (by simp); replace y1 := hkx.cell y1 (by simp)
    by_cases hlt : K < b.length
    case pos =>
      have hlt0 : (0 : Int) ≤ (K : Int) := by omega
      have hlt1 : (K : Int) < (b.length : Int) := by omega
      obtain ⟨t, ht⟩ : ∃ t, b[K]? = some t := ⟨_, List.getElem?_eq_getElem hlt⟩
      obtain ⟨bx, off, rfl, hbx, h0⟩ := int_cell HD.out.at' ht
      replace h0 := oldcell hBR h0 hbx
      have hrt := HRB.out t (List.mem_of_getElem? ht)
      obtain ⟨a1, a2, a3, a4, a5, a6, a7⟩ := quo_rem (x := t) (n := p) hrt.1 (by omega) hp0
      obtain ⟨ky, hky⟩ : ∃ ky, t / (p : Int) = ky := ⟨_, rfl⟩
      obtain ⟨rm, hrm⟩ : ∃ rm, t % (p : Int) = rm := ⟨_, rfl⟩
      rw [hky] at a1 a4 a5; rw [hrm] at a2 a3 a6 a7
      have hk1 : ky < 100000 := by omega
      have HKY := Lib.hid hky; have HRM := Lib.hid hrm; have HT := Lib.hid ht
      obtain ⟨F, hF⟩ : ∃ F, rowsOf p (b.take K) ky = F := ⟨_, rfl⟩
      have hFl : F.length ≤ 20000 := by rw [← hF]; exact Nat.le_trans (rowsOf_len _ _ _) (by rw [List.length_take]; omega)
      have HO := Lib.hid (show OwnR wr (s + 6) (S ky) F by rw [← hF]; exact HROW.out.own ky)
      have HF := Lib.hid hF
      have HX := Lib.hid (show ∀ k ∈ rowOf (S ky), s + 6 ≤ k ∧ k < wr.heap.size from fun k hk => HO.out.lt k (rowOf_mem hk))
      have hx5 : s + 5 ∉ rowOf (S ky) := fun hm => by have := (HX.out _ hm).1; omega
      have hx1 : s + 1 ∉ rowOf (S ky) := fun hm => by have := (HX.out _ hm).1; omega
      have hx4 : s + 4 ∉ rowOf (S ky) := fun hm => by have := (HX.out _ hm).1; omega
      have hbml := HBY.out.lt
      have hp00 : ¬ p = 0 := by omega
      clear hky hrm ht hF hbx
      go_upto_region 5 with fail
      refine wp_region_seqE (fun x => KeepX (rowOf (S ky)) wr x ∧ OwnR x (s + 6) (S ky) F) (.one 0 0 (.one 1 1 (.one 2 0 (.one 3 1 (.one 4 0 (.one 5 1 (.one 6 0 (.one 7 1 (.one 8 0 (.one 9 1 (.one 10 0 (.one 11 1 (.alt 12 2 (.alt 13 2 (.alt 14 3 .nil .stop) .stop) .stop))))))))))))) (by kernel_rfl) (by kernel_rfl) (by kernel_rfl) ⟨KeepX.of_below (Below.drew (Below.refl _ _)), HO.out.up (Below.drew (Below.refl _ _))⟩ ?_
      iterate 12 (first | (refine seqE_free (v := ?_) rfl (by rfl) ?_ ?_; rotate_left; (focus (intro w; go_simp; try with_reducible rfl)); (try simp only [Act.put, List.setIfInBounds_toArray, List.set_cons_zero, List.set_cons_succ])) | (refine seqE_pure (v := ?_) rfl (by rfl) ?_ ?_; rotate_left; (focus (intro w hS; have e5 := hS.1.cell v0 hx5; have e1 := hS.1.cell y1 hx1; have el := (HBY.out.keep (hS.1.block _ hbml hx4)).look a4 hk1; go_simp; try with_reducible rfl)); (try simp only [Act.put, List.setIfInBounds_toArray, List.set_cons_zero, List.set_cons_succ])))
      refine seqE_move rfl (by rfl) ?_ seqE_stop
      intro w1 hS
      refine ⟨.slice (some ⟨w1.heap.size, 0, none⟩) 1 1, w1.alloc (.cells #[.int .i64 rm] 3), (by go_simp; try with_reducible rfl), ?_⟩
      obtain ⟨b32, hb32⟩ : ∃ b, b = w1.heap.size := ⟨_, rfl⟩
      obtain ⟨v1, hv1⟩ : ∃ x, x = w1.alloc (.cells #[.int .i64 rm] 3) := ⟨_, rfl⟩
      rw [← hv1, ← hb32]
      have hbl : Below w1.heap.size w1 v1 := by rw [hv1]; go_grown
      have hx32 : b32 ∉ rowOf (S ky) := fun hm => by have h1 := (HX.out _ hm).2; have h2 := hS.1.size; omega
      refine ⟨fun x => (KeepX (rowOf (S ky)) wr x ∧ OwnR x (s + 6) (S ky) F) ∧ x.cell? ⟨b32, 0, none⟩ = some (.int .i64 rm), ⟨⟨hS.1.upB hbl, hS.2.up hbl⟩, by rw [hv1, hb32]; go_cell⟩, fun x hx => hx.1, ?_⟩
      clear hS hbl hv1 hb32 w1 v1
      (try simp only [Act.put, List.setIfInBounds_toArray, List.set_cons_zero, List.set_cons_succ])
      refine seqE_move rfl (by rfl) ?_ seqE_stop
      intro w2 hS
      have hz3 := hS.1.1.size
      obtain ⟨v', w', hrun, ho1, ho2, hg, hb⟩ := app_two (P := Try.prog) w2 (s + 6) 42 42 3 i0 _ 8 Try.underlying42 hi0 hz0 hz1 hz2 rfl (S ky) F.length _ hS.1.2 b32 1 (.int .i64 rm) hS.2 rfl (by simp only [maxLen]; omega) (by omega) (by omega)
      refine ⟨v', w', exec_append rfl rfl rfl hrun, ?_⟩
      have hkw : KeepX (rowOf (S ky)) w2 w' := KeepX.of_grown hg fun g hg' => mem_rowOf hg'
      have ho3 : OwnR w' (s + 6) v' (F ++ [rm]) := by unfold OwnR; rw [flat_int, List.map_append, List.length_append]; rw [flat_int] at ho1; exact ho1
      have hb' : v'.ownBlock = (S ky).ownBlock ∨ ∃ g, v'.ownBlock = some g ∧ wr.heap.size ≤ g := hb.imp id fun h => ⟨_, h, hz3⟩
      refine ⟨fun x => ((KeepX (rowOf (S ky)) wr x ∧ OwnR x (s + 6) (S ky) F) ∧ x.cell? ⟨b32, 0, none⟩ = some (.int .i64 rm)) ∧ OwnR x (s + 6) v' (F ++ [rm]), ⟨⟨⟨hS.1.1.trans hkw, ho2⟩, hkw.cell hS.2 hx32⟩, ho3⟩, fun x hx => hx.1, ?_⟩
      clear hS hrun ho1 ho2 hg hb hkw ho3 hz3 w2 w'
      (try simp only [Act.put, List.setIfInBounds_toArray, List.set_cons_zero, List.set_cons_succ])
      refine seqE_storeB rfl (by rfl) ?_ seqE_stop
      intro w3 hS
      obtain ⟨d, hd⟩ := own_rd hS.2
      obtain ⟨w5, hrun5, hby5, hg5⟩ := (HBY.out.keep (hS.1.1.1.block _ hbml hx4)).put (by simp only [maxLen]; omega) a4 hk1 hd
      refine ⟨w5, exec_mapUpdate rfl rfl rfl rfl hrun5, fun x => Below w5.heap.size w5 x, Below.refl _ _, ?_⟩
      have hk5 : KeepX [s + 4] w3 w5 := KeepX.of_grown hg5 (by simp)
      have HBY5 := Lib.hid hby5
      have HROW5 := Lib.hid (show RowsAt w5 (s + 6) (fun r => if r = ky then v' else S r) (rowsOf p (b.take (K + 1))) by
        have h1 := RowsAt.next (w3 := w3) (w4 := w5) (v2 := v') (bm := s + 4) HROW.out HT.out (by rw [HKY.out, HRM.out, HF.out]; exact hS.2) (by rw [HKY.out]; exact hS.1.1.1) (by rw [HKY.out]; exact hb') hk5 (by omega)
        rw [HKY.out] at h1; exact h1)
      have hkx5 : KeepX [s + 4] w4 w5 := by
        have h1 : KeepX ((s + 4) :: rowOf (S ky)) w4 w5 := ((hkx.sub (by simp)).trans (hS.1.1.1.sub (fun k hk => List.mem_cons_of_mem _ hk))).trans (hk5.sub (by simp))
        exact h1.fresh fun k hk => by
          rcases List.mem_cons.1 hk with e | e
          · exact .inl (by rw [e]; simp)
          · exact .inr (by rw [z4]; exact (HX.out k e).1)
      clear hrun5 hby5 hg5 hk5 hS hb' hd
      (try simp only [Act.put, List.setIfInBounds_toArray, List.set_cons_zero, List.set_cons_succ])
      refine seqE_nil ?_
      intro wz hS
      have hbyz := HBY5.out.keep (hS.block _ HBY5.out.lt)
      have hrowz := HROW5.out.keep (X := []) (KeepX.of_below hS) (by simp)
      have hkxz := hkx5.upB hS
      clear hS HBY5 HROW5 hkx5
      go_wp2_with fail
      go_roundg (b.length - (K + 1))
      case measure => (have := HM.out; omega)
      case rel => exact ⟨K + 1, _, _, by go_num, by omega, rfl, by omega, hbyz, hrowz, hkxz⟩
    case neg =>
      obtain rfl : K = b.length := by omega
      replace y0 := hkx.cell y0 (by simp); replace y2 := hkx.cell y2 (by simp)
      have hrw := HROW.out
      rw [List.take_length] at hrw
      have HRW := Lib.hid (hrw.low (C := w.heap.size) (by have := HS.out; omega))
      have hBs : w.heap.size ≤ s := Nat.le_of_eq HS.out
      clear hrw
      go_wp2_with fail
      go_ret
      exact ⟨_, _, _, _, _, _, _, rfl, ⟨y2, v0, y0, y1, HBY.out, HRW.out, by omega⟩, hBR⟩
end Go.Proofs.Ytadilppdlbhjnaa
