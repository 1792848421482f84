/- Walks of the reference of layer 21: Same, SameSteps, Great; the laws' full, Vars. -/
import Derived.Test.YtdibfjcmgbpnpaaKR
namespace Go.Proofs.Ytdibfjcmgbpnpaa
set_option linter.unusedSimpArgs false
set_option linter.unusedVariables false
open Go.RowKit

theorem take_succ_eq {α : Type} {l : List α} {j : Nat} {x : α} (h : l[j]? = some x) : l.take (j + 1) = l.take j ++ [x] := by
  obtain ⟨h1, h2⟩ := List.getElem?_eq_some_iff.1 h
  rw [List.take_succ_eq_append_getElem h1, h2]
theorem take_ne {α : Type} {a b : List α} {j : Nat} {x y : α} (ha : a[j]? = some x) (hb : b[j]? = some y) (hxy : x ≠ y) : a ≠ b := fun e => by
  subst e; rw [ha] at hb; exact hxy (Option.some.inj hb)
set_option maxRecDepth 100000 in
set_option maxHeartbeats 2000000 in
theorem same_any {w : World} {p q : Option Addr} {ca cb : Nat} {a b : List Int} (ha : SI w p ca a) (hb : SI w q cb b) :
    Calls Try.prog 29 #[.slice p a.length ca, .slice q b.length cb] w fun e w' => e = .returned (.bool (decide (a = b))) ∧ Below w.heap.size w w' := by
 have hla := ha.le; have hlb := hb.le; have hma := ha.cm; have hmb := hb.cm
 simp only [maxLen] at hma hmb
 have HA := Lib.hid ha; have HB := Lib.hid hb
 obtain ⟨N, hN⟩ : ∃ z, a.length = z := ⟨_, rfl⟩
 obtain ⟨M, hM⟩ : ∃ z, b.length = z := ⟨_, rfl⟩
 rw [hN] at hla ⊢; rw [hM] at hlb ⊢
 have HN := Lib.hid hN; have HM := Lib.hid hM
 clear ha hb hN hM
 by_cases hlen : N = M
 case neg =>
   have hbb : ((N : Int) == (M : Int)) = false := by simp; omega
   have hab : a ≠ b := fun e => by subst e; have h1 := HN.out; have h2 := HM.out; omega
   have HAB := Lib.hid hab; clear hab
   go_enter Try.func29, Try.ntmps29
   go_wp2_with fail
   go_ret
   exact ⟨by rw [decide_eq_false HAB.out]; rfl, Below.refl _ _⟩
 case pos =>
 subst hlen
 have hb0 := Below.refl w.heap.size w
 have HB0 := Lib.hid hb0; clear hb0
 go_enter Try.func29, Try.ntmps29
 go_wp2_with fail
 go_loopg [5] N (fun G s5 wr => ∃ j : Nat, s5 = .int .i64 j ∧ j ≤ N ∧ G = N - j ∧ Below w.heap.size w wr ∧ a.take j = b.take j)
 case atStart => exact ⟨0, rfl, by omega, rfl, HB0.out, by simp⟩
 case round =>
  obtain ⟨j, rfl, hj, hG, hB, hT⟩ := hrel
  have HG := Lib.hid hG; have HBW := Lib.hid hB; have HT := Lib.hid hT; clear hG hB hT HB0
  by_cases hlt : j < N
  case neg =>
   obtain rfl : j = N := by omega
   have hab : a = b := by
     have h := HT.out
     rw [List.take_of_length_le (by rw [HN.out]; exact Nat.le_refl _), List.take_of_length_le (by rw [HM.out]; exact Nat.le_refl _)] at h; exact h
   have HAB := Lib.hid hab; clear hab
   go_wp2_with fail
   go_ret
   exact ⟨by rw [decide_eq_true HAB.out]; rfl, HBW.out⟩
  case pos =>
   obtain ⟨x, hx⟩ : ∃ x, a[j]? = some x := ⟨_, List.getElem?_eq_getElem (by rw [HN.out]; exact hlt)⟩
   obtain ⟨y, hy⟩ : ∃ y, b[j]? = some y := ⟨_, List.getElem?_eq_getElem (by rw [HM.out]; exact hlt)⟩
   obtain ⟨b1, o1, rfl, hb1, c0⟩ := int_cell' (HA.out.up HBW.out).at' hx
   obtain ⟨b2, o2, rfl, hb2, c1⟩ := int_cell' (HB.out.up HBW.out).at' hy
   have hjl : (j : Int) < (N : Int) := by omega
   have HX := Lib.hid hx; have HY := Lib.hid hy
   clear hx hy hb1 hb2
   go_upto_region 6 with fail
   by_cases hxy : x = y
   · subst hxy
     refine wp_region_seqE (fun x => Below wr.heap.size wr x) (.one 0 1 (.one 1 1 (.one 2 1 (.one 3 0 (.one 4 1 (.one 5 1 (.one 6 1 (.one 7 0 (.one 8 1 .nil))))))))) (by kernel_rfl) (by kernel_rfl) (by kernel_rfl) (Below.drew (Below.refl _ _)) ?_
     iterate 9 (first | (refine seqE_free (v := ?_) rfl (by rfl) ?_ ?_; rotate_left; (focus (intro w; go_simp; try with_reducible rfl)); (try simp only [Act.put, List.setIfInBounds_toArray, List.set_cons_zero, List.set_cons_succ])) | (refine seqE_pure (v := ?_) rfl (by rfl) ?_ ?_; rotate_left; (focus (intro w hS; have c0 := oldcell hS c0 (World.block_lt_of_cell? _ _ c0); have c1 := oldcell hS c1 (World.block_lt_of_cell? _ _ c1); go_simp; try with_reducible rfl)); (try simp only [Act.put, List.setIfInBounds_toArray, List.set_cons_zero, List.set_cons_succ])))
     refine seqE_nil ?_
     intro w2 hS
     go_wp2_with fail
     go_roundg (N - (j + 1))
     case measure => (have := HG.out; omega)
     case rel => exact ⟨j + 1, by go_num, by omega, rfl, btr HBW.out hS, by rw [take_succ_eq HX.out, take_succ_eq HY.out, HT.out]⟩
   · have hxb : (x == y) = false := by simpa using hxy
     refine wp_region_seqE (fun x => Below wr.heap.size wr x) (.one 0 1 (.one 1 1 (.one 2 1 (.one 3 0 (.one 4 1 (.one 5 1 (.one 6 1 (.one 7 0 (.one 8 1 .nil))))))))) (by kernel_rfl) (by kernel_rfl) (by kernel_rfl) (Below.drew (Below.refl _ _)) ?_
     iterate 9 (first | (refine seqE_free (v := ?_) rfl (by rfl) ?_ ?_; rotate_left; (focus (intro w; go_simp; try with_reducible rfl)); (try simp only [Act.put, List.setIfInBounds_toArray, List.set_cons_zero, List.set_cons_succ])) | (refine seqE_pure (v := ?_) rfl (by rfl) ?_ ?_; rotate_left; (focus (intro w hS; have c0 := oldcell hS c0 (World.block_lt_of_cell? _ _ c0); have c1 := oldcell hS c1 (World.block_lt_of_cell? _ _ c1); go_simp; try with_reducible rfl)); (try simp only [Act.put, List.setIfInBounds_toArray, List.set_cons_zero, List.set_cons_succ])))
     refine seqE_nil ?_
     intro w2 hS
     have HAB := Lib.hid (take_ne HX.out HY.out hxy)
     have HS := Lib.hid hS; clear hS
     go_wp2_with fail
     go_ret
     exact ⟨by rw [decide_eq_false HAB.out]; rfl, btr HBW.out HS.out⟩
set_option maxRecDepth 100000 in
set_option maxHeartbeats 2000000 in
theorem samesteps_any {w : World} {p q : Option Addr} {ca cb : Nat} {P Q : List (List Int)} {K1 K2 : Nat → Prop} (ha : PfAt K1 w p ca P) (hb : PfAt K2 w q cb Q) :
    Calls Try.prog 27 #[.slice p P.length ca, .slice q Q.length cb] w fun e w' => e = .returned (.bool (decide (P = Q))) ∧ Below w.heap.size w w' := by
 have hla := ha.le; have hlb := hb.le; have hma := ha.cm; have hmb := hb.cm
 simp only [maxLen] at hma hmb
 have HA := Lib.hid ha; have HB := Lib.hid hb
 obtain ⟨N, hN⟩ : ∃ z, P.length = z := ⟨_, rfl⟩
 obtain ⟨M, hM⟩ : ∃ z, Q.length = z := ⟨_, rfl⟩
 rw [hN] at hla ⊢; rw [hM] at hlb ⊢
 have HN := Lib.hid hN; have HM := Lib.hid hM
 clear ha hb hN hM
 by_cases hlen : N = M
 case neg =>
   have hbb : ((N : Int) == (M : Int)) = false := by simp; omega
   have hab : P ≠ Q := fun e => by subst e; have h1 := HN.out; have h2 := HM.out; omega
   have HAB := Lib.hid hab; clear hab
   go_enter Try.func27, Try.ntmps27
   go_wp2_with fail
   go_ret
   exact ⟨by rw [decide_eq_false HAB.out]; rfl, Below.refl _ _⟩
 case pos =>
 subst hlen
 have hb0 := Below.refl w.heap.size w
 have HB0 := Lib.hid hb0; clear hb0
 go_enter Try.func27, Try.ntmps27
 go_wp2_with fail
 go_loopg [5] N (fun G s5 wr => ∃ j : Nat, s5 = .int .i64 j ∧ j ≤ N ∧ G = N - j ∧ Below w.heap.size w wr ∧ P.take j = Q.take j)
 case atStart => exact ⟨0, rfl, by omega, rfl, HB0.out, by simp⟩
 case round =>
  obtain ⟨j, rfl, hj, hG, hB, hT⟩ := hrel
  have HG := Lib.hid hG; have HBW := Lib.hid hB; have HT := Lib.hid hT; clear hG hB hT HB0
  by_cases hlt : j < N
  case neg =>
   obtain rfl : j = N := by omega
   have hab : P = Q := by
     have h := HT.out
     rw [List.take_of_length_le (by rw [HN.out]; exact Nat.le_refl _), List.take_of_length_le (by rw [HM.out]; exact Nat.le_refl _)] at h; exact h
   have HAB := Lib.hid hab; clear hab
   go_wp2_with fail
   go_ret
   exact ⟨by rw [decide_eq_true HAB.out]; rfl, HBW.out⟩
  case pos =>
   obtain ⟨x, hx⟩ : ∃ x, P[j]? = some x := ⟨_, List.getElem?_eq_getElem (by rw [HN.out]; exact hlt)⟩
   obtain ⟨y, hy⟩ : ∃ y, Q[j]? = some y := ⟨_, List.getElem?_eq_getElem (by rw [HM.out]; exact hlt)⟩
   obtain ⟨b1, o1, p1, c1, rfl, x0, x1, x2, hsx, -⟩ := (HA.out.up HBW.out).at' j x hx
   obtain ⟨b2, o2, p2, c2, rfl, y0, y1, y2, hsy, -⟩ := (HB.out.up HBW.out).at' j y hy
   have hjl : (j : Int) < (N : Int) := by omega
   have hsm := fun (wx : World) (hB : Below wr.heap.size wr wx) => same_any (hsx.up hB) (hsy.up hB)
   obtain ⟨lx, hlx⟩ : ∃ z, x.length = z := ⟨_, rfl⟩
   obtain ⟨ly, hly⟩ : ∃ z, y.length = z := ⟨_, rfl⟩
   obtain ⟨t, ht⟩ : ∃ z, decide (x = y) = z := ⟨_, rfl⟩
   rw [hlx, hly, ht] at hsm
   rw [hlx] at x1; rw [hly] at y1
   have HX := Lib.hid hx; have HY := Lib.hid hy; have HSM := Lib.hid hsm; have HTT := Lib.hid ht
   clear hx hy hsx hsy hsm hlx hly ht
   go_upto_region 6 with fail
   cases t with
   | true =>
     refine wp_region_seqE (fun x => Below wr.heap.size wr x) (.one 0 1 (.one 1 1 (.one 2 1 (.one 3 1 (.one 4 0 (.one 5 1 (.one 6 1 (.one 7 1 (.one 8 1 (.one 9 0 (.one 10 1 (.one 11 1 (.one 12 1 (.one 13 1 (.one 14 1 (.one 15 1 (.one 16 0 (.one 17 1 (.one 18 1 (.one 19 1 (.one 20 1 (.one 21 0 (.one 22 1 (.one 23 1 (.one 24 1 (.one 25 1 (.one 26 1 (.one 27 1 (.one 28 1 (.one 29 0 (.one 30 1 (.one 31 1 (.one 32 1 (.one 33 1 (.one 34 0 (.alt 35 3 (.one 36 1 (.one 37 1 .nil)) .stop)))))))))))))))))))))))))))))))))))) (by kernel_rfl) (by kernel_rfl) (by kernel_rfl) (Below.drew (Below.refl _ _)) ?_
     iterate 35 (first | (refine seqE_free (v := ?_) rfl (by rfl) ?_ ?_; rotate_left; (focus (intro w; go_simp; try with_reducible rfl)); (try simp only [Act.put, List.setIfInBounds_toArray, List.set_cons_zero, List.set_cons_succ])) | (refine seqE_pure (v := ?_) rfl (by rfl) ?_ ?_; rotate_left; (focus (intro w hS; have x0 := oldcell hS x0 (World.block_lt_of_cell? _ _ x0); have x1 := oldcell hS x1 (World.block_lt_of_cell? _ _ x1); have x2 := oldcell hS x2 (World.block_lt_of_cell? _ _ x2); have y0 := oldcell hS y0 (World.block_lt_of_cell? _ _ y0); have y1 := oldcell hS y1 (World.block_lt_of_cell? _ _ y1); have y2 := oldcell hS y2 (World.block_lt_of_cell? _ _ y2); go_simp; try with_reducible rfl)); (try simp only [Act.put, List.setIfInBounds_toArray, List.set_cons_zero, List.set_cons_succ])))
     refine seqE_callB (f := ?_) (args := ?_) rfl (by rfl) ?_ ?_ seqE_stop
     rotate_left 2
     focus (intro w hS; go_simp; first | done | with_reducible rfl | (refine ⟨?_, ?_⟩ <;> with_reducible rfl))
     intro wq hS
     refine (HSM.out wq hS).mono ?_
     rintro e w6 ⟨rfl, hb6⟩
     refine ⟨_, rfl, fun x => Below w6.heap.size w6 x, Below.refl _ _, ?_⟩
     have HS6 := Lib.hid (btr hS hb6)
     clear hS hb6
     (try simp only [Act.put, List.setIfInBounds_toArray, List.set_cons_zero, List.set_cons_succ])
     iterate 2 (refine seqE_free (v := ?_) rfl (by rfl) ?_ ?_; rotate_left; (focus (intro w; go_simp; try with_reducible rfl)); (try simp only [Act.put, List.setIfInBounds_toArray, List.set_cons_zero, List.set_cons_succ]))
     refine seqE_nil ?_
     intro w2 hS
     have hxy := of_decide_eq_true HTT.out
     have HB7 := Lib.hid (btr HBW.out (btr HS6.out hS)); clear hS
     go_wp2_with fail
     go_roundg (N - (j + 1))
     case measure => (have := HG.out; omega)
     case rel => exact ⟨j + 1, by go_num, by omega, rfl, HB7.out, by rw [take_succ_eq HX.out, take_succ_eq HY.out, HT.out, hxy]⟩
   | false =>
     refine wp_region_seqE (fun x => Below wr.heap.size wr x) (.one 0 1 (.one 1 1 (.one 2 1 (.one 3 1 (.one 4 0 (.one 5 1 (.one 6 1 (.one 7 1 (.one 8 1 (.one 9 0 (.one 10 1 (.one 11 1 (.one 12 1 (.one 13 1 (.one 14 1 (.one 15 1 (.one 16 0 (.one 17 1 (.one 18 1 (.one 19 1 (.one 20 1 (.one 21 0 (.one 22 1 (.one 23 1 (.one 24 1 (.one 25 1 (.one 26 1 (.one 27 1 (.one 28 1 (.one 29 0 (.one 30 1 (.one 31 1 (.one 32 1 (.one 33 1 (.one 34 0 (.alt 35 3 (.one 36 1 (.one 37 1 .nil)) .stop)))))))))))))))))))))))))))))))))))) (by kernel_rfl) (by kernel_rfl) (by kernel_rfl) (Below.drew (Below.refl _ _)) ?_
     iterate 35 (first | (refine seqE_free (v := ?_) rfl (by rfl) ?_ ?_; rotate_left; (focus (intro w; go_simp; try with_reducible rfl)); (try simp only [Act.put, List.setIfInBounds_toArray, List.set_cons_zero, List.set_cons_succ])) | (refine seqE_pure (v := ?_) rfl (by rfl) ?_ ?_; rotate_left; (focus (intro w hS; have x0 := oldcell hS x0 (World.block_lt_of_cell? _ _ x0); have x1 := oldcell hS x1 (World.block_lt_of_cell? _ _ x1); have x2 := oldcell hS x2 (World.block_lt_of_cell? _ _ x2); have y0 := oldcell hS y0 (World.block_lt_of_cell? _ _ y0); have y1 := oldcell hS y1 (World.block_lt_of_cell? _ _ y1); have y2 := oldcell hS y2 (World.block_lt_of_cell? _ _ y2); go_simp; try with_reducible rfl)); (try simp only [Act.put, List.setIfInBounds_toArray, List.set_cons_zero, List.set_cons_succ])))
     refine seqE_callB (f := ?_) (args := ?_) rfl (by rfl) ?_ ?_ seqE_stop
     rotate_left 2
     focus (intro w hS; go_simp; first | done | with_reducible rfl | (refine ⟨?_, ?_⟩ <;> with_reducible rfl))
     intro wq hS
     refine (HSM.out wq hS).mono ?_
     rintro e w6 ⟨rfl, hb6⟩
     refine ⟨_, rfl, fun x => Below w6.heap.size w6 x, Below.refl _ _, ?_⟩
     have HS6 := Lib.hid (btr hS hb6)
     clear hS hb6
     (try simp only [Act.put, List.setIfInBounds_toArray, List.set_cons_zero, List.set_cons_succ])
     iterate 2 (refine seqE_free (v := ?_) rfl (by rfl) ?_ ?_; rotate_left; (focus (intro w; go_simp; try with_reducible rfl)); (try simp only [Act.put, List.setIfInBounds_toArray, List.set_cons_zero, List.set_cons_succ]))
     refine seqE_nil ?_
     intro w2 hS
     have hxy := of_decide_eq_false HTT.out
     have HAB := Lib.hid (take_ne HX.out HY.out hxy)
     have HB7 := Lib.hid (btr HBW.out (btr HS6.out hS)); clear hS hxy
     go_wp2_with fail
     go_ret
     exact ⟨by rw [decide_eq_false HAB.out]; rfl, HB7.out⟩
/-- a slice of operations in memory -/
structure AcAt (w : World) (q : Option Addr) (cq : Nat) (P : List SAct) : Prop where
  le : P.length ≤ cq
  cm : cq ≤ maxLen
  q0 : q = none → cq = 0
  at' : ∀ (i : Nat) (x : SAct), P[i]? = some x → ∃ b off p c, q = some ⟨b, off, none⟩ ∧ w.cell? ⟨b, off + i * 3, none⟩ = some (.bool x.solve) ∧ w.cell? ⟨b, off + i * 3 + 1, none⟩ = some (.slice p x.lits.length c) ∧ w.cell? ⟨b, off + i * 3 + 2, none⟩ = some (.int .u8 x.fuel) ∧ SI w p c x.lits ∧ x.fuel < 256
theorem AcAt.up {w w' : World} {q : Option Addr} {cq : Nat} {P : List SAct} (h : AcAt w q cq P) (hB : Below w.heap.size w w') : AcAt w' q cq P :=
  ⟨h.le, h.cm, h.q0, fun i l hi => by
    obtain ⟨b, off, p, c, h1, h2, h3, h4, h5, h6⟩ := h.at' i l hi
    exact ⟨b, off, p, c, h1, oldcell hB h2 (World.block_lt_of_cell? _ _ h2), oldcell hB h3 (World.block_lt_of_cell? _ _ h3), oldcell hB h4 (World.block_lt_of_cell? _ _ h4), h5.up hB, h6⟩⟩
def agreat (l : List SAct) : Bool := decide (60 < l.length) || l.any fun a => decide (12 < a.lits.length)
set_option maxRecDepth 100000 in
set_option maxHeartbeats 2000000 in
theorem great_any {w : World} {p : Option Addr} {ca : Nat} {l : List SAct} (ha : AcAt w p ca l) :
    Calls Try.prog 11 #[.slice p l.length ca] w fun e w' => e = .returned (.bool (agreat l)) ∧ w' = w := by
 have hla := ha.le; have hma := ha.cm
 simp only [maxLen] at hma
 have HA := Lib.hid ha
 obtain ⟨t, ht⟩ : ∃ z, agreat l = z := ⟨_, rfl⟩
 rw [ht]
 obtain ⟨N, hN⟩ : ∃ z, l.length = z := ⟨_, rfl⟩
 rw [hN] at hla ⊢
 have HN := Lib.hid hN; have HT := Lib.hid ht
 clear ha hN ht
 by_cases h60 : 60 < N
 case pos =>
   have h6i : (60 : Int) < (N : Int) := by omega
   go_enter Try.func11, Try.ntmps11
   go_wp2_with fail
   go_ret
   exact ⟨by rw [← HT.out]; unfold agreat; rw [HN.out, decide_eq_true h60]; rfl, rfl⟩
 case neg =>
 have h6i : ¬ (60 : Int) < (N : Int) := by omega
 go_enter Try.func11, Try.ntmps11
 go_wp2_with fail
 go_loopg [3] N (fun G s3 wr => ∃ j : Nat, s3 = .int .i64 j ∧ j ≤ N ∧ G = N - j ∧ wr = w ∧ ∀ i x, i < j → l[i]? = some x → ¬ 12 < x.lits.length)
 case atStart => exact ⟨0, rfl, by omega, rfl, rfl, fun i x hi => by omega⟩
 case round =>
  obtain ⟨j, rfl, hj, hG, hw, hne⟩ := hrel
  replace hw := hw.symm; subst hw
  have HG := Lib.hid hG; have HNE := Lib.hid hne; clear hG hne
  by_cases hlt : j < N
  case pos =>
   obtain ⟨x, hx⟩ : ∃ x, l[j]? = some x := ⟨_, List.getElem?_eq_getElem (by rw [HN.out]; exact hlt)⟩
   obtain ⟨b1, o1, p1, c1, rfl, -, x1, -, -, -⟩ := HA.out.at' j x hx
   have hjl : (j : Int) < (N : Int) := by omega
   obtain ⟨K, hK⟩ : ∃ z, x.lits.length = z := ⟨_, rfl⟩
   rw [hK] at x1
   have HX := Lib.hid hx; have HK := Lib.hid hK; clear hx hK
   by_cases h12 : 12 < K
   · have h12i : (12 : Int) < (K : Int) := by omega
     go_wp2_with fail
     go_ret
     refine ⟨?_, rfl⟩
     have : agreat l = true := by
       unfold agreat
       rw [Bool.or_eq_true]
       exact .inr (List.any_eq_true.2 ⟨x, List.mem_of_getElem? HX.out, by rw [HK.out]; simpa using h12⟩)
     rw [← HT.out, this]; rfl
   · have h12i : ¬ (12 : Int) < (K : Int) := by omega
     go_wp2_with fail
     go_roundg (N - (j + 1))
     case measure => (have := HG.out; omega)
     case rel =>
       refine ⟨j + 1, by go_num, by omega, rfl, rfl, fun i y hi hy => ?_⟩
       rcases Nat.lt_or_ge i j with q | q
       · exact HNE.out i y q hy
       · obtain rfl : i = j := by omega
         rw [HX.out] at hy; obtain rfl := Option.some.inj hy
         rw [HK.out]; omega
  case neg =>
   obtain rfl : j = N := by omega
   go_wp2_with fail
   go_ret
   refine ⟨?_, rfl⟩
   have : agreat l = false := by
     unfold agreat
     rw [Bool.or_eq_false_iff]
     refine ⟨by rw [HN.out]; simpa using h60, ?_⟩
     rw [List.any_eq_false]
     intro x hx
     obtain ⟨i, hi⟩ := List.mem_iff_getElem?.1 hx
     have hil := (List.getElem?_eq_some_iff.1 hi).1
     have := HNE.out i x (by rw [← HN.out]; exact hil) hi
     simpa using this
   rw [← HT.out, this]; rfl
set_option maxRecDepth 100000 in
set_option maxHeartbeats 2000000 in
theorem vars_any {w : World} {x : Nat} (hx : x < 256) :
    Calls Try.prog 12 #[.int .u8 x] w fun e w' => e = .returned (.int .i64 (x % 9 : Nat)) ∧ w' = w := by
 have hw : IntKind.i64.wrap (x : Int) = (x : Int) := wrapI (by omega) (by omega)
 go_enter Try.func12, Try.ntmps12
 go_wp2_with fail
 go_ret
 refine ⟨?_, rfl⟩
 rw [show ((x % 9 : Nat) : Int) = (x : Int) % 9 by omega]; rfl
set_option maxRecDepth 100000 in
set_option maxHeartbeats 2000000 in
theorem full_any {B : Nat} {w : World} {o : Nat → Option Role} {b n : Nat} {A : List (List Int)} {s : SS} (h : So B w o b n A s) (hn : n ≤ 20000) :
    Calls Try.prog 16 #[.pointer (some ⟨b, 0, none⟩)] w fun e w' => e = .returned (.bool (decide (10000 ≤ s.proof.length))) ∧ Below w.heap.size w w' := by
 have hp := proof_any (n := n) (A := A) h.sol (by have := h.sb.pn; omega) (fun l hl => by have := h.sb.pl l hl; omega)
 obtain ⟨N, hN⟩ : ∃ z, s.proof.length = z := ⟨_, rfl⟩
 rw [hN] at hp ⊢
 have HP := Lib.hid hp
 clear hp h hN
 by_cases hc : 10000 ≤ N
 · have hci : (10000 : Int) ≤ (N : Int) := by omega
   go_enter Try.func16, Try.ntmps16
   go_wp2_with (first | (go_at_call 26; refine HP.out.mono ?_; rintro e w2 ⟨q, cq, rfl, hpf, hb2⟩; have HB2 := Lib.hid hb2; clear hpf hb2))
   go_ret
   exact ⟨by simp [hc] <;> omega, HB2.out⟩
 · have hci : ¬ (10000 : Int) ≤ (N : Int) := by omega
   go_enter Try.func16, Try.ntmps16
   go_wp2_with (first | (go_at_call 26; refine HP.out.mono ?_; rintro e w2 ⟨q, cq, rfl, hpf, hb2⟩; have HB2 := Lib.hid hb2; clear hpf hb2))
   go_ret
   exact ⟨by simp [hc] <;> omega, HB2.out⟩
end Go.Proofs.Ytdibfjcmgbpnpaa
