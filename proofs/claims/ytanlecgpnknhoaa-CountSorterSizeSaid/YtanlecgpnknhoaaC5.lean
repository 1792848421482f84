/- Walk of layer 16: AtLeast. -/
import Derived.Test.YtanlecgpnknhoaaC4
namespace Go.Proofs.Ytanlecgpnknhoaa
set_option linter.unusedSimpArgs false
set_option linter.unusedVariables false
open Go.RowKit

set_option maxRecDepth 100000 in
set_option maxHeartbeats 4000000 in
theorem atleast_any (c : List Gate) (l : List Int) (n : Nat) (k : Int) (p pi : Option Addr) (cap ci : Nat) (w : World) (hn : l.length = n) (h6 : n ≤ 500) (hk2 : k ≤ 9223372036854775807) (hcap : n ≤ ci) (hcm : ci ≤ maxLen) (hp0 : pi = none → ci = 0) (hr : AllLe l) (hl : c.length ≤ 20000) (hc : 0 < c.length)
    (hC : CAt w p cap c) (hi : IntsAt w pi l) (hpl : ∀ a, pi = some a → a.block < w.heap.size) :
    Calls Try.prog 46 #[.agg #[.slice p c.length cap], .slice pi n ci, .int .i64 k] w (RetC w ((uatleast 0 1 l k).run c).1 ((uatleast 0 1 l k).run c).2) := by
  have HN := Lib.hid hn; have HP0 := Lib.hid hp0; have HR := Lib.hid hr; have HC := Lib.hid hC; have HI := Lib.hid hi; have HPL := Lib.hid hpl
  have K2 := Lib.hid (show Below w.heap.size w ((w.alloc (.cells #[.slice p c.length cap] 25)).alloc (.cells #[.slice none 0 0] 25)) from by go_grown)
  have c3 : ((w.alloc (.cells #[.slice p c.length cap] 25)).alloc (.cells #[.slice none 0 0] 25)).cell? ⟨w.heap.size, 0, none⟩ = some (.slice p c.length cap) := by go_cell
  have c4 : ((w.alloc (.cells #[.slice p c.length cap] 25)).alloc (.cells #[.slice none 0 0] 25)).cell? ⟨w.heap.size + 1, 0, none⟩ = some (.slice none 0 0) := by go_cell
  have f4 : ((w.alloc (.cells #[.slice p c.length cap] 25)).alloc (.cells #[.slice none 0 0] 25)).frozen? ⟨w.heap.size + 1, 0, none⟩ = false := by go_cell
  have C3 := Lib.hid c3; have C4 := Lib.hid c4; have F4 := Lib.hid f4
  clear hn hp0 hr hC hi hpl c3 c4 f4
  by_cases hle : k ≤ 0
  · have hmn : min k ((n : Int) + 1) = (if (n : Int) + 1 < k then (n : Int) + 1 else k) := by split <;> omega
    have hmle : (if (n : Int) + 1 < k then (n : Int) + 1 else k) ≤ (n : Int) + 1 := by split <;> omega
    have hrun : (uatleast 0 1 l k).run c = (c, ureach 0 1 l (if (n : Int) + 1 < k then (n : Int) + 1 else k)) := by
      unfold uatleast
      rw [if_pos (by rw [HN.out]; omega), HN.out, hmn]; rfl
    have hnw : IntKind.i64.wrap ((n : Int) + 1) = (n : Int) + 1 := by (rw [IntWalk.i64_in]; omega)
    obtain ⟨rr, hrr⟩ : ∃ z, ureach 0 1 l (if (n : Int) + 1 < k then (n : Int) + 1 else k) = z := ⟨_, rfl⟩
    rw [hrr] at hrun
    rw [hrun]
    have HRR := Lib.hid hrr
    have HML := Lib.hid hmle
    clear hrun hmn hrr hmle
    go_enter Try.func46, Try.ntmps46
    go_upto_region 2 with fail
    go_cut [7] (fun s7 wx => s7 = .int .i64 rr ∧ wx.cell? ⟨w.heap.size + 1, 0, none⟩ = some (.slice p c.length cap) ∧ KeepX [w.heap.size + 1] ((w.alloc (.cells #[.slice p c.length cap] 25)).alloc (.cells #[.slice none 0 0] 25)) wx)
    case first =>
      refine wp_region_seqM (fun s w' => KeepX [w.heap.size + 1] ((w.alloc (.cells #[.slice p c.length cap] 25)).alloc (.cells #[.slice none 0 0] 25)) w' ∧ w'.frozen? ⟨w.heap.size + 1, 0, none⟩ = false ∧ w'.cell? ⟨w.heap.size + 1, 0, none⟩ = some (match s with | 0 => .slice none 0 0 | _ => .slice p c.length cap)) [8] (by kernel_rfl) (by kernel_rfl) (by kernel_rfl) ?_ ?_
      · exact ⟨KeepX.of_below (by go_grown), F4.out, C4.out⟩
      refine seqM_pure (v := ?_) (by decide) (by decide) (by rfl) ?_ ?_
      rotate_left
      · (intro sj hj w hS; have kk := hS.1.cell C3.out (by simp); go_simp; try with_reducible rfl)
      (try simp only [Act.put, List.setIfInBounds_toArray, List.set_cons_zero, List.set_cons_succ])
      refine seqM_pure (v := ?_) (by decide) (by decide) (by rfl) ?_ ?_
      rotate_left
      · (intro sj hj w hS; go_simp; try with_reducible rfl)
      (try simp only [Act.put, List.setIfInBounds_toArray, List.set_cons_zero, List.set_cons_succ])
      refine seqM_pure (v := ?_) (by decide) (by decide) (by rfl) ?_ ?_
      rotate_left
      · (intro sj hj w hS; go_simp; try with_reducible rfl)
      (try simp only [Act.put, List.setIfInBounds_toArray, List.set_cons_zero, List.set_cons_succ])
      refine seqM_pure (v := ?_) (by decide) (by decide) (by rfl) ?_ ?_
      rotate_left
      · (intro sj hj w hS; go_simp; try with_reducible rfl)
      (try simp only [Act.put, List.setIfInBounds_toArray, List.set_cons_zero, List.set_cons_succ])
      refine seqM_pure (v := ?_) (by decide) (by decide) (by rfl) ?_ ?_
      rotate_left
      · (intro sj hj w hS; go_simp; try with_reducible rfl)
      (try simp only [Act.put, List.setIfInBounds_toArray, List.set_cons_zero, List.set_cons_succ])
      refine seqM_pure (v := ?_) (by decide) (by decide) (by rfl) ?_ ?_
      rotate_left
      · (intro sj hj w hS; go_simp; try with_reducible rfl)
      (try simp only [Act.put, List.setIfInBounds_toArray, List.set_cons_zero, List.set_cons_succ])
      refine seqM_pure (v := ?_) (by decide) (by decide) (by rfl) ?_ ?_
      rotate_left
      · (intro sj hj w hS; go_simp; try with_reducible rfl)
      (try simp only [Act.put, List.setIfInBounds_toArray, List.set_cons_zero, List.set_cons_succ])
      refine seqM_still (v := .int .i64 rr) (f := ?_) (args := ?_) (by decide) (by decide) (by rfl) ?_ ?_ ?_
      rotate_left 2
      · (intro sj hj w hS; go_simp; first | done | with_reducible rfl | (refine ⟨?_, ?_⟩ <;> with_reducible rfl))
      · (intro sj hj w hS; refine (creach_any' l (if (n : Int) + 1 < k then (n : Int) + 1 else k) n pi ci _ HN.out (by omega) (by have := HML.out; omega) (HI.out.mono (K2.out.trans (hS.1.below (by simp; omega) (by simp))))).mono ?_; rintro e w' ⟨he, rfl⟩; rw [HRR.out] at he; exact ⟨he, hS⟩)
      (try simp only [Act.put, List.setIfInBounds_toArray, List.set_cons_zero, List.set_cons_succ])
      refine seqM_store (f := fun w' => w'.setCell ⟨w.heap.size + 1, 0, none⟩ (.slice p c.length cap)) (by decide) (by decide) (by rfl) ?_ ?_
      · (intro w hS; obtain ⟨h1, h2, h3⟩ := hS; refine ⟨by go_simp, h1.setCell (by simp) _, by rw [World.frozen?_setCell]; exact h2, ?_⟩; exact cell_set h3)
      (try simp only [Act.put, List.setIfInBounds_toArray, List.set_cons_zero, List.set_cons_succ])
      refine seqM_pure (v := ?_) (by decide) (by decide) (by rfl) ?_ ?_
      rotate_left
      · (intro sj hj w hS; go_simp; try with_reducible rfl)
      (try simp only [Act.put, List.setIfInBounds_toArray, List.set_cons_zero, List.set_cons_succ])
      refine seqM_nil ?_
      intro w2 hS
      go_wp2_with fail
      all_goals
        go_meet
        exact ⟨rfl, hS.2.2, hS.1⟩
    case rest =>
    obtain ⟨rfl, kc, hK⟩ := hcut
    have HK := Lib.hid hK; clear hK
    go_wp2_with fail
    refine bodyPost_ret (by simp [results, Try.results46, go_sem, kc]; try rfl) rfl ?_
    have hW := K2.out.trans (HK.out.below (by simp; omega) (by simp))
    exact ⟨p, cap, rfl, HC.out.mono hW, hW⟩
  by_cases hgt : (n : Int) < k
  · have hmn : min k ((n : Int) + 1) = (if (n : Int) + 1 < k then (n : Int) + 1 else k) := by split <;> omega
    have hmle : (if (n : Int) + 1 < k then (n : Int) + 1 else k) ≤ (n : Int) + 1 := by split <;> omega
    have hk0 : ¬ k ≤ 0 := hle
    have hrun : (uatleast 0 1 l k).run c = (c, ureach 0 1 l (if (n : Int) + 1 < k then (n : Int) + 1 else k)) := by
      unfold uatleast
      rw [if_pos (by rw [HN.out]; omega), HN.out, hmn]; rfl
    have hnw : IntKind.i64.wrap ((n : Int) + 1) = (n : Int) + 1 := by (rw [IntWalk.i64_in]; omega)
    obtain ⟨rr, hrr⟩ : ∃ z, ureach 0 1 l (if (n : Int) + 1 < k then (n : Int) + 1 else k) = z := ⟨_, rfl⟩
    rw [hrr] at hrun
    rw [hrun]
    have HRR := Lib.hid hrr
    have HML := Lib.hid hmle
    clear hrun hmn hrr hmle
    go_enter Try.func46, Try.ntmps46
    go_upto_region 2 with fail
    go_cut [7] (fun s7 wx => s7 = .int .i64 rr ∧ wx.cell? ⟨w.heap.size + 1, 0, none⟩ = some (.slice p c.length cap) ∧ KeepX [w.heap.size + 1] ((w.alloc (.cells #[.slice p c.length cap] 25)).alloc (.cells #[.slice none 0 0] 25)) wx)
    case first =>
      refine wp_region_seqM (fun s w' => KeepX [w.heap.size + 1] ((w.alloc (.cells #[.slice p c.length cap] 25)).alloc (.cells #[.slice none 0 0] 25)) w' ∧ w'.frozen? ⟨w.heap.size + 1, 0, none⟩ = false ∧ w'.cell? ⟨w.heap.size + 1, 0, none⟩ = some (match s with | 0 => .slice none 0 0 | _ => .slice p c.length cap)) [8] (by kernel_rfl) (by kernel_rfl) (by kernel_rfl) ?_ ?_
      · exact ⟨KeepX.of_below (by go_grown), F4.out, C4.out⟩
      refine seqM_pure (v := ?_) (by decide) (by decide) (by rfl) ?_ ?_
      rotate_left
      · (intro sj hj w hS; have kk := hS.1.cell C3.out (by simp); go_simp; try with_reducible rfl)
      (try simp only [Act.put, List.setIfInBounds_toArray, List.set_cons_zero, List.set_cons_succ])
      refine seqM_pure (v := ?_) (by decide) (by decide) (by rfl) ?_ ?_
      rotate_left
      · (intro sj hj w hS; go_simp; try with_reducible rfl)
      (try simp only [Act.put, List.setIfInBounds_toArray, List.set_cons_zero, List.set_cons_succ])
      refine seqM_pure (v := ?_) (by decide) (by decide) (by rfl) ?_ ?_
      rotate_left
      · (intro sj hj w hS; go_simp; try with_reducible rfl)
      (try simp only [Act.put, List.setIfInBounds_toArray, List.set_cons_zero, List.set_cons_succ])
      refine seqM_pure (v := ?_) (by decide) (by decide) (by rfl) ?_ ?_
      rotate_left
      · (intro sj hj w hS; go_simp; try with_reducible rfl)
      (try simp only [Act.put, List.setIfInBounds_toArray, List.set_cons_zero, List.set_cons_succ])
      refine seqM_pure (v := ?_) (by decide) (by decide) (by rfl) ?_ ?_
      rotate_left
      · (intro sj hj w hS; go_simp; try with_reducible rfl)
      (try simp only [Act.put, List.setIfInBounds_toArray, List.set_cons_zero, List.set_cons_succ])
      refine seqM_pure (v := ?_) (by decide) (by decide) (by rfl) ?_ ?_
      rotate_left
      · (intro sj hj w hS; go_simp; try with_reducible rfl)
      (try simp only [Act.put, List.setIfInBounds_toArray, List.set_cons_zero, List.set_cons_succ])
      refine seqM_pure (v := ?_) (by decide) (by decide) (by rfl) ?_ ?_
      rotate_left
      · (intro sj hj w hS; go_simp; try with_reducible rfl)
      (try simp only [Act.put, List.setIfInBounds_toArray, List.set_cons_zero, List.set_cons_succ])
      refine seqM_still (v := .int .i64 rr) (f := ?_) (args := ?_) (by decide) (by decide) (by rfl) ?_ ?_ ?_
      rotate_left 2
      · (intro sj hj w hS; go_simp; first | done | with_reducible rfl | (refine ⟨?_, ?_⟩ <;> with_reducible rfl))
      · (intro sj hj w hS; refine (creach_any' l (if (n : Int) + 1 < k then (n : Int) + 1 else k) n pi ci _ HN.out (by omega) (by have := HML.out; omega) (HI.out.mono (K2.out.trans (hS.1.below (by simp; omega) (by simp))))).mono ?_; rintro e w' ⟨he, rfl⟩; rw [HRR.out] at he; exact ⟨he, hS⟩)
      (try simp only [Act.put, List.setIfInBounds_toArray, List.set_cons_zero, List.set_cons_succ])
      refine seqM_store (f := fun w' => w'.setCell ⟨w.heap.size + 1, 0, none⟩ (.slice p c.length cap)) (by decide) (by decide) (by rfl) ?_ ?_
      · (intro w hS; obtain ⟨h1, h2, h3⟩ := hS; refine ⟨by go_simp, h1.setCell (by simp) _, by rw [World.frozen?_setCell]; exact h2, ?_⟩; exact cell_set h3)
      (try simp only [Act.put, List.setIfInBounds_toArray, List.set_cons_zero, List.set_cons_succ])
      refine seqM_pure (v := ?_) (by decide) (by decide) (by rfl) ?_ ?_
      rotate_left
      · (intro sj hj w hS; go_simp; try with_reducible rfl)
      (try simp only [Act.put, List.setIfInBounds_toArray, List.set_cons_zero, List.set_cons_succ])
      refine seqM_nil ?_
      intro w2 hS
      go_wp2_with fail
      all_goals
        go_meet
        exact ⟨rfl, hS.2.2, hS.1⟩
    case rest =>
    obtain ⟨rfl, kc, hK⟩ := hcut
    have HK := Lib.hid hK; clear hK
    go_wp2_with fail
    refine bodyPost_ret (by simp [results, Try.results46, go_sem, kc]; try rfl) rfl ?_
    have hW := K2.out.trans (HK.out.below (by simp; omega) (by simp))
    exact ⟨p, cap, rfl, HC.out.mono hW, hW⟩
  have hk1 : 1 ≤ k := by omega
  have hkn : k ≤ (n : Int) := by omega
  obtain ⟨K, rfl⟩ : ∃ K : Nat, k = (K : Int) + 1 := ⟨(k - 1).toNat, by omega⟩
  have hKn : (K : Int) < (n : Int) := by omega
  have hK0 : (0 : Int) ≤ (K : Int) := by omega
  obtain ⟨d, out, ho⟩ : ∃ d r, (utotal 0 1 n l).run c = (d, r) := ⟨_, _, rfl⟩
  have hol : out.length = n := by have := utotal_len n l c; rw [ho] at this; exact this.trans HN.out
  have HOL := Lib.hid hol
  obtain ⟨rr, hrr⟩ : ∃ x, out[K]? = some x := ⟨_, List.getElem?_eq_getElem (by omega)⟩
  have hrun : (uatleast 0 1 l ((K : Int) + 1)).run c = (d, rr) := by
    unfold uatleast
    rw [if_neg (by rw [HN.out]; omega), CM.run_bind, HN.out, ho]
    show (d, out.getD ((K : Int) + 1 - 1).toNat 0) = _
    rw [show ((K : Int) + 1 - 1).toNat = K by omega, List.getD_eq_getElem?_getD, hrr]; rfl
  rw [hrun]
  have HO := Lib.hid ho; have HRR := Lib.hid hrr
  have hKw : IntKind.i64.wrap (K : Int) = (K : Int) := by (rw [IntWalk.i64_in]; omega)
  clear hrun ho hrr hol
  have K0 := Lib.hid (show Below w.heap.size w (((w.alloc (.cells #[.slice p c.length cap] 25)).alloc (.cells #[.slice none 0 0] 25)).alloc (.cells #[.slice p c.length cap] 80)) from by go_grown)
  have hb3 := Lib.hid (show BxA [w.heap.size + 1] (((w.alloc (.cells #[.slice p c.length cap] 25)).alloc (.cells #[.slice none 0 0] 25)).alloc (.cells #[.slice p c.length cap] 80)) (w.heap.size + 1 + 1) c by
    have := BxA.of_litL (L := [w.heap.size + 1]) (w := ((w.alloc (.cells #[.slice p c.length cap] 25)).alloc (.cells #[.slice none 0 0] 25))) (HC.out.mono (by go_grown)) (fun a ha hm => by have := HC.out.spot hc a ha; simp at hm; omega) 80
    simpa using this)
  have c4 : (((w.alloc (.cells #[.slice p c.length cap] 25)).alloc (.cells #[.slice none 0 0] 25)).alloc (.cells #[.slice p c.length cap] 80)).cell? ⟨w.heap.size + 1, 0, none⟩ = some (.slice none 0 0) := by go_cell
  have f4 : (((w.alloc (.cells #[.slice p c.length cap] 25)).alloc (.cells #[.slice none 0 0] 25)).alloc (.cells #[.slice p c.length cap] 80)).frozen? ⟨w.heap.size + 1, 0, none⟩ = false := by go_cell
  have Q4 := Lib.hid c4; have R4 := Lib.hid f4; clear c4 f4
  go_enter Try.func46, Try.ntmps46
  go_wp2_with fail
  refine (totalM_any n [w.heap.size + 1] c l n (w.heap.size + 1 + 1) pi ci _ HN.out (by rw [HN.out]; exact Nat.le_refl _) h6 hcap hcm HP0.out HR.out hl hc hb3.out (by simp) (HI.out.mono K0.out) (fun a ha => by have := HPL.out a ha; omega)).mono ?_
  rw [HO.out]
  rintro e w4 ⟨q, cq, rfl, v1, v2, v3, v4, v5, v6, v7⟩
  obtain ⟨pb, capb, g1, g2, g3, g4⟩ := v6
  have G4 := Lib.hid g4; clear g4
  obtain ⟨qb, qo, rfl, hqb, hqc⟩ := int_cell v1 HRR.out
  have hq2 := (v2 _ rfl).1
  simp at hq2
  have k4 := v7.cell Q4.out (by simp)
  have k5 := v7.free R4.out (by simp) (by simp)
  have hz := v7.size
  simp at hz
  have hKo : (K : Int) < (out.length : Int) := by have := HOL.out; omega
  have V7 := Lib.hid v7; have G3 := Lib.hid g3; have G1 := Lib.hid g1; have K4 := Lib.hid k4; have K5 := Lib.hid k5; have HQC := Lib.hid hqc
  clear v1 v2 v5 v7 g3 g1 k4 k5 hqc
  go_upto_region 5 with fail
  go_cut [7] (fun s7 wx => s7 = .int .i64 rr ∧ wx.cell? ⟨w.heap.size + 1, 0, none⟩ = some (.slice pb d.length capb) ∧ wx.frozen? ⟨w.heap.size + 1, 0, none⟩ = false ∧ KeepX [w.heap.size + 1] w4 wx)
  case first =>
    refine wp_region_seqM (fun s w' => KeepX [w.heap.size + 1] w4 w' ∧ w'.frozen? ⟨w.heap.size + 1, 0, none⟩ = false ∧ w'.cell? ⟨w.heap.size + 1, 0, none⟩ = some (match s with | 0 => .slice none 0 0 | _ => .slice pb d.length capb)) [9] (by kernel_rfl) (by kernel_rfl) (by kernel_rfl) ?_ ?_
    · exact ⟨KeepX.of_below (by go_grown), K5.out, K4.out⟩
    refine seqM_pure (v := ?_) (by decide) (by decide) (by rfl) ?_ ?_
    rotate_left
    · (intro sj hj w hS; go_simp; try with_reducible rfl)
    (try simp only [Act.put, List.setIfInBounds_toArray, List.set_cons_zero, List.set_cons_succ])
    refine seqM_pure (v := ?_) (by decide) (by decide) (by rfl) ?_ ?_
    rotate_left
    · (intro sj hj w hS; go_simp; try with_reducible rfl)
    (try simp only [Act.put, List.setIfInBounds_toArray, List.set_cons_zero, List.set_cons_succ])
    refine seqM_pure (v := ?_) (by decide) (by decide) (by rfl) ?_ ?_
    rotate_left
    · (intro sj hj w hS; go_simp; try with_reducible rfl)
    (try simp only [Act.put, List.setIfInBounds_toArray, List.set_cons_zero, List.set_cons_succ])
    refine seqM_pure (v := ?_) (by decide) (by decide) (by rfl) ?_ ?_
    rotate_left
    · (intro sj hj w hS; have kk := hS.1.cell G1.out (by simp); go_simp; try with_reducible rfl)
    (try simp only [Act.put, List.setIfInBounds_toArray, List.set_cons_zero, List.set_cons_succ])
    refine seqM_pure (v := ?_) (by decide) (by decide) (by rfl) ?_ ?_
    rotate_left
    · (intro sj hj w hS; go_simp; try with_reducible rfl)
    (try simp only [Act.put, List.setIfInBounds_toArray, List.set_cons_zero, List.set_cons_succ])
    refine seqM_pure (v := ?_) (by decide) (by decide) (by rfl) ?_ ?_
    rotate_left
    · (intro sj hj w hS; go_simp; try with_reducible rfl)
    (try simp only [Act.put, List.setIfInBounds_toArray, List.set_cons_zero, List.set_cons_succ])
    refine seqM_pure (v := ?_) (by decide) (by decide) (by rfl) ?_ ?_
    rotate_left
    · (intro sj hj w hS; go_simp; try with_reducible rfl)
    (try simp only [Act.put, List.setIfInBounds_toArray, List.set_cons_zero, List.set_cons_succ])
    refine seqM_pure (v := ?_) (by decide) (by decide) (by rfl) ?_ ?_
    rotate_left
    · (intro sj hj w hS; go_simp; try with_reducible rfl)
    (try simp only [Act.put, List.setIfInBounds_toArray, List.set_cons_zero, List.set_cons_succ])
    refine seqM_pure (v := ?_) (by decide) (by decide) (by rfl) ?_ ?_
    rotate_left
    · (intro sj hj w hS; have kk := hS.1.cell HQC.out (by simp; omega); go_simp; try with_reducible rfl)
    (try simp only [Act.put, List.setIfInBounds_toArray, List.set_cons_zero, List.set_cons_succ])
    refine seqM_store (f := fun w' => w'.setCell ⟨w.heap.size + 1, 0, none⟩ (.slice pb d.length capb)) (by decide) (by decide) (by rfl) ?_ ?_
    · (intro w hS; obtain ⟨h1, h2, h3⟩ := hS; refine ⟨by go_simp, h1.setCell (by simp) _, by rw [World.frozen?_setCell]; exact h2, ?_⟩; exact cell_set h3)
    (try simp only [Act.put, List.setIfInBounds_toArray, List.set_cons_zero, List.set_cons_succ])
    refine seqM_pure (v := ?_) (by decide) (by decide) (by rfl) ?_ ?_
    rotate_left
    · (intro sj hj w hS; go_simp; try with_reducible rfl)
    (try simp only [Act.put, List.setIfInBounds_toArray, List.set_cons_zero, List.set_cons_succ])
    refine seqM_nil ?_
    intro w2 hS
    go_wp2_with fail
    all_goals
      go_meet
      exact ⟨rfl, hS.2.2, hS.2.1, hS.1⟩
  case rest =>
  obtain ⟨rfl, kc, kf, hK⟩ := hcut
  have HK := Lib.hid hK; clear hK
  go_wp2_with fail
  refine bodyPost_ret (by simp [results, Try.results46, go_sem, kc]; try rfl) rfl ?_
  have hW := (K0.out.trans (V7.out.below (by simp; omega) (by simp; omega))).trans (HK.out.below (by omega) (by simp))
  have hW4 : Below w.heap.size w w4 := K0.out.trans (V7.out.below (by simp; omega) (by simp; omega))
  exact ⟨pb, capb, rfl, ⟨G3.out.le, G3.out.cm, G3.out.p0, G3.out.at'.keep HK.out G4.out⟩, hW⟩
  
end Go.Proofs.Ytanlecgpnknhoaa
