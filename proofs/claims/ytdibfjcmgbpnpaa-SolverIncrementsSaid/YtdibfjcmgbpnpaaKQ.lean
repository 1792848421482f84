/- Walks of the solver: New. -/
import Derived.Test.YtdibfjcmgbpnpaaKP
import Derived.Laws.OwnMore
namespace Go.Proofs.Ytdibfjcmgbpnpaa
set_option linter.unusedSimpArgs false
set_option linter.unusedVariables false
open Go.RowKit

set_option maxRecDepth 100000 in
set_option maxHeartbeats 2000000 in
theorem new_bad {w : World} {x : Int} (hx : x < 0 ∨ 20000 < x) :
    Calls Try.prog 13 #[.int .i64 x] w fun e w' => e = .returned (.pointer none) ∧ w' = w := by
 by_cases h0 : x < 0
 ·
   go_enter Try.func13, Try.ntmps13
   go_wp2_with fail
   go_ret
   exact ⟨rfl, rfl⟩
 · have h1 : 20000 < x := by omega
   have h2 : (20000 : Int) < x := h1
   go_enter Try.func13, Try.ntmps13
   go_wp2_with fail
   go_ret
   exact ⟨rfl, rfl⟩
/-- the rows of a new solver, before its arrays are told -/
def newHd (b : Nat) : Role → Value
  | .self => .slice (some ⟨b, 0, none⟩) 1 1
  | _ => .slice none 0 0
def newCt (xs : List Value) : Role → List Value
  | .self => xs
  | _ => []
def newO (b : Nat) : Nat → Option Role := fun g => if g = b then some .self else none
theorem newMem {w : World} {b : Nat} {xs : List Value} (h : w.ownsRow 0 63 15 (.slice (some ⟨b, 0, none⟩) 1 1) 1 xs) : Mem w (newO b) (newHd b) (newCt xs) := by
  intro r
  cases r with
  | self => exact ⟨⟨1, h⟩, fun g hg => by
      have : b = g := by simpa [newHd, Value.ownBlock] using hg
      subst this; unfold newO; rw [if_pos rfl]⟩
  | value | level | reason | lits | marks | clauses | watches | proof | model | core => exact ⟨⟨0, World.ownsRow_nil _ _ _ _⟩, fun g hg => by cases hg⟩
  | cl k | wl k | step k => exact ⟨⟨0, World.ownsRow_nil _ _ _ _⟩, fun g hg => by cases hg⟩
theorem made_ints (N : Nat) : (madeCells (Value.int .i64 0).cells (N * 1)).toList = iV (List.replicate N 0) := by
  rw [Nat.mul_one]
  show (madeCells #[Value.int .i64 0] N).toList = _
  rw [toList_madeCells_one]; unfold iV; rw [List.map_replicate]
theorem made_nils (N : Nat) : (madeCells (Value.slice none 0 0).cells (N * 1)).toList = List.replicate N (Value.slice none 0 0) := by
  rw [Nat.mul_one]
  show (madeCells #[Value.slice none 0 0] N).toList = _
  rw [toList_madeCells_one]
/-- a new solver's memory -/
theorem new_sl {w : World} {n b : Nat} {V L R X : Value} (hb : b < w.heap.size)
    (hs : w.ownsRow 0 63 15 (.slice (some ⟨b, 0, none⟩) 1 1) 1 [V, L, R, .slice none 0 0, .slice none 0 0, .int .i64 1, .slice none 0 0, X, .int .i64 0, .int .i64 0, .bool false, .slice none 0 0, .int .i64 0, .slice none 0 0, .slice none 0 0])
    {gv gl gr gx : Nat} (ev : V = .slice (some ⟨gv, 0, none⟩) (n + 1) (n + 1)) (el : L = .slice (some ⟨gl, 0, none⟩) (n + 1) (n + 1)) (er : R = .slice (some ⟨gr, 0, none⟩) (n + 1) (n + 1)) (ex : X = .slice (some ⟨gx, 0, none⟩) (2 * n + 2) (2 * n + 2))
    (hv : w.ownsRow 0 3 1 V (n + 1) (iV (List.replicate (n + 1) 0))) (hl : w.ownsRow 0 3 1 L (n + 1) (iV (List.replicate (n + 1) 0))) (hr : w.ownsRow 0 3 1 R (n + 1) (iV (List.replicate (n + 1) 0))) (hx : w.ownsRow 0 29 1 X (2 * n + 2) (List.replicate (2 * n + 2) (.slice none 0 0)))
    (d1 : gv ≠ b) (d2 : gl ≠ b) (d3 : gr ≠ b) (d4 : gx ≠ b) (d5 : gl ≠ gv) (d6 : gr ≠ gv) (d7 : gr ≠ gl) (d8 : gx ≠ gv) (d9 : gx ≠ gl) (d10 : gx ≠ gr) {k : Nat} (k0 : k ≤ b) (k1 : k ≤ gv) (k2 : k ≤ gl) (k3 : k ≤ gr) (k4 : k ≤ gx) :
    ∃ o, SolAt w o b (snew n) ∧ ∀ g, o g ≠ none → k ≤ g := by
  have m0 := newMem hs
  have o0 : ∀ g, g ≠ b → newO b g = none := fun g hg => by unfold newO; rw [if_neg hg]
  have m1 := m0.new .value hv (fun g hg => o0 g (by rw [ev] at hg; simp only [Value.ownBlock, Option.some.injEq] at hg; omega))
  have t1 : ∀ g, g ≠ b → g ≠ gv → tagNew (newO b) V .value g = none := fun g h1 h2 => by unfold tagNew; rw [if_neg (by rw [ev]; simp only [Value.ownBlock, Option.some.injEq]; omega)]; exact o0 g h1
  have m2 := m1.new .level (by rw [show (iV (List.replicate (n + 1) 0)) = nV (List.replicate (n + 1) 0) by unfold iV nV; simp] at hl; exact hl) (fun g hg => by rw [el] at hg; simp only [Value.ownBlock, Option.some.injEq] at hg; exact t1 g (by omega) (by omega))
  have t2 : ∀ g, g ≠ b → g ≠ gv → g ≠ gl → tagNew (tagNew (newO b) V .value) L .level g = none := fun g h1 h2 h3 => by rw [tagNew, if_neg (by rw [el]; simp only [Value.ownBlock, Option.some.injEq]; omega)]; exact t1 g h1 h2
  have m3 := m2.new .reason hr (fun g hg => by rw [er] at hg; simp only [Value.ownBlock, Option.some.injEq] at hg; exact t2 g (by omega) (by omega) (by omega))
  have t3 : ∀ g, g ≠ b → g ≠ gv → g ≠ gl → g ≠ gr → tagNew (tagNew (tagNew (newO b) V .value) L .level) R .reason g = none := fun g h1 h2 h3 h4 => by rw [tagNew, if_neg (by rw [er]; simp only [Value.ownBlock, Option.some.injEq]; omega)]; exact t2 g h1 h2 h3
  have m4 := m3.new .watches hx (fun g hg => by rw [ex] at hg; simp only [Value.ownBlock, Option.some.injEq] at hg; exact t3 g (by omega) (by omega) (by omega) (by omega))
  have t4 : ∀ g, g ≠ b → g ≠ gv → g ≠ gl → g ≠ gr → g ≠ gx → tagNew (tagNew (tagNew (tagNew (newO b) V .value) L .level) R .reason) X .watches g = none := fun g h1 h2 h3 h4 h5 => by rw [tagNew, if_neg (by rw [ex]; simp only [Value.ownBlock, Option.some.injEq]; omega)]; exact t3 g h1 h2 h3 h4
  have hge : ∀ g, tagNew (tagNew (tagNew (tagNew (newO b) V .value) L .level) R .reason) X .watches g ≠ none → (g = b ∨ g = gv ∨ g = gl ∨ g = gr ∨ g = gx) := fun g hg => by
    by_cases h1 : g = b
    · exact .inl h1
    · by_cases h2 : g = gv
      · exact .inr (.inl h2)
      · by_cases h3 : g = gl
        · exact .inr (.inr (.inl h3))
        · by_cases h4 : g = gr
          · exact .inr (.inr (.inr (.inl h4)))
          · by_cases h5 : g = gx
            · exact .inr (.inr (.inr (.inr h5)))
            · exact absurd (t4 g h1 h2 h3 h4 h5) hg
  refine ⟨_, ⟨⟨0, _, _, ?_, m4, ?_⟩, fun g hg => ?_⟩, fun g hg => ?_⟩
  · rfl
  · refine ⟨rfl, rfl, rfl, rfl, rfl, rfl, rfl, fun _ => rfl, ?_, fun j => ?_, rfl, fun _ => rfl, rfl, rfl⟩
    · show List.replicate (2 * n + 2) (Value.slice none 0 0) = (List.range (List.replicate (2 * n + 2) ([] : List Nat)).length).map fun _ => Value.slice none 0 0
      rw [List.length_replicate]
      apply List.ext_getElem
      · simp
      · intro i h1 h2; simp
    · show ([] : List Value) = nV ((List.replicate (2 * n + 2) []).getD j [])
      rw [List.getD_eq_getElem?_getD, List.getElem?_replicate]
      split <;> rfl
  · have h1 := owns_lt hv (g := gv) (by rw [ev]; rfl); have h2 := owns_lt hl (g := gl) (by rw [el]; rfl); have h3 := owns_lt hr (g := gr) (by rw [er]; rfl); have h4 := owns_lt hx (g := gx) (by rw [ex]; rfl)
    rcases hge g hg with q | q | q | q | q <;> omega
  · rcases hge g hg with q | q | q | q | q <;> omega

set_option maxRecDepth 100000 in
set_option maxHeartbeats 2000000 in
theorem new_any {w : World} {n : Nat} (hn : n ≤ 20000) :
    Calls Try.prog 13 #[.int .i64 n] w fun e w' => ∃ b o, e = .returned (.pointer (some ⟨b, 0, none⟩)) ∧ SolAt w' o b (snew n) ∧ (∀ g, o g ≠ none → w.heap.size ≤ g) ∧ Below w.heap.size w w' := by
 obtain ⟨i0, hi0, hz0, hz1, hz2⟩ := info_parts int_info
 obtain ⟨i1, hi1, hy0, hy1, hy2⟩ := info_parts slints_info
 obtain ⟨N2, hN2⟩ : ∃ z, 2 * n + 2 = z := ⟨_, rfl⟩
 obtain ⟨N1, hN1⟩ : ∃ z, n + 1 = z := ⟨_, rfl⟩
 obtain ⟨T2, hT2⟩ : ∃ z : Nat, 2 * n = z := ⟨_, rfl⟩
 have hw1 : IntKind.i64.wrap (2 * (n : Int)) = (T2 : Int) := by rw [wrapI (by omega) (by omega)]; omega
 have hw2 : IntKind.i64.wrap ((T2 : Int) + 2) = (N2 : Int) := by rw [wrapI (by omega) (by omega)]; omega
 have hw3 : IntKind.i64.wrap ((n : Int) + 1) = (N1 : Int) := by rw [wrapI (by omega) (by omega)]; omega
 obtain ⟨w1, hmk, own1, hg1⟩ := run_makeSlice_full (P := Try.prog) w w.heap.size 40 29 i1 _ 1 Try.underlying40 hi1 hy0 hy1 .i64 .i64 N2 (by omega) (by rw [hy2]; omega) (by simp only [maxLen]; omega) (Nat.le_refl _)
 have hb1 : Below w.heap.size w w1 := (Below.refl _ w).grown hg1 (Nat.le_refl _) (fun k hk => by cases hk)
 rw [made_nils] at own1
 have hgx : w.heap.size < w1.heap.size := owns_lt own1 (g := w.heap.size) rfl
 obtain ⟨gx, hgxe⟩ : ∃ z, w.heap.size = z := ⟨_, rfl⟩
 obtain ⟨b, hbe⟩ : ∃ z, w1.heap.size = z := ⟨_, rfl⟩
 obtain ⟨w2, hw2e⟩ : ∃ z, z = w1.alloc (.cells #[.slice none 0 0, .slice none 0 0, .slice none 0 0, .slice none 0 0, .slice none 0 0, .int .i64 0, .slice none 0 0, .slice (some ⟨w.heap.size, 0, none⟩) N2 N2, .int .i64 0, .int .i64 0, .bool false, .slice none 0 0, .int .i64 0, .slice none 0 0, .slice none 0 0] 63) := ⟨_, rfl⟩
 have hb2 : Below w1.heap.size w1 w2 := by rw [hw2e]; go_grown
 have hblk : w2.heap[b]? = some (.cells #[.slice none 0 0, .slice none 0 0, .slice none 0 0, .slice none 0 0, .slice none 0 0, .int .i64 0, .slice none 0 0, .slice (some ⟨w.heap.size, 0, none⟩) N2 N2, .int .i64 0, .int .i64 0, .bool false, .slice none 0 0, .int .i64 0, .slice none 0 0, .slice none 0 0] 63 (0, 0)) := by
   rw [hw2e, ← hbe]; exact heap_alloc_new w1 _
 have ownx := own_up own1 hb2
 have HOX := Lib.hid ownx; have HBL := Lib.hid hblk; have HB1 := Lib.hid hb1; have HB2 := Lib.hid hb2; have HW2 := Lib.hid hw2e; have HGX := Lib.hid hgxe; have HBE := Lib.hid hbe; have HN1 := Lib.hid hN1; have HN2 := Lib.hid hN2; have HGXB := Lib.hid hgx
 clear hg1 own1 hgx hgxe hbe hw2e hb2 hb1 ownx hblk hN2 hN1 hT2
 go_enter Try.func13, Try.ntmps13
 go_upto_region 4 with fail
 rw [← HW2.out]
 clear hmk hw1 hw2
 have hbs : b < w2.heap.size := (Array.getElem?_eq_some_iff.1 HBL.out).1
 have HBS := Lib.hid hbs; clear hbs
 rw [HBE.out]
 refine wp_region_seqE (fun x => Below w2.heap.size w2 x) (.one 0 1 (.one 1 1 (.one 2 1 (.one 4 1 (.one 5 1 (.one 7 1 (.one 8 1 (.alt 3 3 (.alt 6 3 (.alt 9 3 (.one 10 1 (.one 11 1 (.one 12 1 (.alt 13 3 .nil .stop)))) .stop) (.alt 9 3 (.alt 6 3 (.one 10 1 (.one 11 1 (.one 12 1 (.alt 13 3 .nil .stop)))) .stop) .stop)) (.alt 6 3 (.alt 3 3 (.alt 9 3 (.one 10 1 (.one 11 1 (.one 12 1 (.alt 13 3 .nil .stop)))) .stop) (.alt 9 3 (.alt 3 3 (.one 10 1 (.one 11 1 (.one 12 1 (.alt 13 3 .nil .stop)))) .stop) .stop)) (.alt 9 3 (.alt 3 3 (.alt 6 3 (.one 10 1 (.one 11 1 (.one 12 1 (.alt 13 3 .nil .stop)))) .stop) (.alt 6 3 (.alt 3 3 (.one 10 1 (.one 11 1 (.one 12 1 (.alt 13 3 .nil .stop)))) .stop) .stop)) .stop)))))))))) (by kernel_rfl) (by kernel_rfl) (by kernel_rfl) (Below.drew (Below.refl _ _)) ?_
 iterate 7 (refine seqE_free (v := ?_) rfl (by rfl) ?_ ?_; rotate_left; (focus (intro w; go_simp; try with_reducible rfl)); (try simp only [Act.put, List.setIfInBounds_toArray, List.set_cons_zero, List.set_cons_succ]))
 refine seqE_moveB rfl (by rfl) ?_ ?_
 ·
  intro wl hS
  obtain ⟨wa, hmk, own1, hg1⟩ := run_makeSlice_full (P := Try.prog) wl wl.heap.size 29 3 i0 _ 1 Try.underlying29 hi0 hz0 hz1 .i64 .i64 N1 (by have := HN1.out; omega) (by rw [hz2]; have := HN1.out; omega) (by have := HN1.out; simp only [maxLen]; omega) (Nat.le_refl _)
  have hbn : Below wl.heap.size wl wa := (Below.refl _ wl).grown hg1 (Nat.le_refl _) (fun k hk => by cases hk)
  rw [made_ints] at own1
  refine ⟨.slice (some ⟨wl.heap.size, 0, none⟩) N1 N1, wa, (by go_simp; try with_reducible rfl), fun x => Below wa.heap.size wa x, Below.refl _ _, ?_⟩
  clear hmk hg1
  obtain ⟨ga, hge⟩ : ∃ z, wl.heap.size = z := ⟨_, rfl⟩
  have hlt : w2.heap.size ≤ ga ∧ ga < wa.heap.size := ⟨by rw [← hge]; exact hS.size, owns_lt own1 (g := ga) (by rw [hge]; rfl)⟩
  have HOa := Lib.hid own1; have HLTa := Lib.hid hlt; have HSTa := Lib.hid (btr hS hbn)
  rw [hge] at HOa ⊢
  have HBBa := Lib.hid HSTa.out
  clear own1 hlt hbn hS hge
  (try simp only [Act.put, List.setIfInBounds_toArray, List.set_cons_zero, List.set_cons_succ])
  refine seqE_moveB rfl (by rfl) ?_ ?_
  ·
   intro wl hS
   obtain ⟨wb, hmk, own1, hg1⟩ := run_makeSlice_full (P := Try.prog) wl wl.heap.size 29 3 i0 _ 1 Try.underlying29 hi0 hz0 hz1 .i64 .i64 N1 (by have := HN1.out; omega) (by rw [hz2]; have := HN1.out; omega) (by have := HN1.out; simp only [maxLen]; omega) (Nat.le_refl _)
   have hbn : Below wl.heap.size wl wb := (Below.refl _ wl).grown hg1 (Nat.le_refl _) (fun k hk => by cases hk)
   rw [made_ints] at own1
   refine ⟨.slice (some ⟨wl.heap.size, 0, none⟩) N1 N1, wb, (by go_simp; try with_reducible rfl), fun x => Below wb.heap.size wb x, Below.refl _ _, ?_⟩
   clear hmk hg1
   obtain ⟨gb, hge⟩ : ∃ z, wl.heap.size = z := ⟨_, rfl⟩
   have hlt : wa.heap.size ≤ gb ∧ gb < wb.heap.size := ⟨by rw [← hge]; exact hS.size, owns_lt own1 (g := gb) (by rw [hge]; rfl)⟩
   have HOb := Lib.hid own1; have HLTb := Lib.hid hlt; have HSTb := Lib.hid (btr hS hbn)
   rw [hge] at HOb ⊢
   replace HOa := Lib.hid (own_up HOa.out HSTb.out)
   have HBBb := Lib.hid (btr HBBa.out HSTb.out)
   clear own1 hlt hbn hS hge
   (try simp only [Act.put, List.setIfInBounds_toArray, List.set_cons_zero, List.set_cons_succ])
   refine seqE_moveB rfl (by rfl) ?_ seqE_stop
   intro wl hS
   obtain ⟨wc, hmk, own1, hg1⟩ := run_makeSlice_full (P := Try.prog) wl wl.heap.size 29 3 i0 _ 1 Try.underlying29 hi0 hz0 hz1 .i64 .i64 N1 (by have := HN1.out; omega) (by rw [hz2]; have := HN1.out; omega) (by have := HN1.out; simp only [maxLen]; omega) (Nat.le_refl _)
   have hbn : Below wl.heap.size wl wc := (Below.refl _ wl).grown hg1 (Nat.le_refl _) (fun k hk => by cases hk)
   rw [made_ints] at own1
   refine ⟨.slice (some ⟨wl.heap.size, 0, none⟩) N1 N1, wc, (by go_simp; try with_reducible rfl), fun x => Below wc.heap.size wc x, Below.refl _ _, ?_⟩
   clear hmk hg1
   obtain ⟨gc, hge⟩ : ∃ z, wl.heap.size = z := ⟨_, rfl⟩
   have hlt : wb.heap.size ≤ gc ∧ gc < wc.heap.size := ⟨by rw [← hge]; exact hS.size, owns_lt own1 (g := gc) (by rw [hge]; rfl)⟩
   have HOc := Lib.hid own1; have HLTc := Lib.hid hlt; have HSTc := Lib.hid (btr hS hbn)
   rw [hge] at HOc ⊢
   replace HOa := Lib.hid (own_up HOa.out HSTc.out)
   replace HOb := Lib.hid (own_up HOb.out HSTc.out)
   have HBBc := Lib.hid (btr HBBb.out HSTc.out)
   clear own1 hlt hbn hS hge
   (try simp only [Act.put, List.setIfInBounds_toArray, List.set_cons_zero, List.set_cons_succ])
   iterate 3 (refine seqE_free (v := ?_) rfl (by rfl) ?_ ?_; rotate_left; (focus (intro w; go_simp; try with_reducible rfl)); (try simp only [Act.put, List.setIfInBounds_toArray, List.set_cons_zero, List.set_cons_succ]))
   refine seqE_storeB rfl (by rfl) ?_ seqE_stop
   intro wS hS
   have hbw : Below w2.heap.size w2 wS := btr HBBc.out hS
   have hblk : wS.heap[b]? = _ := (hbw.block b HBS.out).trans HBL.out
   have q0 : wS.cell? ⟨b, 0, none⟩ = some (.slice none 0 0) := by unfold World.cell?; rw [show (⟨b, 0, none⟩ : Addr).block = b from rfl, hblk]; rfl
   have q1 : wS.cell? ⟨b, 1, none⟩ = some (.slice none 0 0) := by unfold World.cell?; rw [show (⟨b, 1, none⟩ : Addr).block = b from rfl, hblk]; rfl
   have q2 : wS.cell? ⟨b, 2, none⟩ = some (.slice none 0 0) := by unfold World.cell?; rw [show (⟨b, 2, none⟩ : Addr).block = b from rfl, hblk]; rfl
   have q3 : wS.cell? ⟨b, 3, none⟩ = some (.slice none 0 0) := by unfold World.cell?; rw [show (⟨b, 3, none⟩ : Addr).block = b from rfl, hblk]; rfl
   have q4 : wS.cell? ⟨b, 4, none⟩ = some (.slice none 0 0) := by unfold World.cell?; rw [show (⟨b, 4, none⟩ : Addr).block = b from rfl, hblk]; rfl
   have q5 : wS.cell? ⟨b, 5, none⟩ = some (.int .i64 0) := by unfold World.cell?; rw [show (⟨b, 5, none⟩ : Addr).block = b from rfl, hblk]; rfl
   have qf : ∀ i, wS.frozen? ⟨b, i, none⟩ = false := fun i => by unfold World.frozen?; rw [show (⟨b, i, none⟩ : Addr).block = b from rfl, hblk]; simp
   have qf0 := qf 0; have qf1 := qf 1; have qf2 := qf 2; have qf3 := qf 3; have qf4 := qf 4; have qf5 := qf 5
   clear qf
   obtain ⟨wF, hwF⟩ : ∃ z, z = ((((((wS.setCell ⟨b, 0, none⟩ (.slice (some ⟨ga, 0, none⟩) N1 N1)).setCell ⟨b, 1, none⟩ (.slice (some ⟨gb, 0, none⟩) N1 N1)).setCell ⟨b, 2, none⟩ (.slice (some ⟨gc, 0, none⟩) N1 N1)).setCell ⟨b, 3, none⟩ (.slice none 0 0)).setCell ⟨b, 4, none⟩ (.slice none 0 0)).setCell ⟨b, 5, none⟩ (.int .i64 1)) := ⟨_, rfl⟩
   refine ⟨wF, (by rw [hwF]; go_simp; try with_reducible rfl), fun x => Below wF.heap.size wF x, Below.refl _ _, ?_⟩
   have HWF := Lib.hid hwF; have HBK := Lib.hid hblk; have HBW := Lib.hid hbw; have HSS := Lib.hid hS
   clear q0 q1 q2 q3 q4 q5 qf0 qf1 qf2 qf3 qf4 qf5 hwF hblk hbw hS
   (try simp only [Act.put, List.setIfInBounds_toArray, List.set_cons_zero, List.set_cons_succ])
   refine seqE_nil ?_
   intro w9 hS
   go_wp2_with fail
   go_ret
   obtain ⟨za1, za2⟩ := HLTa.out; obtain ⟨zb1, zb2⟩ := HLTb.out; obtain ⟨zc1, zc2⟩ := HLTc.out
   have hx1 := HBS.out; have hx2 := HGXB.out; have hx3 := HBE.out; have hx4 := HGX.out; have hx5 := HB2.out.size; have hx6 := HSS.out.size
   have fs : wF.heap.size = wS.heap.size := by rw [HWF.out]; simp
   have hown : ∀ (g' : Nat) (v : Value) (xs : List Value) (e : TypeId) (m : Nat), g' ≠ b → v.ownBlock = some g' → wc.ownsRow 0 e 1 v m xs → wF.ownsRow 0 e 1 v m xs := fun g' v xs e m hne hv h => by
     refine owns_keep h fun g2 hg2 => ?_
     rw [hv] at hg2
     obtain rfl := Option.some.inj hg2
     rw [HWF.out, setCell_other _ _ _ hne, setCell_other _ _ _ hne, setCell_other _ _ _ hne, setCell_other _ _ _ hne, setCell_other _ _ _ hne, setCell_other _ _ _ hne]
     exact HSS.out.block _ (owns_lt h hv)
   have hself : wF.ownsRow 0 63 15 (.slice (some ⟨b, 0, none⟩) 1 1) 1 [.slice (some ⟨ga, 0, none⟩) N1 N1, .slice (some ⟨gb, 0, none⟩) N1 N1, .slice (some ⟨gc, 0, none⟩) N1 N1, .slice none 0 0, .slice none 0 0, .int .i64 1, .slice none 0 0, .slice (some ⟨w.heap.size, 0, none⟩) N2 N2, .int .i64 0, .int .i64 0, .bool false, .slice none 0 0, .int .i64 0, .slice none 0 0, .slice none 0 0] := by
     have k1 := setCell_same _ b 0 (.slice (some ⟨ga, 0, none⟩) N1 N1) HBK.out
     have k2 := setCell_same _ b 1 (.slice (some ⟨gb, 0, none⟩) N1 N1) k1
     have k3 := setCell_same _ b 2 (.slice (some ⟨gc, 0, none⟩) N1 N1) k2
     have k4 := setCell_same _ b 3 (.slice none 0 0) k3
     have k5 := setCell_same _ b 4 (.slice none 0 0) k4
     have k6 := setCell_same _ b 5 (.int .i64 1) k5
     rw [← HWF.out] at k6
     exact ⟨rfl, .inr ⟨b, 1, _, rfl, Nat.zero_le _, k6, Nat.le_refl _, by simp [maxLen], rfl, rfl⟩⟩
   have hx := own_up HOX.out (HBBc.out)
   have HN1' := HN1.out; have HN2' := HN2.out
   obtain ⟨o, ho1, ho2⟩ := new_sl (w := wF) (n := n) (b := b) (V := .slice (some ⟨ga, 0, none⟩) N1 N1) (L := .slice (some ⟨gb, 0, none⟩) N1 N1) (R := .slice (some ⟨gc, 0, none⟩) N1 N1) (X := .slice (some ⟨w.heap.size, 0, none⟩) N2 N2) (by rw [fs]; omega) hself
     (by rw [HN1']) (by rw [HN1']) (by rw [HN1']) (by rw [HN2'])
     (by rw [HN1']; exact hown ga _ _ _ _ (by omega) rfl (owns_base HOa.out)) (by rw [HN1']; exact hown gb _ _ _ _ (by omega) rfl (owns_base HOb.out)) (by rw [HN1']; exact hown gc _ _ _ _ (by omega) rfl (owns_base HOc.out)) (by rw [HN2']; exact hown w.heap.size _ _ _ _ (by omega) rfl (owns_base hx))
     (by omega) (by omega) (by omega) (by omega) (by omega) (by omega) (by omega) (by omega) (by omega) (by omega) (k := w.heap.size) (by omega) (by omega) (by omega) (by omega) (Nat.le_refl _)
   have hbf : Below w.heap.size w wF := by
     have h2 := HB1.out.trans ((HB2.out.mono HB1.out.size).trans (HBW.out.mono (by omega)))
     rw [HWF.out]
     exact Below.setCell (Below.setCell (Below.setCell (Below.setCell (Below.setCell (Below.setCell h2 (by show w.heap.size ≤ b; omega) _) (by show w.heap.size ≤ b; omega) _) (by show w.heap.size ≤ b; omega) _) (by show w.heap.size ≤ b; omega) _) (by show w.heap.size ≤ b; omega) _) (by show w.heap.size ≤ b; omega) _
   exact ⟨b, o, rfl, ho1.up hS, ho2, hbf.trans (hS.mono hbf.size)⟩
  refine seqE_moveB rfl (by rfl) ?_ seqE_stop
  intro wl hS
  obtain ⟨wc, hmk, own1, hg1⟩ := run_makeSlice_full (P := Try.prog) wl wl.heap.size 29 3 i0 _ 1 Try.underlying29 hi0 hz0 hz1 .i64 .i64 N1 (by have := HN1.out; omega) (by rw [hz2]; have := HN1.out; omega) (by have := HN1.out; simp only [maxLen]; omega) (Nat.le_refl _)
  have hbn : Below wl.heap.size wl wc := (Below.refl _ wl).grown hg1 (Nat.le_refl _) (fun k hk => by cases hk)
  rw [made_ints] at own1
  refine ⟨.slice (some ⟨wl.heap.size, 0, none⟩) N1 N1, wc, (by go_simp; try with_reducible rfl), fun x => Below wc.heap.size wc x, Below.refl _ _, ?_⟩
  clear hmk hg1
  obtain ⟨gc, hge⟩ : ∃ z, wl.heap.size = z := ⟨_, rfl⟩
  have hlt : wa.heap.size ≤ gc ∧ gc < wc.heap.size := ⟨by rw [← hge]; exact hS.size, owns_lt own1 (g := gc) (by rw [hge]; rfl)⟩
  have HOc := Lib.hid own1; have HLTc := Lib.hid hlt; have HSTc := Lib.hid (btr hS hbn)
  rw [hge] at HOc ⊢
  replace HOa := Lib.hid (own_up HOa.out HSTc.out)
  have HBBc := Lib.hid (btr HBBa.out HSTc.out)
  clear own1 hlt hbn hS hge
  (try simp only [Act.put, List.setIfInBounds_toArray, List.set_cons_zero, List.set_cons_succ])
  refine seqE_moveB rfl (by rfl) ?_ seqE_stop
  intro wl hS
  obtain ⟨wb, hmk, own1, hg1⟩ := run_makeSlice_full (P := Try.prog) wl wl.heap.size 29 3 i0 _ 1 Try.underlying29 hi0 hz0 hz1 .i64 .i64 N1 (by have := HN1.out; omega) (by rw [hz2]; have := HN1.out; omega) (by have := HN1.out; simp only [maxLen]; omega) (Nat.le_refl _)
  have hbn : Below wl.heap.size wl wb := (Below.refl _ wl).grown hg1 (Nat.le_refl _) (fun k hk => by cases hk)
  rw [made_ints] at own1
  refine ⟨.slice (some ⟨wl.heap.size, 0, none⟩) N1 N1, wb, (by go_simp; try with_reducible rfl), fun x => Below wb.heap.size wb x, Below.refl _ _, ?_⟩
  clear hmk hg1
  obtain ⟨gb, hge⟩ : ∃ z, wl.heap.size = z := ⟨_, rfl⟩
  have hlt : wc.heap.size ≤ gb ∧ gb < wb.heap.size := ⟨by rw [← hge]; exact hS.size, owns_lt own1 (g := gb) (by rw [hge]; rfl)⟩
  have HOb := Lib.hid own1; have HLTb := Lib.hid hlt; have HSTb := Lib.hid (btr hS hbn)
  rw [hge] at HOb ⊢
  replace HOa := Lib.hid (own_up HOa.out HSTb.out)
  replace HOc := Lib.hid (own_up HOc.out HSTb.out)
  have HBBb := Lib.hid (btr HBBc.out HSTb.out)
  clear own1 hlt hbn hS hge
  (try simp only [Act.put, List.setIfInBounds_toArray, List.set_cons_zero, List.set_cons_succ])
  iterate 3 (refine seqE_free (v := ?_) rfl (by rfl) ?_ ?_; rotate_left; (focus (intro w; go_simp; try with_reducible rfl)); (try simp only [Act.put, List.setIfInBounds_toArray, List.set_cons_zero, List.set_cons_succ]))
  refine seqE_storeB rfl (by rfl) ?_ seqE_stop
  intro wS hS
  have hbw : Below w2.heap.size w2 wS := btr HBBb.out hS
  have hblk : wS.heap[b]? = _ := (hbw.block b HBS.out).trans HBL.out
  have q0 : wS.cell? ⟨b, 0, none⟩ = some (.slice none 0 0) := by unfold World.cell?; rw [show (⟨b, 0, none⟩ : Addr).block = b from rfl, hblk]; rfl
  have q1 : wS.cell? ⟨b, 1, none⟩ = some (.slice none 0 0) := by unfold World.cell?; rw [show (⟨b, 1, none⟩ : Addr).block = b from rfl, hblk]; rfl
  have q2 : wS.cell? ⟨b, 2, none⟩ = some (.slice none 0 0) := by unfold World.cell?; rw [show (⟨b, 2, none⟩ : Addr).block = b from rfl, hblk]; rfl
  have q3 : wS.cell? ⟨b, 3, none⟩ = some (.slice none 0 0) := by unfold World.cell?; rw [show (⟨b, 3, none⟩ : Addr).block = b from rfl, hblk]; rfl
  have q4 : wS.cell? ⟨b, 4, none⟩ = some (.slice none 0 0) := by unfold World.cell?; rw [show (⟨b, 4, none⟩ : Addr).block = b from rfl, hblk]; rfl
  have q5 : wS.cell? ⟨b, 5, none⟩ = some (.int .i64 0) := by unfold World.cell?; rw [show (⟨b, 5, none⟩ : Addr).block = b from rfl, hblk]; rfl
  have qf : ∀ i, wS.frozen? ⟨b, i, none⟩ = false := fun i => by unfold World.frozen?; rw [show (⟨b, i, none⟩ : Addr).block = b from rfl, hblk]; simp
  have qf0 := qf 0; have qf1 := qf 1; have qf2 := qf 2; have qf3 := qf 3; have qf4 := qf 4; have qf5 := qf 5
  clear qf
  obtain ⟨wF, hwF⟩ : ∃ z, z = ((((((wS.setCell ⟨b, 0, none⟩ (.slice (some ⟨ga, 0, none⟩) N1 N1)).setCell ⟨b, 1, none⟩ (.slice (some ⟨gb, 0, none⟩) N1 N1)).setCell ⟨b, 2, none⟩ (.slice (some ⟨gc, 0, none⟩) N1 N1)).setCell ⟨b, 3, none⟩ (.slice none 0 0)).setCell ⟨b, 4, none⟩ (.slice none 0 0)).setCell ⟨b, 5, none⟩ (.int .i64 1)) := ⟨_, rfl⟩
  refine ⟨wF, (by rw [hwF]; go_simp; try with_reducible rfl), fun x => Below wF.heap.size wF x, Below.refl _ _, ?_⟩
  have HWF := Lib.hid hwF; have HBK := Lib.hid hblk; have HBW := Lib.hid hbw; have HSS := Lib.hid hS
  clear q0 q1 q2 q3 q4 q5 qf0 qf1 qf2 qf3 qf4 qf5 hwF hblk hbw hS
  (try simp only [Act.put, List.setIfInBounds_toArray, List.set_cons_zero, List.set_cons_succ])
  refine seqE_nil ?_
  intro w9 hS
  go_wp2_with fail
  go_ret
  obtain ⟨za1, za2⟩ := HLTa.out; obtain ⟨zc1, zc2⟩ := HLTc.out; obtain ⟨zb1, zb2⟩ := HLTb.out
  have hx1 := HBS.out; have hx2 := HGXB.out; have hx3 := HBE.out; have hx4 := HGX.out; have hx5 := HB2.out.size; have hx6 := HSS.out.size
  have fs : wF.heap.size = wS.heap.size := by rw [HWF.out]; simp
  have hown : ∀ (g' : Nat) (v : Value) (xs : List Value) (e : TypeId) (m : Nat), g' ≠ b → v.ownBlock = some g' → wb.ownsRow 0 e 1 v m xs → wF.ownsRow 0 e 1 v m xs := fun g' v xs e m hne hv h => by
    refine owns_keep h fun g2 hg2 => ?_
    rw [hv] at hg2
    obtain rfl := Option.some.inj hg2
    rw [HWF.out, setCell_other _ _ _ hne, setCell_other _ _ _ hne, setCell_other _ _ _ hne, setCell_other _ _ _ hne, setCell_other _ _ _ hne, setCell_other _ _ _ hne]
    exact HSS.out.block _ (owns_lt h hv)
  have hself : wF.ownsRow 0 63 15 (.slice (some ⟨b, 0, none⟩) 1 1) 1 [.slice (some ⟨ga, 0, none⟩) N1 N1, .slice (some ⟨gb, 0, none⟩) N1 N1, .slice (some ⟨gc, 0, none⟩) N1 N1, .slice none 0 0, .slice none 0 0, .int .i64 1, .slice none 0 0, .slice (some ⟨w.heap.size, 0, none⟩) N2 N2, .int .i64 0, .int .i64 0, .bool false, .slice none 0 0, .int .i64 0, .slice none 0 0, .slice none 0 0] := by
    have k1 := setCell_same _ b 0 (.slice (some ⟨ga, 0, none⟩) N1 N1) HBK.out
    have k2 := setCell_same _ b 1 (.slice (some ⟨gb, 0, none⟩) N1 N1) k1
    have k3 := setCell_same _ b 2 (.slice (some ⟨gc, 0, none⟩) N1 N1) k2
    have k4 := setCell_same _ b 3 (.slice none 0 0) k3
    have k5 := setCell_same _ b 4 (.slice none 0 0) k4
    have k6 := setCell_same _ b 5 (.int .i64 1) k5
    rw [← HWF.out] at k6
    exact ⟨rfl, .inr ⟨b, 1, _, rfl, Nat.zero_le _, k6, Nat.le_refl _, by simp [maxLen], rfl, rfl⟩⟩
  have hx := own_up HOX.out (HBBb.out)
  have HN1' := HN1.out; have HN2' := HN2.out
  obtain ⟨o, ho1, ho2⟩ := new_sl (w := wF) (n := n) (b := b) (V := .slice (some ⟨ga, 0, none⟩) N1 N1) (L := .slice (some ⟨gb, 0, none⟩) N1 N1) (R := .slice (some ⟨gc, 0, none⟩) N1 N1) (X := .slice (some ⟨w.heap.size, 0, none⟩) N2 N2) (by rw [fs]; omega) hself
    (by rw [HN1']) (by rw [HN1']) (by rw [HN1']) (by rw [HN2'])
    (by rw [HN1']; exact hown ga _ _ _ _ (by omega) rfl (owns_base HOa.out)) (by rw [HN1']; exact hown gb _ _ _ _ (by omega) rfl (owns_base HOb.out)) (by rw [HN1']; exact hown gc _ _ _ _ (by omega) rfl (owns_base HOc.out)) (by rw [HN2']; exact hown w.heap.size _ _ _ _ (by omega) rfl (owns_base hx))
    (by omega) (by omega) (by omega) (by omega) (by omega) (by omega) (by omega) (by omega) (by omega) (by omega) (k := w.heap.size) (by omega) (by omega) (by omega) (by omega) (Nat.le_refl _)
  have hbf : Below w.heap.size w wF := by
    have h2 := HB1.out.trans ((HB2.out.mono HB1.out.size).trans (HBW.out.mono (by omega)))
    rw [HWF.out]
    exact Below.setCell (Below.setCell (Below.setCell (Below.setCell (Below.setCell (Below.setCell h2 (by show w.heap.size ≤ b; omega) _) (by show w.heap.size ≤ b; omega) _) (by show w.heap.size ≤ b; omega) _) (by show w.heap.size ≤ b; omega) _) (by show w.heap.size ≤ b; omega) _) (by show w.heap.size ≤ b; omega) _
  exact ⟨b, o, rfl, ho1.up hS, ho2, hbf.trans (hS.mono hbf.size)⟩
 refine seqE_moveB rfl (by rfl) ?_ ?_
 ·
  intro wl hS
  obtain ⟨wb, hmk, own1, hg1⟩ := run_makeSlice_full (P := Try.prog) wl wl.heap.size 29 3 i0 _ 1 Try.underlying29 hi0 hz0 hz1 .i64 .i64 N1 (by have := HN1.out; omega) (by rw [hz2]; have := HN1.out; omega) (by have := HN1.out; simp only [maxLen]; omega) (Nat.le_refl _)
  have hbn : Below wl.heap.size wl wb := (Below.refl _ wl).grown hg1 (Nat.le_refl _) (fun k hk => by cases hk)
  rw [made_ints] at own1
  refine ⟨.slice (some ⟨wl.heap.size, 0, none⟩) N1 N1, wb, (by go_simp; try with_reducible rfl), fun x => Below wb.heap.size wb x, Below.refl _ _, ?_⟩
  clear hmk hg1
  obtain ⟨gb, hge⟩ : ∃ z, wl.heap.size = z := ⟨_, rfl⟩
  have hlt : w2.heap.size ≤ gb ∧ gb < wb.heap.size := ⟨by rw [← hge]; exact hS.size, owns_lt own1 (g := gb) (by rw [hge]; rfl)⟩
  have HOb := Lib.hid own1; have HLTb := Lib.hid hlt; have HSTb := Lib.hid (btr hS hbn)
  rw [hge] at HOb ⊢
  have HBBb := Lib.hid HSTb.out
  clear own1 hlt hbn hS hge
  (try simp only [Act.put, List.setIfInBounds_toArray, List.set_cons_zero, List.set_cons_succ])
  refine seqE_moveB rfl (by rfl) ?_ ?_
  ·
   intro wl hS
   obtain ⟨wa, hmk, own1, hg1⟩ := run_makeSlice_full (P := Try.prog) wl wl.heap.size 29 3 i0 _ 1 Try.underlying29 hi0 hz0 hz1 .i64 .i64 N1 (by have := HN1.out; omega) (by rw [hz2]; have := HN1.out; omega) (by have := HN1.out; simp only [maxLen]; omega) (Nat.le_refl _)
   have hbn : Below wl.heap.size wl wa := (Below.refl _ wl).grown hg1 (Nat.le_refl _) (fun k hk => by cases hk)
   rw [made_ints] at own1
   refine ⟨.slice (some ⟨wl.heap.size, 0, none⟩) N1 N1, wa, (by go_simp; try with_reducible rfl), fun x => Below wa.heap.size wa x, Below.refl _ _, ?_⟩
   clear hmk hg1
   obtain ⟨ga, hge⟩ : ∃ z, wl.heap.size = z := ⟨_, rfl⟩
   have hlt : wb.heap.size ≤ ga ∧ ga < wa.heap.size := ⟨by rw [← hge]; exact hS.size, owns_lt own1 (g := ga) (by rw [hge]; rfl)⟩
   have HOa := Lib.hid own1; have HLTa := Lib.hid hlt; have HSTa := Lib.hid (btr hS hbn)
   rw [hge] at HOa ⊢
   replace HOb := Lib.hid (own_up HOb.out HSTa.out)
   have HBBa := Lib.hid (btr HBBb.out HSTa.out)
   clear own1 hlt hbn hS hge
   (try simp only [Act.put, List.setIfInBounds_toArray, List.set_cons_zero, List.set_cons_succ])
   refine seqE_moveB rfl (by rfl) ?_ seqE_stop
   intro wl hS
   obtain ⟨wc, hmk, own1, hg1⟩ := run_makeSlice_full (P := Try.prog) wl wl.heap.size 29 3 i0 _ 1 Try.underlying29 hi0 hz0 hz1 .i64 .i64 N1 (by have := HN1.out; omega) (by rw [hz2]; have := HN1.out; omega) (by have := HN1.out; simp only [maxLen]; omega) (Nat.le_refl _)
   have hbn : Below wl.heap.size wl wc := (Below.refl _ wl).grown hg1 (Nat.le_refl _) (fun k hk => by cases hk)
   rw [made_ints] at own1
   refine ⟨.slice (some ⟨wl.heap.size, 0, none⟩) N1 N1, wc, (by go_simp; try with_reducible rfl), fun x => Below wc.heap.size wc x, Below.refl _ _, ?_⟩
   clear hmk hg1
   obtain ⟨gc, hge⟩ : ∃ z, wl.heap.size = z := ⟨_, rfl⟩
   have hlt : wa.heap.size ≤ gc ∧ gc < wc.heap.size := ⟨by rw [← hge]; exact hS.size, owns_lt own1 (g := gc) (by rw [hge]; rfl)⟩
   have HOc := Lib.hid own1; have HLTc := Lib.hid hlt; have HSTc := Lib.hid (btr hS hbn)
   rw [hge] at HOc ⊢
   replace HOb := Lib.hid (own_up HOb.out HSTc.out)
   replace HOa := Lib.hid (own_up HOa.out HSTc.out)
   have HBBc := Lib.hid (btr HBBa.out HSTc.out)
   clear own1 hlt hbn hS hge
   (try simp only [Act.put, List.setIfInBounds_toArray, List.set_cons_zero, List.set_cons_succ])
   iterate 3 (refine seqE_free (v := ?_) rfl (by rfl) ?_ ?_; rotate_left; (focus (intro w; go_simp; try with_reducible rfl)); (try simp only [Act.put, List.setIfInBounds_toArray, List.set_cons_zero, List.set_cons_succ]))
   refine seqE_storeB rfl (by rfl) ?_ seqE_stop
   intro wS hS
   have hbw : Below w2.heap.size w2 wS := btr HBBc.out hS
   have hblk : wS.heap[b]? = _ := (hbw.block b HBS.out).trans HBL.out
   have q0 : wS.cell? ⟨b, 0, none⟩ = some (.slice none 0 0) := by unfold World.cell?; rw [show (⟨b, 0, none⟩ : Addr).block = b from rfl, hblk]; rfl
   have q1 : wS.cell? ⟨b, 1, none⟩ = some (.slice none 0 0) := by unfold World.cell?; rw [show (⟨b, 1, none⟩ : Addr).block = b from rfl, hblk]; rfl
   have q2 : wS.cell? ⟨b, 2, none⟩ = some (.slice none 0 0) := by unfold World.cell?; rw [show (⟨b, 2, none⟩ : Addr).block = b from rfl, hblk]; rfl
   have q3 : wS.cell? ⟨b, 3, none⟩ = some (.slice none 0 0) := by unfold World.cell?; rw [show (⟨b, 3, none⟩ : Addr).block = b from rfl, hblk]; rfl
   have q4 : wS.cell? ⟨b, 4, none⟩ = some (.slice none 0 0) := by unfold World.cell?; rw [show (⟨b, 4, none⟩ : Addr).block = b from rfl, hblk]; rfl
   have q5 : wS.cell? ⟨b, 5, none⟩ = some (.int .i64 0) := by unfold World.cell?; rw [show (⟨b, 5, none⟩ : Addr).block = b from rfl, hblk]; rfl
   have qf : ∀ i, wS.frozen? ⟨b, i, none⟩ = false := fun i => by unfold World.frozen?; rw [show (⟨b, i, none⟩ : Addr).block = b from rfl, hblk]; simp
   have qf0 := qf 0; have qf1 := qf 1; have qf2 := qf 2; have qf3 := qf 3; have qf4 := qf 4; have qf5 := qf 5
   clear qf
   obtain ⟨wF, hwF⟩ : ∃ z, z = ((((((wS.setCell ⟨b, 0, none⟩ (.slice (some ⟨ga, 0, none⟩) N1 N1)).setCell ⟨b, 1, none⟩ (.slice (some ⟨gb, 0, none⟩) N1 N1)).setCell ⟨b, 2, none⟩ (.slice (some ⟨gc, 0, none⟩) N1 N1)).setCell ⟨b, 3, none⟩ (.slice none 0 0)).setCell ⟨b, 4, none⟩ (.slice none 0 0)).setCell ⟨b, 5, none⟩ (.int .i64 1)) := ⟨_, rfl⟩
   refine ⟨wF, (by rw [hwF]; go_simp; try with_reducible rfl), fun x => Below wF.heap.size wF x, Below.refl _ _, ?_⟩
   have HWF := Lib.hid hwF; have HBK := Lib.hid hblk; have HBW := Lib.hid hbw; have HSS := Lib.hid hS
   clear q0 q1 q2 q3 q4 q5 qf0 qf1 qf2 qf3 qf4 qf5 hwF hblk hbw hS
   (try simp only [Act.put, List.setIfInBounds_toArray, List.set_cons_zero, List.set_cons_succ])
   refine seqE_nil ?_
   intro w9 hS
   go_wp2_with fail
   go_ret
   obtain ⟨zb1, zb2⟩ := HLTb.out; obtain ⟨za1, za2⟩ := HLTa.out; obtain ⟨zc1, zc2⟩ := HLTc.out
   have hx1 := HBS.out; have hx2 := HGXB.out; have hx3 := HBE.out; have hx4 := HGX.out; have hx5 := HB2.out.size; have hx6 := HSS.out.size
   have fs : wF.heap.size = wS.heap.size := by rw [HWF.out]; simp
   have hown : ∀ (g' : Nat) (v : Value) (xs : List Value) (e : TypeId) (m : Nat), g' ≠ b → v.ownBlock = some g' → wc.ownsRow 0 e 1 v m xs → wF.ownsRow 0 e 1 v m xs := fun g' v xs e m hne hv h => by
     refine owns_keep h fun g2 hg2 => ?_
     rw [hv] at hg2
     obtain rfl := Option.some.inj hg2
     rw [HWF.out, setCell_other _ _ _ hne, setCell_other _ _ _ hne, setCell_other _ _ _ hne, setCell_other _ _ _ hne, setCell_other _ _ _ hne, setCell_other _ _ _ hne]
     exact HSS.out.block _ (owns_lt h hv)
   have hself : wF.ownsRow 0 63 15 (.slice (some ⟨b, 0, none⟩) 1 1) 1 [.slice (some ⟨ga, 0, none⟩) N1 N1, .slice (some ⟨gb, 0, none⟩) N1 N1, .slice (some ⟨gc, 0, none⟩) N1 N1, .slice none 0 0, .slice none 0 0, .int .i64 1, .slice none 0 0, .slice (some ⟨w.heap.size, 0, none⟩) N2 N2, .int .i64 0, .int .i64 0, .bool false, .slice none 0 0, .int .i64 0, .slice none 0 0, .slice none 0 0] := by
     have k1 := setCell_same _ b 0 (.slice (some ⟨ga, 0, none⟩) N1 N1) HBK.out
     have k2 := setCell_same _ b 1 (.slice (some ⟨gb, 0, none⟩) N1 N1) k1
     have k3 := setCell_same _ b 2 (.slice (some ⟨gc, 0, none⟩) N1 N1) k2
     have k4 := setCell_same _ b 3 (.slice none 0 0) k3
     have k5 := setCell_same _ b 4 (.slice none 0 0) k4
     have k6 := setCell_same _ b 5 (.int .i64 1) k5
     rw [← HWF.out] at k6
     exact ⟨rfl, .inr ⟨b, 1, _, rfl, Nat.zero_le _, k6, Nat.le_refl _, by simp [maxLen], rfl, rfl⟩⟩
   have hx := own_up HOX.out (HBBc.out)
   have HN1' := HN1.out; have HN2' := HN2.out
   obtain ⟨o, ho1, ho2⟩ := new_sl (w := wF) (n := n) (b := b) (V := .slice (some ⟨ga, 0, none⟩) N1 N1) (L := .slice (some ⟨gb, 0, none⟩) N1 N1) (R := .slice (some ⟨gc, 0, none⟩) N1 N1) (X := .slice (some ⟨w.heap.size, 0, none⟩) N2 N2) (by rw [fs]; omega) hself
     (by rw [HN1']) (by rw [HN1']) (by rw [HN1']) (by rw [HN2'])
     (by rw [HN1']; exact hown ga _ _ _ _ (by omega) rfl (owns_base HOa.out)) (by rw [HN1']; exact hown gb _ _ _ _ (by omega) rfl (owns_base HOb.out)) (by rw [HN1']; exact hown gc _ _ _ _ (by omega) rfl (owns_base HOc.out)) (by rw [HN2']; exact hown w.heap.size _ _ _ _ (by omega) rfl (owns_base hx))
     (by omega) (by omega) (by omega) (by omega) (by omega) (by omega) (by omega) (by omega) (by omega) (by omega) (k := w.heap.size) (by omega) (by omega) (by omega) (by omega) (Nat.le_refl _)
   have hbf : Below w.heap.size w wF := by
     have h2 := HB1.out.trans ((HB2.out.mono HB1.out.size).trans (HBW.out.mono (by omega)))
     rw [HWF.out]
     exact Below.setCell (Below.setCell (Below.setCell (Below.setCell (Below.setCell (Below.setCell h2 (by show w.heap.size ≤ b; omega) _) (by show w.heap.size ≤ b; omega) _) (by show w.heap.size ≤ b; omega) _) (by show w.heap.size ≤ b; omega) _) (by show w.heap.size ≤ b; omega) _) (by show w.heap.size ≤ b; omega) _
   exact ⟨b, o, rfl, ho1.up hS, ho2, hbf.trans (hS.mono hbf.size)⟩
  refine seqE_moveB rfl (by rfl) ?_ seqE_stop
  intro wl hS
  obtain ⟨wc, hmk, own1, hg1⟩ := run_makeSlice_full (P := Try.prog) wl wl.heap.size 29 3 i0 _ 1 Try.underlying29 hi0 hz0 hz1 .i64 .i64 N1 (by have := HN1.out; omega) (by rw [hz2]; have := HN1.out; omega) (by have := HN1.out; simp only [maxLen]; omega) (Nat.le_refl _)
  have hbn : Below wl.heap.size wl wc := (Below.refl _ wl).grown hg1 (Nat.le_refl _) (fun k hk => by cases hk)
  rw [made_ints] at own1
  refine ⟨.slice (some ⟨wl.heap.size, 0, none⟩) N1 N1, wc, (by go_simp; try with_reducible rfl), fun x => Below wc.heap.size wc x, Below.refl _ _, ?_⟩
  clear hmk hg1
  obtain ⟨gc, hge⟩ : ∃ z, wl.heap.size = z := ⟨_, rfl⟩
  have hlt : wb.heap.size ≤ gc ∧ gc < wc.heap.size := ⟨by rw [← hge]; exact hS.size, owns_lt own1 (g := gc) (by rw [hge]; rfl)⟩
  have HOc := Lib.hid own1; have HLTc := Lib.hid hlt; have HSTc := Lib.hid (btr hS hbn)
  rw [hge] at HOc ⊢
  replace HOb := Lib.hid (own_up HOb.out HSTc.out)
  have HBBc := Lib.hid (btr HBBb.out HSTc.out)
  clear own1 hlt hbn hS hge
  (try simp only [Act.put, List.setIfInBounds_toArray, List.set_cons_zero, List.set_cons_succ])
  refine seqE_moveB rfl (by rfl) ?_ seqE_stop
  intro wl hS
  obtain ⟨wa, hmk, own1, hg1⟩ := run_makeSlice_full (P := Try.prog) wl wl.heap.size 29 3 i0 _ 1 Try.underlying29 hi0 hz0 hz1 .i64 .i64 N1 (by have := HN1.out; omega) (by rw [hz2]; have := HN1.out; omega) (by have := HN1.out; simp only [maxLen]; omega) (Nat.le_refl _)
  have hbn : Below wl.heap.size wl wa := (Below.refl _ wl).grown hg1 (Nat.le_refl _) (fun k hk => by cases hk)
  rw [made_ints] at own1
  refine ⟨.slice (some ⟨wl.heap.size, 0, none⟩) N1 N1, wa, (by go_simp; try with_reducible rfl), fun x => Below wa.heap.size wa x, Below.refl _ _, ?_⟩
  clear hmk hg1
  obtain ⟨ga, hge⟩ : ∃ z, wl.heap.size = z := ⟨_, rfl⟩
  have hlt : wc.heap.size ≤ ga ∧ ga < wa.heap.size := ⟨by rw [← hge]; exact hS.size, owns_lt own1 (g := ga) (by rw [hge]; rfl)⟩
  have HOa := Lib.hid own1; have HLTa := Lib.hid hlt; have HSTa := Lib.hid (btr hS hbn)
  rw [hge] at HOa ⊢
  replace HOb := Lib.hid (own_up HOb.out HSTa.out)
  replace HOc := Lib.hid (own_up HOc.out HSTa.out)
  have HBBa := Lib.hid (btr HBBc.out HSTa.out)
  clear own1 hlt hbn hS hge
  (try simp only [Act.put, List.setIfInBounds_toArray, List.set_cons_zero, List.set_cons_succ])
  iterate 3 (refine seqE_free (v := ?_) rfl (by rfl) ?_ ?_; rotate_left; (focus (intro w; go_simp; try with_reducible rfl)); (try simp only [Act.put, List.setIfInBounds_toArray, List.set_cons_zero, List.set_cons_succ]))
  refine seqE_storeB rfl (by rfl) ?_ seqE_stop
  intro wS hS
  have hbw : Below w2.heap.size w2 wS := btr HBBa.out hS
  have hblk : wS.heap[b]? = _ := (hbw.block b HBS.out).trans HBL.out
  have q0 : wS.cell? ⟨b, 0, none⟩ = some (.slice none 0 0) := by unfold World.cell?; rw [show (⟨b, 0, none⟩ : Addr).block = b from rfl, hblk]; rfl
  have q1 : wS.cell? ⟨b, 1, none⟩ = some (.slice none 0 0) := by unfold World.cell?; rw [show (⟨b, 1, none⟩ : Addr).block = b from rfl, hblk]; rfl
  have q2 : wS.cell? ⟨b, 2, none⟩ = some (.slice none 0 0) := by unfold World.cell?; rw [show (⟨b, 2, none⟩ : Addr).block = b from rfl, hblk]; rfl
  have q3 : wS.cell? ⟨b, 3, none⟩ = some (.slice none 0 0) := by unfold World.cell?; rw [show (⟨b, 3, none⟩ : Addr).block = b from rfl, hblk]; rfl
  have q4 : wS.cell? ⟨b, 4, none⟩ = some (.slice none 0 0) := by unfold World.cell?; rw [show (⟨b, 4, none⟩ : Addr).block = b from rfl, hblk]; rfl
  have q5 : wS.cell? ⟨b, 5, none⟩ = some (.int .i64 0) := by unfold World.cell?; rw [show (⟨b, 5, none⟩ : Addr).block = b from rfl, hblk]; rfl
  have qf : ∀ i, wS.frozen? ⟨b, i, none⟩ = false := fun i => by unfold World.frozen?; rw [show (⟨b, i, none⟩ : Addr).block = b from rfl, hblk]; simp
  have qf0 := qf 0; have qf1 := qf 1; have qf2 := qf 2; have qf3 := qf 3; have qf4 := qf 4; have qf5 := qf 5
  clear qf
  obtain ⟨wF, hwF⟩ : ∃ z, z = ((((((wS.setCell ⟨b, 0, none⟩ (.slice (some ⟨ga, 0, none⟩) N1 N1)).setCell ⟨b, 1, none⟩ (.slice (some ⟨gb, 0, none⟩) N1 N1)).setCell ⟨b, 2, none⟩ (.slice (some ⟨gc, 0, none⟩) N1 N1)).setCell ⟨b, 3, none⟩ (.slice none 0 0)).setCell ⟨b, 4, none⟩ (.slice none 0 0)).setCell ⟨b, 5, none⟩ (.int .i64 1)) := ⟨_, rfl⟩
  refine ⟨wF, (by rw [hwF]; go_simp; try with_reducible rfl), fun x => Below wF.heap.size wF x, Below.refl _ _, ?_⟩
  have HWF := Lib.hid hwF; have HBK := Lib.hid hblk; have HBW := Lib.hid hbw; have HSS := Lib.hid hS
  clear q0 q1 q2 q3 q4 q5 qf0 qf1 qf2 qf3 qf4 qf5 hwF hblk hbw hS
  (try simp only [Act.put, List.setIfInBounds_toArray, List.set_cons_zero, List.set_cons_succ])
  refine seqE_nil ?_
  intro w9 hS
  go_wp2_with fail
  go_ret
  obtain ⟨zb1, zb2⟩ := HLTb.out; obtain ⟨zc1, zc2⟩ := HLTc.out; obtain ⟨za1, za2⟩ := HLTa.out
  have hx1 := HBS.out; have hx2 := HGXB.out; have hx3 := HBE.out; have hx4 := HGX.out; have hx5 := HB2.out.size; have hx6 := HSS.out.size
  have fs : wF.heap.size = wS.heap.size := by rw [HWF.out]; simp
  have hown : ∀ (g' : Nat) (v : Value) (xs : List Value) (e : TypeId) (m : Nat), g' ≠ b → v.ownBlock = some g' → wa.ownsRow 0 e 1 v m xs → wF.ownsRow 0 e 1 v m xs := fun g' v xs e m hne hv h => by
    refine owns_keep h fun g2 hg2 => ?_
    rw [hv] at hg2
    obtain rfl := Option.some.inj hg2
    rw [HWF.out, setCell_other _ _ _ hne, setCell_other _ _ _ hne, setCell_other _ _ _ hne, setCell_other _ _ _ hne, setCell_other _ _ _ hne, setCell_other _ _ _ hne]
    exact HSS.out.block _ (owns_lt h hv)
  have hself : wF.ownsRow 0 63 15 (.slice (some ⟨b, 0, none⟩) 1 1) 1 [.slice (some ⟨ga, 0, none⟩) N1 N1, .slice (some ⟨gb, 0, none⟩) N1 N1, .slice (some ⟨gc, 0, none⟩) N1 N1, .slice none 0 0, .slice none 0 0, .int .i64 1, .slice none 0 0, .slice (some ⟨w.heap.size, 0, none⟩) N2 N2, .int .i64 0, .int .i64 0, .bool false, .slice none 0 0, .int .i64 0, .slice none 0 0, .slice none 0 0] := by
    have k1 := setCell_same _ b 0 (.slice (some ⟨ga, 0, none⟩) N1 N1) HBK.out
    have k2 := setCell_same _ b 1 (.slice (some ⟨gb, 0, none⟩) N1 N1) k1
    have k3 := setCell_same _ b 2 (.slice (some ⟨gc, 0, none⟩) N1 N1) k2
    have k4 := setCell_same _ b 3 (.slice none 0 0) k3
    have k5 := setCell_same _ b 4 (.slice none 0 0) k4
    have k6 := setCell_same _ b 5 (.int .i64 1) k5
    rw [← HWF.out] at k6
    exact ⟨rfl, .inr ⟨b, 1, _, rfl, Nat.zero_le _, k6, Nat.le_refl _, by simp [maxLen], rfl, rfl⟩⟩
  have hx := own_up HOX.out (HBBa.out)
  have HN1' := HN1.out; have HN2' := HN2.out
  obtain ⟨o, ho1, ho2⟩ := new_sl (w := wF) (n := n) (b := b) (V := .slice (some ⟨ga, 0, none⟩) N1 N1) (L := .slice (some ⟨gb, 0, none⟩) N1 N1) (R := .slice (some ⟨gc, 0, none⟩) N1 N1) (X := .slice (some ⟨w.heap.size, 0, none⟩) N2 N2) (by rw [fs]; omega) hself
    (by rw [HN1']) (by rw [HN1']) (by rw [HN1']) (by rw [HN2'])
    (by rw [HN1']; exact hown ga _ _ _ _ (by omega) rfl (owns_base HOa.out)) (by rw [HN1']; exact hown gb _ _ _ _ (by omega) rfl (owns_base HOb.out)) (by rw [HN1']; exact hown gc _ _ _ _ (by omega) rfl (owns_base HOc.out)) (by rw [HN2']; exact hown w.heap.size _ _ _ _ (by omega) rfl (owns_base hx))
    (by omega) (by omega) (by omega) (by omega) (by omega) (by omega) (by omega) (by omega) (by omega) (by omega) (k := w.heap.size) (by omega) (by omega) (by omega) (by omega) (Nat.le_refl _)
  have hbf : Below w.heap.size w wF := by
    have h2 := HB1.out.trans ((HB2.out.mono HB1.out.size).trans (HBW.out.mono (by omega)))
    rw [HWF.out]
    exact Below.setCell (Below.setCell (Below.setCell (Below.setCell (Below.setCell (Below.setCell h2 (by show w.heap.size ≤ b; omega) _) (by show w.heap.size ≤ b; omega) _) (by show w.heap.size ≤ b; omega) _) (by show w.heap.size ≤ b; omega) _) (by show w.heap.size ≤ b; omega) _) (by show w.heap.size ≤ b; omega) _
  exact ⟨b, o, rfl, ho1.up hS, ho2, hbf.trans (hS.mono hbf.size)⟩
 refine seqE_moveB rfl (by rfl) ?_ seqE_stop
 intro wl hS
 obtain ⟨wc, hmk, own1, hg1⟩ := run_makeSlice_full (P := Try.prog) wl wl.heap.size 29 3 i0 _ 1 Try.underlying29 hi0 hz0 hz1 .i64 .i64 N1 (by have := HN1.out; omega) (by rw [hz2]; have := HN1.out; omega) (by have := HN1.out; simp only [maxLen]; omega) (Nat.le_refl _)
 have hbn : Below wl.heap.size wl wc := (Below.refl _ wl).grown hg1 (Nat.le_refl _) (fun k hk => by cases hk)
 rw [made_ints] at own1
 refine ⟨.slice (some ⟨wl.heap.size, 0, none⟩) N1 N1, wc, (by go_simp; try with_reducible rfl), fun x => Below wc.heap.size wc x, Below.refl _ _, ?_⟩
 clear hmk hg1
 obtain ⟨gc, hge⟩ : ∃ z, wl.heap.size = z := ⟨_, rfl⟩
 have hlt : w2.heap.size ≤ gc ∧ gc < wc.heap.size := ⟨by rw [← hge]; exact hS.size, owns_lt own1 (g := gc) (by rw [hge]; rfl)⟩
 have HOc := Lib.hid own1; have HLTc := Lib.hid hlt; have HSTc := Lib.hid (btr hS hbn)
 rw [hge] at HOc ⊢
 have HBBc := Lib.hid HSTc.out
 clear own1 hlt hbn hS hge
 (try simp only [Act.put, List.setIfInBounds_toArray, List.set_cons_zero, List.set_cons_succ])
 refine seqE_moveB rfl (by rfl) ?_ ?_
 ·
  intro wl hS
  obtain ⟨wa, hmk, own1, hg1⟩ := run_makeSlice_full (P := Try.prog) wl wl.heap.size 29 3 i0 _ 1 Try.underlying29 hi0 hz0 hz1 .i64 .i64 N1 (by have := HN1.out; omega) (by rw [hz2]; have := HN1.out; omega) (by have := HN1.out; simp only [maxLen]; omega) (Nat.le_refl _)
  have hbn : Below wl.heap.size wl wa := (Below.refl _ wl).grown hg1 (Nat.le_refl _) (fun k hk => by cases hk)
  rw [made_ints] at own1
  refine ⟨.slice (some ⟨wl.heap.size, 0, none⟩) N1 N1, wa, (by go_simp; try with_reducible rfl), fun x => Below wa.heap.size wa x, Below.refl _ _, ?_⟩
  clear hmk hg1
  obtain ⟨ga, hge⟩ : ∃ z, wl.heap.size = z := ⟨_, rfl⟩
  have hlt : wc.heap.size ≤ ga ∧ ga < wa.heap.size := ⟨by rw [← hge]; exact hS.size, owns_lt own1 (g := ga) (by rw [hge]; rfl)⟩
  have HOa := Lib.hid own1; have HLTa := Lib.hid hlt; have HSTa := Lib.hid (btr hS hbn)
  rw [hge] at HOa ⊢
  replace HOc := Lib.hid (own_up HOc.out HSTa.out)
  have HBBa := Lib.hid (btr HBBc.out HSTa.out)
  clear own1 hlt hbn hS hge
  (try simp only [Act.put, List.setIfInBounds_toArray, List.set_cons_zero, List.set_cons_succ])
  refine seqE_moveB rfl (by rfl) ?_ seqE_stop
  intro wl hS
  obtain ⟨wb, hmk, own1, hg1⟩ := run_makeSlice_full (P := Try.prog) wl wl.heap.size 29 3 i0 _ 1 Try.underlying29 hi0 hz0 hz1 .i64 .i64 N1 (by have := HN1.out; omega) (by rw [hz2]; have := HN1.out; omega) (by have := HN1.out; simp only [maxLen]; omega) (Nat.le_refl _)
  have hbn : Below wl.heap.size wl wb := (Below.refl _ wl).grown hg1 (Nat.le_refl _) (fun k hk => by cases hk)
  rw [made_ints] at own1
  refine ⟨.slice (some ⟨wl.heap.size, 0, none⟩) N1 N1, wb, (by go_simp; try with_reducible rfl), fun x => Below wb.heap.size wb x, Below.refl _ _, ?_⟩
  clear hmk hg1
  obtain ⟨gb, hge⟩ : ∃ z, wl.heap.size = z := ⟨_, rfl⟩
  have hlt : wa.heap.size ≤ gb ∧ gb < wb.heap.size := ⟨by rw [← hge]; exact hS.size, owns_lt own1 (g := gb) (by rw [hge]; rfl)⟩
  have HOb := Lib.hid own1; have HLTb := Lib.hid hlt; have HSTb := Lib.hid (btr hS hbn)
  rw [hge] at HOb ⊢
  replace HOc := Lib.hid (own_up HOc.out HSTb.out)
  replace HOa := Lib.hid (own_up HOa.out HSTb.out)
  have HBBb := Lib.hid (btr HBBa.out HSTb.out)
  clear own1 hlt hbn hS hge
  (try simp only [Act.put, List.setIfInBounds_toArray, List.set_cons_zero, List.set_cons_succ])
  iterate 3 (refine seqE_free (v := ?_) rfl (by rfl) ?_ ?_; rotate_left; (focus (intro w; go_simp; try with_reducible rfl)); (try simp only [Act.put, List.setIfInBounds_toArray, List.set_cons_zero, List.set_cons_succ]))
  refine seqE_storeB rfl (by rfl) ?_ seqE_stop
  intro wS hS
  have hbw : Below w2.heap.size w2 wS := btr HBBb.out hS
  have hblk : wS.heap[b]? = _ := (hbw.block b HBS.out).trans HBL.out
  have q0 : wS.cell? ⟨b, 0, none⟩ = some (.slice none 0 0) := by unfold World.cell?; rw [show (⟨b, 0, none⟩ : Addr).block = b from rfl, hblk]; rfl
  have q1 : wS.cell? ⟨b, 1, none⟩ = some (.slice none 0 0) := by unfold World.cell?; rw [show (⟨b, 1, none⟩ : Addr).block = b from rfl, hblk]; rfl
  have q2 : wS.cell? ⟨b, 2, none⟩ = some (.slice none 0 0) := by unfold World.cell?; rw [show (⟨b, 2, none⟩ : Addr).block = b from rfl, hblk]; rfl
  have q3 : wS.cell? ⟨b, 3, none⟩ = some (.slice none 0 0) := by unfold World.cell?; rw [show (⟨b, 3, none⟩ : Addr).block = b from rfl, hblk]; rfl
  have q4 : wS.cell? ⟨b, 4, none⟩ = some (.slice none 0 0) := by unfold World.cell?; rw [show (⟨b, 4, none⟩ : Addr).block = b from rfl, hblk]; rfl
  have q5 : wS.cell? ⟨b, 5, none⟩ = some (.int .i64 0) := by unfold World.cell?; rw [show (⟨b, 5, none⟩ : Addr).block = b from rfl, hblk]; rfl
  have qf : ∀ i, wS.frozen? ⟨b, i, none⟩ = false := fun i => by unfold World.frozen?; rw [show (⟨b, i, none⟩ : Addr).block = b from rfl, hblk]; simp
  have qf0 := qf 0; have qf1 := qf 1; have qf2 := qf 2; have qf3 := qf 3; have qf4 := qf 4; have qf5 := qf 5
  clear qf
  obtain ⟨wF, hwF⟩ : ∃ z, z = ((((((wS.setCell ⟨b, 0, none⟩ (.slice (some ⟨ga, 0, none⟩) N1 N1)).setCell ⟨b, 1, none⟩ (.slice (some ⟨gb, 0, none⟩) N1 N1)).setCell ⟨b, 2, none⟩ (.slice (some ⟨gc, 0, none⟩) N1 N1)).setCell ⟨b, 3, none⟩ (.slice none 0 0)).setCell ⟨b, 4, none⟩ (.slice none 0 0)).setCell ⟨b, 5, none⟩ (.int .i64 1)) := ⟨_, rfl⟩
  refine ⟨wF, (by rw [hwF]; go_simp; try with_reducible rfl), fun x => Below wF.heap.size wF x, Below.refl _ _, ?_⟩
  have HWF := Lib.hid hwF; have HBK := Lib.hid hblk; have HBW := Lib.hid hbw; have HSS := Lib.hid hS
  clear q0 q1 q2 q3 q4 q5 qf0 qf1 qf2 qf3 qf4 qf5 hwF hblk hbw hS
  (try simp only [Act.put, List.setIfInBounds_toArray, List.set_cons_zero, List.set_cons_succ])
  refine seqE_nil ?_
  intro w9 hS
  go_wp2_with fail
  go_ret
  obtain ⟨zc1, zc2⟩ := HLTc.out; obtain ⟨za1, za2⟩ := HLTa.out; obtain ⟨zb1, zb2⟩ := HLTb.out
  have hx1 := HBS.out; have hx2 := HGXB.out; have hx3 := HBE.out; have hx4 := HGX.out; have hx5 := HB2.out.size; have hx6 := HSS.out.size
  have fs : wF.heap.size = wS.heap.size := by rw [HWF.out]; simp
  have hown : ∀ (g' : Nat) (v : Value) (xs : List Value) (e : TypeId) (m : Nat), g' ≠ b → v.ownBlock = some g' → wb.ownsRow 0 e 1 v m xs → wF.ownsRow 0 e 1 v m xs := fun g' v xs e m hne hv h => by
    refine owns_keep h fun g2 hg2 => ?_
    rw [hv] at hg2
    obtain rfl := Option.some.inj hg2
    rw [HWF.out, setCell_other _ _ _ hne, setCell_other _ _ _ hne, setCell_other _ _ _ hne, setCell_other _ _ _ hne, setCell_other _ _ _ hne, setCell_other _ _ _ hne]
    exact HSS.out.block _ (owns_lt h hv)
  have hself : wF.ownsRow 0 63 15 (.slice (some ⟨b, 0, none⟩) 1 1) 1 [.slice (some ⟨ga, 0, none⟩) N1 N1, .slice (some ⟨gb, 0, none⟩) N1 N1, .slice (some ⟨gc, 0, none⟩) N1 N1, .slice none 0 0, .slice none 0 0, .int .i64 1, .slice none 0 0, .slice (some ⟨w.heap.size, 0, none⟩) N2 N2, .int .i64 0, .int .i64 0, .bool false, .slice none 0 0, .int .i64 0, .slice none 0 0, .slice none 0 0] := by
    have k1 := setCell_same _ b 0 (.slice (some ⟨ga, 0, none⟩) N1 N1) HBK.out
    have k2 := setCell_same _ b 1 (.slice (some ⟨gb, 0, none⟩) N1 N1) k1
    have k3 := setCell_same _ b 2 (.slice (some ⟨gc, 0, none⟩) N1 N1) k2
    have k4 := setCell_same _ b 3 (.slice none 0 0) k3
    have k5 := setCell_same _ b 4 (.slice none 0 0) k4
    have k6 := setCell_same _ b 5 (.int .i64 1) k5
    rw [← HWF.out] at k6
    exact ⟨rfl, .inr ⟨b, 1, _, rfl, Nat.zero_le _, k6, Nat.le_refl _, by simp [maxLen], rfl, rfl⟩⟩
  have hx := own_up HOX.out (HBBb.out)
  have HN1' := HN1.out; have HN2' := HN2.out
  obtain ⟨o, ho1, ho2⟩ := new_sl (w := wF) (n := n) (b := b) (V := .slice (some ⟨ga, 0, none⟩) N1 N1) (L := .slice (some ⟨gb, 0, none⟩) N1 N1) (R := .slice (some ⟨gc, 0, none⟩) N1 N1) (X := .slice (some ⟨w.heap.size, 0, none⟩) N2 N2) (by rw [fs]; omega) hself
    (by rw [HN1']) (by rw [HN1']) (by rw [HN1']) (by rw [HN2'])
    (by rw [HN1']; exact hown ga _ _ _ _ (by omega) rfl (owns_base HOa.out)) (by rw [HN1']; exact hown gb _ _ _ _ (by omega) rfl (owns_base HOb.out)) (by rw [HN1']; exact hown gc _ _ _ _ (by omega) rfl (owns_base HOc.out)) (by rw [HN2']; exact hown w.heap.size _ _ _ _ (by omega) rfl (owns_base hx))
    (by omega) (by omega) (by omega) (by omega) (by omega) (by omega) (by omega) (by omega) (by omega) (by omega) (k := w.heap.size) (by omega) (by omega) (by omega) (by omega) (Nat.le_refl _)
  have hbf : Below w.heap.size w wF := by
    have h2 := HB1.out.trans ((HB2.out.mono HB1.out.size).trans (HBW.out.mono (by omega)))
    rw [HWF.out]
    exact Below.setCell (Below.setCell (Below.setCell (Below.setCell (Below.setCell (Below.setCell h2 (by show w.heap.size ≤ b; omega) _) (by show w.heap.size ≤ b; omega) _) (by show w.heap.size ≤ b; omega) _) (by show w.heap.size ≤ b; omega) _) (by show w.heap.size ≤ b; omega) _) (by show w.heap.size ≤ b; omega) _
  exact ⟨b, o, rfl, ho1.up hS, ho2, hbf.trans (hS.mono hbf.size)⟩
 refine seqE_moveB rfl (by rfl) ?_ seqE_stop
 intro wl hS
 obtain ⟨wb, hmk, own1, hg1⟩ := run_makeSlice_full (P := Try.prog) wl wl.heap.size 29 3 i0 _ 1 Try.underlying29 hi0 hz0 hz1 .i64 .i64 N1 (by have := HN1.out; omega) (by rw [hz2]; have := HN1.out; omega) (by have := HN1.out; simp only [maxLen]; omega) (Nat.le_refl _)
 have hbn : Below wl.heap.size wl wb := (Below.refl _ wl).grown hg1 (Nat.le_refl _) (fun k hk => by cases hk)
 rw [made_ints] at own1
 refine ⟨.slice (some ⟨wl.heap.size, 0, none⟩) N1 N1, wb, (by go_simp; try with_reducible rfl), fun x => Below wb.heap.size wb x, Below.refl _ _, ?_⟩
 clear hmk hg1
 obtain ⟨gb, hge⟩ : ∃ z, wl.heap.size = z := ⟨_, rfl⟩
 have hlt : wc.heap.size ≤ gb ∧ gb < wb.heap.size := ⟨by rw [← hge]; exact hS.size, owns_lt own1 (g := gb) (by rw [hge]; rfl)⟩
 have HOb := Lib.hid own1; have HLTb := Lib.hid hlt; have HSTb := Lib.hid (btr hS hbn)
 rw [hge] at HOb ⊢
 replace HOc := Lib.hid (own_up HOc.out HSTb.out)
 have HBBb := Lib.hid (btr HBBc.out HSTb.out)
 clear own1 hlt hbn hS hge
 (try simp only [Act.put, List.setIfInBounds_toArray, List.set_cons_zero, List.set_cons_succ])
 refine seqE_moveB rfl (by rfl) ?_ seqE_stop
 intro wl hS
 obtain ⟨wa, hmk, own1, hg1⟩ := run_makeSlice_full (P := Try.prog) wl wl.heap.size 29 3 i0 _ 1 Try.underlying29 hi0 hz0 hz1 .i64 .i64 N1 (by have := HN1.out; omega) (by rw [hz2]; have := HN1.out; omega) (by have := HN1.out; simp only [maxLen]; omega) (Nat.le_refl _)
 have hbn : Below wl.heap.size wl wa := (Below.refl _ wl).grown hg1 (Nat.le_refl _) (fun k hk => by cases hk)
 rw [made_ints] at own1
 refine ⟨.slice (some ⟨wl.heap.size, 0, none⟩) N1 N1, wa, (by go_simp; try with_reducible rfl), fun x => Below wa.heap.size wa x, Below.refl _ _, ?_⟩
 clear hmk hg1
 obtain ⟨ga, hge⟩ : ∃ z, wl.heap.size = z := ⟨_, rfl⟩
 have hlt : wb.heap.size ≤ ga ∧ ga < wa.heap.size := ⟨by rw [← hge]; exact hS.size, owns_lt own1 (g := ga) (by rw [hge]; rfl)⟩
 have HOa := Lib.hid own1; have HLTa := Lib.hid hlt; have HSTa := Lib.hid (btr hS hbn)
 rw [hge] at HOa ⊢
 replace HOc := Lib.hid (own_up HOc.out HSTa.out)
 replace HOb := Lib.hid (own_up HOb.out HSTa.out)
 have HBBa := Lib.hid (btr HBBb.out HSTa.out)
 clear own1 hlt hbn hS hge
 (try simp only [Act.put, List.setIfInBounds_toArray, List.set_cons_zero, List.set_cons_succ])
 iterate 3 (refine seqE_free (v := ?_) rfl (by rfl) ?_ ?_; rotate_left; (focus (intro w; go_simp; try with_reducible rfl)); (try simp only [Act.put, List.setIfInBounds_toArray, List.set_cons_zero, List.set_cons_succ]))
 refine seqE_storeB rfl (by rfl) ?_ seqE_stop
 intro wS hS
 have hbw : Below w2.heap.size w2 wS := btr HBBa.out hS
 have hblk : wS.heap[b]? = _ := (hbw.block b HBS.out).trans HBL.out
 have q0 : wS.cell? ⟨b, 0, none⟩ = some (.slice none 0 0) := by unfold World.cell?; rw [show (⟨b, 0, none⟩ : Addr).block = b from rfl, hblk]; rfl
 have q1 : wS.cell? ⟨b, 1, none⟩ = some (.slice none 0 0) := by unfold World.cell?; rw [show (⟨b, 1, none⟩ : Addr).block = b from rfl, hblk]; rfl
 have q2 : wS.cell? ⟨b, 2, none⟩ = some (.slice none 0 0) := by unfold World.cell?; rw [show (⟨b, 2, none⟩ : Addr).block = b from rfl, hblk]; rfl
 have q3 : wS.cell? ⟨b, 3, none⟩ = some (.slice none 0 0) := by unfold World.cell?; rw [show (⟨b, 3, none⟩ : Addr).block = b from rfl, hblk]; rfl
 have q4 : wS.cell? ⟨b, 4, none⟩ = some (.slice none 0 0) := by unfold World.cell?; rw [show (⟨b, 4, none⟩ : Addr).block = b from rfl, hblk]; rfl
 have q5 : wS.cell? ⟨b, 5, none⟩ = some (.int .i64 0) := by unfold World.cell?; rw [show (⟨b, 5, none⟩ : Addr).block = b from rfl, hblk]; rfl
 have qf : ∀ i, wS.frozen? ⟨b, i, none⟩ = false := fun i => by unfold World.frozen?; rw [show (⟨b, i, none⟩ : Addr).block = b from rfl, hblk]; simp
 have qf0 := qf 0; have qf1 := qf 1; have qf2 := qf 2; have qf3 := qf 3; have qf4 := qf 4; have qf5 := qf 5
 clear qf
 obtain ⟨wF, hwF⟩ : ∃ z, z = ((((((wS.setCell ⟨b, 0, none⟩ (.slice (some ⟨ga, 0, none⟩) N1 N1)).setCell ⟨b, 1, none⟩ (.slice (some ⟨gb, 0, none⟩) N1 N1)).setCell ⟨b, 2, none⟩ (.slice (some ⟨gc, 0, none⟩) N1 N1)).setCell ⟨b, 3, none⟩ (.slice none 0 0)).setCell ⟨b, 4, none⟩ (.slice none 0 0)).setCell ⟨b, 5, none⟩ (.int .i64 1)) := ⟨_, rfl⟩
 refine ⟨wF, (by rw [hwF]; go_simp; try with_reducible rfl), fun x => Below wF.heap.size wF x, Below.refl _ _, ?_⟩
 have HWF := Lib.hid hwF; have HBK := Lib.hid hblk; have HBW := Lib.hid hbw; have HSS := Lib.hid hS
 clear q0 q1 q2 q3 q4 q5 qf0 qf1 qf2 qf3 qf4 qf5 hwF hblk hbw hS
 (try simp only [Act.put, List.setIfInBounds_toArray, List.set_cons_zero, List.set_cons_succ])
 refine seqE_nil ?_
 intro w9 hS
 go_wp2_with fail
 go_ret
 obtain ⟨zc1, zc2⟩ := HLTc.out; obtain ⟨zb1, zb2⟩ := HLTb.out; obtain ⟨za1, za2⟩ := HLTa.out
 have hx1 := HBS.out; have hx2 := HGXB.out; have hx3 := HBE.out; have hx4 := HGX.out; have hx5 := HB2.out.size; have hx6 := HSS.out.size
 have fs : wF.heap.size = wS.heap.size := by rw [HWF.out]; simp
 have hown : ∀ (g' : Nat) (v : Value) (xs : List Value) (e : TypeId) (m : Nat), g' ≠ b → v.ownBlock = some g' → wa.ownsRow 0 e 1 v m xs → wF.ownsRow 0 e 1 v m xs := fun g' v xs e m hne hv h => by
   refine owns_keep h fun g2 hg2 => ?_
   rw [hv] at hg2
   obtain rfl := Option.some.inj hg2
   rw [HWF.out, setCell_other _ _ _ hne, setCell_other _ _ _ hne, setCell_other _ _ _ hne, setCell_other _ _ _ hne, setCell_other _ _ _ hne, setCell_other _ _ _ hne]
   exact HSS.out.block _ (owns_lt h hv)
 have hself : wF.ownsRow 0 63 15 (.slice (some ⟨b, 0, none⟩) 1 1) 1 [.slice (some ⟨ga, 0, none⟩) N1 N1, .slice (some ⟨gb, 0, none⟩) N1 N1, .slice (some ⟨gc, 0, none⟩) N1 N1, .slice none 0 0, .slice none 0 0, .int .i64 1, .slice none 0 0, .slice (some ⟨w.heap.size, 0, none⟩) N2 N2, .int .i64 0, .int .i64 0, .bool false, .slice none 0 0, .int .i64 0, .slice none 0 0, .slice none 0 0] := by
   have k1 := setCell_same _ b 0 (.slice (some ⟨ga, 0, none⟩) N1 N1) HBK.out
   have k2 := setCell_same _ b 1 (.slice (some ⟨gb, 0, none⟩) N1 N1) k1
   have k3 := setCell_same _ b 2 (.slice (some ⟨gc, 0, none⟩) N1 N1) k2
   have k4 := setCell_same _ b 3 (.slice none 0 0) k3
   have k5 := setCell_same _ b 4 (.slice none 0 0) k4
   have k6 := setCell_same _ b 5 (.int .i64 1) k5
   rw [← HWF.out] at k6
   exact ⟨rfl, .inr ⟨b, 1, _, rfl, Nat.zero_le _, k6, Nat.le_refl _, by simp [maxLen], rfl, rfl⟩⟩
 have hx := own_up HOX.out (HBBa.out)
 have HN1' := HN1.out; have HN2' := HN2.out
 obtain ⟨o, ho1, ho2⟩ := new_sl (w := wF) (n := n) (b := b) (V := .slice (some ⟨ga, 0, none⟩) N1 N1) (L := .slice (some ⟨gb, 0, none⟩) N1 N1) (R := .slice (some ⟨gc, 0, none⟩) N1 N1) (X := .slice (some ⟨w.heap.size, 0, none⟩) N2 N2) (by rw [fs]; omega) hself
   (by rw [HN1']) (by rw [HN1']) (by rw [HN1']) (by rw [HN2'])
   (by rw [HN1']; exact hown ga _ _ _ _ (by omega) rfl (owns_base HOa.out)) (by rw [HN1']; exact hown gb _ _ _ _ (by omega) rfl (owns_base HOb.out)) (by rw [HN1']; exact hown gc _ _ _ _ (by omega) rfl (owns_base HOc.out)) (by rw [HN2']; exact hown w.heap.size _ _ _ _ (by omega) rfl (owns_base hx))
   (by omega) (by omega) (by omega) (by omega) (by omega) (by omega) (by omega) (by omega) (by omega) (by omega) (k := w.heap.size) (by omega) (by omega) (by omega) (by omega) (Nat.le_refl _)
 have hbf : Below w.heap.size w wF := by
   have h2 := HB1.out.trans ((HB2.out.mono HB1.out.size).trans (HBW.out.mono (by omega)))
   rw [HWF.out]
   exact Below.setCell (Below.setCell (Below.setCell (Below.setCell (Below.setCell (Below.setCell h2 (by show w.heap.size ≤ b; omega) _) (by show w.heap.size ≤ b; omega) _) (by show w.heap.size ≤ b; omega) _) (by show w.heap.size ≤ b; omega) _) (by show w.heap.size ≤ b; omega) _) (by show w.heap.size ≤ b; omega) _
 exact ⟨b, o, rfl, ho1.up hS, ho2, hbf.trans (hS.mono hbf.size)⟩
end Go.Proofs.Ytdibfjcmgbpnpaa
