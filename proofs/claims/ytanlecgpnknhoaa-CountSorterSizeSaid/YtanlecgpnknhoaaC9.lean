/- Walk of layer 16: the sorter's compare. -/
import Derived.Test.YtanlecgpnknhoaaC3
namespace Go.Proofs.Ytanlecgpnknhoaa
set_option linter.unusedSimpArgs false
set_option linter.unusedVariables false
open Go.RowKit

/-- The sorter's state: the builder at b holds the circuit, the block g the n references. -/
structure SortSt (L : List Nat) (B b g n : Nat) (w : World) (x : List Gate × List Int) : Prop where
  bx : BxA (g :: L) w b x.1
  own : OwnI w B g n n x.2
def CmpPost (L : List Nat) (B b g n : Nat) (w : World) (x : List Gate × List Int) (e : Ending) (w' : World) : Prop := e = .returned (.tuple #[]) ∧ SortSt L B b g n w' x ∧ KeepX [b, g] w w'

set_option maxRecDepth 100000 in
set_option maxHeartbeats 4000000 in
theorem cmp_any (L : List Nat) (c : List Gate) (l : List Int) (i j b g n B bl bb : Nat) (w : World) (hi : i < n) (hj : j < n) (hn : n ≤ 1000) (hr : AllLe l) (hl : c.length ≤ 20000) (hS : SortSt L B b g n w (c, l))
    (hbl : w.cell? ⟨bl, 0, none⟩ = some (.slice (some ⟨g, 0, none⟩) n n)) (hbb : w.cell? ⟨bb, 0, none⟩ = some (.pointer (some ⟨b, 0, none⟩))) (n1 : bl ≠ b) (n2 : bl ≠ g) (n3 : bb ≠ b) (n4 : bb ≠ g) (n5 : b ≠ g) (hL : ∀ k ∈ L, k < w.heap.size) :
    Calls Try.prog 64 #[.int .i64 i, .int .i64 j, .pointer (some ⟨bl, 0, none⟩), .pointer (some ⟨bb, 0, none⟩)] w (CmpPost L B b g n w ((cmpAt 1 i j l).run c)) := by
  have hB := hS.bx
  have hO := hS.own
  clear hS
  dsimp only at hB hO
  have hol := hO.1
  obtain ⟨X, hX⟩ : ∃ X, l.getD i 1 = X := ⟨_, rfl⟩
  obtain ⟨Y, hY⟩ : ∃ Y, l.getD j 1 = Y := ⟨_, rfl⟩
  have cX := hO.get hi
  have cY := hO.get hj
  rw [getD_any l i (by omega) 0 1, hX] at cX
  rw [getD_any l j (by omega) 0 1, hY] at cY
  have hXl : X ≤ 9223372036854775807 := by
    rw [← hX, List.getD_eq_getElem?_getD, List.getElem?_eq_getElem (by omega)]
    have := hr _ (List.getElem_mem (show i < l.length by omega)); show l[i] ≤ _; omega
  have hYl : Y ≤ 9223372036854775807 := by
    rw [← hY, List.getD_eq_getElem?_getD, List.getElem?_eq_getElem (by omega)]
    have := hr _ (List.getElem_mem (show j < l.length by omega)); show l[j] ≤ _; omega
  obtain ⟨c1, p, h1⟩ : ∃ z r, cor c X Y = (z, r) := ⟨_, _, rfl⟩
  obtain ⟨c2, q, h2⟩ : ∃ z r, cand c1 X Y = (z, r) := ⟨_, _, rfl⟩
  have hc1 : c1.length ≤ 20000 := by have := (cor_le (a := X) (b := Y) hl).1; rw [h1] at this; exact this
  have hrun : (cmpAt 1 i j l).run c = (c2, (l.set i p).set j q) := by
    show ((CM.and (l.getD i 1) (l.getD j 1) fun q => .ret ((l.set i (cor c (l.getD i 1) (l.getD j 1)).2).set j q)).run (cor c (l.getD i 1) (l.getD j 1)).1) = _
    rw [hX, hY, h1]
    show ((cand c1 X Y).1, (l.set i p).set j (cand c1 X Y).2) = _
    rw [h2]
  rw [hrun]
  have H1 := Lib.hid h1; have H2 := Lib.hid h2; have HB := Lib.hid hB; have HO := Lib.hid hO; have HL := Lib.hid hL
  have hi0 : (0 : Int) ≤ (i : Int) := by omega
  have hi1 : (i : Int) < (n : Int) := by omega
  have hj0 : (0 : Int) ≤ (j : Int) := by omega
  have hj1 : (j : Int) < (n : Int) := by omega
  have hgl := hO.lt
  clear hX hY h1 h2 hrun hB hO hol hr
  go_enter Try.func64, Try.ntmps64
  go_wp2_with fail
  go_cut [6, 7] (fun s6 s7 wx => s6 = .int .i64 X ∧ s7 = .int .i64 Y ∧ Below w.heap.size w wx)
  case first =>
    refine wp_region_seq (fun w' => Below w.heap.size w w') (by kernel_rfl) (by kernel_rfl) (by go_grown) ?_
    refine seq_pure (v := ?_) (by rfl) ?_ ?_
    rotate_left
    · (intro w hS; have kk := oldcell hS hbl (World.block_lt_of_cell? _ _ hbl); go_simp; try with_reducible rfl)
    (try simp only [Act.put, List.setIfInBounds_toArray, List.set_cons_zero, List.set_cons_succ])
    refine seq_pure (v := ?_) (by rfl) ?_ ?_
    rotate_left
    · (intro w hS; go_simp; try with_reducible rfl)
    (try simp only [Act.put, List.setIfInBounds_toArray, List.set_cons_zero, List.set_cons_succ])
    refine seq_pure (v := ?_) (by rfl) ?_ ?_
    rotate_left
    · (intro w hS; go_simp; try with_reducible rfl)
    (try simp only [Act.put, List.setIfInBounds_toArray, List.set_cons_zero, List.set_cons_succ])
    refine seq_pure (v := ?_) (by rfl) ?_ ?_
    rotate_left
    · (intro w hS; have kk := oldcell hS cX (World.block_lt_of_cell? _ _ cX); go_simp; try with_reducible rfl)
    (try simp only [Act.put, List.setIfInBounds_toArray, List.set_cons_zero, List.set_cons_succ])
    refine seq_pure (v := ?_) (by rfl) ?_ ?_
    rotate_left
    · (intro w hS; have kk := oldcell hS hbl (World.block_lt_of_cell? _ _ hbl); go_simp; try with_reducible rfl)
    (try simp only [Act.put, List.setIfInBounds_toArray, List.set_cons_zero, List.set_cons_succ])
    refine seq_pure (v := ?_) (by rfl) ?_ ?_
    rotate_left
    · (intro w hS; go_simp; try with_reducible rfl)
    (try simp only [Act.put, List.setIfInBounds_toArray, List.set_cons_zero, List.set_cons_succ])
    refine seq_pure (v := ?_) (by rfl) ?_ ?_
    rotate_left
    · (intro w hS; go_simp; try with_reducible rfl)
    (try simp only [Act.put, List.setIfInBounds_toArray, List.set_cons_zero, List.set_cons_succ])
    refine seq_pure (v := ?_) (by rfl) ?_ ?_
    rotate_left
    · (intro w hS; have kk := oldcell hS cY (World.block_lt_of_cell? _ _ cY); go_simp; try with_reducible rfl)
    (try simp only [Act.put, List.setIfInBounds_toArray, List.set_cons_zero, List.set_cons_succ])
    refine seq_pure (v := ?_) (by rfl) ?_ ?_
    rotate_left
    · (intro w hS; go_simp; try with_reducible rfl)
    (try simp only [Act.put, List.setIfInBounds_toArray, List.set_cons_zero, List.set_cons_succ])
    refine seq_pure (v := ?_) (by rfl) ?_ ?_
    rotate_left
    · (intro w hS; go_simp; try with_reducible rfl)
    (try simp only [Act.put, List.setIfInBounds_toArray, List.set_cons_zero, List.set_cons_succ])
    refine seq_nil ?_
    intro w2 HB0
    go_wp2_with fail
    go_meet
    exact ⟨rfl, rfl, HB0⟩
  case rest =>
    obtain ⟨rfl, rfl, hW⟩ := hcut
    have HW := Lib.hid hW; clear hW
    have K := Lib.hid (show KeepX [] w wc from KeepX.of_below HW.out)
    have kl := oldcell HW.out hbl (World.block_lt_of_cell? _ _ hbl)
    have kb := oldcell HW.out hbb (World.block_lt_of_cell? _ _ hbb)
    have HBc := Lib.hid (HB.out.keep K.out (by simp) (by simp))
    have HOc := Lib.hid (HO.out.keep K.out (by simp))
    have hszc := HW.out.size
    have HLc := Lib.hid (show ∀ z ∈ g :: L, z < wc.heap.size from fun z hz => by
      rcases List.mem_cons.1 hz with rfl | hz
      · omega
      · have := HL.out z hz; omega)
    clear cX cY
    go_wp2_with fail
    refine wp_region_seqM (fun s w' => KeepX [b, g] wc w' ∧ BxA (g :: L) w' b (match s with | 0 => c | 1 => c1 | _ => c2) ∧ OwnI w' B g n n (match s with | 0 => l | 1 => l | 2 => l | 3 => l.set i p | _ => (l.set i p).set j q)) [7, 11, 13, 15] (by kernel_rfl) (by kernel_rfl) (by kernel_rfl) ?_ ?_
    · exact ⟨KeepX.of_below (by go_grown), HBc.out.keep (X := []) (KeepX.of_below (by go_grown)) (by simp) (by simp), HOc.out.keep (X := []) (KeepX.of_below (by go_grown)) (by simp)⟩
    refine seqM_pure (v := ?_) (by decide) (by decide) (by rfl) ?_ ?_
    rotate_left
    · (intro sj hj w hS; have kk := hS.1.cell kl (by simp; omega); go_simp; try with_reducible rfl)
    (try simp only [Act.put, List.setIfInBounds_toArray, List.set_cons_zero, List.set_cons_succ])
    refine seqM_pure (v := ?_) (by decide) (by decide) (by rfl) ?_ ?_
    rotate_left
    · (intro sj hj w hS; go_simp; try with_reducible rfl)
    (try simp only [Act.put, List.setIfInBounds_toArray, List.set_cons_zero, List.set_cons_succ])
    refine seqM_pure (v := ?_) (by decide) (by decide) (by rfl) ?_ ?_
    rotate_left
    · (intro sj hj w hS; have kk := hS.1.cell kl (by simp; omega); go_simp; try with_reducible rfl)
    (try simp only [Act.put, List.setIfInBounds_toArray, List.set_cons_zero, List.set_cons_succ])
    refine seqM_pure (v := ?_) (by decide) (by decide) (by rfl) ?_ ?_
    rotate_left
    · (intro sj hj w hS; go_simp; try with_reducible rfl)
    (try simp only [Act.put, List.setIfInBounds_toArray, List.set_cons_zero, List.set_cons_succ])
    refine seqM_pure (v := ?_) (by decide) (by decide) (by rfl) ?_ ?_
    rotate_left
    · (intro sj hj w hS; have kk := hS.1.cell kb (by simp; omega); go_simp; try with_reducible rfl)
    (try simp only [Act.put, List.setIfInBounds_toArray, List.set_cons_zero, List.set_cons_succ])
    refine seqM_pure (v := ?_) (by decide) (by decide) (by rfl) ?_ ?_
    rotate_left
    · (intro sj hj w hS; go_simp; try with_reducible rfl)
    (try simp only [Act.put, List.setIfInBounds_toArray, List.set_cons_zero, List.set_cons_succ])
    refine seqM_pure (v := ?_) (by decide) (by decide) (by rfl) ?_ ?_
    rotate_left
    · (intro sj hj w hS; go_simp; try with_reducible rfl)
    (try simp only [Act.put, List.setIfInBounds_toArray, List.set_cons_zero, List.set_cons_succ])
    refine seqM_call (v := .int .i64 p) (f := ?_) (args := ?_) (by decide) (by decide) (by rfl) ?_ ?_ ?_
    rotate_left 2
    · (intro w hS; go_simp; first | done | with_reducible rfl | (refine ⟨?_, ?_⟩ <;> with_reducible rfl))
    · (intro w hS; refine (orM_any (g :: L) c X Y b w hXl hYl hl hS.2.1 (fun z hz => Nat.lt_of_lt_of_le (HLc.out z hz) hS.1.size)).mono ?_; rintro e w' ⟨he, hb, hk⟩; rw [H1.out] at he hb; exact ⟨he, hS.1.trans (hk.sub (by simp)), hb, hS.2.2.keep hk (by simp; omega)⟩)
    (try simp only [Act.put, List.setIfInBounds_toArray, List.set_cons_zero, List.set_cons_succ])
    refine seqM_pure (v := ?_) (by decide) (by decide) (by rfl) ?_ ?_
    rotate_left
    · (intro sj hj w hS; have kk := hS.1.cell kb (by simp; omega); go_simp; try with_reducible rfl)
    (try simp only [Act.put, List.setIfInBounds_toArray, List.set_cons_zero, List.set_cons_succ])
    refine seqM_pure (v := ?_) (by decide) (by decide) (by rfl) ?_ ?_
    rotate_left
    · (intro sj hj w hS; go_simp; try with_reducible rfl)
    (try simp only [Act.put, List.setIfInBounds_toArray, List.set_cons_zero, List.set_cons_succ])
    refine seqM_pure (v := ?_) (by decide) (by decide) (by rfl) ?_ ?_
    rotate_left
    · (intro sj hj w hS; go_simp; try with_reducible rfl)
    (try simp only [Act.put, List.setIfInBounds_toArray, List.set_cons_zero, List.set_cons_succ])
    refine seqM_call (v := .int .i64 q) (f := ?_) (args := ?_) (by decide) (by decide) (by rfl) ?_ ?_ ?_
    rotate_left 2
    · (intro w hS; go_simp; first | done | with_reducible rfl | (refine ⟨?_, ?_⟩ <;> with_reducible rfl))
    · (intro w hS; refine (andM_any (g :: L) c1 X Y b w hXl hYl hc1 hS.2.1 (fun z hz => Nat.lt_of_lt_of_le (HLc.out z hz) hS.1.size)).mono ?_; rintro e w' ⟨he, hb, hk⟩; rw [H2.out] at he hb; exact ⟨he, hS.1.trans (hk.sub (by simp)), hb, hS.2.2.keep hk (by simp; omega)⟩)
    (try simp only [Act.put, List.setIfInBounds_toArray, List.set_cons_zero, List.set_cons_succ])
    refine seqM_pure (v := ?_) (by decide) (by decide) (by rfl) ?_ ?_
    rotate_left
    · (intro sj hj w hS; go_simp; try with_reducible rfl)
    (try simp only [Act.put, List.setIfInBounds_toArray, List.set_cons_zero, List.set_cons_succ])
    refine seqM_store (f := fun w' => w'.setCell ⟨g, i, none⟩ (.int .i64 p)) (by decide) (by decide) (by rfl) ?_ ?_
    · (intro w hS; obtain ⟨g1, g2, g3⟩ := hS; have kc := g3.get hi; have kf := g3.free i; refine ⟨by go_simp, g1.setCell (by simp) _, g2.keep (X := [g]) ((KeepX.refl [g] _).setCell (by simp) _) (by simp; omega) (by simp), g3.set i p⟩)
    (try simp only [Act.put, List.setIfInBounds_toArray, List.set_cons_zero, List.set_cons_succ])
    refine seqM_pure (v := ?_) (by decide) (by decide) (by rfl) ?_ ?_
    rotate_left
    · (intro sj hj w hS; go_simp; try with_reducible rfl)
    (try simp only [Act.put, List.setIfInBounds_toArray, List.set_cons_zero, List.set_cons_succ])
    refine seqM_store (f := fun w' => w'.setCell ⟨g, j, none⟩ (.int .i64 q)) (by decide) (by decide) (by rfl) ?_ ?_
    · (intro w hS; obtain ⟨g1, g2, g3⟩ := hS; have kc := g3.get hj; have kf := g3.free j; refine ⟨by go_simp, g1.setCell (by simp) _, g2.keep (X := [g]) ((KeepX.refl [g] _).setCell (by simp) _) (by simp; omega) (by simp), g3.set j q⟩)
    (try simp only [Act.put, List.setIfInBounds_toArray, List.set_cons_zero, List.set_cons_succ])
    refine seqM_nil ?_
    intro w2 hS
    have HS := Lib.hid hS; clear hS
    go_wp2_with fail
    go_end0
    exact ⟨rfl, ⟨HS.out.2.1, HS.out.2.2⟩, ((K.out.sub (by simp)).trans HS.out.1)⟩
end Go.Proofs.Ytanlecgpnknhoaa
