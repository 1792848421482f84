/- Texts R6, R7, R8, LB2 in one. -/
import Derived.Test.YtadilppdlbhjnaaGS
import Derived.Test.YtadilppdlbhjnaaLB
import Derived.Test.YtadilppdlbhjnaaHA15
namespace Go.Proofs.Ytadilppdlbhjnaa
set_option linter.unusedSimpArgs false
set_option linter.unusedVariables false
open Go.RowKit Go.Maps Go.Shelf
attribute [local go_sem] Oper.semAt_some

/-- What a round must keep: all blocks below N but bo. -/
def LowEq (N bo : Nat) (W W' : World) : Prop := W.heap.size ≤ W'.heap.size ∧ ∀ k, k < N → k ≠ bo → W'.heap[k]? = W.heap[k]?
theorem LowEq.refl (N bo : Nat) (W : World) : LowEq N bo W W := ⟨Nat.le_refl _, fun _ _ _ => rfl⟩
theorem LowEq.trans {N bo : Nat} {A B C : World} (h : LowEq N bo A B) (k : LowEq N bo B C) : LowEq N bo A C := ⟨Nat.le_trans h.1 k.1, fun i h1 h2 => (k.2 i h1 h2).trans (h.2 i h1 h2)⟩
theorem LowEq.put {N bo : Nat} {w : World} (hN : N ≤ w.heap.size) (W : World) (l : Nat) (o o' : Obj) (hl : w.heap.size ≤ l) (h : W.heap[l]? = some o) (_ : o.isCells = false) (_ : o.isWalk = false) : LowEq N bo W (W.putObj l o') :=
  ⟨Nat.le_of_eq (by simp [World.putObj]), fun k hk _ => World.putObj_heap_other (by omega)⟩
theorem LowEq.cell {bo : Nat} {w W : World} (h : LowEq w.heap.size bo w W) {b o : Nat} {v : Value} (hc : w.cell? ⟨b, o, none⟩ = some v) (hb : b ≠ bo) : W.cell? ⟨b, o, none⟩ = some v := by
  rw [World.cell?_of_block (w := w) (h.2 b (World.block_lt_of_cell? _ _ hc) hb)]; exact hc
theorem LowEq.up {bo : Nat} {w W W' : World} (h : LowEq w.heap.size bo w W) (hB : Below W.heap.size W W') : LowEq w.heap.size bo w W' := ⟨Nat.le_trans h.1 hB.size, fun k hk hb => (hB.block k (by have := h.1; omega)).trans (h.2 k hk hb)⟩
end Go.Proofs.Ytadilppdlbhjnaa

namespace Go.Proofs.Ytadilppdlbhjnaa
set_option linter.unusedSimpArgs false
set_option linter.unusedVariables false
open Go.RowKit Go.Maps Go.Shelf
attribute [local go_sem] Oper.semAt_some

/-- What stands between two rounds of relation.Join: the variable at bo holds what was yielded. -/
structure RJI (B bo : Nat) (w0 : World) (pre : List Int) (W : World) (v : Value) : Prop where
  c0 : W.cell? ⟨bo, 0, none⟩ = some v
  fr : W.frozen? ⟨bo, 0, none⟩ = false
  own : OwnR W B v pre
  kx : KeepX [bo] w0 W
theorem RJI.ownF {B bo : Nat} {w0 : World} (hs : w0.heap.size ≤ B) : OwnFrom B (fun pre W => ∃ v, RJI B bo w0 pre W v) := by
  rintro pre W W' row ⟨v, h⟩ hg hr0
  have hr : ∀ r, row = some r → ∃ o : Obj, W.heap[r]? = some o ∧ o.isCells = false := fun r e => (hr0 r e).2
  refine ⟨v, cell_kept h.c0 hg hr, (frozen_kept h.c0 hg hr).trans h.fr, owns_kept h.own hg hr, ?_⟩
  exact ⟨hg.os.trans h.kx.os, hg.tape.trans h.kx.tape, hg.output.trans h.kx.output, Nat.le_trans h.kx.size hg.size, fun k hk hx => (hg.block k (Nat.lt_of_lt_of_le hk h.kx.size) (fun e => by have := (hr0 k e.symm).1; omega)).trans (h.kx.block k hk hx)⟩

/-- what a round leaves -/
theorem RJI.next {B bo : Nat} {w0 W W1 : World} {pre : List Int} {v v2 : Value} {x : Int} (h : RJI B bo w0 pre W v) (hbo : bo < B) (hB : w0.heap.size = B) (hk1 : KeepX (rowOf v) W W1) (ho : OwnR W1 B v2 (pre ++ [x])) :
    KeepsFrom B W (W1.setCell ⟨bo, 0, none⟩ v2) ∧ LowEq B bo W (W1.setCell ⟨bo, 0, none⟩ v2) ∧ ∃ v', RJI B bo w0 (pre ++ [x]) (W1.setCell ⟨bo, 0, none⟩ v2) v' := by
  have hrow : ∀ k, k ∈ rowOf v → B ≤ k ∧ k < W.heap.size := fun k hk => h.own.lt k (rowOf_mem hk)
  have hnb : bo ∉ rowOf v := fun hm => by have := (hrow _ hm).1; omega
  have KT : KeepX (bo :: rowOf v) W (W1.setCell ⟨bo, 0, none⟩ v2) := (hk1.sub fun k hk => List.mem_cons_of_mem _ hk).setCell (by simp) _
  have c1 := hk1.cell h.c0 hnb
  have f1 := hk1.free h.fr (World.block_lt_of_cell? _ _ h.c0) hnb
  refine ⟨⟨KT.size, fun k o hBk ho' hc => ?_⟩, ⟨KT.size, fun k hk hne => ?_⟩, v2, World.cell?_setCell_same _ _ _ c1, by rw [World.frozen?_setCell]; exact f1, ho.keep (X := [bo]) ((KeepX.refl [bo] W1).setCell (by simp) _) (fun k hk hm => by have := (ho.lt k hk).1; rw [List.mem_singleton.1 hm] at this; omega), ?_⟩
  · rw [KT.block k (Array.getElem?_eq_some_iff.1 ho').1 (fun hm => ?_)]
    · exact ho'
    · rcases List.mem_cons.1 hm with e | hm
      · omega
      · have hv := rowOf_mem hm
        rcases h.own.2 with ⟨h0, _⟩ | ⟨g, cap, cur, hg', _, hh, _⟩
        · rw [h0] at hv; cases hv
        · rw [hg'] at hv; cases hv
          rw [hh] at ho'; cases ho'; cases hc
  · refine KT.block k ?_ fun hm => ?_
    · have := h.kx.size; omega
    · rcases List.mem_cons.1 hm with e | hm
      · exact hne e
      · have := (hrow k hm).1; omega
  · exact ((h.kx.sub (by simp)).trans KT).fresh fun k hk => by
      rcases List.mem_cons.1 hk with e | hm
      · exact .inl (by rw [e]; simp)
      · exact .inr (by have := (hrow k hm).1; omega)
theorem MSt.up {w w' : World} {B ba bb bn bs bm nn : Nat} {n p : Int} {a : List Int} {pa : Option Addr} {ca : Nat} {S : Int → Value} {F : Int → List Int} (h : MSt w B ba bb bn bs bm nn n p a pa ca S F) (hB : Below w.heap.size w w') : MSt w' B ba bb bn bs bm nn n p a pa ca S F :=
  ⟨oldcell hB h.a1 (World.block_lt_of_cell? _ _ h.a1), oldcell hB h.m0 (World.block_lt_of_cell? _ _ h.m0), oldcell hB h.n0 (World.block_lt_of_cell? _ _ h.n0), oldcell hB h.p0 (World.block_lt_of_cell? _ _ h.p0), h.by'.keep (hB.block _ h.by'.lt), h.rows.keep (X := []) (KeepX.of_below hB) (by simp), h.hB⟩

end Go.Proofs.Ytadilppdlbhjnaa

namespace Go.Proofs.Ytadilppdlbhjnaa
set_option linter.unusedSimpArgs false
set_option linter.unusedVariables false
open Go.RowKit Go.Maps

end Go.Proofs.Ytadilppdlbhjnaa

namespace Go.Proofs.Ytadilppdlbhjnaa
set_option linter.unusedSimpArgs false
set_option linter.unusedVariables false
open Go.RowKit

theorem BoolsAt.up {w w' : World} {p : Option Addr} {l : List Bool} (h : BoolsAt w p l) (hB : Below w.heap.size w w') : BoolsAt w' p l := h.mono hB
end Go.Proofs.Ytadilppdlbhjnaa
