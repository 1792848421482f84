/- Walk of layer 14: Override. -/
import Derived.Test.YtadilppdlbhjnaaGP
import Derived.Test.YtadilppdlbhjnaaGV
import Derived.Test.YtadilppdlbhjnaaN18
import Derived.Test.YtadilppdlbhjnaaSeqI
namespace Go.Proofs.Ytadilppdlbhjnaa
set_option linter.unusedSimpArgs false
set_option linter.unusedVariables false
open Go.RowKit

attribute [local go_sem] Oper.semAt_some
variable {L0 : List Nat} {bb bm ka kb : Nat} {ar : Int} {w0 W w1 w2 : World} {C c2 : List Gate} {M m2 : List Cell} {v : Value}
theorem PI.ownF {α : Type} {X : List α → List Gate × List Cell} : OwnFrom w0.heap.size (fun (pre : List α) W => ∃ v, PI L0 bb bm ar w0 (X pre).1 (X pre).2 v W) := by
  rintro pre W W' row ⟨v, h⟩ hg hr0
  have hr : ∀ r, row = some r → ∃ o : Obj, W.heap[r]? = some o ∧ o.isCells = false := fun r e => (hr0 r e).2
  obtain ⟨p, cap, x1, x2, x3, x4⟩ := h.bx
  refine ⟨v, ⟨cell_kept h.g.c0 hg hr, cell_kept h.g.c1 hg hr, (frozen_kept h.g.c0 hg hr).trans h.g.fr, (frozen_kept h.g.c1 hg hr).trans h.g.fr1, owns_kept h.g.own hg hr, h.g.hb, Nat.le_trans h.g.hB hg.size⟩,
    ⟨p, cap, cell_kept x1 hg hr, (frozen_kept x1 hg hr).trans x2, ⟨x3.le, x3.cm, x3.p0, slat_kept x3.at' hg hr⟩, x4⟩, ?_⟩
  exact ⟨hg.os.trans h.kx.os, hg.tape.trans h.kx.tape, hg.output.trans h.kx.output, Nat.le_trans h.kx.size hg.size, fun k hk hx => (hg.block k (Nat.lt_of_lt_of_le hk h.kx.size) (fun e => by have := (hr0 k e.symm).1; omega)).trans (h.kx.block k hk hx)⟩
theorem PI.keeps (h : PI L0 bb bm ar w0 C M v W) (KT : KeepX (bb :: bm :: rowOf v) W w2) (hb1 : bb < w0.heap.size) (hb2 : bm < w0.heap.size) (ha : ka < w0.heap.size) (ha1 : ka ≠ bb) (ha2 : ka ≠ bm) (hb : kb < w0.heap.size) (hb3 : kb ≠ bb) (hb4 : kb ≠ bm) :
    KeepsFrom w0.heap.size W w2 ∧ KpB ka kb W w2 := by
  have hnot : ∀ k, k ≠ bb → k ≠ bm → k < w0.heap.size → k ∉ bb :: bm :: rowOf v := by
    intro k h1 h2 h3 hm
    rcases List.mem_cons.1 hm with e | hm
    · exact h1 e
    · rcases List.mem_cons.1 hm with e | hm
      · exact h2 e
      · have := (h.row hm).1; omega
  have hsz := h.kx.size
  refine ⟨⟨KT.size, fun k o hB ho hc => ?_⟩, ⟨KT.block ka (by omega) (hnot ka ha1 ha2 ha), KT.block kb (by omega) (hnot kb hb3 hb4 hb)⟩⟩
  have hkl := (Array.getElem?_eq_some_iff.1 ho).1
  rw [KT.block k hkl (fun hm => ?_)]
  · exact ho
  · rcases List.mem_cons.1 hm with e | hm
    · omega
    · rcases List.mem_cons.1 hm with e | hm
      · omega
      · have hv := rowOf_mem hm
        rcases h.g.own.2 with ⟨h0, _⟩ | ⟨g, cap, cur, hg', _, hh, _⟩
        · rw [h0] at hv; cases hv
        · rw [hg'] at hv; cases hv
          rw [hh] at ho; cases ho; cases hc
end Go.Proofs.Ytadilppdlbhjnaa
