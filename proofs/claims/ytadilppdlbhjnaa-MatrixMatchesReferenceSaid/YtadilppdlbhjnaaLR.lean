import Derived.Test.YtadilppdlbhjnaaLB
import Derived.Test.YtadilppdlbhjnaaGC
namespace Go.Proofs.Ytadilppdlbhjnaa
set_option linter.unusedSimpArgs false
set_option linter.unusedVariables false
open Go.RowKit
abbrev PX := Option Addr × Nat × Option Addr × Nat × Nat
structure Ent where
 val : PX → Value
 t : PX → World → Prop
 st : ∀ x w w', t x w → Below w.heap.size w w' → t x w'
def tabL : List (Nat × Ent) → Nat → Ent
 | [], _ => ⟨fun _ => undef, fun _ _ => True, fun _ _ _ _ _ => trivial⟩
 | (k, e) :: r, i => if i = k then e else tabL r i
abbrev eCM (d : List Gate) (ar : Int) (m : List Cell) : Ent := ⟨fun x => .tuple #[.agg #[.slice x.1 d.length x.2.1], .agg #[.int .i64 ar, .slice x.2.2.1 m.length x.2.2.2.1]], fun x w => CAt w x.1 x.2.1 d ∧ MxAt w x.2.2.1 x.2.2.2.1 m, fun x w w' h hB => ⟨h.1.mono hB, h.2.up hB⟩⟩
abbrev eCI (d : List Gate) (r : Int) : Ent := ⟨fun x => .tuple #[.agg #[.slice x.1 d.length x.2.1], .int .i64 r], fun x w => CAt w x.1 x.2.1 d, fun x w w' h hB => h.mono hB⟩
abbrev eC (d : List Gate) : Ent := ⟨fun x => .agg #[.slice x.1 d.length x.2.1], fun x w => CAt w x.1 x.2.1 d, fun x w w' h hB => h.mono hB⟩
abbrev eM (ar : Int) (m : List Cell) : Ent := ⟨fun x => .agg #[.int .i64 ar, .slice x.2.2.1 m.length x.2.2.2.1], fun x w => MxAt w x.2.2.1 x.2.2.2.1 m, fun x w w' h hB => h.up hB⟩
abbrev eR (ar : Int) (l : List Int) : Ent := ⟨fun x => .agg #[.int .i64 ar, .slice x.2.2.1 l.length x.2.2.2.1], fun x w => SI w x.2.2.1 x.2.2.2.1 l, fun x w w' h hB => h.up hB⟩
abbrev eS (n : Nat) (l : List Int) : Ent := ⟨fun x => .slice (some ⟨x.2.2.2.2, 0, none⟩) n n, fun x w => SI w (some ⟨x.2.2.2.2, 0, none⟩) n l, fun x w w' h hB => h.up hB⟩
abbrev eX (n : Nat) (m : List Cell) : Ent := ⟨fun x => .slice (some ⟨x.2.2.2.2, 0, none⟩) n n, fun x w => MxAt w (some ⟨x.2.2.2.2, 0, none⟩) n m, fun x w w' h hB => h.up hB⟩
abbrev eB (n : Nat) (l : List Bool) : Ent := ⟨fun x => .slice (some ⟨x.2.2.2.2, 0, none⟩) n n, fun x w => BoolsAt w (some ⟨x.2.2.2.2, 0, none⟩) l, fun x w w' h hB => SlAt.mono h hB⟩
abbrev eK (v : Value) : Ent := ⟨fun _ => v, fun _ _ => True, fun _ _ _ _ _ => trivial⟩
abbrev eVC (s : Nat) : Ent := ⟨fun x => .pointer (some ⟨x.2.2.2.2, 0, none⟩), fun x w => s ≤ x.2.2.2.2 ∧ Cells w [(x.2.2.2.2, 0, .slice none 0 0)], fun x w w' h hB => ⟨h.1, h.2.up hB⟩⟩
abbrev eVM (s : Nat) : Ent := ⟨fun x => .pointer (some ⟨x.2.2.2.2, 0, none⟩), fun x w => s ≤ x.2.2.2.2 ∧ Cells w [(x.2.2.2.2, 0, .int .i64 0), (x.2.2.2.2, 1, .slice none 0 0)], fun x w w' h hB => ⟨h.1, h.2.up hB⟩⟩
section
variable {P : Program} {ops : Array Oper} {Q : Exit → Act → World → Prop} {tab : Nat → Ent} {S0 : World → Prop}
def SeqT2 (tab : Nat → Ent) (S0 : World → Prop) (P : Program) (ops : Array Oper) (Q : Exit → Act → World → Prop) (sc : List (Nat × Nat)) (ot : OT) (a : Act) (F : Fx) : Prop := SeqR (fun i => (tab i).val) (fun i => (tab i).t) S0 P ops Q sc ot a F
theorem wp_region_tab {id : Nat} {a : Act} {w : World} (B : World) (tab : Nat → Ent) (sc : List (Nat × Nat)) (ot : OT) (hm : P.follows .mixedOrders = true) (hok' : fastOk .any ops = true) (hord : ordROk .any ops sc ot = true) (hS : Below B.heap.size B w.drew)
 (h : SeqT2 tab (fun x => Below B.heap.size B x) P ops Q sc ot a (fun _ _ => True)) : (Code.region id ops true).wp P Q a w :=
 wp_region_seqR (fun i => (tab i).val) (fun i => (tab i).t) (fun x => Below B.heap.size B x) sc ot hm hok' hord hS (fun i x w w' => (tab i).st x w w') (fun w w' h k => btr h k) h
variable {o : Oper} {rest : List (Nat × Nat)} {ot : OT} {a : Act} {v : Value} {i : Nat} {tl : List Oper} {F : Fx} {e : Ent}
theorem seqX_nil (h : SeqE P ops Q ot a (fun w => S0 w ∧ ∀ k, F k w)) : SeqT2 tab S0 P ops Q [] ot a F := h
theorem seqX_pure (hi : ops.toList.drop i = o :: tl) (hw : Region.wanted o (yielded ops a.tmps) = true) (hy : ∀ w, S0 w → (∀ k, ancB (ops.toList.map (amask .any)) i k = true → F k w) → (execOp a.eval o).run P w = .ok (.value v) w)
 (h : SeqT2 tab S0 P ops Q rest ot (a.put o.dst v) F) : SeqT2 tab S0 P ops Q ((i, 0) :: rest) ot a F := seqR_pure hi hw hy h
theorem seqX_free (hi : ops.toList.drop i = o :: tl) (hw : Region.wanted o (yielded ops a.tmps) = true) (hy : ∀ w, (execOp a.eval o).run P w = .ok (.value v) w)
 (h : SeqT2 tab S0 P ops Q rest ot (a.put o.dst v) F) : SeqT2 tab S0 P ops Q ((i, 2) :: rest) ot a F := seqR_free hi hw hy h
theorem seqX_call {f : FuncId} {args : Array Value} (he : tab i = e) (hi : ops.toList.drop i = o :: tl) (hw : Region.wanted o (yielded ops a.tmps) = true) (hy : ∀ w, (execOp a.eval o).run P w = .ok (.enter f args) w)
 (hc : ∀ w, S0 w → (∀ k, ancB (ops.toList.map (amask .any)) i k = true → F k w) → Calls P f args w fun r w' => Below w.heap.size w w' ∧ ∃ x, r = .returned (e.val x) ∧ e.t x w')
 (h : ∀ x, SeqT2 tab S0 P ops Q rest ot (a.put o.dst (e.val x)) (updF F i (e.t x))) : SeqT2 tab S0 P ops Q ((i, 1) :: rest) ot a F := by
 subst he; exact seqR_call hi hw hy hc h
theorem seqX_move (he : tab i = e) (hi : ops.toList.drop i = o :: tl) (hw : Region.wanted o (yielded ops a.tmps) = true)
 (hc : ∀ w, S0 w → ∃ x w', (execOp a.eval o).run P w = .ok (.value (e.val x)) w' ∧ Below w.heap.size w w' ∧ e.t x w')
 (h : ∀ x, SeqT2 tab S0 P ops Q rest ot (a.put o.dst (e.val x)) (updF F i (e.t x))) : SeqT2 tab S0 P ops Q ((i, 1) :: rest) ot a F := by
 subst he; exact seqR_move hi hw (fun w hS _ => hc w hS) h
end
theorem RetCM.x {w w' : World} {c : List Gate} {ar : Int} {m : List Cell} {e : Ending} (h : RetCM w c ar m e w') : Below w.heap.size w w' ∧ ∃ x, e = .returned ((eCM c ar m).val x) ∧ (eCM c ar m).t x w' := by
 obtain ⟨p, cap, q, cq, h1, h2, h3, h4⟩ := h; exact ⟨h4, ⟨p, cap, q, cq, 0⟩, h1, h2, h3⟩
theorem RetC.x {w w' : World} {c : List Gate} {r : Int} {e : Ending} (h : RetC w c r e w') : Below w.heap.size w w' ∧ ∃ x, e = .returned ((eCI c r).val x) ∧ (eCI c r).t x w' := by
 obtain ⟨p, cap, h1, h2, h3⟩ := h; exact ⟨h3, ⟨p, cap, none, 0, 0⟩, h1, h2⟩
theorem RetN.x {w w' : World} {e : Ending} (h : RetN w e w') : Below w.heap.size w w' ∧ ∃ x, e = .returned ((eC cnew).val x) ∧ (eC cnew).t x w' := by
 obtain ⟨p, cap, h1, h2, h3⟩ := h; exact ⟨h3, ⟨p, cap, none, 0, 0⟩, h1, h2⟩
theorem RetM.x {w w' : World} {ar : Int} {m : List Cell} {e : Ending} (h : RetM w ar m e w') : Below w.heap.size w w' ∧ ∃ x, e = .returned ((eM ar m).val x) ∧ (eM ar m).t x w' := by
 obtain ⟨p, cap, h1, h2, h3⟩ := h; exact ⟨h3, ⟨none, 0, p, cap, 0⟩, h1, h2⟩
theorem RetR.x {w w' : World} {ar : Int} {l : List Int} {e : Ending} (h : RetR w ar l e w') : Below w.heap.size w w' ∧ ∃ x, e = .returned ((eR ar l).val x) ∧ (eR ar l).t x w' := by
 obtain ⟨p, cap, h1, h2, h3⟩ := h; exact ⟨h3, ⟨none, 0, p, cap, 0⟩, h1, h2⟩
theorem keep_x {w w' : World} {v : Value} {e : Ending} (h : e = .returned v ∧ Below w.heap.size w w') : Below w.heap.size w w' ∧ ∃ x, e = .returned ((eK v).val x) ∧ (eK v).t x w' := ⟨h.2, ⟨none, 0, none, 0, 0⟩, h.1, trivial⟩
structure TLm (s : Nat) (W : World) (ba bm : Nat) (p : Option Addr) (cap : Nat) (C : List Gate) (q : Option Addr) (cq : Nat) (m : List Cell) (w : World) : Prop where
 bel : Below W.heap.size W w
 sz : W.heap.size = s
 ga : s ≤ ba
 gm : s ≤ bm
 ca : Cells w [(ba, 0, .slice none 0 0)]
 cm : Cells w [(bm, 0, .int .i64 0), (bm, 1, .slice none 0 0)]
 hC : CAt w p cap C
 hM : MxAt w q cq m
structure T2m (s : Nat) (W : World) (ba bm : Nat) (C : List Gate) (q : Option Addr) (cq : Nat) (m : List Cell) (w : World) : Prop where
 bel : Below W.heap.size W w
 sz : W.heap.size = s
 gm : s ≤ bm
 ne : ba ≠ bm
 cm : Cells w [(bm, 0, .int .i64 0), (bm, 1, .slice none 0 0)]
 hB : Bx w ba C
 hM : MxAt w q cq m
theorem TLm.s1 {s : Nat} {W : World} {ba bm : Nat} {p : Option Addr} {cap : Nat} {C : List Gate} {q : Option Addr} {cq : Nat} {m : List Cell} {w : World} (h : TLm s W ba bm p cap C q cq m w) : T2m s W ba bm C q cq m (w.setCell ⟨ba, 0, none⟩ (.slice p C.length cap)) := by
 have hne : ba ≠ bm := fun e => by
  have h1 := h.ca.1.1; have h2 := h.cm.1.1
  rw [e, h2] at h1; simp at h1
 obtain ⟨⟨c1, c1f⟩, -⟩ := h.ca
 exact ⟨Below.setCell h.bel (by have := h.sz; have := h.ga; (try dsimp only); omega) _, h.sz, h.gm, hne, h.cm.far (by simp; exact hne), Bx.at (h.hC.box c1 _) (by go_cell) (fz c1f), h.hM.box c1 _⟩
theorem T2m.s2 {s : Nat} {W : World} {ba bm : Nat} {C : List Gate} {q : Option Addr} {cq : Nat} {m : List Cell} {w : World} {ar : Int} (h : T2m s W ba bm C q cq m w) :
 Bx ((w.setCell ⟨bm, 0, none⟩ (.int .i64 ar)).setCell ⟨bm, 1, none⟩ (.slice q m.length cq)) ba C ∧ BM ((w.setCell ⟨bm, 0, none⟩ (.int .i64 ar)).setCell ⟨bm, 1, none⟩ (.slice q m.length cq)) bm ar m ∧ Below W.heap.size W ((w.setCell ⟨bm, 0, none⟩ (.int .i64 ar)).setCell ⟨bm, 1, none⟩ (.slice q m.length cq)) := by
 obtain ⟨⟨c0, c0f⟩, ⟨c1, c1f⟩, -⟩ := h.cm
 obtain ⟨p, cap, b1, b2, b3⟩ := h.hB
 have hne := h.ne
 have hne' : bm ≠ ba := Ne.symm hne
 refine ⟨Bx.at (b3.boxM c1 _ _) (keep_far (keep_far b1 hne') hne') (fz (fz b2)), ⟨q, cq, ⟨⟨by go_cell, fz (fz c0f)⟩, ⟨by go_cell, fz (fz c1f)⟩, trivial⟩, h.hM.boxM c1 _ _⟩, ?_⟩
 exact Below.setCell (Below.setCell h.bel (by have := h.sz; have := h.gm; (try dsimp only); omega) _) (by have := h.sz; have := h.gm; (try dsimp only); omega) _
end Go.Proofs.Ytadilppdlbhjnaa
