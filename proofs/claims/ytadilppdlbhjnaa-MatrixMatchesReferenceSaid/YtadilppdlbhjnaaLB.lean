import Derived.Test.YtadilppdlbhjnaaJ1
import Derived.Test.YtadilppdlbhjnaaM7
import Derived.Test.YtadilppdlbhjnaaN1
import Derived.Test.YtadilppdlbhjnaaMH
import Derived.Test.YtadilppdlbhjnaaN12
import Derived.Test.YtadilppdlbhjnaaGH
import Derived.Test.YtadilppdlbhjnaaR1
import Derived.Test.YtadilppdlbhjnaaM5
namespace Go.Proofs.Ytadilppdlbhjnaa
set_option linter.unusedSimpArgs false
set_option linter.unusedVariables false
open Go.RowKit
def BM (w : World) (b : Nat) (ar : Int) (m : List Cell) : Prop := ∃ q cq, Cells w [(b, 0, .int .i64 ar), (b, 1, .slice q m.length cq)] ∧ MxAt w q cq m
theorem BM.up {w w' : World} {b : Nat} {ar : Int} {m : List Cell} (h : BM w b ar m) (hB : Below w.heap.size w w') : BM w' b ar m := by
 obtain ⟨q, cq, h1, h2⟩ := h; exact ⟨q, cq, h1.up hB, h2.up hB⟩
theorem BM.new {w : World} {q : Option Addr} {cq : Nat} {ar : Int} {m : List Cell} (h : MxAt w q cq m) (t : TypeId) : BM (w.alloc (.cells #[.int .i64 ar, .slice q m.length cq] t)) w.heap.size ar m :=
 ⟨q, cq, ⟨⟨by go_cell, by go_cell⟩, ⟨by go_cell, by go_cell⟩, trivial⟩, h.up (by go_grown)⟩
theorem BM.newAt {w : World} {q : Option Addr} {cq b : Nat} {ar : Int} {m : List Cell} (h : MxAt w q cq m) (t : TypeId) (hb : b = w.heap.size) : BM (w.alloc (.cells #[.int .i64 ar, .slice q m.length cq] t)) b ar m := hb ▸ BM.new h t
theorem BM.lt {w : World} {b : Nat} {ar : Int} {m : List Cell} (h : BM w b ar m) : b < w.heap.size := by
 obtain ⟨q, cq, h1, h2⟩ := h; exact World.block_lt_of_cell? _ _ h1.1.1
theorem Bx.at {w : World} {b : Nat} {gs : List Gate} {p : Option Addr} {cap : Nat} (h : CAt w p cap gs) (h0 : w.cell? ⟨b, 0, none⟩ = some (.slice p gs.length cap)) (h1 : w.frozen? ⟨b, 0, none⟩ = false) : Bx w b gs := ⟨p, cap, h0, h1, h⟩
theorem CAt.boxM {w : World} {p a : Option Addr} {cap b n c : Nat} {gs : List Gate} (h : CAt w p cap gs) (h1 : w.cell? ⟨b, 1, none⟩ = some (.slice a n c)) (v v' : Value) : CAt ((w.setCell ⟨b, 0, none⟩ v).setCell ⟨b, 1, none⟩ v') p cap gs := by
 have key : CAt (w.setCell ⟨b, 0, none⟩ v) p cap gs := by
  refine ⟨h.le, h.cm, h.p0, ?_⟩
  rcases h.at' with h0 | ⟨b', off, hp, hb, hc⟩
  · exact .inl h0
  · refine .inr ⟨b', off, hp, by simpa using hb, fun i x hi j hj => ?_⟩
    by_cases e : b = b' ∧ 0 = off + i * 3 + j
    · obtain ⟨rfl, e⟩ := e
      have := hc i x hi 1 (by omega)
      rw [show off + i * 3 + 1 = 1 by omega, h1] at this
      simp [gEnc] at this
    · rw [World.cell?_setCell_other (h := by intro e2; simp only [Addr.mk.injEq, and_true] at e2; exact e e2)]; exact hc i x hi j hj
 exact key.box (a := a) (n := n) (c := c) (by rw [World.cell?_setCell_other (h := by simp)]; exact h1) v'
theorem MxAt.boxM {w : World} {p a : Option Addr} {cap b n c : Nat} {m : List Cell} (h : MxAt w p cap m) (h1 : w.cell? ⟨b, 1, none⟩ = some (.slice a n c)) (v v' : Value) : MxAt ((w.setCell ⟨b, 0, none⟩ v).setCell ⟨b, 1, none⟩ v') p cap m := by
 have key : MxAt (w.setCell ⟨b, 0, none⟩ v) p cap m := by
  refine ⟨h.le, h.cm, h.p0, ?_, fun x hx => by have := h.lt x hx; simpa using this⟩
  rcases h.at' with h0 | ⟨b', off, hp, hb, hc⟩
  · exact .inl h0
  · refine .inr ⟨b', off, hp, by simpa using hb, fun i x hi j hj => ?_⟩
    by_cases e : b = b' ∧ 0 = off + i * 2 + j
    · obtain ⟨rfl, e⟩ := e
      have := hc i x hi 1 (by omega)
      rw [show off + i * 2 + 1 = 1 by omega, h1] at this
      simp [cEnc] at this
    · rw [World.cell?_setCell_other (h := by intro e2; simp only [Addr.mk.injEq, and_true] at e2; exact e e2)]; exact hc i x hi j hj
 exact key.box (a := a) (n := n) (c := c) (by rw [World.cell?_setCell_other (h := by simp)]; exact h1) v'
theorem RetCMY.cm {w w' : World} {p q : Option Addr} {c : List Gate} {ar : Int} {m : List Cell} {e : Ending} (h : RetCMY w p q c ar m e w') : RetCM w c ar m e w' := by
 obtain ⟨p, cap, q, cq, h1, h2, h3, h4, _⟩ := h; exact ⟨p, cap, q, cq, h1, h2, h3, h4⟩
theorem RetCMF.cm {w w' : World} {p q : Option Addr} {c : List Gate} {ar : Int} {m : List Cell} {e : Ending} (h : RetCMF w p q c ar m e w') : RetCM w c ar m e w' := by
 obtain ⟨p, cap, q, cq, h1, h2, h3, h4, _⟩ := h; exact ⟨p, cap, q, cq, h1, h2, h3, h4⟩
theorem RetCMB.cm {w w' : World} {p : Option Addr} {c : List Gate} {ar : Int} {m : List Cell} {e : Ending} (h : RetCMB w p c ar m e w') : RetCM w c ar m e w' := by
 obtain ⟨p, cap, q, cq, h1, h2, h3, h4, _⟩ := h; exact ⟨p, cap, q, cq, h1, h2, h3, h4⟩
theorem RetCF.c {w w' : World} {p : Option Addr} {c : List Gate} {r : Int} {e : Ending} (h : RetCF w p c r e w') : RetC w c r e w' := by
 obtain ⟨p, cap, h1, h2, h3, _⟩ := h; exact ⟨p, cap, h1, h2, h3⟩
theorem RetCM.eq {w w' : World} {x : List Gate × List Cell} {D : List Gate} {J : List Cell} {ar : Int} {e : Ending} (h : RetCM w x.1 ar x.2 e w') (e1 : x = (D, J)) : RetCM w D ar J e w' := by subst e1; exact h
theorem RetC.eq {w w' : World} {x : List Gate × Int} {D : List Gate} {r : Int} {e : Ending} (h : RetC w x.1 x.2 e w') (e1 : x = (D, r)) : RetC w D r e w' := by subst e1; exact h
theorem mMade_ok {refs : List Int} {c : List Gate} (hr : RefsIn refs c.length) (hc : 0 < c.length) (vs : List Nat) (N : Nat) : MOk c (N : Int) (mMade refs vs N) := by
 have key : ∀ k : Nat, MOk c (k : Int) (mkTo refs vs k) := by
  intro k
  induction k with
  | zero => exact ⟨List.Pairwise.nil, (fun x hx => by cases hx), fun x hx => by cases hx⟩
  | succ k ih =>
   rw [mkTo]
   split
   · rename_i h
     obtain ⟨h1, h2⟩ := h
     have h3 := cpick_in hr hc (vs.getD k 0 / 2)
     refine ⟨List.pairwise_append.2 ⟨ih.sorted, List.pairwise_singleton _ _, fun x hx y hy => ?_⟩, fun x hx => ?_, fun x hx => ?_⟩
     · obtain rfl := List.mem_singleton.1 hy
       exact (ih.ranks x hx).2
     · rcases List.mem_append.1 hx with h | h
       · exact ih.refs x h
       · obtain rfl := List.mem_singleton.1 h
         exact ⟨h3.1, h3.2, h2⟩
     · rcases List.mem_append.1 hx with h | h
       · have := ih.ranks x h; omega
       · obtain rfl := List.mem_singleton.1 h
         exact ⟨by show (0 : Int) ≤ (k : Int); omega, by show (k : Int) < _; omega⟩
   · exact ⟨ih.sorted, ih.refs, fun x hx => by have := ih.ranks x hx; omega⟩
 have := key (min N vs.length)
 exact ⟨this.sorted, this.refs, fun x hx => by have := this.ranks x hx; omega⟩
section
variable {c d : List Gate} {a m : List Cell} {n : Nat} {p pa : Option Addr} {cap ca : Nat} {w W : World} {r : Int}
variable (hC : CAt W p cap c) (hA : MxAt W pa ca a) (hB : Below W.heap.size W w) (hn0 : 0 < n) (hn : n ≤ 4) (hg : Good c) (hl : c.length + 2400 ≤ 20000) (ha : MOk c ((n * n : Nat) : Int) a)
include hC hA hB hn0 hn hg hl ha
end
theorem same14_is {m : List Cell} {ar : Int} {p q : Option Addr} {cap cq : Nat} {w W : World} (h : MxAt W p cap m) (k : MxAt W q cq m) (hB : Below W.heap.size W w) (hl : m.length ≤ 20000) :
 Calls Try.prog 27 #[.agg #[.int .i64 ar, .slice p m.length cap], .agg #[.int .i64 ar, .slice q m.length cq]] w (RetB w true) := same14_any m ar p q cap cq w (h.up hB) (k.up hB) hl
def BR (w : World) (b : Nat) (ar : Int) (l : List Int) : Prop := ∃ q cq, Cells w [(b, 0, .int .i64 ar), (b, 1, .slice q l.length cq)] ∧ SI w q cq l
theorem BR.up {w w' : World} {b : Nat} {ar : Int} {l : List Int} (h : BR w b ar l) (hB : Below w.heap.size w w') : BR w' b ar l := by
 obtain ⟨q, cq, h1, h2⟩ := h; exact ⟨q, cq, h1.up hB, h2.up hB⟩
theorem BR.newAt {w : World} {q : Option Addr} {cq b : Nat} {ar : Int} {l : List Int} (h : SI w q cq l) (t : TypeId) (hb : b = w.heap.size) : BR (w.alloc (.cells #[.int .i64 ar, .slice q l.length cq] t)) b ar l :=
 hb ▸ ⟨q, cq, ⟨⟨by go_cell, by go_cell⟩, ⟨by go_cell, by go_cell⟩, trivial⟩, h.up (by go_grown)⟩
theorem SI.lit2 (a b : Int) (w : World) (t : TypeId) : SI (w.alloc (.cells #[.int .i64 a, .int .i64 b] t)) (some ⟨w.heap.size, 0, none⟩) 2 [a, b] :=
  ⟨by simp, by simp [maxLen], (fun h => by cases h), .inr ⟨_, _, rfl, by simp, fun i x hi j hj => by
    match i, hi with
    | 0, hi => obtain rfl : a = x := by simpa using hi
               obtain rfl : j = 0 := by omega
               show World.cell? _ _ = some (.int .i64 a); go_cell
    | 1, hi => obtain rfl : b = x := by simpa using hi
               obtain rfl : j = 0 := by omega
               show World.cell? _ _ = some (.int .i64 b); go_cell
    | i + 2, hi => simp at hi⟩, fun ad h => by cases h; simp⟩
theorem SI.lit3 (a b c : Int) (w : World) (t : TypeId) : SI (w.alloc (.cells #[.int .i64 a, .int .i64 b, .int .i64 c] t)) (some ⟨w.heap.size, 0, none⟩) 3 [a, b, c] :=
  ⟨by simp, by simp [maxLen], (fun h => by cases h), .inr ⟨_, _, rfl, by simp, fun i x hi j hj => by
    match i, hi with
    | 0, hi => obtain rfl : a = x := by simpa using hi
               obtain rfl : j = 0 := by omega
               show World.cell? _ _ = some (.int .i64 a); go_cell
    | 1, hi => obtain rfl : b = x := by simpa using hi
               obtain rfl : j = 0 := by omega
               show World.cell? _ _ = some (.int .i64 b); go_cell
    | 2, hi => obtain rfl : c = x := by simpa using hi
               obtain rfl : j = 0 := by omega
               show World.cell? _ _ = some (.int .i64 c); go_cell
    | i + 3, hi => simp at hi⟩, fun ad h => by cases h; simp⟩
theorem MxAt.lit2 (a b : Cell) (w : World) (t : TypeId) : MxAt (w.alloc (.cells #[.int .i64 a.rank, .int .i64 a.ref, .int .i64 b.rank, .int .i64 b.ref] t)) (some ⟨w.heap.size, 0, none⟩) 2 [a, b] :=
  ⟨by simp, by simp [maxLen], (fun h => by cases h), .inr ⟨_, _, rfl, by simp, fun i x hi j hj => by
    match i, hi with
    | 0, hi => obtain rfl : a = x := by simpa using hi
               match j, hj with
               | 0, _ => show World.cell? _ _ = some (.int .i64 a.rank); go_cell
               | 1, _ => show World.cell? _ _ = some (.int .i64 a.ref); go_cell
    | 1, hi => obtain rfl : b = x := by simpa using hi
               match j, hj with
               | 0, _ => show World.cell? _ _ = some (.int .i64 b.rank); go_cell
               | 1, _ => show World.cell? _ _ = some (.int .i64 b.ref); go_cell
    | i + 2, hi => simp at hi⟩, fun ad h => by cases h; simp⟩
theorem bools_lit (a : Bool) (w : World) (t : TypeId) : BoolsAt (w.alloc (.cells #[.bool a] t)) (some ⟨w.heap.size, 0, none⟩) [a] :=
  .inr ⟨_, _, rfl, by simp, fun i x hi j hj => by
    match i, hi with
    | 0, hi => obtain rfl : a = x := by simpa using hi
               obtain rfl : j = 0 := by omega
               show World.cell? _ _ = some (.bool a); go_cell
    | i + 1, hi => simp at hi⟩
def RetN (w : World) (e : Ending) (w' : World) : Prop := ∃ p cap, e = .returned (.agg #[.slice p cnew.length cap]) ∧ CAt w' p cap cnew ∧ Below w.heap.size w w'
theorem rnew_is (w : World) : Calls Try.prog 31 #[] w (RetN w) :=
 (rnew_any w).mono fun e w' ⟨p, h1, h2, h3, h4, _⟩ => ⟨p, 1, h1, ⟨Nat.le_refl _, by simp [maxLen], fun h => h3 h, h2⟩, h4⟩
theorem const_is {l : List Int} {ar : Int} {p : Option Addr} {cap : Nat} {w : World} {m : List Cell} (h : SI w p cap l) (hl : l.length ≤ 20000) (e : mConst l = m) :
 Calls Try.prog 29 #[.agg #[.int .i64 ar, .slice p l.length cap]] w (RetM w ar m) := e ▸ const_any l ar p cap w h hl
theorem mvalue_is {c : List Gate} {m : List Cell} {V : List Bool} {ar : Int} {p pm pv : Option Addr} {cap cm cv nv : Nat} {w : World} {l : List Int} (hC : CAt w p cap c) (hM : MxAt w pm cm m) (hV : BoolsAt w pv V) (hw : WfC c) (hl : c.length ≤ 20000) (hml : m.length ≤ 20000) (hn : V.length = nv) (hvl : nv ≤ maxLen) (e : mValue c V m = l) :
 Calls Try.prog 30 #[.agg #[.slice p c.length cap], .agg #[.int .i64 ar, .slice pm m.length cm], .slice pv nv cv] w (RetR w ar l) := by
 subst hn; exact e ▸ mvalue_any c m V ar p pm pv cap cm cv w hC hM hV hw hl hml hvl
theorem requal_is {a1 : Int} {a b : List Int} {p q : Option Addr} {c d : Nat} {w : World} (ha : SI w p c a) (hb : SI w q d b) (e : a = b) :
 Calls Try.prog 47 #[.agg #[.int .i64 a1, .slice p a.length c], .agg #[.int .i64 a1, .slice q b.length d]] w (RetB w true) :=
 (requal_any a1 a1 a b p q c d w ha hb).mono fun _ _ h => ⟨by rw [h.1, e]; simp, h.2⟩
end Go.Proofs.Ytadilppdlbhjnaa
