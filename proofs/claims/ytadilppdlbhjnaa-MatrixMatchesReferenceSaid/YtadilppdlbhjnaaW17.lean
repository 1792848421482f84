import Derived.Test.YtadilppdlbhjnaaW16
import Derived.Test.YtadilppdlbhjnaaGC
namespace Go.Proofs.Ytadilppdlbhjnaa
set_option linter.unusedSimpArgs false
set_option linter.unusedVariables false
open Go.RowKit
def h1 : List Gate := [⟨0, 0, 0⟩, ⟨1, 3, 0⟩]
def h2 : List Gate := [⟨0, 0, 0⟩, ⟨1, 3, 0⟩, ⟨1, 1, 0⟩]
def h3 : List Gate := [⟨0, 0, 0⟩, ⟨1, 3, 0⟩, ⟨1, 1, 0⟩, ⟨2, 2, 4⟩]
def h4 : List Gate := [⟨0, 0, 0⟩, ⟨1, 3, 0⟩, ⟨1, 1, 0⟩, ⟨2, 2, 4⟩, ⟨2, 2, 5⟩, ⟨2, 3, 4⟩, ⟨2, 9, 11⟩]
theorem btr {w w1 w2 : World} (h1 : Below w.heap.size w w1) (h2 : Below w1.heap.size w1 w2) : Below w.heap.size w w2 := h1.trans (h2.mono h1.size)
theorem bal {w w1 : World} (h1 : Below w.heap.size w w1) (x : Obj) : Below w.heap.size w (w1.alloc x) := btr h1 (by go_grown)
theorem Bx.drew {w : World} {b : Nat} {gs : List Gate} (h : Bx w b gs) : Bx w.drew b gs := h.up (by go_grown)
theorem Bx.own {w : World} {b : Nat} {p : Option Addr} {cap : Nat} {gs : List Gate} {a : Option Addr} {n c : Nat} (h : CAt w p cap gs) (h1 : w.cell? ⟨b, 0, none⟩ = some (.slice a n c)) (h2 : w.frozen? ⟨b, 0, none⟩ = false) : Bx (w.setCell ⟨b, 0, none⟩ (.slice p gs.length cap)) b gs :=
 ⟨p, cap, by go_cell, by rw [World.frozen?_setCell]; exact h2, h.le, h.cm, h.p0, h.at'.setBox h1 (gEnc_ne_slice _ _ _) _⟩
theorem Bx.lit {w : World} {cs : Array Value} {gs : List Gate} {n : Nat} {t t2 : TypeId} (h : cs.toList = flat 3 gEnc gs) (hn : gs.length = n) (hm : n ≤ maxLen) : Bx ((w.alloc (.cells cs t)).alloc (.cells #[.slice (some ⟨w.heap.size, 0, none⟩) n n] t2)) (w.heap.size + 1) gs := by
 subst hn
 have e : (w.alloc (.cells cs t)).heap.size = w.heap.size + 1 := by simp
 have := Bx.new (w := w.alloc (.cells cs t)) (p := some ⟨w.heap.size, 0, none⟩) (cap := gs.length) (gs := gs) ⟨Nat.le_refl _, hm, fun h => (by cases h), SlAt.block h⟩ t2
 rw [e] at this
 exact this
theorem NewPost.c {w : World} {e : Ending} {w' : World} (h : NewPost w e w') : ∃ p, e = .returned (.agg #[.slice p cnew.length 1]) ∧ CAt w' p 1 cnew ∧ Below w.heap.size w w' := by
 obtain ⟨p, h1, h2, h3, h4, _⟩ := h
 exact ⟨p, h1, ⟨Nat.le_refl _, by decide, h3, h2⟩, h4⟩
theorem e1 : cinput cnew 3 = (h1, 2) := by decide
theorem e2 : cinput h1 1 = (h2, 4) := by decide
theorem e3 : cand h2 4 2 = (h3, 6) := by decide
theorem e4 : ciff h3 2 4 = (h4, 12) := by decide
theorem e5 : cand h4 2 3 = (h4, 1) := by decide
theorem e6 : cinput h4 0 = (h4, -1) := by decide
theorem e7 : cand h4 99 2 = (h4, -1) := by decide
end Go.Proofs.Ytadilppdlbhjnaa
