import Derived.Test.YtadilppdlbhjnaaGE
import Derived.Test.YtadilppdlbhjnaaW9
import Derived.Test.YtadilppdlbhjnaaW10
import Derived.Test.YtadilppdlbhjnaaW11
import Derived.Test.YtadilppdlbhjnaaW12
import Derived.Test.YtadilppdlbhjnaaGA
namespace Go.Proofs.Ytadilppdlbhjnaa
set_option linter.unusedSimpArgs false
set_option linter.unusedVariables false
open Go.RowKit
structure CAt (w : World) (p : Option Addr) (cap : Nat) (gs : List Gate) : Prop where
 le : gs.length ≤ cap
 cm : cap ≤ maxLen
 p0 : p = none → cap = 0
 at' : GatesAt w p gs
theorem CAt.mono {w w' : World} {p : Option Addr} {cap : Nat} {gs : List Gate} (h : CAt w p cap gs) (hB : Below w.heap.size w w') : CAt w' p cap gs := ⟨h.le, h.cm, h.p0, h.at'.mono hB⟩
def Bx (w : World) (b : Nat) (gs : List Gate) : Prop := ∃ p cap, w.cell? ⟨b, 0, none⟩ = some (.slice p gs.length cap) ∧ w.frozen? ⟨b, 0, none⟩ = false ∧ CAt w p cap gs
theorem Bx.lt {w : World} {b : Nat} {gs : List Gate} (h : Bx w b gs) : b < w.heap.size := by
 obtain ⟨p, cap, h1, _⟩ := h; exact World.block_lt_of_cell? w _ h1
theorem Bx.up {w w' : World} {b : Nat} {gs : List Gate} (h : Bx w b gs) (hB : Below w.heap.size w w') : Bx w' b gs := by
 have hb := h.lt
 obtain ⟨p, cap, h1, h2, h3⟩ := h
 exact ⟨p, cap, oldcell hB h1 hb, oldfree hB h2 hb, h3.mono hB⟩
theorem Bx.new {w : World} {p : Option Addr} {cap : Nat} {gs : List Gate} (h : CAt w p cap gs) (t : TypeId) : Bx (w.alloc (.cells #[.slice p gs.length cap] t)) w.heap.size gs :=
 ⟨p, cap, by go_cell, by go_cell, h.mono (by go_grown)⟩
theorem Bx.put {w : World} {b : Nat} {p : Option Addr} {cap : Nat} {gs hs : List Gate} (h : CAt w p cap gs) (hb : Bx w b hs) : Bx (w.setCell ⟨b, 0, none⟩ (.slice p gs.length cap)) b gs := by
 obtain ⟨p1, cap1, h1, h2, h3⟩ := hb
 exact ⟨p, cap, by go_cell, by rw [World.frozen?_setCell]; exact h2, h.le, h.cm, h.p0, h.at'.setBox h1 (gEnc_ne_slice _ _ _) _⟩
theorem Bx.far {w : World} {b b' : Nat} {v : Value} {gs hs : List Gate} (h : Bx w b gs) (hb : Bx w b' hs) (hne : b' ≠ b) : Bx (w.setCell ⟨b', 0, none⟩ v) b gs := by
 obtain ⟨p1, cap1, h1, h2, h3⟩ := hb
 obtain ⟨p, cap, k1, k2, k3⟩ := h
 exact ⟨p, cap, keep_far k1 hne, by rw [World.frozen?_setCell]; exact k2, k3.le, k3.cm, k3.p0, k3.at'.setBox h1 (gEnc_ne_slice _ _ _) _⟩
theorem Bx.alloc {w : World} {b : Nat} {gs : List Gate} (h : Bx w b gs) (x : Obj) : Bx (w.alloc x) b gs := h.up (by go_grown)
def RetC (w : World) (c : List Gate) (r : Int) (e : Ending) (w' : World) : Prop :=
 ∃ p cap, e = .returned (.tuple #[.agg #[.slice p c.length cap], .int .i64 r]) ∧ CAt w' p cap c ∧ Below w.heap.size w w'
theorem RetCirc.c {w : World} {p0 : Option Addr} {x y : List Gate} {r s : Int} {e : Ending} {w' : World} (h : RetCirc w p0 x r e w') (e1 : (x, r) = (y, s)) : RetC w y s e w' := by
 obtain ⟨p, cap, h1, h2, h3, h4, h5, h6, _⟩ := h
 cases e1
 exact ⟨p, cap, h1, ⟨h2, h3, h4, h5⟩, h6⟩
section
variable {gs c : List Gate} {a b r : Int} {p : Option Addr} {cap : Nat} {w W : World}
theorem rinput_is (h : CAt W p cap gs) (hB : Below W.heap.size W w) (e : cinput gs a = (c, r)) (hl : gs.length ≤ 20000) : Calls Try.prog 87 #[.agg #[.slice p gs.length cap], .int .i64 a] w (RetC w c r) :=
 (rinput_any gs a p cap w hl h.le h.cm h.p0 (h.at'.mono hB)).mono fun _ _ x => RetCirc.c x e
variable (h : CAt W p cap gs) (hB : Below W.heap.size W w) (ha : a ≤ 9223372036854775807) (hb : b ≤ 9223372036854775807) (hl : gs.length ≤ 20000)
include h hB ha hb hl
end
def RetB (w : World) (b : Bool) (e : Ending) (w' : World) : Prop := e = .returned (.bool b) ∧ Below w.heap.size w w'
section
variable {gs hs : List Gate} {vals : List Bool} {a r : Int} {p q pv : Option Addr} {cap cq cv n : Nat} {w W : World} {x : Bool}
theorem eval_is (h : CAt W p cap gs) (hB : Below W.heap.size W w) (hv : BoolsAt w pv vals) (hw : WfC gs) (e : ceval gs vals r = x) (hn : vals.length = n) (hl : gs.length ≤ 20000) (hvl : n ≤ maxLen) : Calls Try.prog 64 #[.agg #[.slice p gs.length cap], .slice pv n cv, .int .i64 r] w (RetB w x) := by
 subst hn
 exact (eval_any gs vals r p pv cap cv w hl h.le h.cm hvl hw (h.at'.mono hB) hv).mono fun _ _ y => ⟨y.1.trans (ret_bool e), y.2⟩
theorem reval_is (h : CAt W p cap gs) (hB : Below W.heap.size W w) (hv : BoolsAt w pv vals) (hw : WfC gs) (e : ceval gs vals r = x) (hn : vals.length = n) (hl : gs.length ≤ 20000) (hvl : n ≤ maxLen) : Calls Try.prog 40 #[.agg #[.slice p gs.length cap], .slice pv n cv, .int .i64 r] w (RetB w x) := by
 subst hn
 exact (reval_any gs vals r p pv cap cv w hl hvl hw (h.at'.mono hB) hv).mono fun _ _ y => ⟨y.1.trans (ret_bool e), y.2⟩
theorem same_is (h : CAt W p cap gs) (k : CAt W q cq hs) (hB : Below W.heap.size W w) (e : csame gs hs = x) : Calls Try.prog 26 #[.agg #[.slice p gs.length cap], .agg #[.slice q hs.length cq]] w (RetB w x) :=
 (same_any gs hs p q cap cq w (Nat.le_trans h.le h.cm) (Nat.le_trans k.le k.cm) (h.at'.mono hB) (k.at'.mono hB)).mono fun _ _ y => ⟨y.1.trans (ret_bool e), y.2⟩
end
theorem csame_self (gs : List Gate) : csame gs gs = true := by simp [csame]
theorem SlAt.block {α : Type} {E : Nat} {enc : α → Nat → Value} {w : World} {xs : List α} {t : TypeId} {cs : Array Value} (h : cs.toList = flat E enc xs) : SlAt E enc (w.alloc (.cells cs t)) (some ⟨w.heap.size, 0, none⟩) xs := by
 refine .inr ⟨_, 0, rfl, by simp, fun i x hx j hj => ?_⟩
 have := flat_get (E := E) (enc := enc) hx hj
 rw [← h] at this
 have h2 : cs[i * E + j]? = some (enc x j) := by simpa using this
 have h3 := (Array.getElem?_eq_some_iff.1 h2).1
 have h4 : (w.alloc (Obj.cells cs t)).heap[w.heap.size]? = some (.cells cs t) := by show (w.heap.push _)[w.heap.size]? = _; simp
 unfold World.cell?
 simp only [Nat.zero_add]
 rw [h4]
 exact h2
theorem SlAt.take {α : Type} {E : Nat} {enc : α → Nat → Value} {w : World} {p : Option Addr} {xs : List α} (h : SlAt E enc w p xs) (n : Nat) : SlAt E enc w p (xs.take n) := by
 rcases h with rfl | ⟨b, off, h1, h2, h3⟩
 · exact .inl (by simp)
 · refine .inr ⟨b, off, h1, h2, fun i x hx j hj => h3 i x ?_ j hj⟩
   rw [List.getElem?_take] at hx
   split at hx
   · exact hx
   · cases hx
end Go.Proofs.Ytadilppdlbhjnaa
