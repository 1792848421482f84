/- Contracts of layer 16 in the form in which the laws use them. -/
import Derived.Test.YtanlecgpnknhoaaC14
import Derived.Test.YtanlecgpnknhoaaC8
import Derived.Test.YtanlecgpnknhoaaC6
import Derived.Test.YtanlecgpnknhoaaC5
import Derived.Test.YtanlecgpnknhoaaPlain12
import Derived.Test.YtanlecgpnknhoaaW15r
namespace Go.Proofs.Ytanlecgpnknhoaa
set_option linter.unusedSimpArgs false
set_option linter.unusedVariables false
open Go.RowKit

/-- A slice of ints. -/
structure SA (w : World) (q : Option Addr) (n cq : Nat) (xs : List Int) : Prop where
  len : xs.length = n
  le : n ≤ cq
  cm : cq ≤ maxLen
  q0 : q = none → cq = 0
  at' : IntsAt w q xs
  lt : ∀ a, q = some a → a.block < w.heap.size
theorem SA.up {w w' : World} {q : Option Addr} {n cq : Nat} {xs : List Int} (h : SA w q n cq xs) (hB : Below w.heap.size w w') : SA w' q n cq xs :=
  ⟨h.len, h.le, h.cm, h.q0, h.at'.mono hB, fun a ha => Nat.lt_of_lt_of_le (h.lt a ha) hB.size⟩
/-- A slice of bools. -/
structure VA (w : World) (q : Option Addr) (n : Nat) (xs : List Bool) : Prop where
  len : xs.length = n
  cm : n ≤ maxLen
  at' : BoolsAt w q xs
theorem VA.up {w w' : World} {q : Option Addr} {n : Nat} {xs : List Bool} (h : VA w q n xs) (hB : Below w.heap.size w w') : VA w' q n xs := ⟨h.len, h.cm, h.at'.mono hB⟩

/-- A circuit and a slice of n references are returned. -/
def RetCS (w : World) (d : List Gate) (n : Nat) (s : List Int) (e : Ending) (w' : World) : Prop :=
  ∃ p cap q cq, e = .returned (.tuple #[.agg #[.slice p d.length cap], .slice q n cq]) ∧ CAt w' p cap d ∧ SA w' q n cq s ∧ Below w.heap.size w w'
theorem RetCL.cs {w : World} {x : List Gate × List Int} {d : List Gate} {s : List Int} {n : Nat} {e : Ending} {w' : World} (h : RetCL w x e w') (hx : x = (d, s)) (hn : s.length = n) : RetCS w d n s e w' := by
  subst hx hn
  obtain ⟨p, cap, q, cq, h1, h2, h3, h4, h5, h6, h7, h8⟩ := h
  exact ⟨p, cap, q, cq, h1, h2, ⟨rfl, h5, h6, h7, h3, h4⟩, h8⟩
theorem allLe_of {c : List Gate} {l : List Int} (h : RefsIn l c.length) (hc : c.length ≤ 20000) : AllLe l := fun r hr => by have := (h r hr).2; omega
theorem bits_le {l : List Int} (h : Bits l) : AllLe l := fun r hr => by have := h r hr; omega

section
variable {c d : List Gate} {l s x y : List Int} {n nx ny m : Nat} {k b r : Int} {p pi px py : Option Addr} {cap ci cx cy : Nat} {w W : World}
theorem sorter_is (h : CAt W p cap c) (hS : SA W pi n ci l) (hB : Below W.heap.size W w) (h6 : n ≤ 500) (hr : AllLe l) (hl : c.length ≤ 20000) (hc : 0 < c.length) (e : (usorter 1 l).run c = (d, s)) (hs : s.length = m) :
    Calls Try.prog 43 #[.agg #[.slice p c.length cap], .slice pi n ci] w (RetCS w d m s) :=
  (sorter_any c l n p pi cap ci w hS.len h6 hS.le hS.cm hS.q0 hr hl hc (h.mono hB) (hS.at'.mono hB) (hS.up hB).lt).mono fun _ _ z => RetCL.cs z e hs
theorem totalizer_is (h : CAt W p cap c) (hS : SA W pi n ci l) (hB : Below W.heap.size W w) (h6 : n ≤ 500) (hr : AllLe l) (hl : c.length ≤ 20000) (hc : 0 < c.length) (e : (utotal 0 1 n l).run c = (d, s)) (hs : s.length = m) :
    Calls Try.prog 44 #[.agg #[.slice p c.length cap], .slice pi n ci] w (RetCS w d m s) :=
  (totalizer_any c l n p pi cap ci w hS.len h6 hS.le hS.cm hS.q0 hr hl hc (h.mono hB) (hS.at'.mono hB) (hS.up hB).lt).mono fun _ _ z => RetCL.cs z e hs
theorem count_is (h : CAt W p cap c) (hS : SA W pi n ci l) (hB : Below W.heap.size W w) (h6 : n ≤ 50) (hr : AllLe l) (hl : c.length ≤ 20000) (hc : 0 < c.length) (e : (ucount 0 1 l n).run c = (d, s)) (hs : s.length = m) :
    Calls Try.prog 47 #[.agg #[.slice p c.length cap], .slice pi n ci] w (RetCS w d m s) :=
  (count_any c l n p pi cap ci w hS.len h6 hr hl hc (h.mono hB) (hS.at'.mono hB) (hS.up hB).lt).mono fun _ _ z => RetCL.cs z e hs
theorem add_is (h : CAt W p cap c) (hX : SA W px nx cx x) (hY : SA W py ny cy y) (hB : Below W.heap.size W w) (hx : nx ≤ 1000) (hy : ny ≤ 1000) (hxr : AllLe x) (hyr : AllLe y) (hl : c.length ≤ 20000) (hc : 0 < c.length) (e : (uadd 0 1 x y).run c = (d, s)) (hs : s.length = m) :
    Calls Try.prog 48 #[.agg #[.slice p c.length cap], .slice px nx cx, .slice py ny cy] w (RetCS w d m s) :=
  (add_any c x y nx ny p px py cap cx cy w hX.len hY.len hx hy hxr hyr hl hc (h.mono hB) (hX.at'.mono hB) (hY.at'.mono hB) (hX.up hB).lt (hY.up hB).lt).mono fun _ _ z => RetCL.cs z e hs
theorem less_is (h : CAt W p cap c) (hX : SA W px nx cx x) (hY : SA W py ny cy y) (hB : Below W.heap.size W w) (hx : nx ≤ 1000) (hy : ny ≤ 1000) (hb1 : -100000 ≤ b) (hb2 : b ≤ 100000) (hxr : AllLe x) (hyr : AllLe y) (hl : c.length ≤ 20000) (hc : 0 < c.length) (e : (uless 0 1 cnot x y b).run c = (d, r)) :
    Calls Try.prog 49 #[.agg #[.slice p c.length cap], .slice px nx cx, .slice py ny cy, .int .i64 b] w (RetC w d r) := by
  have := less_any c x y b nx ny p px py cap cx cy w hX.len hY.len hx hy hb1 hb2 hxr hyr hl hc (h.mono hB) (hX.at'.mono hB) (hY.at'.mono hB) (hX.up hB).lt (hY.up hB).lt
  rw [e] at this; exact this
theorem atleast_is (h : CAt W p cap c) (hS : SA W pi n ci l) (hB : Below W.heap.size W w) (h6 : n ≤ 500) (hk : k ≤ 9223372036854775807) (hr : AllLe l) (hl : c.length ≤ 20000) (hc : 0 < c.length) (e : (uatleast 0 1 l k).run c = (d, r)) :
    Calls Try.prog 46 #[.agg #[.slice p c.length cap], .slice pi n ci, .int .i64 k] w (RetC w d r) := by
  have := atleast_any c l n k p pi cap ci w hS.len h6 hk hS.le hS.cm hS.q0 hr hl hc (h.mono hB) (hS.at'.mono hB) (hS.up hB).lt
  rw [e] at this; exact this
end
def RetI (w : World) (b : Int) (e : Ending) (w' : World) : Prop := e = .returned (.int .i64 b) ∧ Below w.heap.size w w'
section
variable {c : List Gate} {l : List Int} {vals : List Bool} {n nv : Nat} {t : Int} {p pl pv ql : Option Addr} {cap cl cv dl : Nat} {w W : World}
theorem number_is {N : Nat} (h : CAt W p cap c) (hS : SA W pl n cl l) (hV : VA W pv nv vals) (hB : Below W.heap.size W w) (h6 : n ≤ 20000) (hl : c.length ≤ 20000) (hw : WfC c) (e : cnum c vals l = N) :
    Calls Try.prog 42 #[.agg #[.slice p c.length cap], .slice pl n cl, .slice pv nv cv] w (RetI w N) := by
  subst e; exact number_any c l vals n nv p pl pv cap cl cv w hS.len hV.len h6 hl hw hV.cm (h.mono hB) (hS.at'.mono hB) (hV.at'.mono hB)
theorem value16_is {N : Nat} (h : CAt W p cap c) (hS : SA W pl n cl l) (hV : VA W pv nv vals) (hB : Below W.heap.size W w) (h6 : n ≤ 20000) (hl : c.length ≤ 20000) (hw : WfC c) (e : cnum c vals l = N) :
    Calls Try.prog 50 #[.agg #[.slice p c.length cap], .slice pl n cl, .slice pv nv cv] w (RetI w N) := by
  subst e; exact value16_any c l vals n nv p pl pv cap cl cv w hS.len hV.len h6 hl hw hV.cm (h.mono hB) (hS.at'.mono hB) (hV.at'.mono hB)
theorem unary_is {N : List Bool → Nat} (h : CAt W p cap c) (hS : SA W pl n cl l) (hV : VA W pv nv vals) (hB : Below W.heap.size W w) (h6 : n ≤ 20000) (hl : c.length ≤ 20000) (hw : WfC c) (hN : Num c l n N) (ht : (N vals : Int) = t) :
    Calls Try.prog 45 #[.agg #[.slice p c.length cap], .slice pl n cl, .slice pv nv cv, .int .i64 t] w (RetB w true) := by
  subst ht
  have hu := hN.unary vals
  exact unary_any c l vals (N vals) n nv p pl pv cap cl cv w hS.len hV.len h6 hl hw hV.cm (by omega) hu.2 (h.mono hB) (hS.at'.mono hB) (hV.at'.mono hB)
theorem rvalid16_is (h : CAt W p cap c) (hS : SA W pl n cl l) (hB : Below W.heap.size W w) (h6 : n ≤ 20000) (hl : c.length ≤ 20000) (hr : RefsIn l c.length) :
    Calls Try.prog 52 #[.agg #[.slice p c.length cap], .slice pl n cl] w (RetB w true) :=
  rvalid16_any c l n p pl cap cl w hS.len h6 hl h.le hr (hS.at'.mono hB)
theorem same16_is (hS : SA W pl n cl l) (hT : SA W ql n dl l) (hB : Below W.heap.size W w) (h6 : n ≤ 20000) :
    Calls Try.prog 54 #[.slice pl n cl, .slice ql n dl] w (RetB w true) :=
  same16_any l n pl ql cl dl w hS.len h6 (hS.at'.mono hB) (hT.at'.mono hB)
end
end Go.Proofs.Ytanlecgpnknhoaa
