/- Walks of the reference of layer 21: True. -/
import Derived.Test.YtdibfjcmgbpnpaaKH
namespace Go.Proofs.Ytdibfjcmgbpnpaa
set_option linter.unusedSimpArgs false
set_option linter.unusedVariables false
open Go.RowKit

structure SB (w : World) (p : Option Addr) (cap : Nat) (l : List Bool) : Prop where
  le : l.length ≤ cap
  cm : cap ≤ maxLen
  q0 : p = none → cap = 0
  at' : BoolsAt w p l
  lt : ∀ a, p = some a → a.block < w.heap.size
theorem SB.up {w w' : World} {p : Option Addr} {cap : Nat} {l : List Bool} (h : SB w p cap l) (hB : Below w.heap.size w w') : SB w' p cap l := ⟨h.le, h.cm, h.q0, h.at'.mono hB, fun a ha => Nat.lt_of_lt_of_le (h.lt a ha) hB.size⟩
theorem bool_cell {w : World} {p : Option Addr} {l : List Bool} (h : BoolsAt w p l) {i : Nat} (hi : i < l.length) : ∃ b o, p = some ⟨b, o, none⟩ ∧ b < w.heap.size ∧ w.cell? ⟨b, o + i, none⟩ = some (.bool (l.getD i false)) := by
  have hx : l[i]? = some (l.getD i false) := by rw [List.getD_eq_getElem?_getD, List.getElem?_eq_getElem hi]; rfl
  rcases h with rfl | ⟨b, off, hp, hb, hc⟩
  · simp at hi
  · exact ⟨b, off, hp, hb, by simpa [bEnc] using hc i _ hx 0 (by omega)⟩
set_option maxRecDepth 100000 in
set_option maxHeartbeats 2000000 in
theorem rtrue_any {n : Nat} {w : World} {p : Option Addr} {cap : Nat} {vs : List Bool} (hv : SB w p cap vs) (hvl : vs.length = n) (hn : n ≤ 1000000) {x : Int} (hx : LOk n x) :
    Calls Try.prog 46 #[.slice p n cap, .int .i64 x] w fun e w' => e = .returned (.bool (rtru vs x)) ∧ w' = w := by
 have h1 := hx.2; have h0 := hx.1
 by_cases hs : 0 < x
 · obtain ⟨i, hi⟩ : ∃ i : Nat, (x - 1).toNat = i := ⟨_, rfl⟩
   obtain ⟨b, o, rfl, hb, c0⟩ := bool_cell hv.at' (i := i) (by omega)
   have hw : IntKind.i64.wrap (x - 1) = (i : Int) := by rw [wrapI (by omega) (by omega)]; omega
   have hil : (i : Int) < (n : Int) := by omega
   have e : rtru vs x = vs.getD i false := by unfold rtru; rw [if_pos hs, hi]
   rw [e]
   obtain ⟨t, ht⟩ : ∃ t, vs.getD i false = t := ⟨_, rfl⟩
   rw [ht] at c0 ⊢
   clear hv hx hi e ht hb h0 h1
   go_enter Try.func46, Try.ntmps46
   go_wp2_with fail
   go_ret
   exact ⟨rfl, rfl⟩
 · obtain ⟨i, hi⟩ : ∃ i : Nat, (-x - 1).toNat = i := ⟨_, rfl⟩
   obtain ⟨b, o, rfl, hb, c0⟩ := bool_cell hv.at' (i := i) (by omega)
   obtain ⟨y, hy⟩ : ∃ y, -x = y := ⟨_, rfl⟩
   have hw0 : IntKind.i64.wrap (-x) = y := by rw [wrapI (by omega) (by omega)]; exact hy
   have hw : IntKind.i64.wrap (y - 1) = (i : Int) := by rw [wrapI (by omega) (by omega)]; omega
   have hil : (i : Int) < (n : Int) := by omega
   have e : rtru vs x = !vs.getD i false := by unfold rtru; rw [if_neg hs, hi]
   rw [e]
   obtain ⟨t, ht⟩ : ∃ t, vs.getD i false = t := ⟨_, rfl⟩
   rw [ht] at c0 ⊢
   clear hv hx hi e ht hb h0 h1 hy
   go_enter Try.func46, Try.ntmps46
   go_wp2_with fail
   go_ret
   exact ⟨rfl, rfl⟩

end Go.Proofs.Ytdibfjcmgbpnpaa
