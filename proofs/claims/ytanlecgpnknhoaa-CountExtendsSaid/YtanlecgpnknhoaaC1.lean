/- Walks of layer 16: the builder's and, or. -/
import Derived.Test.YtanlecgpnknhoaaW16
import Derived.Test.YtanlecgpnknhoaaW17
import Derived.Test.YtanlecgpnknhoaaPlain11
import Derived.Test.YtanlecgpnknhoaaSeqM
import Derived.Laws.OwnMore
namespace Go.Proofs.Ytanlecgpnknhoaa
set_option linter.unusedSimpArgs false
set_option linter.unusedVariables false
open Go.RowKit

/-- Nothing that was there is changed but what lies in the blocks X. -/
structure KeepX (X : List Nat) (w w' : World) : Prop where
  os : w'.os = w.os
  tape : w'.tape = w.tape
  output : w'.output = w.output
  size : w.heap.size ≤ w'.heap.size
  block : ∀ k, k < w.heap.size → k ∉ X → w'.heap[k]? = w.heap[k]?
theorem KeepX.of_below {X : List Nat} {w w' : World} (h : Below w.heap.size w w') : KeepX X w w' := ⟨h.os, h.tape, h.output, h.size, fun k hk _ => h.block k hk⟩
theorem KeepX.refl (X : List Nat) (w : World) : KeepX X w w := KeepX.of_below (Below.refl _ _)
theorem KeepX.trans {X : List Nat} {w w1 w2 : World} (h : KeepX X w w1) (k : KeepX X w1 w2) : KeepX X w w2 :=
  ⟨k.os.trans h.os, k.tape.trans h.tape, k.output.trans h.output, Nat.le_trans h.size k.size, fun i hi hx => (k.block i (Nat.lt_of_lt_of_le hi h.size) hx).trans (h.block i hi hx)⟩
theorem KeepX.sub {X Y : List Nat} {w w' : World} (h : KeepX X w w') (hs : ∀ k ∈ X, k ∈ Y) : KeepX Y w w' := ⟨h.os, h.tape, h.output, h.size, fun k hk hy => h.block k hk fun hx => hy (hs k hx)⟩
/-- Blocks that were not there may be written at will. -/
theorem KeepX.fresh {X Y : List Nat} {w w' : World} (h : KeepX X w w') (hs : ∀ k ∈ X, k ∈ Y ∨ w.heap.size ≤ k) : KeepX Y w w' := ⟨h.os, h.tape, h.output, h.size, fun k hk hy => h.block k hk fun hx => by rcases hs k hx with h1 | h1; exact hy h1; omega⟩
theorem KeepX.below {X : List Nat} {w w' : World} (h : KeepX X w w') {B : Nat} (hB : B ≤ w.heap.size) (hs : ∀ k ∈ X, B ≤ k) : Below B w w' :=
  ⟨h.os, h.tape, h.output, h.size, fun k hk => h.block k (by omega) fun hx => by have := hs k hx; omega⟩
theorem KeepX.cell {X : List Nat} {w w' : World} (h : KeepX X w w') {b o : Nat} {v : Value} (hc : w.cell? ⟨b, o, none⟩ = some v) (hx : b ∉ X) : w'.cell? ⟨b, o, none⟩ = some v := by
  rw [World.cell?_of_block (w := w) (h.block b (World.block_lt_of_cell? w _ hc) hx)]; exact hc
theorem KeepX.free {X : List Nat} {w w' : World} (h : KeepX X w w') {b o : Nat} (hc : w.frozen? ⟨b, o, none⟩ = false) (hb : b < w.heap.size) (hx : b ∉ X) : w'.frozen? ⟨b, o, none⟩ = false := by
  rw [← hc]; unfold World.frozen?; rw [h.block b hb hx]
theorem KeepX.setCell {X : List Nat} {w w' : World} (h : KeepX X w w') {a : Addr} (ha : a.block ∈ X) (v : Value) : KeepX X w (w'.setCell a v) := by
  refine h.trans ⟨rfl, rfl, rfl, by simp, fun k hk hx => ?_⟩
  exact heap_setCell_other w' a k v (fun e => hx (by rw [e]; exact ha))
theorem SlAt.keep {α : Type} {E : Nat} {enc : α → Nat → Value} {X : List Nat} {w w' : World} {p : Option Addr} {xs : List α} (h : SlAt E enc w p xs) (hk : KeepX X w w') (hx : ∀ a, p = some a → a.block ∉ X) : SlAt E enc w' p xs := by
  rcases h with h | ⟨b, off, hp, hb, hc⟩
  · exact .inl h
  · exact .inr ⟨b, off, hp, Nat.lt_of_lt_of_le hb hk.size, fun i x hi j hj => hk.cell (hc i x hi j hj) (hx _ hp)⟩

/-- A variable that holds a circuit whose gates lie in none of the blocks L. -/
def BxA (L : List Nat) (w : World) (b : Nat) (gs : List Gate) : Prop :=
  ∃ p cap, w.cell? ⟨b, 0, none⟩ = some (.slice p gs.length cap) ∧ w.frozen? ⟨b, 0, none⟩ = false ∧ CAt w p cap gs ∧ ∀ a, p = some a → a.block ∉ L
theorem BxA.lt {L : List Nat} {w : World} {b : Nat} {gs : List Gate} (h : BxA L w b gs) : b < w.heap.size := by
  obtain ⟨p, cap, h1, _⟩ := h; exact World.block_lt_of_cell? w _ h1
theorem BxA.bx {L : List Nat} {w : World} {b : Nat} {gs : List Gate} (h : BxA L w b gs) : Bx w b gs := by
  obtain ⟨p, cap, h1, h2, h3, _⟩ := h; exact ⟨p, cap, h1, h2, h3⟩
theorem BxA.keep {L X : List Nat} {w w' : World} {b : Nat} {gs : List Gate} (h : BxA L w b gs) (hk : KeepX X w w') (hb : b ∉ X) (hX : ∀ k ∈ X, k ∈ L) : BxA L w' b gs := by
  have hlt := h.lt
  obtain ⟨p, cap, h1, h2, h3, h4⟩ := h
  exact ⟨p, cap, hk.cell h1 hb, hk.free h2 hlt hb, ⟨h3.le, h3.cm, h3.p0, h3.at'.keep hk (fun a ha hx => h4 a ha (hX _ hx))⟩, h4⟩
theorem BxA.put {L : List Nat} {w W : World} {b : Nat} {p p0 : Option Addr} {cap : Nat} {gs : List Gate} {a : Option Addr} {n c : Nat} (h : CAt w p cap gs) (h1 : w.cell? ⟨b, 0, none⟩ = some (.slice a n c)) (h2 : w.frozen? ⟨b, 0, none⟩ = false)
    (hf : Fresh W p0 p) (h0 : ∀ a, p0 = some a → a.block ∉ L) (hL : ∀ k ∈ L, k < W.heap.size) : BxA L (w.setCell ⟨b, 0, none⟩ (.slice p gs.length cap)) b gs := by
  refine ⟨p, cap, by go_cell, by rw [World.frozen?_setCell]; exact h2, ⟨h.le, h.cm, h.p0, h.at'.setBox h1 (gEnc_ne_slice _ _ _) _⟩, fun x hx hm => ?_⟩
  rcases hf with rfl | hf
  · exact h0 x hx hm
  · have := hf x hx; have := hL _ hm; omega

/-- The builder at b holds c', r is returned. -/
def MRet (L : List Nat) (w : World) (b : Nat) (x : List Gate × Int) (e : Ending) (w' : World) : Prop := e = .returned (.int .i64 x.2) ∧ BxA L w' b x.1 ∧ KeepX [b] w w'

set_option maxRecDepth 100000 in
set_option maxHeartbeats 1000000 in
theorem andM_any (L : List Nat) (c : List Gate) (x y : Int) (b : Nat) (w : World) (hx : x ≤ 9223372036854775807) (hy : y ≤ 9223372036854775807) (hl : c.length ≤ 20000) (hB : BxA L w b c) (hL : ∀ k ∈ L, k < w.heap.size) :
    Calls Try.prog 66 #[.pointer (some ⟨b, 0, none⟩), .int .i64 x, .int .i64 y] w (MRet L w b (cand c x y)) := by
  have hlt := hB.lt
  obtain ⟨p, cap, h1, h2, h3, h4⟩ := hB
  have HL := Lib.hid hL; have H3 := Lib.hid h3; have H4 := Lib.hid h4; clear hL h3 h4
  go_enter Try.func66, Try.ntmps66
  go_wp2_with (first | (go_at_call 21; refine (and_any c x y p cap _ hx hy hl H3.out.le H3.out.cm H3.out.p0 (H3.out.at'.mono (by go_grown))).mono ?_; rintro e w1 ⟨p1, cap1, rfl, u1, u2, u3, u4, hbl, hfr⟩; have k1 := oldcell hbl h1 hlt; have k2 := oldfree hbl h2 hlt; have U3 := Lib.hid u3; have U4 := Lib.hid u4; have HF := Lib.hid hfr; have HBL := Lib.hid hbl; clear u3 u4 hfr hbl))
  go_ret
  exact ⟨rfl, BxA.put ⟨u1, u2, U3.out, U4.out⟩ k1 k2 HF.out H4.out HL.out, (KeepX.of_below HBL.out).setCell (by simp) _⟩

set_option maxRecDepth 100000 in
set_option maxHeartbeats 1000000 in
theorem orM_any (L : List Nat) (c : List Gate) (x y : Int) (b : Nat) (w : World) (hx : x ≤ 9223372036854775807) (hy : y ≤ 9223372036854775807) (hl : c.length ≤ 20000) (hB : BxA L w b c) (hL : ∀ k ∈ L, k < w.heap.size) :
    Calls Try.prog 65 #[.pointer (some ⟨b, 0, none⟩), .int .i64 x, .int .i64 y] w (MRet L w b (cor c x y)) := by
  have hlt := hB.lt
  obtain ⟨p, cap, h1, h2, h3, h4⟩ := hB
  have HL := Lib.hid hL; have H3 := Lib.hid h3; have H4 := Lib.hid h4; clear hL h3 h4
  go_enter Try.func65, Try.ntmps65
  go_wp2_with (first | (go_at_call 23; refine (or_any c x y p cap _ hx hy hl H3.out.le H3.out.cm H3.out.p0 (H3.out.at'.mono (by go_grown))).mono ?_; rintro e w1 ⟨p1, cap1, rfl, u1, u2, u3, u4, hbl, hfr⟩; have k1 := oldcell hbl h1 hlt; have k2 := oldfree hbl h2 hlt; have U3 := Lib.hid u3; have U4 := Lib.hid u4; have HF := Lib.hid hfr; have HBL := Lib.hid hbl; clear u3 u4 hfr hbl))
  go_ret
  exact ⟨rfl, BxA.put ⟨u1, u2, U3.out, U4.out⟩ k1 k2 HF.out H4.out HL.out, (KeepX.of_below HBL.out).setCell (by simp) _⟩

/-- reach: an element of a unary number. -/
theorem creach_any (u : List Int) (k : Int) (p : Option Addr) (cap : Nat) (w : World) (hl : u.length ≤ 20000) (hk2 : k ≤ 1000000) (hu : IntsAt w p u) :
    Calls Try.prog 70 #[.slice p u.length cap, .int .i64 k] w fun e w' => e = .returned (.int .i64 (ureach 0 1 u k)) ∧ w = w' := by
  by_cases h0 : k ≤ 0
  · have HR := Lib.hid (show ureach 0 1 u k = 0 by unfold ureach; rw [if_pos h0])
    go_enter Try.func70, Try.ntmps70
    go_wp2
    go_ret
    exact ⟨ret_int HR.out.symm, rfl⟩
  · by_cases h1 : (u.length : Int) < k
    · have HR := Lib.hid (show ureach 0 1 u k = 1 by unfold ureach; rw [if_neg h0, if_pos h1])
      go_enter Try.func70, Try.ntmps70
      go_wp2
      go_ret
      exact ⟨ret_int HR.out.symm, rfl⟩
    · obtain ⟨K, rfl⟩ : ∃ K : Nat, k = (K : Int) + 1 := ⟨(k - 1).toNat, by omega⟩
      have hK : K < u.length := by omega
      obtain ⟨x, hx⟩ : ∃ x, u[K]? = some x := ⟨_, List.getElem?_eq_getElem hK⟩
      have HR := Lib.hid (show ureach 0 1 u ((K : Int) + 1) = x by
        unfold ureach
        rw [if_neg h0, if_neg h1, show ((K : Int) + 1 - 1).toNat = K by omega, List.getD_eq_getElem?_getD, hx]; rfl)
      obtain ⟨b, off, rfl, hb, hc⟩ := int_cell hu hx
      have hK0 : (0 : Int) ≤ (K : Int) := by omega
      have hK1 : (K : Int) < (u.length : Int) := by omega
      clear hx hu
      go_enter Try.func70, Try.ntmps70
      go_wp2
      go_ret
      exact ⟨ret_int HR.out.symm, rfl⟩
theorem rreach_any (u : List Int) (k : Int) (p : Option Addr) (cap : Nat) (w : World) (hl : u.length ≤ 20000) (hk2 : k ≤ 1000000) (hu : IntsAt w p u) :
    Calls Try.prog 76 #[.slice p u.length cap, .int .i64 k] w fun e w' => e = .returned (.int .i64 (ureach 0 1 u k)) ∧ w = w' := by
  by_cases h0 : k ≤ 0
  · have HR := Lib.hid (show ureach 0 1 u k = 0 by unfold ureach; rw [if_pos h0])
    go_enter Try.func76, Try.ntmps76
    go_wp2
    go_ret
    exact ⟨ret_int HR.out.symm, rfl⟩
  · by_cases h1 : (u.length : Int) < k
    · have HR := Lib.hid (show ureach 0 1 u k = 1 by unfold ureach; rw [if_neg h0, if_pos h1])
      go_enter Try.func76, Try.ntmps76
      go_wp2
      go_ret
      exact ⟨ret_int HR.out.symm, rfl⟩
    · obtain ⟨K, rfl⟩ : ∃ K : Nat, k = (K : Int) + 1 := ⟨(k - 1).toNat, by omega⟩
      have hK : K < u.length := by omega
      obtain ⟨x, hx⟩ : ∃ x, u[K]? = some x := ⟨_, List.getElem?_eq_getElem hK⟩
      have HR := Lib.hid (show ureach 0 1 u ((K : Int) + 1) = x by
        unfold ureach
        rw [if_neg h0, if_neg h1, show ((K : Int) + 1 - 1).toNat = K by omega, List.getD_eq_getElem?_getD, hx]; rfl)
      obtain ⟨b, off, rfl, hb, hc⟩ := int_cell hu hx
      have hK0 : (0 : Int) ≤ (K : Int) := by omega
      have hK1 : (K : Int) < (u.length : Int) := by omega
      clear hx hu
      go_enter Try.func76, Try.ntmps76
      go_wp2
      go_ret
      exact ⟨ret_int HR.out.symm, rfl⟩
end Go.Proofs.Ytanlecgpnknhoaa
