import Derived.Test.YtadilppdlbhjnaaMB
import Derived.Test.YtadilppdlbhjnaaGC
import Derived.Laws.OwnMore
namespace Go.Proofs.Ytadilppdlbhjnaa
set_option linter.unusedSimpArgs false
set_option linter.unusedVariables false
open Go.RowKit
structure KeepX (X : List Nat) (w w' : World) : Prop where
 os : w'.os = w.os
 tape : w'.tape = w.tape
 output : w'.output = w.output
 size : w.heap.size ≤ w'.heap.size
 block : ∀ k, k < w.heap.size → k ∉ X → w'.heap[k]? = w.heap[k]?
theorem KeepX.of_below {X : List Nat} {w w' : World} (h : Below w.heap.size w w') : KeepX X w w' := ⟨h.os, h.tape, h.output, h.size, fun k hk _ => h.block k hk⟩
theorem KeepX.refl (X : List Nat) (w : World) : KeepX X w w := KeepX.of_below (Below.refl _ _)
theorem KeepX.trans {X : List Nat} {w w1 w2 : World} (h : KeepX X w w1) (k : KeepX X w1 w2) : KeepX X w w2 :=
 ⟨k.os.trans h.os, k.tape.trans h.tape, k.output.trans h.output, Nat.le_trans h.size k.size, fun i hi hx => (k.block i (Nat.lt_of_lt_of_le hi h.size) hx).trans (h.block i hi hx)⟩
theorem KeepX.sub {X Y : List Nat} {w w' : World} (h : KeepX X w w') (hs : ∀ k ∈ X, k ∈ Y) : KeepX Y w w' := ⟨h.os, h.tape, h.output, h.size, fun k hk hy => h.block k hk fun hx => hy (hs k hx)⟩
theorem KeepX.fresh {X Y : List Nat} {w w' : World} (h : KeepX X w w') (hs : ∀ k ∈ X, k ∈ Y ∨ w.heap.size ≤ k) : KeepX Y w w' := ⟨h.os, h.tape, h.output, h.size, fun k hk hy => h.block k hk fun hx => by rcases hs k hx with h1 | h1; exact hy h1; omega⟩
theorem KeepX.below {X : List Nat} {w w' : World} (h : KeepX X w w') {B : Nat} (hB : B ≤ w.heap.size) (hs : ∀ k ∈ X, B ≤ k) : Below B w w' :=
 ⟨h.os, h.tape, h.output, h.size, fun k hk => h.block k (by omega) fun hx => by have := hs k hx; omega⟩
theorem KeepX.cell {X : List Nat} {w w' : World} (h : KeepX X w w') {b o : Nat} {v : Value} (hc : w.cell? ⟨b, o, none⟩ = some v) (hx : b ∉ X) : w'.cell? ⟨b, o, none⟩ = some v := by
 rw [World.cell?_of_block (w := w) (h.block b (World.block_lt_of_cell? w _ hc) hx)]; exact hc
theorem KeepX.free {X : List Nat} {w w' : World} (h : KeepX X w w') {b o : Nat} (hc : w.frozen? ⟨b, o, none⟩ = false) (hb : b < w.heap.size) (hx : b ∉ X) : w'.frozen? ⟨b, o, none⟩ = false := by
 rw [← hc]; unfold World.frozen?; rw [h.block b hb hx]
theorem KeepX.setCell {X : List Nat} {w w' : World} (h : KeepX X w w') {a : Addr} (ha : a.block ∈ X) (v : Value) : KeepX X w (w'.setCell a v) := by
 refine h.trans ⟨rfl, rfl, rfl, by simp, fun k hk hx => ?_⟩
 exact heap_setCell_other w' a k v (fun e => hx (by rw [e]; exact ha))
theorem SlAt.keep {α : Type} {E : Nat} {enc : α → Nat → Value} {X : List Nat} {w w' : World} {p : Option Addr} {xs : List α} (h : SlAt E enc w p xs) (hk : KeepX X w w') (hx : ∀ a, p = some a → a.block ∉ X) : SlAt E enc w' p xs := by
 rcases h with h | ⟨b, off, hp, hb, hc⟩
 · exact .inl h
 · exact .inr ⟨b, off, hp, Nat.lt_of_lt_of_le hb hk.size, fun i x hi j hj => hk.cell (hc i x hi j hj) (hx _ hp)⟩
def BxA (L : List Nat) (w : World) (b : Nat) (gs : List Gate) : Prop :=
 ∃ p cap, w.cell? ⟨b, 0, none⟩ = some (.slice p gs.length cap) ∧ w.frozen? ⟨b, 0, none⟩ = false ∧ CAt w p cap gs ∧ ∀ a, p = some a → a.block ∉ L
theorem BxA.lt {L : List Nat} {w : World} {b : Nat} {gs : List Gate} (h : BxA L w b gs) : b < w.heap.size := by
 obtain ⟨p, cap, h1, _⟩ := h; exact World.block_lt_of_cell? w _ h1
theorem BxA.bx {L : List Nat} {w : World} {b : Nat} {gs : List Gate} (h : BxA L w b gs) : Bx w b gs := by
 obtain ⟨p, cap, h1, h2, h3, _⟩ := h; exact ⟨p, cap, h1, h2, h3⟩
theorem BxA.keep {L X : List Nat} {w w' : World} {b : Nat} {gs : List Gate} (h : BxA L w b gs) (hk : KeepX X w w') (hb : b ∉ X) (hX : ∀ k ∈ X, k ∈ L) : BxA L w' b gs := by
 have hlt := h.lt
 obtain ⟨p, cap, h1, h2, h3, h4⟩ := h
 exact ⟨p, cap, hk.cell h1 hb, hk.free h2 hlt hb, ⟨h3.le, h3.cm, h3.p0, h3.at'.keep hk (fun a ha hx => h4 a ha (hX _ hx))⟩, h4⟩
theorem BxA.put {L : List Nat} {w W : World} {b : Nat} {p p0 : Option Addr} {cap : Nat} {gs : List Gate} {a : Option Addr} {n c : Nat} (h : CAt w p cap gs) (h1 : w.cell? ⟨b, 0, none⟩ = some (.slice a n c)) (h2 : w.frozen? ⟨b, 0, none⟩ = false)
 (hf : Fresh W p0 p) (h0 : ∀ a, p0 = some a → a.block ∉ L) (hL : ∀ k ∈ L, k < W.heap.size) : BxA L (w.setCell ⟨b, 0, none⟩ (.slice p gs.length cap)) b gs := by
 refine ⟨p, cap, by go_cell, by rw [World.frozen?_setCell]; exact h2, ⟨h.le, h.cm, h.p0, h.at'.setBox h1 (gEnc_ne_slice _ _ _) _⟩, fun x hx hm => ?_⟩
 rcases hf with rfl | hf
 · exact h0 x hx hm
 · have := hf x hx; have := hL _ hm; omega
def MRet (L : List Nat) (w : World) (b : Nat) (x : List Gate × Int) (e : Ending) (w' : World) : Prop := e = .returned (.int .i64 x.2) ∧ BxA L w' b x.1 ∧ KeepX [b] w w'
set_option maxRecDepth 100000 in
set_option maxHeartbeats 1000000 in
theorem andM_any (L : List Nat) (c : List Gate) (x y : Int) (b : Nat) (w : World) (hx : x ≤ 9223372036854775807) (hy : y ≤ 9223372036854775807) (hl : c.length ≤ 20000) (hB : BxA L w b c) (hL : ∀ k ∈ L, k < w.heap.size) :
 Calls Try.prog 94 #[.pointer (some ⟨b, 0, none⟩), .int .i64 x, .int .i64 y] w (MRet L w b (cand c x y)) := by
 have hlt := hB.lt
 obtain ⟨p, cap, h1, h2, h3, h4⟩ := hB
 have HL := Lib.hid hL; have H3 := Lib.hid h3; have H4 := Lib.hid h4; clear hL h3 h4
 go_enter Try.func94, Try.ntmps94
 go_wp2_with (first | (go_at_call 80; refine (and_any c x y p cap _ hx hy hl H3.out.le H3.out.cm H3.out.p0 (H3.out.at'.mono (by go_grown))).mono ?_; rintro e w1 ⟨p1, cap1, rfl, u1, u2, u3, u4, hbl, hfr⟩; have k1 := oldcell hbl h1 hlt; have k2 := oldfree hbl h2 hlt; have k3 : ∀ x, (w1.alloc x).frozen? ⟨b, 0, none⟩ = false := (fun x => free_alloc k2 (by have := hbl.size; omega)); have k4 : ∀ x, (w1.alloc x).cell? ⟨b, 0, none⟩ = some (.slice p c.length cap) := (fun x => keep_alloc k1); have U3 := Lib.hid u3; have U4 := Lib.hid u4; have HF := Lib.hid hfr; have HBL := Lib.hid hbl; clear u3 u4 hfr hbl))
 go_ret
 exact ⟨rfl, BxA.put ⟨u1, u2, U3.out, U4.out.mono (by go_grown)⟩ (keep_alloc k1) (k3 _) HF.out H4.out HL.out, (KeepX.of_below (bal HBL.out _)).setCell (by simp) _⟩
set_option maxRecDepth 100000 in
set_option maxHeartbeats 1000000 in
theorem orM_any (L : List Nat) (c : List Gate) (x y : Int) (b : Nat) (w : World) (hx : x ≤ 9223372036854775807) (hy : y ≤ 9223372036854775807) (hl : c.length ≤ 20000) (hB : BxA L w b c) (hL : ∀ k ∈ L, k < w.heap.size) :
 Calls Try.prog 93 #[.pointer (some ⟨b, 0, none⟩), .int .i64 x, .int .i64 y] w (MRet L w b (cor c x y)) := by
 have hlt := hB.lt
 obtain ⟨p, cap, h1, h2, h3, h4⟩ := hB
 have HL := Lib.hid hL; have H3 := Lib.hid h3; have H4 := Lib.hid h4; clear hL h3 h4
 go_enter Try.func93, Try.ntmps93
 go_wp2_with (first | (go_at_call 135; refine (or_any c x y p cap _ hx hy hl H3.out.le H3.out.cm H3.out.p0 (H3.out.at'.mono (by go_grown))).mono ?_; rintro e w1 ⟨p1, cap1, rfl, u1, u2, u3, u4, hbl, hfr⟩; have k1 := oldcell hbl h1 hlt; have k2 := oldfree hbl h2 hlt; have k3 : ∀ x, (w1.alloc x).frozen? ⟨b, 0, none⟩ = false := (fun x => free_alloc k2 (by have := hbl.size; omega)); have k4 : ∀ x, (w1.alloc x).cell? ⟨b, 0, none⟩ = some (.slice p c.length cap) := (fun x => keep_alloc k1); have U3 := Lib.hid u3; have U4 := Lib.hid u4; have HF := Lib.hid hfr; have HBL := Lib.hid hbl; clear u3 u4 hfr hbl))
 go_ret
 exact ⟨rfl, BxA.put ⟨u1, u2, U3.out, U4.out.mono (by go_grown)⟩ (keep_alloc k1) (k3 _) HF.out H4.out HL.out, (KeepX.of_below (bal HBL.out _)).setCell (by simp) _⟩
set_option maxRecDepth 100000 in
set_option maxHeartbeats 1000000 in
theorem butM_any (L : List Nat) (c : List Gate) (x y : Int) (b : Nat) (w : World) (hx : x ≤ 9223372036854775807) (hy : y ≤ 1000000) (hl : c.length ≤ 20000) (hB : BxA L w b c) (hL : ∀ k ∈ L, k < w.heap.size) :
 Calls Try.prog 90 #[.pointer (some ⟨b, 0, none⟩), .int .i64 x, .int .i64 y] w (MRet L w b (cbut c x y)) := by
 have hn : cnot y ≤ 9223372036854775807 := by unfold cnot; split <;> (try split) <;> omega
 have HB := Lib.hid hB; have HL := Lib.hid hL
 clear hB hL
 go_enter Try.func90, Try.ntmps90
 go_wp2_with (first | (go_at_call 81; refine (not_any _ _ (by omega)).mono ?_; rintro e w' ⟨rfl, hw⟩; replace hw := hw.symm; subst hw) | (go_at_call 94; refine (andM_any L c x (cnot y) b _ hx hn hl HB.out HL.out).mono ?_; rintro e w1 ⟨rfl, h1, h2⟩))
 go_ret
 exact ⟨rfl, h1, h2⟩
@[go_sem] theorem run_mul (a b : Int) (w : World) : (binOp .mul 3 (.int .i64 a) (.int .i64 b)).run Try.prog w = .ok (.int .i64 (IntKind.i64.wrap (a * b))) w := by
 simp [binOp, go_sem, Op.intArith]
set_option maxRecDepth 100000 in
set_option maxHeartbeats 1000000 in
theorem power_any (n k : Nat) (w : World) (hn : n ≤ 12) (hk : k ≤ 3) :
 Calls Try.prog 96 #[.int .i64 n, .int .i64 k] w fun e w' => e = .returned (.int .i64 ((n ^ k : Nat) : Int)) ∧ w' = w := by
 have hb : ∀ i, i ≤ 3 → n ^ i ≤ 1728 := by
  intro i hi
  exact Nat.le_trans (Nat.pow_le_pow_left hn i) (Nat.le_trans (Nat.pow_le_pow_right (by decide) hi) (by decide))
 go_enter Try.func96, Try.ntmps96
 go_wp2_with fail
 go_loopg [5, 7] k (fun N s5 s7 wr => ∃ i : Nat, s5 = .int .i64 ((n ^ i : Nat) : Int) ∧ s7 = .int .i64 i ∧ i ≤ k ∧ N = k - i ∧ wr = w)
 case atStart => exact ⟨0, rfl, rfl, by omega, rfl, rfl⟩
 obtain ⟨i, rfl, rfl, hi, hN, rfl⟩ := hrel
 have HNk := Lib.hid hN; clear hN
 obtain ⟨q, hq⟩ : ∃ q, n ^ i = q := ⟨_, rfl⟩
 have hq1 : q ≤ 1728 := by rw [← hq]; exact hb i (by omega)
 have HQ := Lib.hid hq
 rw [hq]
 clear hq hb
 by_cases hlt : i < k
 case pos =>
  have hm : (q : Int) * (n : Int) = ((q * n : Nat) : Int) := by simp
  have hm2 : q * n ≤ 20736 := Nat.mul_le_mul hq1 hn
  obtain ⟨z, hz⟩ : ∃ z : Int, (q : Int) * (n : Int) = z := ⟨_, rfl⟩
  have HZ := Lib.hid (hm.symm.trans hz)
  have hw : IntKind.i64.wrap z = z := by (rw [IntWalk.i64_in]; omega)
  clear hm
  go_wp2_with fail
  go_roundg (k - (i + 1))
  case measure => (have := HNk.out; omega)
  case rel => exact ⟨i + 1, by rw [Nat.pow_succ, HQ.out, HZ.out], by go_num, by omega, rfl, rfl⟩
 obtain rfl : i = k := by omega
 go_wp2_with fail
 go_ret
 exact ⟨congrArg (fun x : Int => Ending.returned (.int .i64 x)) (by rw [HQ.out]), rfl⟩
structure GMx (w : World) (B b : Nat) (ar : Int) (m : List Cell) (v : Value) : Prop where
 c0 : w.cell? ⟨b, 0, none⟩ = some (.int .i64 ar)
 c1 : w.cell? ⟨b, 1, none⟩ = some v
 fr : w.frozen? ⟨b, 0, none⟩ = false
 fr1 : w.frozen? ⟨b, 1, none⟩ = false
 own : w.ownsRow B 76 2 v m.length (flat 2 cEnc m)
 hb : b < B
 hB : B ≤ w.heap.size
theorem KeepX.of_grown {X : List Nat} {w w' : World} {row : Option Nat} (h : w.grownBy w' row) (hX : ∀ g, row = some g → g ∈ X) : KeepX X w w' :=
 ⟨h.os, h.tape, h.output, h.size, fun k hk hx => h.block k hk fun e => hx (hX k e.symm)⟩
def PutPost (w : World) (B b : Nat) (ar : Int) (m : List Cell) (v : Value) (e : Ending) (w' : World) : Prop :=
 e = .returned (.tuple #[]) ∧ ∃ v', GMx w' B b ar m v' ∧ (v'.ownBlock = v.ownBlock ∨ ∃ g, v'.ownBlock = some g ∧ w.heap.size ≤ g) ∧ ∀ X, b ∈ X → (∀ g, v.ownBlock = some g → g ∈ X) → KeepX X w w'
set_option maxRecDepth 100000 in
set_option maxHeartbeats 2000000 in
theorem put_any (m : List Cell) (ar rank r : Int) (b B : Nat) (v : Value) (w : World) (h : GMx w B b ar m v) (hl : m.length ≤ 100000) :
 Calls Try.prog 86 #[.pointer (some ⟨b, 0, none⟩), .int .i64 rank, .int .i64 r] w (PutPost w B b ar (put m rank r) v) := by
 obtain ⟨i0, hi0, hz0, hz1, hz2⟩ := info_parts cell_info
 by_cases hr : r = 1
 · subst hr
   have HP := Lib.hid (show put m rank 1 = m by simp [put])
   have H := Lib.hid h; clear h
   go_enter Try.func86, Try.ntmps86
   go_wp2_with fail
   go_end0
   exact ⟨rfl, v, by rw [HP.out]; exact H.out, .inl rfl, fun X _ _ => KeepX.refl X w⟩
 · have HP := Lib.hid (show put m rank r = m ++ [⟨rank, r⟩] by simp [put, hr])
   have hr1 : (r == 1) = false := by simp [hr]
   have hr2 : (r != 1) = true := by simp [hr]
   have hb := h.hb; have hB := h.hB; have c0 := h.c0; have c1 := h.c1; have fr := h.fr
   have h1 := h
   have hbw : b < w.heap.size := by omega
   have fr1 := h1.fr1
   clear h1
   have HO := Lib.hid h.own
   clear h
   go_enter Try.func86, Try.ntmps86
   go_wp2_with (first | (at_builtin; go_must (refine wpList_app2 (enc := cEnc) rfl _ _ _ rfl B 76 i0 _ 16 Try.underlying28 hi0 hz0 hz1 hz2 rfl (by omega) v m rfl (HO.out.alloc _) (some ⟨w.heap.size, 0, none⟩) [⟨rank, r⟩] 1 rfl (fun h => by cases h) (SlAt.cell1 (by go_cell) (by go_cell)) cEnc_one (by simp [maxLen]; omega) (by simp; omega) (by simp; omega) ?_); intro v2 w3 hown2 hgr2 hbl2 hat2; obtain ⟨q2, cq2, rfl, o1, o2, o3, o4⟩ := owns_val (by decide) hown2; clear o3 o4; have k0 := oldcell hbl2 (keep_alloc c0) hb; have k1 := oldcell hbl2 (keep_alloc c1) hb; have kf := oldfree hbl2 (free_alloc fr hbw) hb; have kf1 := oldfree hbl2 (free_alloc fr1 hbw) hb; have HOW2 := Lib.hid hown2; have HGR2 := Lib.hid hgr2; have HBL2 := Lib.hid hbl2; have HAT2 := Lib.hid hat2; clear hown2 hgr2 hbl2 hat2))
   go_end0
   have hz := HBL2.out.size
   simp at hz
   have hln : (m ++ [(⟨rank, r⟩ : Cell)]).length = m.length + 1 := by simp
   have HOW := HOW2.out; have HAT := HAT2.out
   rw [hln] at HOW HAT
   refine ⟨rfl, _, ⟨(by go_cell), (by go_cell), by rw [World.frozen?_setCell]; exact kf, by rw [World.frozen?_setCell]; exact kf1, by rw [HP.out, hln]; exact ownsRow_setCell_below (a := ⟨b, 1, none⟩) HOW hb _, hb, by simp; omega⟩, ?_, fun X hX hv => ?_⟩
   · rcases HAT with h | h
     · exact .inl h
     · exact .inr ⟨_, h, by simp⟩
   · exact (((KeepX.of_below (Below.alloc (Below.refl _ _) (Nat.le_refl _) _)).trans (KeepX.of_grown HGR2.out hv))).setCell (by exact hX) _
end Go.Proofs.Ytadilppdlbhjnaa
