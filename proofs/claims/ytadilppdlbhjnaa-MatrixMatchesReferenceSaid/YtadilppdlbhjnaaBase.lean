import Derived.Test.YtadilppdlbhjnaaRows
import Derived.Test.YtadilppdlbhjnaaGA
import Derived.WalkKit
import Derived.WalkSpells
import Derived.WalkLawsBesides
import Derived.Handy
import Derived.Deep.QuietTactic
import Derived.Deep.LoopGhost
import Derived.Deep.RegionHeld3
import Derived.BigQuiet
import Derived.Lib.Hide
import Derived.Deep.RegionLawGrows
import Derived.Deep.AppendLies
namespace Go.Proofs.Ytadilppdlbhjnaa
set_option linter.unusedSimpArgs false
set_option linter.unusedVariables false
open Go.RowKit
theorem bcell {W w1 : World} (hb : Below W.heap.size W w1) : (∀ b o, b < W.heap.size → w1.cell? ⟨b, o, none⟩ = W.cell? ⟨b, o, none⟩) ∧ (∀ b o, b < W.heap.size → w1.frozen? ⟨b, o, none⟩ = W.frozen? ⟨b, o, none⟩) :=
 ⟨fun b o h => hb.cell (p := ⟨b, o, none⟩) h, fun b o h => hb.frozen (p := ⟨b, o, none⟩) h⟩
theorem ret_int {k : IntKind} {a b : Int} (h : a = b) : Ending.returned (.int k a) = .returned (.int k b) := by rw [h]
theorem ret_bool {a b : Bool} (h : a = b) : Ending.returned (.bool a) = .returned (.bool b) := by rw [h]
theorem oldcell {B : Nat} {W w1 : World} {b o : Nat} {v : Value} (hb : Below B W w1) (h : W.cell? ⟨b, o, none⟩ = some v) (hlt : b < B) : w1.cell? ⟨b, o, none⟩ = some v :=
 (hb.cell (p := ⟨b, o, none⟩) hlt).trans h
theorem Below.drewN {B : Nat} {a w : World} (h : Below B a w) (n : Nat) : Below B a (w.drewN n) := ⟨h.os, h.tape, h.output, h.size, h.block⟩
theorem oldfree {B : Nat} {W w1 : World} {b o : Nat} (hb : Below B W w1) (h : W.frozen? ⟨b, o, none⟩ = false) (hlt : b < B) : w1.frozen? ⟨b, o, none⟩ = false :=
 (hb.frozen (p := ⟨b, o, none⟩) hlt).trans h
theorem keep_far {w : World} {b o : Nat} {v u : Value} {p : Addr} (h : w.cell? ⟨b, o, none⟩ = some v) (hne : p.block ≠ b) : (w.setCell p u).cell? ⟨b, o, none⟩ = some v :=
 (World.cell?_setCell_far w p ⟨b, o, none⟩ u hne).trans h
theorem keep_alloc {w : World} {b o : Nat} {v : Value} {x : Obj} (h : w.cell? ⟨b, o, none⟩ = some v) : (w.alloc x).cell? ⟨b, o, none⟩ = some v :=
 (World.cell?_alloc_some w ⟨b, o, none⟩ x (by rw [h]; rfl)).trans h
theorem keep_drew {w : World} {b o : Nat} {v : Value} (h : w.cell? ⟨b, o, none⟩ = some v) : w.drew.cell? ⟨b, o, none⟩ = some v := h
def SlAt {α : Type} (E : Nat) (enc : α → Nat → Value) (w : World) (p : Option Addr) (xs : List α) : Prop :=
 xs = [] ∨ ∃ b off, p = some ⟨b, off, none⟩ ∧ b < w.heap.size ∧ ∀ i x, xs[i]? = some x → ∀ j, j < E → w.cell? ⟨b, off + i * E + j, none⟩ = some (enc x j)
theorem SlAt.mono {α : Type} {E : Nat} {enc : α → Nat → Value} {w w' : World} {p : Option Addr} {xs : List α} (h : SlAt E enc w p xs) (hB : Below w.heap.size w w') : SlAt E enc w' p xs := by
 rcases h with h | ⟨b, off, hp, hb, hc⟩
 · exact .inl h
 · refine .inr ⟨b, off, hp, Nat.lt_of_lt_of_le hb hB.size, fun i x hx j hj => ?_⟩
   exact oldcell hB (hc i x hx j hj) hb
theorem SlAt.setCell {α : Type} {E : Nat} {enc : α → Nat → Value} {w : World} {p : Option Addr} {xs : List α} (h : SlAt E enc w p xs) {q : Addr} (hne : ∀ a, p = some a → q.block ≠ a.block) (u : Value) : SlAt E enc (w.setCell q u) p xs := by
 rcases h with h | ⟨b, off, hp, hb, hc⟩
 · exact .inl h
 · refine .inr ⟨b, off, hp, by simpa using hb, fun i x hx j hj => ?_⟩
   exact keep_far (hc i x hx j hj) (hne _ hp)
def flat {α : Type} (E : Nat) (enc : α → Nat → Value) (xs : List α) : List Value := xs.flatMap fun x => (List.range E).map (enc x)
theorem flat_append {α : Type} (E : Nat) (enc : α → Nat → Value) (xs ys : List α) : flat E enc (xs ++ ys) = flat E enc xs ++ flat E enc ys := by simp [flat]
theorem flat_length {α : Type} (E : Nat) (enc : α → Nat → Value) (xs : List α) : (flat E enc xs).length = xs.length * E := by
 induction xs with
 | nil => simp [flat]
 | cons x t ih =>
  have : flat E enc (x :: t) = (List.range E).map (enc x) ++ flat E enc t := by simp [flat]
  rw [this, List.length_append, ih]; simp [Nat.succ_mul, Nat.add_comm]
theorem flat_get {α : Type} {E : Nat} {enc : α → Nat → Value} {xs : List α} {i j : Nat} {x : α} (h : xs[i]? = some x) (hj : j < E) : (flat E enc xs)[i * E + j]? = some (enc x j) := by
 induction xs generalizing i with
 | nil => simp at h
 | cons y t ih =>
  have e : flat E enc (y :: t) = (List.range E).map (enc y) ++ flat E enc t := by simp [flat]
  rw [e]
  cases i with
  | zero =>
   obtain rfl : y = x := by simpa using h
   rw [List.getElem?_append_left (by simpa using hj)]
   simp [hj]
  | succ i =>
   rw [List.getElem?_append_right (by rw [Nat.succ_mul]; simp; omega)]
   have : (i + 1) * E + j - ((List.range E).map (enc y)).length = i * E + j := by
    simp [Nat.succ_mul]; omega
   rw [this]
   exact ih (by simpa using h)
theorem flat_inv {α : Type} {E : Nat} {enc : α → Nat → Value} {xs : List α} {n : Nat} {u : Value} (h : (flat E enc xs)[n]? = some u) : ∃ i x j, xs[i]? = some x ∧ j < E ∧ n = i * E + j ∧ u = enc x j := by
 have hl : n < xs.length * E := by
  have := (List.getElem?_eq_some_iff.1 h).1
  rwa [flat_length] at this
 have hE : 0 < E := Nat.pos_of_ne_zero fun e => by subst e; simp at hl
 have hi : n / E < xs.length := Nat.div_lt_of_lt_mul (by rw [Nat.mul_comm]; exact hl)
 have hg := flat_get (E := E) (enc := enc) (List.getElem?_eq_getElem hi) (Nat.mod_lt n hE)
 have he : n / E * E + n % E = n := by rw [Nat.mul_comm]; exact Nat.div_add_mod n E
 rw [he, h] at hg
 exact ⟨n / E, _, n % E, List.getElem?_eq_getElem hi, Nat.mod_lt n hE, he.symm, Option.some.inj hg⟩
theorem add_cell (w : World) (b off j : Nat) : w.cell? ((⟨b, off, none⟩ : Addr).add j) = w.cell? ⟨b, off + j, none⟩ := by
 unfold Addr.add
 split
 · simp [*]
 · rfl
theorem SlAt.news {α : Type} {E : Nat} {enc : α → Nat → Value} {w : World} {a : Addr} {xs : List α} (h : SlAt E enc w (some a) xs) : ∀ j u, (flat E enc xs)[j]? = some u → w.cell? (a.add j) = some u := by
 intro n u hu
 rcases h with rfl | ⟨b, off, hp, hb, hc⟩
 · simp [flat] at hu
 · obtain rfl := Option.some.inj hp
   obtain ⟨i, x, j, hx, hj, rfl, rfl⟩ := flat_inv hu
   rw [add_cell, ← Nat.add_assoc]
   exact hc i x hx j hj
theorem SlAt.of_owns {α : Type} {E : Nat} {enc : α → Nat → Value} {w : World} {base n cap : Nat} {e : TypeId} {p : Option Addr} {xs : List α} (hE : 0 < E) (h : w.ownsRow base e E (.slice p n cap) n (flat E enc xs)) : SlAt E enc w p xs := by
 rcases h.2 with ⟨hv, h0⟩ | ⟨g, c, cur, hv, hg, hh, _, _, hs, ht⟩
 · left
   have h1 := h.1
   rw [flat_length] at h1
   cases hv
   cases xs with
   | nil => rfl
   | cons x t =>
    exfalso
    simp [Nat.succ_mul, h0] at h1
    omega
 · cases hv
   refine .inr ⟨g, 0, rfl, ?_, fun i x hx j hj => ?_⟩
   · rcases Nat.lt_or_ge g w.heap.size with hlt | hge
     · exact hlt
     · rw [Array.getElem?_eq_none hge] at hh; cases hh
   · have := h.cells (g := g) rfl (i * E + j) _ (flat_get hx hj)
     rwa [add_cell, ← Nat.add_assoc] at this
theorem step_clip_append {α : Type} {E : Nat} {enc : α → Nat → Value} {P : Program} {ops : Array Oper} {o : Oper} {a : Act} {w : World} {K : Act → World → Prop} {Q : Exit → Act → World → Prop} {X : Prop}
 (hg : o.guard = none) (s x : Operand) (t : TypeId) (hop : o.op = Op.call { callee := Callee.builtin Builtin.append, args := #[s, x], argTypes := #[t, t] })
 (e : TypeId) (i : TypeInfo) (z : Value) (bytes : Nat) (h1 : P.underlying t = some (.slice e)) (h2 : P.info? e = some i) (h3 : i.zero = some z) (h4 : i.size = E) (h5 : i.bytes = bytes) (h6 : z.cells.size = E) (h7 : 0 < E)
 (p : Option Addr) (xs : List α) (cap : Nat) (hs : a.eval s = .slice p xs.length cap) (hnone : p = none → cap = 0) (hxs : SlAt E enc w p xs)
 (ad : Addr) (ys : List α) (c : Nat) (hx : a.eval x = .slice (some ad) ys.length c) (hys : SlAt E enc w (some ad) ys) (h1c : ∀ y ∈ ys, ∀ j, j < E → (enc y j).oneCell' = true) (hlen : xs.length ≤ cap)
 (hfull : cap < xs.length + ys.length) (b1 : xs.length + ys.length ≤ maxLen) (b2 : (xs.length + ys.length) * bytes ≤ 140737488355328)
 (hK : ∀ g cap' w', SlAt E enc w' (some ⟨g, 0, none⟩) (xs ++ ys) → w.heap.size ≤ g → xs.length + ys.length ≤ cap' → cap' ≤ maxLen → Below w.heap.size w w' → K (a.put o.dst (.slice (some ⟨g, 0, none⟩) (xs.length + ys.length) cap')) w') :
 if Region.wanted o (yielded ops a.tmps) = true then Oper.wp P o a w K Q else X := by
 refine step_append_grows hg s x t hop e i z E bytes h1 h2 h3 h4 h5 h6 h7 p xs.length cap (flat E enc xs) hs (fun h => ⟨by have := hnone h; omega, hnone h⟩) (flat_length E enc xs)
  (fun b hb => by subst hb; exact hxs.news) ad ys.length c (flat E enc ys) hx (flat_length E enc ys) hys.news ?_ hfull b1 b2 ?_
 · intro u hu
   obtain ⟨n, hn⟩ := List.getElem?_of_mem hu
   obtain ⟨i, y, j, hy, hj, _, rfl⟩ := flat_inv hn
   exact h1c y (List.mem_of_getElem? hy) j hj
 · intro v' w' hown hgr
   rw [← flat_append] at hown
   rcases hown.2 with ⟨_, h0⟩ | ⟨g, cap', cur, rfl, hg, _, hc1, hc2, _⟩
   · omega
   · refine hK g cap' w' (SlAt.of_owns h7 hown) hg hc1 hc2 ⟨hgr.os, hgr.tape, hgr.output, hgr.size, fun k hk => hgr.block k hk (by simp)⟩
def gEnc (g : Gate) : Nat → Value
 | 0 => .int .i64 g.k
 | 1 => .int .i64 g.a
 | _ => .int .i64 g.b
def iEnc (n : Int) : Nat → Value := fun _ => .int .i64 n
def bEnc (b : Bool) : Nat → Value := fun _ => .bool b
abbrev GatesAt := SlAt 3 gEnc
abbrev IntsAt := SlAt 1 iEnc
abbrev BoolsAt := SlAt 1 bEnc
theorem SlAt.gate1 {w : World} {b : Nat} {g : Gate} (h0 : w.cell? ⟨b, 0, none⟩ = some (.int .i64 g.k)) (h1 : w.cell? ⟨b, 1, none⟩ = some (.int .i64 g.a)) (h2 : w.cell? ⟨b, 2, none⟩ = some (.int .i64 g.b)) : GatesAt w (some ⟨b, 0, none⟩) [g] := by
 refine .inr ⟨b, 0, rfl, World.block_lt_of_cell? w _ h0, fun i x hx j hj => ?_⟩
 cases i with
 | zero =>
  obtain rfl : g = x := by simpa using hx
  match j, hj with
  | 0, _ => exact h0
  | 1, _ => exact h1
  | 2, _ => exact h2
 | succ i => simp at hx
theorem gEnc_one (g : Gate) (j : Nat) : (gEnc g j).oneCell' = true := by
 unfold gEnc; split <;> rfl
theorem gate_cells {w : World} {b off : Nat} {gs : List Gate} (hc : ∀ i x, gs[i]? = some x → ∀ j, j < 3 → w.cell? ⟨b, off + i * 3 + j, none⟩ = some (gEnc x j)) {i : Nat} {g : Gate} (hi : gs[i]? = some g) :
 w.cell? ⟨b, off + i * 3, none⟩ = some (.int .i64 g.k) ∧ w.cell? ⟨b, off + i * 3 + 1, none⟩ = some (.int .i64 g.a) ∧ w.cell? ⟨b, off + i * 3 + 2, none⟩ = some (.int .i64 g.b) :=
 ⟨hc i g hi 0 (by omega), hc i g hi 1 (by omega), hc i g hi 2 (by omega)⟩
def Fresh (w : World) (p p' : Option Addr) : Prop := p' = p ∨ ∀ a, p' = some a → w.heap.size ≤ a.block
theorem Fresh.new {w : World} {p : Option Addr} {g : Nat} (h : w.heap.size ≤ g) : Fresh w p (some ⟨g, 0, none⟩) := .inr fun a ha => by cases ha; exact h
theorem Fresh.up {w W : World} {p p' : Option Addr} (h : Fresh W p p') (hs : w.heap.size ≤ W.heap.size) : Fresh w p p' :=
 h.imp id fun h a ha => Nat.le_trans hs (h a ha)
theorem Fresh.trans {w W : World} {p p1 p2 : Option Addr} (h1 : Fresh w p p1) (h2 : Fresh W p1 p2) (hs : w.heap.size ≤ W.heap.size) : Fresh w p p2 := by
 rcases h2 with rfl | h2
 · exact h1
 · exact .inr fun a ha => Nat.le_trans hs (h2 a ha)
def RetCirc (w : World) (p0 : Option Addr) (c : List Gate) (r : Int) (e : Ending) (w' : World) : Prop :=
 ∃ p cap, e = .returned (.tuple #[.agg #[.slice p c.length cap], .int .i64 r]) ∧ c.length ≤ cap ∧ cap ≤ maxLen ∧ (p = none → cap = 0) ∧ GatesAt w' p c ∧ Below w.heap.size w w' ∧ Fresh w p0 p
theorem gate_info : (Try.prog.info? 85).map (fun i => (i.zero, i.size, i.bytes)) = some (some (.agg #[.int .i64 0, .int .i64 0, .int .i64 0]), 3, 24) := by kernel_rfl
theorem gate_held : Try.prog.stoodInHeld 85 = false := by kernel_rfl
theorem gate_guard : Try.prog.eqGuardType Try.prog.depth 85 = false := by kernel_rfl
theorem gate_eql (a b c x y z : Int) (w : World) : (binOp .eql 85 (.agg #[.int .i64 a, .int .i64 b, .int .i64 c]) (.agg #[.int .i64 x, .int .i64 y, .int .i64 z])).run Try.prog w = .ok (.bool (gEq a b c x y z)) w := by
 have h1 := gate_held
 simp [binOp, Op.equal, Op.maxDepth, go_sem, h1]
 by_cases h : a = x <;> by_cases h' : b = y <;> by_cases h'' : c = z <;> simp [h, h', h'', gEq]
theorem gate_neq (a b c x y z : Int) (w : World) : (binOp .neq 85 (.agg #[.int .i64 a, .int .i64 b, .int .i64 c]) (.agg #[.int .i64 x, .int .i64 y, .int .i64 z])).run Try.prog w = .ok (.bool (!gEq a b c x y z)) w := by
 have h1 := gate_held
 simp [binOp, Op.equal, Op.maxDepth, go_sem, h1]
 by_cases h : a = x <;> by_cases h' : b = y <;> by_cases h'' : c = z <;> simp [h, h', h'', gEq]
theorem bits_xor_one (r : Int) (h0 : 0 ≤ r) (h1 : r ≤ 9223372036854775807) : bits .xor .i64 r 1 = if r % 2 = 0 then r + 1 else r - 1 := by
 obtain ⟨n, rfl⟩ := Int.eq_ofNat_of_zero_le h0
 have hn : n < 9223372036854775808 := by omega
 have hx := nat_xor_one n
 show IntKind.i64.wrap ((((BitVec.ofInt 64 (n : Int)) ^^^ (BitVec.ofInt 64 1)).toNat : Nat) : Int) = _
 have e1 : (BitVec.ofInt 64 (n : Int)) = BitVec.ofNat 64 n := by simp
 have e2 : (BitVec.ofInt 64 1) = BitVec.ofNat 64 1 := rfl
 rw [e1, e2]
 have e3 : (BitVec.ofNat 64 n ^^^ BitVec.ofNat 64 1).toNat = n ^^^ 1 := by
  rw [BitVec.toNat_xor, BitVec.toNat_ofNat, BitVec.toNat_ofNat, Nat.mod_eq_of_lt (by omega), Nat.mod_eq_of_lt (by omega)]
 rw [e3, hx]
 rw [IntWalk.i64_in]
 · split <;> split <;> omega
 · split <;> omega
theorem zD {W w1 : World} {b o : Nat} {v : Value} (hb : Below W.heap.size W w1) (h : W.cell? ⟨b, o, none⟩ = some v) : w1.cell? ⟨b, o, none⟩ = some v := oldcell hb h (World.block_lt_of_cell? _ _ h)
end Go.Proofs.Ytadilppdlbhjnaa
