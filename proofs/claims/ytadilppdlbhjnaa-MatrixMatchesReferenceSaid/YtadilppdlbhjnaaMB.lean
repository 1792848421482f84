import Derived.Test.YtadilppdlbhjnaaW16
import Derived.Test.YtadilppdlbhjnaaGE
import Derived.Test.YtadilppdlbhjnaaW17
import Derived.Test.YtadilppdlbhjnaaGB
namespace Go.Proofs.Ytadilppdlbhjnaa
set_option linter.unusedSimpArgs false
set_option linter.unusedVariables false
open Go.RowKit
def cEnc (x : Cell) : Nat → Value
 | 0 => .int .i64 x.rank
 | _ => .int .i64 x.ref
abbrev CellsAt := SlAt 2 cEnc
theorem cEnc_one (x : Cell) (j : Nat) : (cEnc x j).oneCell' = true := by unfold cEnc; split <;> rfl
theorem SlAt.cell1 {w : World} {b : Nat} {x : Cell} (h0 : w.cell? ⟨b, 0, none⟩ = some (.int .i64 x.rank)) (h1 : w.cell? ⟨b, 1, none⟩ = some (.int .i64 x.ref)) : CellsAt w (some ⟨b, 0, none⟩) [x] := by
 refine .inr ⟨b, 0, rfl, World.block_lt_of_cell? w _ h0, fun i y hy j hj => ?_⟩
 cases i with
 | zero =>
  obtain rfl : x = y := by simpa using hy
  match j, hj with
  | 0, _ => exact h0
  | 1, _ => exact h1
 | succ i => simp at hy
theorem cell_cells {w : World} {p : Option Addr} {xs : List Cell} {i : Nat} {x : Cell} (h : CellsAt w p xs) (hi : xs[i]? = some x) : ∃ b off, p = some ⟨b, off, none⟩ ∧ b < w.heap.size ∧ w.cell? ⟨b, off + i * 2, none⟩ = some (.int .i64 x.rank) ∧ w.cell? ⟨b, off + i * 2 + 1, none⟩ = some (.int .i64 x.ref) := by
 rcases h with rfl | ⟨b, off, hp, hb, hc⟩
 · simp at hi
 · exact ⟨b, off, hp, hb, hc i x hi 0 (by omega), hc i x hi 1 (by omega)⟩
structure MxAt (w : World) (p : Option Addr) (cap : Nat) (m : List Cell) : Prop where
 le : m.length ≤ cap
 cm : cap ≤ maxLen
 p0 : p = none → cap = 0
 at' : CellsAt w p m
 lt : ∀ a, p = some a → a.block < w.heap.size
theorem MxAt.up {w w' : World} {p : Option Addr} {cap : Nat} {m : List Cell} (h : MxAt w p cap m) (hB : Below w.heap.size w w') : MxAt w' p cap m := ⟨h.le, h.cm, h.p0, h.at'.mono hB, fun a ha => Nat.lt_of_lt_of_le (h.lt a ha) hB.size⟩
theorem MxAt.nil (w : World) : MxAt w none 0 [] := ⟨Nat.le_refl _, Nat.zero_le _, fun _ => rfl, .inl rfl, fun a h => by cases h⟩
def MBx (w : World) (b : Nat) (ar : Int) (m : List Cell) : Prop := ∃ p cap, w.cell? ⟨b, 0, none⟩ = some (.int .i64 ar) ∧ w.cell? ⟨b, 1, none⟩ = some (.slice p m.length cap) ∧ w.frozen? ⟨b, 0, none⟩ = false ∧ MxAt w p cap m
theorem MBx.lt {w : World} {b : Nat} {ar : Int} {m : List Cell} (h : MBx w b ar m) : b < w.heap.size := by obtain ⟨p, cap, h1, _⟩ := h; exact World.block_lt_of_cell? w _ h1
theorem MBx.up {w w' : World} {b : Nat} {ar : Int} {m : List Cell} (h : MBx w b ar m) (hB : Below w.heap.size w w') : MBx w' b ar m := by
 have hb := h.lt
 obtain ⟨p, cap, h1, h2, h3, h4⟩ := h
 exact ⟨p, cap, oldcell hB h1 hb, oldcell hB h2 hb, oldfree hB h3 hb, h4.up hB⟩
theorem MBx.new {w : World} {p : Option Addr} {cap : Nat} {ar : Int} {m : List Cell} (h : MxAt w p cap m) (t : TypeId) : MBx (w.alloc (.cells #[.int .i64 ar, .slice p m.length cap] t)) w.heap.size ar m :=
 ⟨p, cap, by go_cell, by go_cell, by go_cell, h.up (by go_grown)⟩
def RetM (w : World) (ar : Int) (m : List Cell) (e : Ending) (w' : World) : Prop := ∃ p cap, e = .returned (.agg #[.int .i64 ar, .slice p m.length cap]) ∧ MxAt w' p cap m ∧ Below w.heap.size w w'
def RetMF (w : World) (p0 : Option Addr) (ar : Int) (m : List Cell) (e : Ending) (w' : World) : Prop := ∃ p cap, e = .returned (.agg #[.int .i64 ar, .slice p m.length cap]) ∧ MxAt w' p cap m ∧ Below w.heap.size w w' ∧ Fresh w p0 p
def Off (s n : Nat) (p : Option Addr) : Prop := ∀ a, p = some a → a.block < s ∨ s + n ≤ a.block
theorem Off.none (s n : Nat) : Off s n none := fun a h => by cases h
theorem Off.old {s n : Nat} {p : Option Addr} (h : ∀ a, p = some a → a.block < s) : Off s n p := fun a ha => .inl (h a ha)
theorem Off.fresh {s n : Nat} {w : World} {p0 p : Option Addr} (h : Fresh w p0 p) (h0 : Off s n p0) (hs : s + n ≤ w.heap.size) : Off s n p := by
 rcases h with rfl | h
 · exact h0
 · exact fun a ha => .inr (Nat.le_trans hs (h a ha))
theorem Off.ge {s n : Nat} {w : World} {p : Option Addr} (h : ∀ a, p = some a → w.heap.size ≤ a.block) (hs : s + n ≤ w.heap.size) : Off s n p := fun a ha => .inr (Nat.le_trans hs (h a ha))
theorem Off.ne {s n b : Nat} {p : Option Addr} (h : Off s n p) (h1 : s ≤ b) (h2 : b < s + n) : ∀ a, p = some a → b ≠ a.block := fun a ha e => by have := h a ha; omega
theorem CAt.set {w : World} {p : Option Addr} {cap b o : Nat} {gs : List Gate} (h : CAt w p cap gs) (hn : ∀ a, p = some a → b ≠ a.block) (v : Value) : CAt (w.setCell ⟨b, o, none⟩ v) p cap gs := ⟨h.le, h.cm, h.p0, h.at'.setCell hn v⟩
theorem MxAt.set {w : World} {p : Option Addr} {cap b o : Nat} {m : List Cell} (h : MxAt w p cap m) (hn : ∀ a, p = some a → b ≠ a.block) (v : Value) : MxAt (w.setCell ⟨b, o, none⟩ v) p cap m := ⟨h.le, h.cm, h.p0, h.at'.setCell hn v, fun a ha => by have := h.lt a ha; simpa using this⟩
def RetCM (w : World) (c : List Gate) (ar : Int) (m : List Cell) (e : Ending) (w' : World) : Prop :=
 ∃ p cap q cq, e = .returned (.tuple #[.agg #[.slice p c.length cap], .agg #[.int .i64 ar, .slice q m.length cq]]) ∧ CAt w' p cap c ∧ MxAt w' q cq m ∧ Below w.heap.size w w'
def FreshB (w : World) (p p' : Option Addr) : Prop := ∀ a, p' = some a → (∃ a0, p = some a0 ∧ a.block = a0.block) ∨ w.heap.size ≤ a.block
theorem FreshB.of {w : World} {p p' : Option Addr} (h : Fresh w p p') : FreshB w p p' := fun a ha => by
 rcases h with rfl | h
 · exact .inl ⟨a, ha, rfl⟩
 · exact .inr (h a ha)
theorem FreshB.refl (w : World) (p : Option Addr) : FreshB w p p := fun a ha => .inl ⟨a, ha, rfl⟩
theorem FreshB.up {w W : World} {p p' : Option Addr} (h : FreshB W p p') (hs : w.heap.size ≤ W.heap.size) : FreshB w p p' := fun a ha => (h a ha).imp id fun h => Nat.le_trans hs h
theorem FreshB.trans {w W : World} {p p1 p2 : Option Addr} (h1 : FreshB w p p1) (h2 : FreshB W p1 p2) (hs : w.heap.size ≤ W.heap.size) : FreshB w p p2 := fun a ha => by
 rcases h2 a ha with ⟨a0, e0, e⟩ | h
 · rcases h1 a0 e0 with ⟨b0, f0, f⟩ | h
   · exact .inl ⟨b0, f0, e.trans f⟩
   · exact .inr (by rw [e]; exact h)
 · exact .inr (Nat.le_trans hs h)
theorem FreshB.ne {w : World} {p0 p : Option Addr} {g : Nat} (h : FreshB w p0 p) (h0 : ∀ a, p0 = some a → a.block ≠ g) (hg : g < w.heap.size) : ∀ a, p = some a → a.block ≠ g := fun a ha e => by
 rcases h a ha with ⟨a0, e0, e1⟩ | h
 · exact h0 a0 e0 (by omega)
 · omega
theorem FreshB.any {w : World} {q x : Option Addr} (h : ∀ a, q = some a → w.heap.size ≤ a.block) : FreshB w x q := fun a ha => .inr (h a ha)
def RetCMB (w : World) (p0 : Option Addr) (c : List Gate) (ar : Int) (m : List Cell) (e : Ending) (w' : World) : Prop :=
 ∃ p cap q cq, e = .returned (.tuple #[.agg #[.slice p c.length cap], .agg #[.int .i64 ar, .slice q m.length cq]]) ∧ CAt w' p cap c ∧ MxAt w' q cq m ∧ Below w.heap.size w w' ∧ FreshB w p0 p ∧ ∀ a, q = some a → w.heap.size ≤ a.block
def oth (s : Nat) (p : Option Addr) : List Nat := (List.range s).filter fun k => match p with | some a => k != a.block | none => true
theorem oth_lt {s k : Nat} {p : Option Addr} (h : k ∈ oth s p) : k < s := by unfold oth at h; exact List.mem_range.1 (List.mem_filter.1 h).1
theorem oth_not {s : Nat} {p : Option Addr} {a : Addr} (h : p = some a) : a.block ∉ oth s p := by subst h; unfold oth; simp
theorem oth_of {s k : Nat} {p : Option Addr} (h : k ∉ oth s p) (hk : k < s) : ∃ a, p = some a ∧ k = a.block := by
 unfold oth at h
 rw [List.mem_filter, List.mem_range] at h
 cases p with
 | none => exact absurd ⟨hk, rfl⟩ h
 | some a => exact ⟨a, rfl, by false_or_by_contra; rename_i e; exact h ⟨hk, by simp [e]⟩⟩
theorem cell_info : (Try.prog.info? 76).map (fun i => (i.zero, i.size, i.bytes)) = some (some (.agg #[.int .i64 0, .int .i64 0]), 2, 16) := by kernel_rfl
end Go.Proofs.Ytadilppdlbhjnaa
