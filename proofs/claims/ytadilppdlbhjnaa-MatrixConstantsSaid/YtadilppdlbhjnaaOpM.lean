/- What the arguments of the laws of layers 14 and 15 read as. -/
import Derived.Test.YtadilppdlbhjnaaW16
import Derived.Test.YtadilppdlbhjnaaGE
import Derived.Test.YtadilppdlbhjnaaN11
import Derived.ProofKit
import Derived.Deep.Slices
import Derived.Deep.Fields
import Derived.ChangeSame
import Derived.Lib.SmallJoins
namespace Go.Proofs.Ytadilppdlbhjnaa
set_option linter.unusedSimpArgs false
set_option linter.unusedVariables false

set_option maxRecDepth 100000
open Go.ChangeShapes Go.WideShapes Go.ChangeAt Go.RowKit Go.Deep

theorem u8_nat {n : Int} (h : (Lit.int .u8 n).wf = true) : 0 ≤ n ∧ n < 256 := by
  have h2 : IntKind.u8.min ≤ n ∧ n ≤ IntKind.u8.max := by simpa [Lit.wf] using h
  have e0 : IntKind.u8.min = 0 := by decide
  have e1 : IntKind.u8.max = 255 := by decide
  omega
theorem spot_of_cell {w : World} {a : Addr} {k : Nat} {v : Value} (h : w.cell? (a.add k) = some v) (hk : k = 0) : a.spot = none := by
  subst hk
  cases hs : a.spot with
  | none => rfl
  | some x => exfalso; simp [World.cell?, Addr.add, hs] at h; split at h <;> simp_all

/-- A list that the cells hold. -/
theorem sl_choose {α : Type} {E : Nat} (hE : 0 < E) {enc : α → Nat → Value} {P : α → Prop} {w : World} {a : Addr} {len : Nat} (h : ∀ i, i < len → ∃ x, P x ∧ ∀ j, j < E → w.cell? (a.add (i * E + j)) = some (enc x j)) :
    ∃ l : List α, l.length = len ∧ SlAt E enc w (some a) l ∧ ∀ x ∈ l, P x := by
  by_cases h0 : len = 0
  · subst h0; exact ⟨[], rfl, .inl rfl, fun x hx => by cases hx⟩
  have hex : ∃ l : List α, l.length = len ∧ ∀ i x, l[i]? = some x → P x ∧ ∀ j, j < E → w.cell? (a.add (i * E + j)) = some (enc x j) := by
    clear h0
    induction len with
    | zero => exact ⟨[], rfl, fun i x hx => by simp at hx⟩
    | succ n ih =>
      obtain ⟨l, hl, hg⟩ := ih fun i hi => h i (by omega)
      obtain ⟨x, hx1, hx2⟩ := h n (by omega)
      refine ⟨l ++ [x], by simp [hl], fun i y hy => ?_⟩
      by_cases hi : i < l.length
      · rw [List.getElem?_append_left hi] at hy; exact hg i y hy
      · rw [List.getElem?_append_right (by omega)] at hy
        have : i - l.length = 0 := by
          cases hh : i - l.length with
          | zero => rfl
          | succ m => rw [hh] at hy; simp at hy
        rw [this] at hy
        obtain rfl : x = y := by simpa using hy
        obtain rfl : i = n := by omega
        exact ⟨hx1, hx2⟩
  obtain ⟨l, hl, hg⟩ := hex
  refine ⟨l, hl, ?_, fun x hx => ?_⟩
  · obtain ⟨x0, hx0⟩ : ∃ x, l[0]? = some x := ⟨_, List.getElem?_eq_getElem (by omega)⟩
    have hz := (hg 0 x0 hx0).2 0 hE
    have hsp := spot_of_cell hz (by simp)
    obtain ⟨b, off, sp⟩ := a
    dsimp only at hsp
    subst hsp
    rw [add_cell] at hz
    refine .inr ⟨b, off, rfl, World.block_lt_of_cell? w _ hz, fun i x hx j hj => ?_⟩
    have := (hg i x hx).2 j hj
    rwa [add_cell, ← Nat.add_assoc] at this
  · obtain ⟨i, hi⟩ := List.getElem?_of_mem hx
    exact (hg i x hi).1

section
variable {H : Type} {enc : TypeId × Value → H} {w : World} {base b0 : Nat} {r : Reach} {spare : Nat → Bool} {held : Bool} {v : Value} {d : DataW H} {ps : List MemPlace}

/-- A slice whose elements read as α's. -/
theorem open_sl {α : Type} {E : Nat} (hE : 0 < E) {en : α → Nat → Value} {R : α → Prop} {t e : TypeId} (ht : Try.prog.underlying t = some (.slice e)) (hC : Try.prog.cellsOf e = E)
    (hel : ∀ (n : Nat) (cs : List Value) (y : DataW H × List MemPlace), cs.length = E → DataW.trod enc Try.prog w base spare held n e cs = some y → ∃ x, R x ∧ ∀ j, j < E → cs[j]? = some (en x j))
    (hval : ∃ a len cap, v = .slice a len cap) (h : ∃ fuel, DataW.trod enc Try.prog w base spare held fuel t v.cells.toList = some (d, ps)) :
    ∃ (l : List α) (p : Option Addr) (cap : Nat), v = .slice p l.length cap ∧ l.length ≤ cap ∧ cap ≤ maxLen ∧ (p = none → cap = 0) ∧ SlAt E en w p l ∧ ∀ x ∈ l, R x := by
  obtain ⟨a0, len, cap, rfl⟩ := hval
  obtain ⟨fuel, hf⟩ := h
  rcases open_slice ht hf with ⟨hcs, _⟩ | ⟨a, len', cap', m, n, D, Pl, hcs, _, hl, hm, hmm, _, hi⟩
  · simp [Value.cells] at hcs
    obtain ⟨rfl, rfl, rfl⟩ := hcs
    exact ⟨[], none, 0, rfl, by simp, by simp [maxLen], fun _ => rfl, .inl rfl, fun s hs => by cases hs⟩
  · simp [Value.cells] at hcs
    obtain ⟨rfl, rfl, rfl⟩ := hcs
    have hlm : len ≤ m := by rw [hmm]; split <;> omega
    obtain ⟨l, h1, h2, h3⟩ := sl_choose (w := w) (a := a) (len := len) hE (enc := en) (P := R) (fun i hi' => by
      obtain ⟨cs', hc, ht'⟩ := hi i (by omega)
      rw [hC] at hc
      obtain ⟨_, hcl, hat⟩ := World.cells?_some hc
      obtain ⟨x, hx1, hx2⟩ := hel n cs' _ hcl ht'
      refine ⟨x, hx1, fun j hj => ?_⟩
      rw [← Go.Deep.add_add, hat j hj, hx2 j hj])
    exact ⟨l, some a, cap, by rw [h1], by omega, hm, (fun h => by cases h), h2, h3⟩

theorem u8_cell {n : Nat} {c : Value} {z : DataW H × List MemPlace} (h : DataW.trod enc Try.prog w base spare held n 5 [c] = some z) : ∃ k : Nat, k < 256 ∧ c = .int .u8 k := by
  obtain ⟨x, q, _, hw⟩ := DataW.trod_int Try.underlying5 h
  have h2 : IntKind.u8.min ≤ x ∧ x ≤ IntKind.u8.max := by simpa [Lit.wf] using hw
  have e0 : IntKind.u8.min = 0 := by decide
  have e1 : IntKind.u8.max = 255 := by decide
  refine ⟨x.toNat, by omega, ?_⟩
  rw [Int.toNat_of_nonneg (by omega)]
  simpa using q
end

section
variable {H : Type} {enc : TypeId × Value → H} {w : World} {base b0 : Nat} {r : Reach} {spare : Nat → Bool} {held : Bool} {v : Value} {d : DataW H} {ps : List MemPlace}
theorem u8_read {n : Nat} {cs : List Value} {y : DataW H × List MemPlace} (hl : cs.length = 1) (h : DataW.trod enc Try.prog w base spare held n 5 cs = some y) : ∃ s : Nat, s < 256 ∧ ∀ j, j < 1 → cs[j]? = some (ubEnc s j) := by
  match cs, hl with
  | [c], _ =>
    obtain ⟨k, hk, rfl⟩ := u8_cell h
    exact ⟨k, hk, fun j hj => by obtain rfl : j = 0 := by omega
                                 rfl⟩
theorem u8_cellsOf : Try.prog.cellsOf 5 = 1 := by kernel_rfl
theorem open_ubs (hval : Value.okWide Try.prog w r b0 23 v) (h : DataW.Trod enc Try.prog w base spare held 23 v d ps) :
    ∃ (l : List Nat) (p : Option Addr) (cap : Nat), v = .slice p l.length cap ∧ l.length ≤ maxLen ∧ (∀ s ∈ l, s < 256) ∧ UbAt w p l := by
  obtain ⟨l, p, cap, h1, h2, h3, h4, h5, h6⟩ := open_sl (α := Nat) (E := 1) (by decide) (en := ubEnc) (R := fun s => s < 256) Try.underlying23 u8_cellsOf (fun n cs y hc ht => u8_read hc ht) (okWide_slice Try.underlying23 hval) h
  exact ⟨l, p, cap, h1, Nat.le_trans h2 h3, h6, h5⟩
end
end Go.Proofs.Ytadilppdlbhjnaa
