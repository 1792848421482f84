/- What the arguments of the laws of layer 13 read as. -/
import Derived.Test.YtanlecgpnknhoaaW15
import Derived.ProofKit
import Derived.Deep.Slices
import Derived.Deep.Fields
import Derived.ChangeSame
namespace Go.Proofs.Ytanlecgpnknhoaa
set_option linter.unusedSimpArgs false
set_option linter.unusedVariables false
open Go.ChangeShapes Go.WideShapes Go.ChangeAt Go.RowKit Go.Deep

def natOf : Option Value → Nat
  | some (.int _ n) => n.toNat
  | _ => 0
def stepAt (w : World) (a : Addr) (i : Nat) : Step := ⟨natOf (w.cell? (a.add (i * 3))), natOf (w.cell? (a.add (i * 3 + 1))), natOf (w.cell? (a.add (i * 3 + 2)))⟩

theorem steps_hone : (Try.prog.underlying 42).map (fun t => match t with | .struct fs => (oneCellFields Try.prog fs, fs.size, fs.toList.map (·.type)) | _ => (false, 0, [])) = some (true, 3, [5, 5, 5]) := by kernel_rfl
theorem step_cellsOf : Try.prog.cellsOf 42 = 3 := by kernel_rfl

theorem open_steps {H : Type} {enc : TypeId × Value → H} {w : World} {base b0 : Nat} {r : Reach} {spare : Nat → Bool} {held : Bool} {v : Value} {d : DataW H} {ps : List MemPlace}
    (hval : Value.okWide Try.prog w r b0 22 v) (h : DataW.Trod enc Try.prog w base spare held 22 v d ps) :
    ∃ (l : List Step) (p : Option Addr) (cap : Nat), v = .slice p l.length cap ∧ l.length ≤ maxLen ∧ StepsAt w p l ∧ ∀ s ∈ l, s.k < 256 ∧ s.a < 256 ∧ s.b < 256 := by
  obtain ⟨a0, len, cap, rfl⟩ := okWide_slice Try.underlying22 hval
  obtain ⟨fuel, hf⟩ := h
  obtain ⟨fs, hu, hone, hsz, hty⟩ : ∃ fs, Try.prog.underlying 42 = some (.struct fs) ∧ oneCellFields Try.prog fs = true ∧ fs.size = 3 ∧ fs.toList.map (·.type) = [5, 5, 5] := by
    have := steps_hone
    cases hu : Try.prog.underlying 42 with
    | none => rw [hu] at this; cases this
    | some t =>
      rw [hu] at this
      cases t <;> simp at this
      exact ⟨_, rfl, this.1, this.2.1, this.2.2⟩
  rcases open_slice Try.underlying22 hf with ⟨hcs, _⟩ | ⟨a, len', cap', m, n, D, Pl, hcs, _, hl, hm, hmm, _, hi⟩
  · simp [Value.cells] at hcs
    obtain ⟨rfl, rfl, rfl⟩ := hcs
    exact ⟨[], none, 0, rfl, by simp, .inl rfl, fun s hs => by cases hs⟩
  · simp [Value.cells] at hcs
    obtain ⟨rfl, rfl, rfl⟩ := hcs
    have hlm : len ≤ m := by rw [hmm]; split <;> omega
    have key : ∀ i, i < len → ∀ j, j < 3 → ∃ z : Nat, z < 256 ∧ w.cell? (a.add (i * 3 + j)) = some (.int .u8 z) := by
      intro i hi' j hj
      obtain ⟨cs', hc, ht'⟩ := hi i (by omega)
      rw [step_cellsOf] at hc
      obtain ⟨ys, n', _, _, _, hyl, hf⟩ := DataW.trod_struct hu ht'
      obtain ⟨_, hcl, hat⟩ := World.cells?_some hc
      have hjf : j < fs.size := by omega
      obtain ⟨f, hfj⟩ : ∃ f, fs[j]? = some f := ⟨_, Array.getElem?_eq_getElem hjf⟩
      have hft : f.type = 5 := by
        have h1 : fs.toList[j]? = some f := by simpa using hfj
        have h2 : (fs.toList.map (·.type))[j]? = some f.type := by rw [List.getElem?_map, h1]; rfl
        rw [hty] at h2
        rcases j with _ | _ | _ | j <;> simp at h2 <;> first | exact h2.symm | omega
      obtain ⟨ho, hk⟩ := hone_of hone j f hfj
      have hcell := hat j hj
      have h1 := hf j f hfj
      rw [ho, hk] at h1
      have hone' : (cs'.drop j).take 1 = [cs'[j]'(by omega)] := by
        rw [List.drop_eq_getElem_cons (by omega)]; rfl
      rw [hone', hft] at h1
      have hys : ys[j]? = some (ys[j]'(by omega)) := List.getElem?_eq_getElem (by omega)
      obtain ⟨z, hz, _, hw⟩ := DataW.trod_int Try.underlying5 (h1.trans hys)
      have hw' : 0 ≤ z ∧ z < 256 := by
        have h2 : IntKind.u8.min ≤ z ∧ z ≤ IntKind.u8.max := by simpa [Lit.wf] using hw
        have e0 : IntKind.u8.min = 0 := by decide
        have e1 : IntKind.u8.max = 255 := by decide
        omega
      refine ⟨z.toNat, by omega, ?_⟩
      rw [← Go.Deep.add_add, hcell]
      rw [List.getElem?_eq_getElem (by omega)]
      have : cs'[j]'(by omega) = Value.int .u8 z := by simpa using hz
      rw [this, Int.toNat_of_nonneg hw'.1]
    refine ⟨(List.range len).map (stepAt w a), some a, cap, by simp, by simp; omega, ?_, ?_⟩
    · by_cases h0 : len = 0
      · subst h0; exact .inl rfl
      · obtain ⟨z, _, hz⟩ := key 0 (by omega) 0 (by omega)
        have hsp : a.spot = none := by
          cases hs : a.spot with
          | none => rfl
          | some x => exfalso; simp [World.cell?, Addr.add, hs] at hz; split at hz <;> simp_all
        obtain ⟨b, off, sp⟩ := a
        dsimp only at hsp
        subst hsp
        refine .inr ⟨b, off, rfl, ?_, ?_⟩
        · rw [add_cell] at hz; exact World.block_lt_of_cell? w _ hz
        · intro i s hs j hj
          rw [List.getElem?_map] at hs
          have hil : i < len := by
            rcases Nat.lt_or_ge i len with h | h
            · exact h
            · rw [List.getElem?_eq_none (by simpa using h)] at hs; cases hs
          rw [List.getElem?_range hil] at hs
          obtain rfl : stepAt w ⟨b, off, none⟩ i = s := by simpa using hs
          obtain ⟨z, _, hz⟩ := key i hil j hj
          rw [add_cell, ← Nat.add_assoc] at hz
          rw [hz]
          rcases j with _ | _ | _ | j
          · simp [sEnc, stepAt, add_cell, Nat.add_zero] at hz ⊢; simp [hz, natOf]
          · simp [sEnc, stepAt, add_cell, ← Nat.add_assoc, hz, natOf]
          · simp [sEnc, stepAt, add_cell, ← Nat.add_assoc, hz, natOf]
          · omega
    · intro s hs
      obtain ⟨i, hi', rfl⟩ := List.mem_map.1 hs
      have hil : i < len := by simpa using hi'
      obtain ⟨x, hx, ex⟩ := key i hil 0 (by omega)
      obtain ⟨y, hy, ey⟩ := key i hil 1 (by omega)
      obtain ⟨z, hz, ez⟩ := key i hil 2 (by omega)
      simp only [Nat.add_zero] at ex
      simp [stepAt, ex, ey, ez, natOf, hx, hy, hz]
end Go.Proofs.Ytanlecgpnknhoaa
