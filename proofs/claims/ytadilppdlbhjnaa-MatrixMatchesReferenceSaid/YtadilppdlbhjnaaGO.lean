import Derived.Test.YtadilppdlbhjnaaW16
import Derived.Test.YtadilppdlbhjnaaGE
import Derived.Test.YtadilppdlbhjnaaN11
import Derived.ProofKit
import Derived.Deep.Slices
import Derived.Deep.Fields
import Derived.ChangeSame
import Derived.Lib.SmallJoins
import Derived.Test.YtadilppdlbhjnaaMB
namespace Go.Proofs.Ytadilppdlbhjnaa
set_option linter.unusedSimpArgs false
set_option linter.unusedVariables false
set_option maxRecDepth 100000
open Go.ChangeShapes Go.WideShapes Go.ChangeAt Go.RowKit Go.Deep
def natOf : Option Value → Nat
 | some (.int _ n) => n.toNat
 | _ => 0
def stepAt (w : World) (a : Addr) (i : Nat) : Step := ⟨natOf (w.cell? (a.add (i * 3))), natOf (w.cell? (a.add (i * 3 + 1))), natOf (w.cell? (a.add (i * 3 + 2)))⟩
theorem steps_hone : (Try.prog.underlying 93).map (fun t => match t with | .struct fs => (oneCellFields Try.prog fs, fs.size, fs.toList.map (·.type)) | _ => (false, 0, [])) = some (true, 3, [5, 5, 5]) := by kernel_rfl
theorem step_cellsOf : Try.prog.cellsOf 93 = 3 := by kernel_rfl
theorem open_steps {H : Type} {enc : TypeId × Value → H} {w : World} {base b0 : Nat} {r : Reach} {spare : Nat → Bool} {held : Bool} {v : Value} {d : DataW H} {ps : List MemPlace}
 (hval : Value.okWide Try.prog w r b0 22 v) (h : DataW.Trod enc Try.prog w base spare held 22 v d ps) :
 ∃ (l : List Step) (p : Option Addr) (cap : Nat), v = .slice p l.length cap ∧ l.length ≤ maxLen ∧ StepsAt w p l ∧ ∀ s ∈ l, s.k < 256 ∧ s.a < 256 ∧ s.b < 256 := by
 obtain ⟨a0, len, cap, rfl⟩ := okWide_slice Try.underlying22 hval
 obtain ⟨fuel, hf⟩ := h
 obtain ⟨fs, hu, hone, hsz, hty⟩ : ∃ fs, Try.prog.underlying 93 = some (.struct fs) ∧ oneCellFields Try.prog fs = true ∧ fs.size = 3 ∧ fs.toList.map (·.type) = [5, 5, 5] := by
  have := steps_hone
  cases hu : Try.prog.underlying 93 with
  | none => rw [hu] at this; cases this
  | some t =>
   rw [hu] at this
   cases t <;> simp at this
   exact ⟨_, rfl, this.1, this.2.1, this.2.2⟩
 rcases open_slice Try.underlying22 hf with ⟨hcs, _⟩ | ⟨a, len', cap', m, n, D, Pl, hcs, _, hl, hm, hmm, _, hi⟩
 · simp [Value.cells] at hcs
   obtain ⟨rfl, rfl, rfl⟩ := hcs
   exact ⟨[], none, 0, rfl, by simp, .inl rfl, fun s hs => by cases hs⟩
 · simp [Value.cells] at hcs
   obtain ⟨rfl, rfl, rfl⟩ := hcs
   have hlm : len ≤ m := by rw [hmm]; split <;> omega
   have key : ∀ i, i < len → ∀ j, j < 3 → ∃ z : Nat, z < 256 ∧ w.cell? (a.add (i * 3 + j)) = some (.int .u8 z) := by
    intro i hi' j hj
    obtain ⟨cs', hc, ht'⟩ := hi i (by omega)
    rw [step_cellsOf] at hc
    obtain ⟨ys, n', _, _, _, hyl, hf⟩ := DataW.trod_struct hu ht'
    obtain ⟨_, hcl, hat⟩ := World.cells?_some hc
    have hjf : j < fs.size := by omega
    obtain ⟨f, hfj⟩ : ∃ f, fs[j]? = some f := ⟨_, Array.getElem?_eq_getElem hjf⟩
    have hft : f.type = 5 := by
     have h1 : fs.toList[j]? = some f := by simpa using hfj
     have h2 : (fs.toList.map (·.type))[j]? = some f.type := by rw [List.getElem?_map, h1]; rfl
     rw [hty] at h2
     rcases j with _ | _ | _ | j <;> simp at h2 <;> first | exact h2.symm | omega
    obtain ⟨ho, hk⟩ := hone_of hone j f hfj
    have hcell := hat j hj
    have h1 := hf j f hfj
    rw [ho, hk] at h1
    have hone' : (cs'.drop j).take 1 = [cs'[j]'(by omega)] := by
     rw [List.drop_eq_getElem_cons (by omega)]; rfl
    rw [hone', hft] at h1
    have hys : ys[j]? = some (ys[j]'(by omega)) := List.getElem?_eq_getElem (by omega)
    obtain ⟨z, hz, _, hw⟩ := DataW.trod_int Try.underlying5 (h1.trans hys)
    have hw' : 0 ≤ z ∧ z < 256 := by
     have h2 : IntKind.u8.min ≤ z ∧ z ≤ IntKind.u8.max := by simpa [Lit.wf] using hw
     have e0 : IntKind.u8.min = 0 := by decide
     have e1 : IntKind.u8.max = 255 := by decide
     omega
    refine ⟨z.toNat, by omega, ?_⟩
    rw [← Go.Deep.add_add, hcell]
    rw [List.getElem?_eq_getElem (by omega)]
    have : cs'[j]'(by omega) = Value.int .u8 z := by simpa using hz
    rw [this, Int.toNat_of_nonneg hw'.1]
   refine ⟨(List.range len).map (stepAt w a), some a, cap, by simp, by simp; omega, ?_, ?_⟩
   · by_cases h0 : len = 0
     · subst h0; exact .inl rfl
     · obtain ⟨z, _, hz⟩ := key 0 (by omega) 0 (by omega)
       have hsp : a.spot = none := by
        cases hs : a.spot with
        | none => rfl
        | some x => exfalso; simp [World.cell?, Addr.add, hs] at hz; split at hz <;> simp_all
       obtain ⟨b, off, sp⟩ := a
       dsimp only at hsp
       subst hsp
       refine .inr ⟨b, off, rfl, ?_, ?_⟩
       · rw [add_cell] at hz; exact World.block_lt_of_cell? w _ hz
       · intro i s hs j hj
         rw [List.getElem?_map] at hs
         have hil : i < len := by
          rcases Nat.lt_or_ge i len with h | h
          · exact h
          · rw [List.getElem?_eq_none (by simpa using h)] at hs; cases hs
         rw [List.getElem?_range hil] at hs
         obtain rfl : stepAt w ⟨b, off, none⟩ i = s := by simpa using hs
         obtain ⟨z, _, hz⟩ := key i hil j hj
         rw [add_cell, ← Nat.add_assoc] at hz
         rw [hz]
         rcases j with _ | _ | _ | j
         · simp [sEnc, stepAt, add_cell, Nat.add_zero] at hz ⊢; simp [hz, natOf]
         · simp [sEnc, stepAt, add_cell, ← Nat.add_assoc, hz, natOf]
         · simp [sEnc, stepAt, add_cell, ← Nat.add_assoc, hz, natOf]
         · omega
   · intro s hs
     obtain ⟨i, hi', rfl⟩ := List.mem_map.1 hs
     have hil : i < len := by simpa using hi'
     obtain ⟨x, hx, ex⟩ := key i hil 0 (by omega)
     obtain ⟨y, hy, ey⟩ := key i hil 1 (by omega)
     obtain ⟨z, hz, ez⟩ := key i hil 2 (by omega)
     simp only [Nat.add_zero] at ex
     simp [stepAt, ex, ey, ez, natOf, hx, hy, hz]
theorem u8_nat {n : Int} (h : (Lit.int .u8 n).wf = true) : 0 ≤ n ∧ n < 256 := by
 have h2 : IntKind.u8.min ≤ n ∧ n ≤ IntKind.u8.max := by simpa [Lit.wf] using h
 have e0 : IntKind.u8.min = 0 := by decide
 have e1 : IntKind.u8.max = 255 := by decide
 omega
theorem i64_int {n : Int} (h : (Lit.int .i64 n).wf = true) : n ≤ 9223372036854775807 := by
 have h2 : IntKind.i64.min ≤ n ∧ n ≤ IntKind.i64.max := by simpa [Lit.wf] using h
 have e1 : IntKind.i64.max = 9223372036854775807 := by decide
 omega
theorem spot_of_cell {w : World} {a : Addr} {k : Nat} {v : Value} (h : w.cell? (a.add k) = some v) (hk : k = 0) : a.spot = none := by
 subst hk
 cases hs : a.spot with
 | none => rfl
 | some x => exfalso; simp [World.cell?, Addr.add, hs] at h; split at h <;> simp_all
theorem sl_choose {α : Type} {E : Nat} (hE : 0 < E) {enc : α → Nat → Value} {P : α → Prop} {w : World} {a : Addr} {len : Nat} (h : ∀ i, i < len → ∃ x, P x ∧ ∀ j, j < E → w.cell? (a.add (i * E + j)) = some (enc x j)) :
 ∃ l : List α, l.length = len ∧ SlAt E enc w (some a) l ∧ ∀ x ∈ l, P x := by
 by_cases h0 : len = 0
 · subst h0; exact ⟨[], rfl, .inl rfl, fun x hx => by cases hx⟩
 have hex : ∃ l : List α, l.length = len ∧ ∀ i x, l[i]? = some x → P x ∧ ∀ j, j < E → w.cell? (a.add (i * E + j)) = some (enc x j) := by
  clear h0
  induction len with
  | zero => exact ⟨[], rfl, fun i x hx => by simp at hx⟩
  | succ n ih =>
   obtain ⟨l, hl, hg⟩ := ih fun i hi => h i (by omega)
   obtain ⟨x, hx1, hx2⟩ := h n (by omega)
   refine ⟨l ++ [x], by simp [hl], fun i y hy => ?_⟩
   by_cases hi : i < l.length
   · rw [List.getElem?_append_left hi] at hy; exact hg i y hy
   · rw [List.getElem?_append_right (by omega)] at hy
     have : i - l.length = 0 := by
      cases hh : i - l.length with
      | zero => rfl
      | succ m => rw [hh] at hy; simp at hy
     rw [this] at hy
     obtain rfl : x = y := by simpa using hy
     obtain rfl : i = n := by omega
     exact ⟨hx1, hx2⟩
 obtain ⟨l, hl, hg⟩ := hex
 refine ⟨l, hl, ?_, fun x hx => ?_⟩
 · obtain ⟨x0, hx0⟩ : ∃ x, l[0]? = some x := ⟨_, List.getElem?_eq_getElem (by omega)⟩
   have hz := (hg 0 x0 hx0).2 0 hE
   have hsp := spot_of_cell hz (by simp)
   obtain ⟨b, off, sp⟩ := a
   dsimp only at hsp
   subst hsp
   rw [add_cell] at hz
   refine .inr ⟨b, off, rfl, World.block_lt_of_cell? w _ hz, fun i x hx j hj => ?_⟩
   have := (hg i x hx).2 j hj
   rwa [add_cell, ← Nat.add_assoc] at this
 · obtain ⟨i, hi⟩ := List.getElem?_of_mem hx
   exact (hg i x hi).1
section
variable {H : Type} {enc : TypeId × Value → H} {w : World} {base b0 : Nat} {r : Reach} {spare : Nat → Bool} {held : Bool} {v : Value} {d : DataW H} {ps : List MemPlace}
theorem open_sl {α : Type} {E : Nat} (hE : 0 < E) {en : α → Nat → Value} {R : α → Prop} {t e : TypeId} (ht : Try.prog.underlying t = some (.slice e)) (hC : Try.prog.cellsOf e = E)
 (hel : ∀ (n : Nat) (cs : List Value) (y : DataW H × List MemPlace), cs.length = E → DataW.trod enc Try.prog w base spare held n e cs = some y → ∃ x, R x ∧ ∀ j, j < E → cs[j]? = some (en x j))
 (hval : ∃ a len cap, v = .slice a len cap) (h : ∃ fuel, DataW.trod enc Try.prog w base spare held fuel t v.cells.toList = some (d, ps)) :
 ∃ (l : List α) (p : Option Addr) (cap : Nat), v = .slice p l.length cap ∧ l.length ≤ cap ∧ cap ≤ maxLen ∧ (p = none → cap = 0) ∧ SlAt E en w p l ∧ ∀ x ∈ l, R x := by
 obtain ⟨a0, len, cap, rfl⟩ := hval
 obtain ⟨fuel, hf⟩ := h
 rcases open_slice ht hf with ⟨hcs, _⟩ | ⟨a, len', cap', m, n, D, Pl, hcs, _, hl, hm, hmm, _, hi⟩
 · simp [Value.cells] at hcs
   obtain ⟨rfl, rfl, rfl⟩ := hcs
   exact ⟨[], none, 0, rfl, by simp, by simp [maxLen], fun _ => rfl, .inl rfl, fun s hs => by cases hs⟩
 · simp [Value.cells] at hcs
   obtain ⟨rfl, rfl, rfl⟩ := hcs
   have hlm : len ≤ m := by rw [hmm]; split <;> omega
   obtain ⟨l, h1, h2, h3⟩ := sl_choose (w := w) (a := a) (len := len) hE (enc := en) (P := R) (fun i hi' => by
    obtain ⟨cs', hc, ht'⟩ := hi i (by omega)
    rw [hC] at hc
    obtain ⟨_, hcl, hat⟩ := World.cells?_some hc
    obtain ⟨x, hx1, hx2⟩ := hel n cs' _ hcl ht'
    refine ⟨x, hx1, fun j hj => ?_⟩
    rw [← Go.Deep.add_add, hat j hj, hx2 j hj])
   exact ⟨l, some a, cap, by rw [h1], by omega, hm, (fun h => by cases h), h2, h3⟩
theorem struct_cells {t : TypeId} {E : Nat} {ts : List TypeId} (hh : (Try.prog.underlying t).map (fun t => match t with | .struct fs => (oneCellFields Try.prog fs, fs.size, fs.toList.map (·.type)) | _ => (false, 0, [])) = some (true, E, ts))
 {n : Nat} {cs : List Value} {y : DataW H × List MemPlace} (hl : cs.length = E) (h : DataW.trod enc Try.prog w base spare held n t cs = some y) :
 ∃ m : Nat, ∀ (j : Nat) (tj : TypeId), ts[j]? = some tj → ∃ (c : Value) (z : DataW H × List MemPlace), cs[j]? = some c ∧ DataW.trod enc Try.prog w base spare held m tj [c] = some z := by
 cases hu : Try.prog.underlying t with
 | none => rw [hu] at hh; cases hh
 | some u =>
  rw [hu] at hh
  cases u <;> simp at hh
  rename_i fs
  obtain ⟨hone, hsz, hty⟩ := hh
  obtain ⟨ys, n', _, _, _, hyl, hf⟩ := DataW.trod_struct hu h
  refine ⟨n', fun j tj hj => ?_⟩
  have hjf : j < fs.size := by
   have := (List.getElem?_eq_some_iff.1 hj).1
   rw [← hty] at this; simpa using this
  obtain ⟨f, hfj⟩ : ∃ f, fs[j]? = some f := ⟨_, Array.getElem?_eq_getElem hjf⟩
  have hft : f.type = tj := by
   have h1 : fs.toList[j]? = some f := by simpa using hfj
   have h2 : (fs.toList.map (·.type))[j]? = some f.type := by rw [List.getElem?_map, h1]; rfl
   rw [hty, hj] at h2
   exact (Option.some.inj h2).symm
  obtain ⟨ho, hk⟩ := hone_of hone j f hfj
  have h1 := hf j f hfj
  rw [ho, hk] at h1
  have hone' : (cs.drop j).take 1 = [cs[j]'(by omega)] := by
   rw [List.drop_eq_getElem_cons (by omega)]; rfl
  rw [hone', hft] at h1
  exact ⟨cs[j]'(by omega), ys[j]'(by omega), List.getElem?_eq_getElem (by omega), h1.trans (List.getElem?_eq_getElem (by omega))⟩
theorem u8_cell {n : Nat} {c : Value} {z : DataW H × List MemPlace} (h : DataW.trod enc Try.prog w base spare held n 5 [c] = some z) : ∃ k : Nat, k < 256 ∧ c = .int .u8 k := by
 obtain ⟨x, q, _, hw⟩ := DataW.trod_int Try.underlying5 h
 have h2 : IntKind.u8.min ≤ x ∧ x ≤ IntKind.u8.max := by simpa [Lit.wf] using hw
 have e0 : IntKind.u8.min = 0 := by decide
 have e1 : IntKind.u8.max = 255 := by decide
 refine ⟨x.toNat, by omega, ?_⟩
 rw [Int.toNat_of_nonneg (by omega)]
 simpa using q
end
section
variable {H : Type} {enc : TypeId × Value → H} {w : World} {base b0 : Nat} {r : Reach} {spare : Nat → Bool} {held : Bool} {v : Value} {d : DataW H} {ps : List MemPlace}
theorem slice_of {t e : TypeId} (ht : Try.prog.underlying t = some (.slice e)) {n : Nat} {c : Value} {z : DataW H × List MemPlace} (h : DataW.trod enc Try.prog w base spare held n t [c] = some z) : ∃ a len cap, c = .slice a len cap := by
 rcases open_slice ht h with ⟨hcs, _⟩ | ⟨a, len', cap', _, _, _, _, hcs, _⟩
 · exact ⟨_, _, _, by simpa using hcs⟩
 · exact ⟨_, _, _, by simpa using hcs⟩
theorem u8_read {n : Nat} {cs : List Value} {y : DataW H × List MemPlace} (hl : cs.length = 1) (h : DataW.trod enc Try.prog w base spare held n 5 cs = some y) : ∃ s : Nat, s < 256 ∧ ∀ j, j < 1 → cs[j]? = some (ubEnc s j) := by
  match cs, hl with
  | [c], _ =>
    obtain ⟨k, hk, rfl⟩ := u8_cell h
    exact ⟨k, hk, fun j hj => by obtain rfl : j = 0 := by omega
                                 rfl⟩
theorem u8_cellsOf : Try.prog.cellsOf 5 = 1 := by kernel_rfl
theorem open_ubs (hval : Value.okWide Try.prog w r b0 23 v) (h : DataW.Trod enc Try.prog w base spare held 23 v d ps) :
 ∃ (l : List Nat) (p : Option Addr) (cap : Nat), v = .slice p l.length cap ∧ l.length ≤ maxLen ∧ (∀ s ∈ l, s < 256) ∧ UbAt w p l := by
 obtain ⟨l, p, cap, h1, h2, h3, h4, h5, h6⟩ := open_sl (α := Nat) (E := 1) (by decide) (en := ubEnc) (R := fun s => s < 256) Try.underlying23 u8_cellsOf (fun n cs y hc ht => u8_read hc ht) (okWide_slice Try.underlying23 hval) h
 exact ⟨l, p, cap, h1, Nat.le_trans h2 h3, h6, h5⟩
end
end Go.Proofs.Ytadilppdlbhjnaa
namespace Go.Proofs.Ytadilppdlbhjnaa
set_option linter.unusedSimpArgs false
set_option linter.unusedVariables false
set_option maxRecDepth 100000
open Go.ChangeShapes Go.WideShapes Go.ChangeAt Go.RowKit Go.Deep
section
variable {H : Type} {enc : TypeId × Value → H} {w : World} {base b0 : Nat} {r : Reach} {spare : Nat → Bool} {held : Bool} {v : Value} {d : DataW H} {ps : List MemPlace}
theorem cell_hone : (Try.prog.underlying 76).map (fun t => match t with | .struct fs => (oneCellFields Try.prog fs, fs.size, fs.toList.map (·.type)) | _ => (false, 0, [])) = some (true, 2, [3, 3]) := by kernel_rfl
theorem cell_cellsOf : Try.prog.cellsOf 76 = 2 := by kernel_rfl
theorem cell_read {n : Nat} {cs : List Value} {y : DataW H × List MemPlace} (hl : cs.length = 2) (h : DataW.trod enc Try.prog w base spare held n 76 cs = some y) : ∃ g : Cell, g.ref ≤ 9223372036854775807 ∧ ∀ j, j < 2 → cs[j]? = some (cEnc g j) := by
 obtain ⟨m, hm⟩ := struct_cells cell_hone hl h
 obtain ⟨c0, z0, e0, t0⟩ := hm 0 _ rfl
 obtain ⟨c1, z1, e1, t1⟩ := hm 1 _ rfl
 obtain ⟨x0, q0, _, _⟩ := DataW.trod_int Try.underlying3 t0
 obtain ⟨x1, q1, _, hw⟩ := DataW.trod_int Try.underlying3 t1
 simp at q0 q1
 subst q0 q1
 refine ⟨⟨x0, x1⟩, i64_int hw, fun j hj => ?_⟩
 rcases j with _ | _ | j
 · exact e0
 · exact e1
 · omega
theorem mat_hone : (Try.prog.underlying 30).map (fun t => match t with | .struct fs => (oneCellFields Try.prog fs, fs.size, fs.toList.map (·.type)) | _ => (false, 0, [])) = some (true, 2, [3, 28]) := by kernel_rfl
theorem mat_cellsOf : Try.prog.cellsOf 30 = 2 := by kernel_rfl
theorem mat_struct : ∃ fs, Try.prog.underlying 30 = some (.struct fs) := by
 have := mat_hone
 cases hu : Try.prog.underlying 30 with
 | none => rw [hu] at this; cases this
 | some u => rw [hu] at this; cases u <;> simp at this; exact ⟨_, rfl⟩
theorem open_mraw (hval : Value.okWide Try.prog w r b0 30 v) (h : DataW.Trod enc Try.prog w base spare held 30 v d ps) :
 ∃ (l : List Cell) (ar : Int) (p : Option Addr) (cap : Nat), v = .agg #[.int .i64 ar, .slice p l.length cap] ∧ CellsAt w p l ∧ ∀ x ∈ l, x.ref ≤ 9223372036854775807 := by
 obtain ⟨fs, hfs⟩ := mat_struct
 obtain ⟨cs, rfl, hsz⟩ := okWide_struct hfs hval
 rw [mat_cellsOf] at hsz
 obtain ⟨c0, c1, rfl⟩ : ∃ c0 c1, cs = #[c0, c1] := by
  obtain ⟨l⟩ := cs
  match l, hsz with
  | [c0, c1], _ => exact ⟨c0, c1, rfl⟩
 obtain ⟨fuel, hf⟩ := h
 obtain ⟨m, hm⟩ := struct_cells (cs := [c0, c1]) mat_hone rfl (by simpa [Value.cells] using hf)
 obtain ⟨x0, z0, e0, t0⟩ := hm 0 _ rfl
 obtain ⟨x1, z1, e1, t1⟩ := hm 1 _ rfl
 simp at e0 e1
 subst e0 e1
 obtain ⟨x, qx, _, _⟩ := DataW.trod_int Try.underlying3 t0
 simp at qx
 subst qx
 obtain ⟨a1, l1, k1, rfl⟩ := slice_of Try.underlying28 t1
 obtain ⟨d1, ps1⟩ := z1
 obtain ⟨L, pL, cL, g0, g1, g2, g3, g4, g5⟩ := open_sl (α := Cell) (E := 2) (by decide) (en := cEnc) (R := fun s => s.ref ≤ 9223372036854775807) (v := .slice a1 l1 k1) Try.underlying28 cell_cellsOf (fun n cs y hc ht => cell_read hc ht) ⟨_, _, _, rfl⟩ ⟨m, by simpa [Value.cells] using t1⟩
 cases g0
 exact ⟨L, x, a1, k1, rfl, g4, g5⟩
end
end Go.Proofs.Ytadilppdlbhjnaa
