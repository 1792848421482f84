/- What the arguments of the laws of layer 21 read as. -/
import Derived.Test.YtdibfjcmgbpnpaaKS
import Derived.ProofKit
import Derived.Deep.Slices
import Derived.Deep.Fields
import Derived.ChangeSame
import Derived.Lib.SmallJoins
namespace Go.Proofs.Ytdibfjcmgbpnpaa
set_option linter.unusedSimpArgs false
set_option linter.unusedVariables false

set_option maxRecDepth 100000
open Go.ChangeShapes Go.WideShapes Go.ChangeAt Go.RowKit Go.Deep

theorem u8_nat {n : Int} (h : (Lit.int .u8 n).wf = true) : 0 ≤ n ∧ n < 256 := by
  have h2 : IntKind.u8.min ≤ n ∧ n ≤ IntKind.u8.max := by simpa [Lit.wf] using h
  have e0 : IntKind.u8.min = 0 := by decide
  have e1 : IntKind.u8.max = 255 := by decide
  omega
theorem i64_int {n : Int} (h : (Lit.int .i64 n).wf = true) : n ≤ 9223372036854775807 := by
  have h2 : IntKind.i64.min ≤ n ∧ n ≤ IntKind.i64.max := by simpa [Lit.wf] using h
  have e1 : IntKind.i64.max = 9223372036854775807 := by decide
  omega
theorem spot_of_cell {w : World} {a : Addr} {k : Nat} {v : Value} (h : w.cell? (a.add k) = some v) (hk : k = 0) : a.spot = none := by
  subst hk
  cases hs : a.spot with
  | none => rfl
  | some x => exfalso; simp [World.cell?, Addr.add, hs] at h; split at h <;> simp_all
/-- A list that the cells hold. -/
theorem sl_choose {α : Type} {E : Nat} (hE : 0 < E) {enc : α → Nat → Value} {P : α → Prop} {w : World} {a : Addr} {len : Nat} (h : ∀ i, i < len → ∃ x, P x ∧ ∀ j, j < E → w.cell? (a.add (i * E + j)) = some (enc x j)) :
    ∃ l : List α, l.length = len ∧ SlAt E enc w (some a) l ∧ ∀ x ∈ l, P x := by
  by_cases h0 : len = 0
  · subst h0; exact ⟨[], rfl, .inl rfl, fun x hx => by cases hx⟩
  have hex : ∃ l : List α, l.length = len ∧ ∀ i x, l[i]? = some x → P x ∧ ∀ j, j < E → w.cell? (a.add (i * E + j)) = some (enc x j) := by
    clear h0
    induction len with
    | zero => exact ⟨[], rfl, fun i x hx => by simp at hx⟩
    | succ n ih =>
      obtain ⟨l, hl, hg⟩ := ih fun i hi => h i (by omega)
      obtain ⟨x, hx1, hx2⟩ := h n (by omega)
      refine ⟨l ++ [x], by simp [hl], fun i y hy => ?_⟩
      by_cases hi : i < l.length
      · rw [List.getElem?_append_left hi] at hy; exact hg i y hy
      · rw [List.getElem?_append_right (by omega)] at hy
        have : i - l.length = 0 := by
          cases hh : i - l.length with
          | zero => rfl
          | succ m => rw [hh] at hy; simp at hy
        rw [this] at hy
        obtain rfl : x = y := by simpa using hy
        obtain rfl : i = n := by omega
        exact ⟨hx1, hx2⟩
  obtain ⟨l, hl, hg⟩ := hex
  refine ⟨l, hl, ?_, fun x hx => ?_⟩
  · obtain ⟨x0, hx0⟩ : ∃ x, l[0]? = some x := ⟨_, List.getElem?_eq_getElem (by omega)⟩
    have hz := (hg 0 x0 hx0).2 0 hE
    have hsp := spot_of_cell hz (by simp)
    obtain ⟨b, off, sp⟩ := a
    dsimp only at hsp
    subst hsp
    rw [add_cell] at hz
    refine .inr ⟨b, off, rfl, World.block_lt_of_cell? w _ hz, fun i x hx j hj => ?_⟩
    have := (hg i x hx).2 j hj
    rwa [add_cell, ← Nat.add_assoc] at this
  · obtain ⟨i, hi⟩ := List.getElem?_of_mem hx
    exact (hg i x hi).1

section
variable {H : Type} {enc : TypeId × Value → H} {w : World} {base b0 : Nat} {r : Reach} {spare : Nat → Bool} {held : Bool} {v : Value} {d : DataW H} {ps : List MemPlace}
/-- A slice whose elements read as α's. -/
theorem open_sl {α : Type} {E : Nat} (hE : 0 < E) {en : α → Nat → Value} {R : α → Prop} {t e : TypeId} (ht : Try.prog.underlying t = some (.slice e)) (hC : Try.prog.cellsOf e = E)
    (hel : ∀ (n : Nat) (cs : List Value) (y : DataW H × List MemPlace), cs.length = E → DataW.trod enc Try.prog w base spare held n e cs = some y → ∃ x, R x ∧ ∀ j, j < E → cs[j]? = some (en x j))
    (hval : ∃ a len cap, v = .slice a len cap) (h : ∃ fuel, DataW.trod enc Try.prog w base spare held fuel t v.cells.toList = some (d, ps)) :
    ∃ (l : List α) (p : Option Addr) (cap : Nat), v = .slice p l.length cap ∧ l.length ≤ cap ∧ cap ≤ maxLen ∧ (p = none → cap = 0) ∧ SlAt E en w p l ∧ ∀ x ∈ l, R x := by
  obtain ⟨a0, len, cap, rfl⟩ := hval
  obtain ⟨fuel, hf⟩ := h
  rcases open_slice ht hf with ⟨hcs, _⟩ | ⟨a, len', cap', m, n, D, Pl, hcs, _, hl, hm, hmm, _, hi⟩
  · simp [Value.cells] at hcs
    obtain ⟨rfl, rfl, rfl⟩ := hcs
    exact ⟨[], none, 0, rfl, by simp, by simp [maxLen], fun _ => rfl, .inl rfl, fun s hs => by cases hs⟩
  · simp [Value.cells] at hcs
    obtain ⟨rfl, rfl, rfl⟩ := hcs
    have hlm : len ≤ m := by rw [hmm]; split <;> omega
    obtain ⟨l, h1, h2, h3⟩ := sl_choose (w := w) (a := a) (len := len) hE (enc := en) (P := R) (fun i hi' => by
      obtain ⟨cs', hc, ht'⟩ := hi i (by omega)
      rw [hC] at hc
      obtain ⟨_, hcl, hat⟩ := World.cells?_some hc
      obtain ⟨x, hx1, hx2⟩ := hel n cs' _ hcl ht'
      refine ⟨x, hx1, fun j hj => ?_⟩
      rw [← Go.Deep.add_add, hat j hj, hx2 j hj])
    exact ⟨l, some a, cap, by rw [h1], by omega, hm, (fun h => by cases h), h2, h3⟩
/-- A struct of k one-cell fields: each cell by its field. -/
theorem struct_cells {t : TypeId} {E : Nat} {ts : List TypeId} (hh : (Try.prog.underlying t).map (fun t => match t with | .struct fs => (oneCellFields Try.prog fs, fs.size, fs.toList.map (·.type)) | _ => (false, 0, [])) = some (true, E, ts))
    {n : Nat} {cs : List Value} {y : DataW H × List MemPlace} (hl : cs.length = E) (h : DataW.trod enc Try.prog w base spare held n t cs = some y) :
    ∃ m : Nat, ∀ (j : Nat) (tj : TypeId), ts[j]? = some tj → ∃ (c : Value) (z : DataW H × List MemPlace), cs[j]? = some c ∧ DataW.trod enc Try.prog w base spare held m tj [c] = some z := by
  cases hu : Try.prog.underlying t with
  | none => rw [hu] at hh; cases hh
  | some u =>
    rw [hu] at hh
    cases u <;> simp at hh
    rename_i fs
    obtain ⟨hone, hsz, hty⟩ := hh
    obtain ⟨ys, n', _, _, _, hyl, hf⟩ := DataW.trod_struct hu h
    refine ⟨n', fun j tj hj => ?_⟩
    have hjf : j < fs.size := by
      have := (List.getElem?_eq_some_iff.1 hj).1
      rw [← hty] at this; simpa using this
    obtain ⟨f, hfj⟩ : ∃ f, fs[j]? = some f := ⟨_, Array.getElem?_eq_getElem hjf⟩
    have hft : f.type = tj := by
      have h1 : fs.toList[j]? = some f := by simpa using hfj
      have h2 : (fs.toList.map (·.type))[j]? = some f.type := by rw [List.getElem?_map, h1]; rfl
      rw [hty, hj] at h2
      exact (Option.some.inj h2).symm
    obtain ⟨ho, hk⟩ := hone_of hone j f hfj
    have h1 := hf j f hfj
    rw [ho, hk] at h1
    have hone' : (cs.drop j).take 1 = [cs[j]'(by omega)] := by
      rw [List.drop_eq_getElem_cons (by omega)]; rfl
    rw [hone', hft] at h1
    exact ⟨cs[j]'(by omega), ys[j]'(by omega), List.getElem?_eq_getElem (by omega), h1.trans (List.getElem?_eq_getElem (by omega))⟩
theorem u8_cell {n : Nat} {c : Value} {z : DataW H × List MemPlace} (h : DataW.trod enc Try.prog w base spare held n 5 [c] = some z) : ∃ k : Nat, k < 256 ∧ c = .int .u8 k := by
  obtain ⟨x, q, _, hw⟩ := DataW.trod_int Try.underlying5 h
  have h2 : IntKind.u8.min ≤ x ∧ x ≤ IntKind.u8.max := by simpa [Lit.wf] using hw
  have e0 : IntKind.u8.min = 0 := by decide
  have e1 : IntKind.u8.max = 255 := by decide
  refine ⟨x.toNat, by omega, ?_⟩
  rw [Int.toNat_of_nonneg (by omega)]
  simpa using q
theorem slice_of {t e : TypeId} (ht : Try.prog.underlying t = some (.slice e)) {n : Nat} {c : Value} {z : DataW H × List MemPlace} (h : DataW.trod enc Try.prog w base spare held n t [c] = some z) : ∃ a len cap, c = .slice a len cap := by
  rcases open_slice ht h with ⟨hcs, _⟩ | ⟨a, len', cap', _, _, _, _, hcs, _⟩
  · exact ⟨_, _, _, by simpa using hcs⟩
  · exact ⟨_, _, _, by simpa using hcs⟩
theorem int_cellsOf : Try.prog.cellsOf 3 = 1 := by kernel_rfl
theorem int_read {n : Nat} {cs : List Value} {y : DataW H × List MemPlace} (hl : cs.length = 1) (h : DataW.trod enc Try.prog w base spare held n 3 cs = some y) : ∃ x : Int, True ∧ ∀ j, j < 1 → cs[j]? = some (iEnc x j) := by
  match cs, hl with
  | [c], _ =>
    obtain ⟨x, q, _, _⟩ := DataW.trod_int Try.underlying3 h
    simp at q; subst q
    exact ⟨x, trivial, fun j hj => by obtain rfl : j = 0 := by omega
                                      rfl⟩
theorem SI.of_at {p : Option Addr} {cap : Nat} {l : List Int} (h1 : l.length ≤ cap) (h2 : cap ≤ maxLen) (h3 : p = none → cap = 0) (h4 : SlAt 1 iEnc w p l) : SI w p cap l :=
  ⟨h1, h2, h3, h4, fun h0 a ha => by
    rcases h4 with e | ⟨b, off, hp, hb, -⟩
    · exact absurd e h0
    · rw [ha] at hp; cases hp; exact hb⟩
theorem open_ints (hval : ∃ a len cap, v = .slice a len cap) (h : ∃ fuel, DataW.trod enc Try.prog w base spare held fuel 29 v.cells.toList = some (d, ps)) :
    ∃ (l : List Int) (p : Option Addr) (cap : Nat), v = .slice p l.length cap ∧ SI w p cap l := by
  obtain ⟨l, p, cap, h1, h2, h3, h4, h5, -⟩ := open_sl (α := Int) (E := 1) (by decide) (en := iEnc) (R := fun _ => True) Try.underlying29 int_cellsOf (fun n cs y hc ht => int_read hc ht) hval h
  exact ⟨l, p, cap, h1, SI.of_at h2 h3 h4 h5⟩
theorem act_hone : (Try.prog.underlying 31).map (fun t => match t with | .struct fs => (oneCellFields Try.prog fs, fs.size, fs.toList.map (·.type)) | _ => (false, 0, [])) = some (true, 3, [4, 29, 5]) := by kernel_rfl
theorem act_cellsOf : Try.prog.cellsOf 31 = 3 := by kernel_rfl
/-- an operation as its three cells hold it -/
def acEnc (x : SAct × Option Addr × Nat) : Nat → Value
  | 0 => .bool x.1.solve
  | 1 => .slice x.2.1 x.1.lits.length x.2.2
  | _ => .int .u8 x.1.fuel
theorem act_read {n : Nat} {cs : List Value} {y : DataW H × List MemPlace} (hl : cs.length = 3) (h : DataW.trod enc Try.prog w base spare held n 31 cs = some y) : ∃ x : SAct × Option Addr × Nat, (x.1.fuel < 256 ∧ SI w x.2.1 x.2.2 x.1.lits) ∧ ∀ j, j < 3 → cs[j]? = some (acEnc x j) := by
  obtain ⟨m, hm⟩ := struct_cells act_hone hl h
  obtain ⟨c0, z0, e0, t0⟩ := hm 0 _ rfl
  obtain ⟨c1, z1, e1, t1⟩ := hm 1 _ rfl
  obtain ⟨c2, z2, e2, t2⟩ := hm 2 _ rfl
  obtain ⟨b, q0, _⟩ := DataW.trod_bool Try.underlying4 t0
  obtain ⟨k2, hk2, rfl⟩ := u8_cell t2
  obtain ⟨d1, ps1⟩ := z1
  obtain ⟨a, len, cap, rfl⟩ := slice_of Try.underlying29 t1
  obtain ⟨l, p, cap', h1, h2⟩ := open_ints (v := .slice a len cap) ⟨_, _, _, rfl⟩ ⟨m, by simpa [Value.cells] using t1⟩
  simp at q0
  subst q0
  rw [h1] at e1
  refine ⟨(⟨b, l, k2⟩, p, cap'), ⟨hk2, h2⟩, fun j hj => ?_⟩
  rcases j with _ | _ | _ | j
  · exact e0
  · exact e1
  · exact e2
  · omega
theorem open_acts (hval : Value.okWide Try.prog w r b0 22 v) (h : DataW.Trod enc Try.prog w base spare held 22 v d ps) :
    ∃ (l : List SAct) (p : Option Addr) (cap : Nat), v = .slice p l.length cap ∧ AcAt w p cap l := by
  obtain ⟨L, p, cap, h1, h2, h3, h4, h5, h6⟩ := open_sl (α := SAct × Option Addr × Nat) (E := 3) (by decide) (en := acEnc) (R := fun x => x.1.fuel < 256 ∧ SI w x.2.1 x.2.2 x.1.lits) Try.underlying22 act_cellsOf (fun n cs y hc ht => act_read hc ht) (okWide_slice Try.underlying22 hval) h
  refine ⟨L.map (·.1), p, cap, by rw [List.length_map]; exact h1, ⟨by rw [List.length_map]; exact h2, h3, h4, fun i x hx => ?_⟩⟩
  rw [List.getElem?_map] at hx
  cases hL : L[i]? with
  | none => rw [hL] at hx; cases hx
  | some y =>
    rw [hL] at hx
    obtain rfl : y.1 = x := by simpa using hx
    obtain ⟨hf, hs⟩ := h6 y (List.mem_of_getElem? hL)
    rcases h5 with e | ⟨b, off, hp, hb, hc⟩
    · rw [e] at hL; simp at hL
    · exact ⟨b, off, y.2.1, y.2.2, hp, hc i y hL 0 (by omega), hc i y hL 1 (by omega), hc i y hL 2 (by omega), hs, hf⟩
theorem open_lits (hval : Value.okWide Try.prog w r b0 29 v) (h : DataW.Trod enc Try.prog w base spare held 29 v d ps) :
    ∃ (l : List Int) (p : Option Addr) (cap : Nat), v = .slice p l.length cap ∧ SI w p cap l := open_ints (okWide_slice Try.underlying29 hval) h
theorem bool_cellsOf : Try.prog.cellsOf 4 = 1 := by kernel_rfl
theorem bool_read {n : Nat} {cs : List Value} {y : DataW H × List MemPlace} (hl : cs.length = 1) (h : DataW.trod enc Try.prog w base spare held n 4 cs = some y) : ∃ x : Bool, True ∧ ∀ j, j < 1 → cs[j]? = some (bEnc x j) := by
  match cs, hl with
  | [c], _ =>
    obtain ⟨x, q, _⟩ := DataW.trod_bool Try.underlying4 h
    simp at q; subst q
    exact ⟨x, trivial, fun j hj => by obtain rfl : j = 0 := by omega
                                      rfl⟩
theorem open_bools (hval : Value.okWide Try.prog w r b0 37 v) (h : DataW.Trod enc Try.prog w base spare held 37 v d ps) :
    ∃ (l : List Bool) (p : Option Addr) (cap : Nat), v = .slice p l.length cap ∧ l.length ≤ cap ∧ cap ≤ maxLen ∧ BoolsAt w p l := by
  obtain ⟨l, p, cap, h1, h2, h3, h4, h5, -⟩ := open_sl (α := Bool) (E := 1) (by decide) (en := bEnc) (R := fun _ => True) Try.underlying37 bool_cellsOf (fun n cs y hc ht => bool_read hc ht) (okWide_slice Try.underlying37 hval) h
  exact ⟨l, p, cap, h1, h2, h3, h5⟩
theorem i8_int {n : Int} (h : (Lit.int .i8 n).wf = true) : -128 ≤ n ∧ n ≤ 127 := by
  have h2 : IntKind.i8.min ≤ n ∧ n ≤ IntKind.i8.max := by simpa [Lit.wf] using h
  have e0 : IntKind.i8.min = -128 := by decide
  have e1 : IntKind.i8.max = 127 := by decide
  omega
end
end Go.Proofs.Ytdibfjcmgbpnpaa
