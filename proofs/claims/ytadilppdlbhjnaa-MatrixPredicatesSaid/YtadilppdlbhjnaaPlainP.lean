/- Plain laws of layer 14: the predicates under an assignment. -/
import Derived.Test.YtadilppdlbhjnaaLR
import Derived.Test.YtadilppdlbhjnaaN21
import Derived.Test.YtadilppdlbhjnaaGI
namespace Go.Proofs.Ytadilppdlbhjnaa
set_option linter.unusedSimpArgs false
set_option linter.unusedVariables false

theorem mValue_cv {c : List Gate} {N : Int} {m : List Cell} (V : List Bool) (h : MOk c N m) : mValue c V m = (m.filter fun x => cv c V x.ref).map Cell.rank := by
  unfold mValue
  congr 1
  exact List.filter_congr fun x hx => ceval_cv (h.ref_in hx).1 (h.ref_in hx).2
theorem mat_none {m : List Cell} {r : Int} (h : ∀ y ∈ m, y.rank ≠ r) : mat m r = 1 := by
  induction m with
  | nil => rfl
  | cons x m ih =>
    rw [mat, if_neg (h x (List.mem_cons_self ..))]
    exact ih fun y hy => h y (List.mem_cons_of_mem _ hy)
theorem mem_value {c : List Gate} {N : Int} {m : List Cell} {V : List Bool} (hg : Good c) (h : MOk c N m) (r : Int) : r ∈ mValue c V m ↔ cv c V (mat m r) = true := by
  rw [mValue_cv V h, List.mem_map]
  constructor
  · rintro ⟨x, hx, rfl⟩
    rw [List.mem_filter] at hx
    rw [mat_mem h.sorted hx.1]; exact hx.2
  · intro hv
    by_cases hm : ∃ y ∈ m, y.rank = r
    · obtain ⟨y, hy, rfl⟩ := hm
      rw [mat_mem h.sorted hy] at hv
      exact ⟨y, List.mem_filter.2 ⟨hy, hv⟩, rfl⟩
    · have h1 := mat_none (m := m) (r := r) fun y hy e => hm ⟨y, hy, e⟩
      rw [h1, cv_1 hg V] at hv; cases hv
theorem preds_plain {c : List Gate} {N : Int} {a b : List Cell} (hg : Good c) (hl : c.length ≤ 61) (ha : MOk c N a) (hb : MOk c N b) (hal : a.length ≤ 9) (hbl : b.length ≤ 9) :
    ∃ d1 r1 d2 r2 d3 r3, mIn c a b = (d1, r1) ∧ mSome d1 a = (d2, r2) ∧ mLone d2 a = (d3, r3) ∧ Good d1 ∧ Good d2 ∧ Good d3 ∧ d1.length ≤ 200 ∧ d2.length ≤ 200 ∧ d3.length ≤ 200 ∧ MOk d1 N a ∧ MOk d2 N a ∧
      ∀ V, ceval d3 V r1 = ((rDiff (mValue c V a) (mValue c V b)).length == 0) ∧ ceval d3 V r2 = decide (0 < (mValue c V a).length) ∧ ceval d3 V r3 = decide ((mValue c V a).length ≤ 1) := by
  obtain ⟨g1, i1, v1⟩ := inRun_ok a c b 0 hg (by omega) (in_0 hg.ne) (fun x hx => ha.ref_in hx) hb
  obtain ⟨d1, r1, e1⟩ : ∃ d r, mIn c a b = (d, r) := ⟨_, _, rfl⟩
  have q1 : a.foldl (inStep b) (c, 0) = (d1, r1) := e1
  rw [q1] at g1 i1 v1; dsimp only at g1 i1 v1
  have l1 := g1.len; have le1 := g1.ge
  have ha1 := ha.up g1.ge
  obtain ⟨g2, i2, v2⟩ := orAll_ok (a.map Cell.ref) d1 1 g1.good (by simp; omega) (in_1 g1.good.ne) (fun r hr => by obtain ⟨x, hx, rfl⟩ := List.mem_map.1 hr; exact ha1.ref_in hx)
  obtain ⟨d2, r2, e2⟩ : ∃ d r, mSome d1 a = (d, r) := ⟨_, _, rfl⟩
  have q2 : orAll (a.map Cell.ref) (d1, 1) = (d2, r2) := e2
  rw [q2] at g2 i2 v2; dsimp only at g2 i2 v2
  have l2 := g2.len; rw [List.length_map] at l2
  have ha2 := ha1.up g2.ge
  obtain ⟨g3, j3, i3, v3⟩ := lone_ok g2.good a (by omega) (fun x hx => ha2.ref_in hx) a.length (Nat.le_refl _)
  rw [List.take_length] at g3 j3 i3 v3
  obtain ⟨d3, r3, e3⟩ : ∃ d r, mLone d2 a = (d, r) := ⟨_, _, rfl⟩
  have q3 : (loneRun a (d2, 1, 1)).1 = d3 := congrArg Prod.fst e3
  have q4 : cnot (loneRun a (d2, 1, 1)).2.2 = r3 := congrArg Prod.snd e3
  obtain ⟨t, ht⟩ : ∃ t, (loneRun a (d2, 1, 1)).2.2 = t := ⟨_, rfl⟩
  rw [q3, ht] at i3; rw [q3] at g3; rw [ht] at q4
  have v3' : ∀ V, cv d3 V t = decide (2 ≤ cntT d2 V a) := fun V => by have := (v3 V).2; rw [q3, ht] at this; exact this
  have l3 := g3.len
  refine ⟨d1, r1, d2, r2, d3, r3, e1, e2, e3, g1.good, g2.good, g3.good, by omega, by omega, by omega, ha1, ha2, fun V => ?_⟩
  have hcnt : (mValue c V a).length = cntT c V a := by rw [mValue_cv V ha, List.length_map]; rfl
  refine ⟨?_, ?_, ?_⟩
  · have i13 : In d3 r1 := (i1.up g2).up g3
    rw [ceval_cv i13.1 i13.2, (i1.up g2).cv g3 V, i1.cv g2 V, v1 V, cv_0 hg V, Bool.true_and, Bool.eq_iff_iff, beq_iff_eq, rDiff_none, List.all_eq_true]
    constructor
    · intro h r hr
      have hr1 := (mem_value hg ha r).1 hr
      rw [mValue_cv V ha, List.mem_map] at hr
      obtain ⟨x, hx, rfl⟩ := hr
      rw [List.mem_filter] at hx
      have := h x hx.1
      rw [hx.2] at this
      rw [mem_value hg hb]
      simpa using this
    · intro h x hx
      cases hxv : cv c V x.ref
      · simp
      · have hm : x.rank ∈ mValue c V a := by rw [mem_value hg ha, mat_mem ha.sorted hx]; exact hxv
        have := (mem_value hg hb _).1 (h _ hm)
        simp [this]
  · have i23 : In d3 r2 := i2.up g3
    have e1' : (a.any fun x => cv d1 V x.ref) = a.any fun x => cv c V x.ref := by
      rw [Bool.eq_iff_iff, List.any_eq_true, List.any_eq_true]
      exact ⟨fun ⟨x, hx, h⟩ => ⟨x, hx, by rw [← (ha.ref_in hx).cv g1 V]; exact h⟩, fun ⟨x, hx, h⟩ => ⟨x, hx, by rw [(ha.ref_in hx).cv g1 V]; exact h⟩⟩
    rw [ceval_cv i23.1 i23.2, i2.cv g3 V, v2 V, cv_1 g1.good V, Bool.false_or, List.any_map, show ((fun r => cv d1 V r) ∘ Cell.ref) = (fun x : Cell => cv d1 V x.ref) from rfl, e1', Bool.eq_iff_iff, decide_eq_true_eq, hcnt, List.any_eq_true]
    unfold cntT
    rw [List.length_pos_iff_exists_mem]
    exact ⟨fun ⟨x, hx, h⟩ => ⟨x, List.mem_filter.2 ⟨hx, h⟩⟩, fun ⟨x, hx⟩ => ⟨x, (List.mem_filter.1 hx).1, (List.mem_filter.1 hx).2⟩⟩
  · have i33 : In d3 r3 := by
      have := i3.2; have h0 := i3.1
      rw [← q4]
      exact ⟨(cnot_bounds i3.1 i3.2).1, (cnot_bounds i3.1 i3.2).2⟩
    rw [ceval_cv i33.1 i33.2, ← q4, cv_not i3.1, v3' V, hcnt, cntT_up (g1.trans g2) V (fun x hx => ha.ref_in hx)]
    by_cases h : 2 ≤ cntT c V a
    · simp [h]; omega
    · simp [h]; omega
theorem atoms_facts {k : Nat} (hk : k < 256) : IntKind.i64.wrap (k : Int) = k ∧ (k : Int).tmod 3 = ((k % 3 : Nat) : Int) ∧ ((k : Int).tdiv 3).tmod 2 = ((k / 3 % 2 : Nat) : Int) ∧ ((k : Int).tdiv 6).tmod 2 = ((k / 6 % 2 : Nat) : Int) := by
  refine ⟨by rw [IntWalk.i64_in]; omega, ?_, ?_, ?_⟩
  · rw [Int.tmod_eq_emod_of_nonneg (by omega)]; omega
  · rw [Int.tdiv_eq_ediv_of_nonneg (by omega), Int.tmod_eq_emod_of_nonneg (by omega)]; omega
  · rw [Int.tdiv_eq_ediv_of_nonneg (by omega), Int.tmod_eq_emod_of_nonneg (by omega)]; omega
end Go.Proofs.Ytadilppdlbhjnaa
