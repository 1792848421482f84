/- Plain laws of layer 14: the predicates under an assignment. -/
import Derived.Test.YtadilppdlbhjnaaLR
import Derived.Test.YtadilppdlbhjnaaN21
import Derived.Test.YtadilppdlbhjnaaGI
namespace Go.Proofs.Ytadilppdlbhjnaa
set_option linter.unusedSimpArgs false
set_option linter.unusedVariables false

theorem mValue_cv {c : List Gate} {N : Int} {m : List Cell} (V : List Bool) (h : MOk c N m) : mValue c V m = (m.filter fun x => cv c V x.ref).map Cell.rank := by
  unfold mValue
  congr 1
  exact List.filter_congr fun x hx => ceval_cv (h.ref_in hx).1 (h.ref_in hx).2
theorem mat_none {m : List Cell} {r : Int} (h : ∀ y ∈ m, y.rank ≠ r) : mat m r = 1 := by
  induction m with
  | nil => rfl
  | cons x m ih =>
    rw [mat, if_neg (h x (List.mem_cons_self ..))]
    exact ih fun y hy => h y (List.mem_cons_of_mem _ hy)
theorem mem_value {c : List Gate} {N : Int} {m : List Cell} {V : List Bool} (hg : Good c) (h : MOk c N m) (r : Int) : r ∈ mValue c V m ↔ cv c V (mat m r) = true := by
  rw [mValue_cv V h, List.mem_map]
  constructor
  · rintro ⟨x, hx, rfl⟩
    rw [List.mem_filter] at hx
    rw [mat_mem h.sorted hx.1]; exact hx.2
  · intro hv
    by_cases hm : ∃ y ∈ m, y.rank = r
    · obtain ⟨y, hy, rfl⟩ := hm
      rw [mat_mem h.sorted hy] at hv
      exact ⟨y, List.mem_filter.2 ⟨hy, hv⟩, rfl⟩
    · have h1 := mat_none (m := m) (r := r) fun y hy e => hm ⟨y, hy, e⟩
      rw [h1, cv_1 hg V] at hv; cases hv
end Go.Proofs.Ytadilppdlbhjnaa
