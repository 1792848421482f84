/- Plain laws: what And, Or and Iff give at constants, equal and opposite references. -/
import Derived.Test.YtanlecgpnknhoaaPlain4
namespace Go.Proofs.Ytanlecgpnknhoaa
set_option linter.unusedSimpArgs false
set_option linter.unusedVariables false

section
variable {c : List Gate} {x : Int} (h1 : 0 ≤ x) (h2 : x < 2 * (c.length : Int)) (hc : 0 < c.length)
include h1 h2 hc
theorem refOks : refOk x c.length = true ∧ refOk 0 c.length = true ∧ refOk 1 c.length = true ∧ refOk (cnot x) c.length = true := by
  have := cnot_bounds h1 h2
  refine ⟨?_, ?_, ?_, ?_⟩ <;> (simp only [refOk, decide_eq_true_eq]; omega)
theorem and_0 : cand c x 0 = (c, x) := by
  obtain ⟨a, b, d, e⟩ := refOks h1 h2 hc
  unfold cand
  simp only [a, b, Bool.true_eq_false, or_self, if_false]
  have : cnot 0 = 1 := rfl
  by_cases hx : x = 1
  · simp [hx]
  · by_cases h0 : x = 0 <;> simp [hx, h0, this]
theorem and_1 : cand c 1 x = (c, 1) := by
  obtain ⟨a, b, d, e⟩ := refOks h1 h2 hc
  unfold cand
  simp [a, d]
theorem and_self' : cand c x x = (c, x) := by
  obtain ⟨a, b, d, e⟩ := refOks h1 h2 hc
  have hne : x ≠ cnot x := by rw [cnot_pos h1]; split <;> omega
  unfold cand
  by_cases hx : x = 1
  · simp [hx, refOk]; omega
  · by_cases h0 : x = 0 <;> simp [a, hx, h0, hne, b] <;> decide
theorem and_not : cand c (cnot x) x = (c, 1) := by
  obtain ⟨a, b, d, e⟩ := refOks h1 h2 hc
  unfold cand
  simp [a, e]
theorem and_not' : cand c x (cnot x) = (c, 1) := by
  obtain ⟨a, b, d, e⟩ := refOks h1 h2 hc
  unfold cand
  simp [a, e, cnot_invol h1]
theorem or_not : cor c x (cnot x) = (c, 0) := by
  have hb := cnot_bounds h1 h2
  unfold cor
  rw [and_not' hb.1 hb.2 hc]; rfl
theorem or_1 : cor c x 1 = (c, x) := by
  have hb := cnot_bounds h1 h2
  unfold cor
  rw [show cnot 1 = 0 from rfl, and_0 hb.1 hb.2 hc]
  simp only [cnot_invol h1]
theorem iff_self : ciff c x x = (c, 0) := by
  have hb := cnot_bounds h1 h2
  unfold ciff
  simp only [and_not' h1 h2 hc]
  rw [and_not h1 h2 hc]
  show cand c (cnot 1) (cnot 1) = _
  rw [show cnot 1 = 0 from rfl, and_0 (by omega) (by omega) hc]
theorem iff_0 : ciff c x 0 = (c, x) := by
  have hb := cnot_bounds h1 h2
  have e1 : cand c x 1 = (c, 1) := by
    obtain ⟨a, b, d, e⟩ := refOks h1 h2 hc
    unfold cand
    simp [a, d]
  unfold ciff
  rw [show cnot 0 = 1 from rfl]
  simp only [e1, and_0 hb.1 hb.2 hc, cnot_invol h1]
  rw [show cnot 1 = 0 from rfl]
  obtain ⟨a, b, d, e⟩ := refOks h1 h2 hc
  unfold cand
  by_cases hx : x = 1
  · subst hx; simp [b, d]
  · by_cases h0 : x = 0
    · subst h0; simp [b, show cnot 0 = 1 from rfl]
    · have hn : (0 : Int) ≠ cnot x := by rw [cnot_pos h1]; split <;> omega
      simp [a, b, hx, hn]
end
end Go.Proofs.Ytanlecgpnknhoaa
