/- CircuitMatchesReference: proved: whatever the input, it returns true and leaves the input as it was. -/
import Derived.Test.YtanlecgpnknhoaaW24
import Derived.Test.YtanlecgpnknhoaaW19
import Derived.Test.YtanlecgpnknhoaaOpen
import Derived.Carry
import Derived.OpenShut
namespace Go.Proofs.Ytanlecgpnknhoaa
set_option linter.unusedSimpArgs false
set_option linter.unusedVariables false
open Go.ChangeShapes Go.WideShapes Go.ChangeAt Go.RowKit

theorem own0 : ownKnob Try.prog.godebug = none := by kernel_rfl
theorem laidOut0 : laidOutB Try.prog = true := by kernel_rfl

set_option maxRecDepth 100000 in
theorem circuitMatchesReference_lifted (os : Os) (started : os.Started) (H : Type) (enc : TypeId × Value → H) :
    ReturnsInHanded {} Try.checked os 3 .any (Rows.circuitMatchesReferenceSpec.pre6 enc Try.prog Try.f3 Rows.circuitMatchesReferenceRow.domain false) (Rows.circuitMatchesReferenceSpec.post enc Try.prog Try.f3 false true false false) := by
  refine returnsInHanded_of_change (C := Try.checked) own0 started (by kernel_rfl) Try.func3
    (ChangeSpec.witness6 (enc := enc) (C := Try.checked) false ⟨#[], #[.slice none 0 0, .agg #[.slice none 0 0], .int .i64 0, .int .i64 0, .int .i64 0, .slice none 0 0], []⟩ 8 (by kernel_rfl) (by kernel_rfl) (by kernel_rfl) (by kernel_rfl)) ?_
  intro W base args ds gs before hval0 hW hcnd _
  have hval : ∀ (j : Nat) t v, Try.f3.params[j]? = some t → args[j]? = some v → Value.okWide Try.prog W .any base t v := hval0
  have hW' := hW
  obtain ⟨p, q, hA0, hV, rfl, hfz, hnd⟩ := hW
  have hA : DataW.TrodAll enc Try.prog W 0 (fun _ => true) true Try.f3.params.toList args.toList ds p := hA0
  rw [Try.params3] at hA hval
  obtain ⟨v0, vs0, d0, ds0, p0, q0, e0, rfl, rfl, h0, hA0⟩ := trodAll_cons hA
  obtain ⟨v1, vs1, d1, ds1, p1, q1, e1, rfl, rfl, h1, hA1⟩ := trodAll_cons hA0
  obtain ⟨v2, vs2, d2, ds2, p2, q2, e2, rfl, rfl, h2, hA2⟩ := trodAll_cons hA1
  obtain ⟨v3, vs3, d3, ds3, p3, q3, e3, rfl, rfl, h3, hA3⟩ := trodAll_cons hA2
  obtain ⟨v4, vs4, d4, ds4, p4, q4, e4, rfl, rfl, h4, hA4⟩ := trodAll_cons hA3
  obtain ⟨v5, vs5, d5, ds5, p5, q5, e5, rfl, rfl, h5, hA5⟩ := trodAll_cons hA4
  obtain ⟨rfl, rfl, rfl⟩ := trodAll_nil hA5
  obtain rfl : args = #[v0, v1, v2, v3, v4, v5] := by cases args; simp_all
  clear e0
  obtain ⟨rfl, rfl⟩ := trodVars_none hV
  have h0k := h0
  have h1k := h1
  have h2k := h2
  have h3k := h3
  have h4k := h4
  have h5k := h5
  obtain ⟨l0, a0, c0, rfl, hl0, hg0, hs0⟩ := open_steps (hval 0 22 v0 rfl rfl) h0
  obtain ⟨l1, a1, c1, rfl, hg1⟩ := open_circ (hval 1 25 v1 rfl rfl) h1
  obtain ⟨n2, rfl, rfl, rfl, w2⟩ := open_int Try.underlying3 (hval 2 3 v2 rfl rfl) h2
  have hn2 := i64_int w2
  obtain ⟨n3, rfl, rfl, rfl, w3⟩ := open_int Try.underlying3 (hval 3 3 v3 rfl rfl) h3
  have hn3 := i64_int w3
  obtain ⟨n4, rfl, rfl, rfl, w4⟩ := open_int Try.underlying3 (hval 4 3 v4 rfl rfl) h4
  have hn4 := i64_int w4
  obtain ⟨l5, a5, c5, rfl, hl5, hg5⟩ := open_vals (hval 5 26 v5 rfl rfl) h5
  clear hA0 hval0
  simp only [List.append_nil] at hW'
  have hlt0 : ∀ x ∈ p0, x.block < W.heap.size := fun x hx => by first | simpa using hW'.lt x (by simpa using hx) | exact hW'.lt x (by simp [hx])
  have hlt1 : ∀ x ∈ p1, x.block < W.heap.size := fun x hx => by first | simpa using hW'.lt x (by simpa using hx) | exact hW'.lt x (by simp [hx])
  have hlt5 : ∀ x ∈ p5, x.block < W.heap.size := fun x hx => by first | simpa using hW'.lt x (by simpa using hx) | exact hW'.lt x (by simp [hx])
  refine (matches_any l0 a0 c0 l1 a1 c1 n2 n3 n4 l5 a5 c5 W hl0 hs0 hg0 hg1 hn2 hn3 hn4 hl5 hg5).mono fun e W' ⟨he, hb⟩ => ?_
  subst he
  have ha0 : DataW.Trod enc Try.prog W' 0 (fun b => decide (b < W.heap.size)) true 22 (.slice a0 l0.length c0) d0 p0 := Below.trod laidOut0 (by kernel_rfl) (of_decide_eq_true (by kernel_rfl)) h0k hb hlt0
  have ha1 : DataW.Trod enc Try.prog W' 0 (fun b => decide (b < W.heap.size)) true 25 (.agg #[.slice a1 l1.length c1]) d1 p1 := Below.trod laidOut0 (by kernel_rfl) (of_decide_eq_true (by kernel_rfl)) h1k hb hlt1
  have ha5 : DataW.Trod enc Try.prog W' 0 (fun b => decide (b < W.heap.size)) true 26 (.slice a5 l5.length c5) d5 p5 := Below.trod laidOut0 (by kernel_rfl) (of_decide_eq_true (by kernel_rfl)) h5k hb hlt5
  exact ⟨_, rfl, _, _, _, [], _, [], hW', trodAll_mk1 (shut_bool Try.underlying4 true), trodAll_cons_mk ha0 (trodAll_cons_mk ha1 (trodAll_cons_mk (shut_int Try.underlying3 w2) (trodAll_cons_mk (shut_int Try.underlying3 w3) (trodAll_cons_mk (shut_int Try.underlying3 w4) (trodAll_mk1 ha5))))), rfl, hb.frame _, fun h => by cases h⟩

theorem circuitMatchesReference_holds : Rows.CircuitMatchesReferenceSaid :=
  OpenClaim.holds_of_wide 3 Try.f3 rfl rfl rfl rfl rfl rfl rfl ⟨rfl, rfl, rfl, rfl, rfl⟩ rfl rfl rfl rfl rfl (by kernel_rfl) Try.func3 (by kernel_rfl)
    (of_decide_eq_true (by kernel_rfl)) (by unfold Func.isWrapper; first | (rw [if_pos (by decide +kernel)]; kernel_rfl) | (rw [if_neg (by decide +kernel)]; exact ⟨rfl, rfl⟩))
    (fun os started H enc _ => circuitMatchesReference_lifted os started H enc)
end Go.Proofs.Ytanlecgpnknhoaa
