/- CountExtends: proved: whatever the input, it returns true and leaves the input as it was. -/
import Derived.Test.YtanlecgpnknhoaaC26
import Derived.Test.YtanlecgpnknhoaaOpenR
import Derived.Carry
import Derived.OpenShut
namespace Go.Proofs.Ytanlecgpnknhoaa
set_option linter.unusedSimpArgs false
set_option linter.unusedVariables false
open Go.ChangeShapes Go.WideShapes Go.ChangeAt Go.RowKit

theorem own0 : ownKnob Try.prog.godebug = none := by kernel_rfl
theorem laidOut0 : laidOutB Try.prog = true := by kernel_rfl

set_option maxRecDepth 100000 in
theorem countExtends_lifted (os : Os) (started : os.Started) (H : Type) (enc : TypeId × Value → H) :
    ReturnsInHanded {} Try.checked os 11 .any (Rows.countExtendsSpec.pre6 enc Try.prog Try.f11 Rows.countExtendsRow.domain false) (Rows.countExtendsSpec.post enc Try.prog Try.f11 false true false false) := by
  refine returnsInHanded_of_change (C := Try.checked) own0 started (by kernel_rfl) Try.func11
    (ChangeSpec.witness6 (enc := enc) (C := Try.checked) false ⟨#[], #[.agg #[.slice none 0 0, .slice none 0 0, .slice none 0 0, .slice none 0 0, .int .i8 0], .int .i8 0], []⟩ 8 (by kernel_rfl) (by kernel_rfl) (by kernel_rfl) (by kernel_rfl)) ?_
  intro W base args ds gs before hval0 hW hcnd _
  have hval : ∀ (j : Nat) t v, Try.f11.params[j]? = some t → args[j]? = some v → Value.okWide Try.prog W .any base t v := hval0
  have hW' := hW
  obtain ⟨p, q, hA0, hV, rfl, hfz, hnd⟩ := hW
  have hA : DataW.TrodAll enc Try.prog W 0 (fun _ => true) true Try.f11.params.toList args.toList ds p := hA0
  rw [Try.params11] at hA hval
  obtain ⟨v0, vs0, d0, ds0, p0, q0, e0, rfl, rfl, h0, hA0⟩ := trodAll_cons hA
  obtain ⟨v1, vs1, d1, ds1, p1, q1, e1, rfl, rfl, h1, hA1⟩ := trodAll_cons hA0
  obtain ⟨rfl, rfl, rfl⟩ := trodAll_nil hA1
  obtain rfl : args = #[v0, v1] := by cases args; simp_all
  clear e0
  obtain ⟨rfl, rfl⟩ := trodVars_none hV
  have h0k := h0
  have h1k := h1
  obtain ⟨y0, z0, rfl, hy0⟩ := open_raw (hval 0 56 v0 rfl rfl) h0
  obtain ⟨n1, rfl, rfl, rfl, w1⟩ := open_int Try.underlying54 (hval 1 54 v1 rfl rfl) h1
  have hn1 := i8_int w1
  clear hA0 hval0
  simp only [List.append_nil] at hW'
  have hlt0 : ∀ x ∈ p0, x.block < W.heap.size := fun x hx => by first | simpa using hW'.lt x (by simpa using hx) | exact hW'.lt x (by simp [hx])
  refine (extends16_any y0 z0 n1 W hy0 hn1.1 (by have := hn1.2; omega)).mono fun e W' ⟨he, hb⟩ => ?_
  subst he
  have ha0 : DataW.Trod enc Try.prog W' 0 (fun b => decide (b < W.heap.size)) true 56 (.agg #[.slice z0.pL y0.L.length z0.cL, .slice z0.pA y0.A.length z0.cA, .slice z0.pB y0.B.length z0.cB, .slice z0.pV y0.V.length z0.cV, .int .i8 y0.by']) d0 p0 := Below.trod laidOut0 (by kernel_rfl) (of_decide_eq_true (by kernel_rfl)) h0k hb hlt0
  exact ⟨_, rfl, _, _, _, [], _, [], hW', trodAll_mk1 (shut_bool Try.underlying4 true), trodAll_cons_mk ha0 (trodAll_mk1 (shut_int Try.underlying54 w1)), rfl, hb.frame _, fun h => by cases h⟩

theorem countExtends_holds : Rows.CountExtendsSaid :=
  OpenClaim.holds_of_wide 11 Try.f11 rfl rfl rfl rfl rfl rfl rfl ⟨rfl, rfl, rfl, rfl, rfl⟩ rfl rfl rfl rfl rfl (by kernel_rfl) Try.func11 (by kernel_rfl)
    (of_decide_eq_true (by kernel_rfl)) (by unfold Func.isWrapper; first | (rw [if_pos (by decide +kernel)]; kernel_rfl) | (rw [if_neg (by decide +kernel)]; exact ⟨rfl, rfl⟩))
    (fun os started H enc _ => countExtends_lifted os started H enc)
end Go.Proofs.Ytanlecgpnknhoaa
