import Derived.Test.YtadilppdlbhjnaaQ13
import Derived.Test.YtadilppdlbhjnaaGO
import Derived.Carry
import Derived.OpenShut
namespace Go.Proofs.Ytadilppdlbhjnaa
open Go.ChangeShapes Go.WideShapes Go.ChangeAt Go.RowKit
theorem own0 : ownKnob Try.prog.godebug = none := by kernel_rfl
theorem laidOut0 : laidOutB Try.prog = true := by kernel_rfl
set_option maxRecDepth 100000 in
theorem matrixMatchesReference_lifted (os : Os) (started : os.Started) (H : Type) (enc : TypeId × Value → H) :
 ReturnsInHanded {} Try.checked os 7 .any (Rows.matrixMatchesReferenceSpec.pre6 enc Try.prog Try.f7 Rows.matrixMatchesReferenceRow.domain false) (Rows.matrixMatchesReferenceSpec.post enc Try.prog Try.f7 false true false false) := by
 refine returnsInHanded_of_change (C := Try.checked) own0 started (by kernel_rfl) Try.func7
  (ChangeSpec.witness6 (enc := enc) (C := Try.checked) false ⟨#[], #[.int .u8 0, .slice none 0 0, .slice none 0 0, .slice none 0 0, .int .u8 0, .agg #[.int .i64 0, .slice none 0 0]], []⟩ 8 (by kernel_rfl) (by kernel_rfl) (by kernel_rfl) (by kernel_rfl)) ?_
 intro W base args ds gs before hval0 hW hcnd _
 have hval : ∀ (j : Nat) t v, Try.f7.params[j]? = some t → args[j]? = some v → Value.okWide Try.prog W .any base t v := hval0
 have hW' := hW
 obtain ⟨p, q, hA0, hV, rfl, hfz, hnd⟩ := hW
 have hA : DataW.TrodAll enc Try.prog W 0 (fun _ => true) true Try.f7.params.toList args.toList ds p := hA0
 rw [Try.params7] at hA hval
 obtain ⟨v0, vs0, d0, ds0, p0, q0, e0, rfl, rfl, h0, hA0⟩ := trodAll_cons hA
 obtain ⟨v1, vs1, d1, ds1, p1, q1, e1, rfl, rfl, h1, hA1⟩ := trodAll_cons hA0
 obtain ⟨v2, vs2, d2, ds2, p2, q2, e2, rfl, rfl, h2, hA2⟩ := trodAll_cons hA1
 obtain ⟨v3, vs3, d3, ds3, p3, q3, e3, rfl, rfl, h3, hA3⟩ := trodAll_cons hA2
 obtain ⟨v4, vs4, d4, ds4, p4, q4, e4, rfl, rfl, h4, hA4⟩ := trodAll_cons hA3
 obtain ⟨v5, vs5, d5, ds5, p5, q5, e5, rfl, rfl, h5, hA5⟩ := trodAll_cons hA4
 obtain ⟨rfl, rfl, rfl⟩ := trodAll_nil hA5
 obtain rfl : args = #[v0, v1, v2, v3, v4, v5] := by cases args; simp_all
 clear e0
 obtain ⟨rfl, rfl⟩ := trodVars_none hV
 have h0k := h0
 have h1k := h1
 have h2k := h2
 have h3k := h3
 have h4k := h4
 have h5k := h5
 obtain ⟨n0, rfl, rfl, rfl, w0⟩ := open_int Try.underlying5 (hval 0 5 v0 rfl rfl) h0
 have hn0 := u8_nat w0
 obtain ⟨k0, rfl⟩ : ∃ k : Nat, n0 = k := ⟨n0.toNat, by omega⟩
 obtain ⟨l1, a1, c1, rfl, hl1, hg1, hs1⟩ := open_steps (hval 1 22 v1 rfl rfl) h1
 obtain ⟨l2, a2, c2, rfl, hl2, hs2, hg2⟩ := open_ubs (hval 2 23 v2 rfl rfl) h2
 obtain ⟨l3, a3, c3, rfl, hl3, hs3, hg3⟩ := open_ubs (hval 3 23 v3 rfl rfl) h3
 obtain ⟨n4, rfl, rfl, rfl, w4⟩ := open_int Try.underlying5 (hval 4 5 v4 rfl rfl) h4
 have hn4 := u8_nat w4
 obtain ⟨k4, rfl⟩ : ∃ k : Nat, n4 = k := ⟨n4.toNat, by omega⟩
 obtain ⟨l5, n5, a5, c5, rfl, hg5, hr5⟩ := open_mraw (hval 5 30 v5 rfl rfl) h5
 clear hA0 hval0
 simp only [List.append_nil] at hW'
 have hlt1 : ∀ x ∈ p1, x.block < W.heap.size := fun x hx => by first | simpa using hW'.lt x (by simpa using hx) | exact hW'.lt x (by simp [hx])
 have hlt2 : ∀ x ∈ p2, x.block < W.heap.size := fun x hx => by first | simpa using hW'.lt x (by simpa using hx) | exact hW'.lt x (by simp [hx])
 have hlt3 : ∀ x ∈ p3, x.block < W.heap.size := fun x hx => by first | simpa using hW'.lt x (by simpa using hx) | exact hW'.lt x (by simp [hx])
 have hlt5 : ∀ x ∈ p5, x.block < W.heap.size := fun x hx => by first | simpa using hW'.lt x (by simpa using hx) | exact hW'.lt x (by simp [hx])
 refine (matrixMatches_any k0 l1 a1 c1 l2 a2 c2 l3 a3 c3 k4 l5 n5 a5 c5 W (by omega) hl1 hs1 hg1 hl2 hs2 hg2 hl3 hs3 hg3 (by omega) hg5 hr5).mono fun e W' ⟨he, hb⟩ => ?_
 subst he
 have ha1 : DataW.Trod enc Try.prog W' 0 (fun b => decide (b < W.heap.size)) true 22 (.slice a1 l1.length c1) d1 p1 := Below.trod laidOut0 (by kernel_rfl) (of_decide_eq_true (by kernel_rfl)) h1k hb hlt1
 have ha2 : DataW.Trod enc Try.prog W' 0 (fun b => decide (b < W.heap.size)) true 23 (.slice a2 l2.length c2) d2 p2 := Below.trod laidOut0 (by kernel_rfl) (of_decide_eq_true (by kernel_rfl)) h2k hb hlt2
 have ha3 : DataW.Trod enc Try.prog W' 0 (fun b => decide (b < W.heap.size)) true 23 (.slice a3 l3.length c3) d3 p3 := Below.trod laidOut0 (by kernel_rfl) (of_decide_eq_true (by kernel_rfl)) h3k hb hlt3
 have ha5 : DataW.Trod enc Try.prog W' 0 (fun b => decide (b < W.heap.size)) true 30 (.agg #[.int .i64 n5, .slice a5 l5.length c5]) d5 p5 := Below.trod laidOut0 (by kernel_rfl) (of_decide_eq_true (by kernel_rfl)) h5k hb hlt5
 exact ⟨_, rfl, _, _, _, [], _, [], hW', trodAll_mk1 (shut_bool Try.underlying4 true), trodAll_cons_mk (shut_int Try.underlying5 w0) (trodAll_cons_mk ha1 (trodAll_cons_mk ha2 (trodAll_cons_mk ha3 (trodAll_cons_mk (shut_int Try.underlying5 w4) (trodAll_mk1 ha5))))), rfl, hb.frame _, fun h => by cases h⟩
theorem matrixMatchesReference_holds : Rows.MatrixMatchesReferenceSaid :=
 OpenClaim.holds_of_wide 7 Try.f7 rfl rfl rfl rfl rfl rfl rfl ⟨rfl, rfl, rfl, rfl, rfl⟩ rfl rfl rfl rfl rfl (by kernel_rfl) Try.func7 (by kernel_rfl)
  (of_decide_eq_true (by kernel_rfl)) (by unfold Func.isWrapper; first | (rw [if_pos (by decide +kernel)]; kernel_rfl) | (rw [if_neg (by decide +kernel)]; exact ⟨rfl, rfl⟩))
  (fun os started H enc _ => matrixMatchesReference_lifted os started H enc)
end Go.Proofs.Ytadilppdlbhjnaa
