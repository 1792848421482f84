/- Walks of the solver: slices.Clone; learn. -/
import Derived.Test.YtdibfjcmgbpnpaaK7
import Derived.Lib.SliceRun
namespace Go.Proofs.Ytdibfjcmgbpnpaa
set_option linter.unusedSimpArgs false
set_option linter.unusedVariables false
open Go.RowKit

theorem flat_iV (l : List Int) : flat 1 iEnc l = iV l := by
  induction l with
  | nil => rfl
  | cons x t ih => show _ ++ flat 1 iEnc t = _ ; rw [ih]; rfl
set_option maxRecDepth 100000 in
set_option maxHeartbeats 2000000 in
theorem clone_any (m : List Int) (p : Option Addr) (cap : Nat) (w : World) (hM : SI w p cap m) (hl : m.length ≤ 1000000) :
    Calls Try.prog 45 #[.slice p m.length cap] w
      fun e w' => ∃ q cq, e = .returned (.slice q m.length cq) ∧ w'.ownsRow w.heap.size 3 1 (.slice q m.length cq) m.length (iV m) ∧ Below w.heap.size w w' := by
  have q22 : ∀ (w : World) (a : Option Addr) (n c n' c' : Nat), (binOp .eql 29 (.slice a n c) (.slice none n' c')).run Try.prog w = .ok (.bool a.isNone) w := fun w a n c n' c' => Lib.run_eql_slice_nil w _ _ a n c n' c' Try.underlying29
  cases p with
  | none =>
    have h0 : m.length = 0 := by have := hM.q0 rfl; have := hM.le; omega
    obtain rfl : m = [] := List.length_eq_zero_iff.1 h0
    have HM := Lib.hid hM; clear hM h0
    go_enter Try.func45, Try.ntmps45
    go_wp2_with fail
    go_ret
    exact ⟨none, 0, rfl, World.ownsRow_nil _ _ _ _, Below.refl _ _⟩
  | some ad =>
    obtain ⟨i0, hi, hz0, hz1, hz2⟩ := info_parts int_info
    have HM := Lib.hid hM
    clear hM
    go_enter Try.func45, Try.ntmps45
    go_wp2_with (at_builtin; refine wpList_append_own _ rfl _ _ 29 rfl w.heap.size 3 i0 (.int .i64 0) 1 8 Try.underlying29 hi hz0 hz1 hz2 rfl (by decide) _ _ _ rfl (World.ownsRow_made w #[] 0 (Nat.le_refl _) (Nat.zero_le _) rfl) ad m.length cap (flat 1 iEnc m) rfl ?qc1 ?qc2 ?qc3 ?qc4 ?qc5 ?qc6 ?_)
    case qc1 => exact flat_length 1 iEnc m
    case qc2 =>
      intro j u hj
      exact (HM.out.up (by go_grown)).at'.news j u hj
    case qc3 =>
      intro u hu
      obtain ⟨n, hn⟩ := List.getElem?_of_mem hu
      obtain ⟨i, y, j, hy, hj, _, rfl⟩ := flat_inv hn
      rfl
    case qc4 => unfold maxLen; omega
    case qc5 => omega
    case qc6 => simp
    intro v' w1 hown hgrow hnil
    go_wp2_with fail
    go_ret
    have ho : w1.ownsRow w.heap.size 3 1 v' m.length (flat 1 iEnc m) := by simpa using hown
    have hB : Below w.heap.size w w1 := ((Below.refl _ w).alloc (Nat.le_refl _) _).grown hgrow (by simp) (by intro k hk; simp [Value.ownBlock] at hk; omega)
    rw [flat_iV] at ho
    rcases id ho.2 with ⟨hv, -⟩ | ⟨g, c', cur, hv, hg, hh, hc1, hc2, hs, ht⟩
    · exact absurd hv hnil
    · subst hv
      exact ⟨some ⟨g, 0, none⟩, c', rfl, ho, hB⟩
end Go.Proofs.Ytdibfjcmgbpnpaa
