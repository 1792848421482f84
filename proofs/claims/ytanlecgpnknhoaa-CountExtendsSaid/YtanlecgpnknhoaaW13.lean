/- Walks of layer 13: New, Pick. -/
import Derived.Test.YtanlecgpnknhoaaW8
import Derived.Test.YtanlecgpnknhoaaPlain3
namespace Go.Proofs.Ytanlecgpnknhoaa
set_option linter.unusedSimpArgs false
set_option linter.unusedVariables false
open Go.RowKit

def NewPost (w : World) (e : Ending) (w' : World) : Prop :=
  ∃ p, e = .returned (.agg #[.slice p 1 1]) ∧ GatesAt w' p cnew ∧ (p = none → 1 = 0) ∧ Below w.heap.size w w' ∧ Fresh w none p

set_option maxHeartbeats 400000 in
theorem new_any (w : World) : Calls Try.prog 34 #[] w (NewPost w) := by
  go_enter Try.func34, Try.ntmps34
  go_wp2
  refine bodyPost_ret (by simp [results, Try.results34, go_sem]; try rfl) rfl ?_
  exact ⟨_, rfl, SlAt.gate1 (g := ⟨0, 0, 0⟩) (by go_cell) (by go_cell) (by go_cell), (fun h => by cases h), by go_grown, Fresh.new (by omega)⟩

set_option maxHeartbeats 400000 in
theorem rnew_any (w : World) : Calls Try.prog 55 #[] w (NewPost w) := by
  go_enter Try.func55, Try.ntmps55
  go_wp2
  refine bodyPost_ret (by simp [results, Try.results55, go_sem]; try rfl) rfl ?_
  exact ⟨_, rfl, SlAt.gate1 (g := ⟨0, 0, 0⟩) (by go_cell) (by go_cell) (by go_cell), (fun h => by cases h), by go_grown, Fresh.new (by omega)⟩

theorem cpick_at {refs : List Int} {n K : Nat} (hK : n / 2 % (refs.length + 1) = K) : cpick refs n = if n % 2 = 1 then cnot (if 0 < K then refs.getD (K - 1) 0 else 0) else (if 0 < K then refs.getD (K - 1) 0 else 0) := by
  simp only [cpick, cpickR, hK]

theorem int_cell {w : World} {p : Option Addr} {xs : List Int} {i : Nat} {x : Int} (h : IntsAt w p xs) (hi : xs[i]? = some x) : ∃ b off, p = some ⟨b, off, none⟩ ∧ b < w.heap.size ∧ w.cell? ⟨b, off + i, none⟩ = some (.int .i64 x) := by
  rcases h with rfl | ⟨b, off, hp, hb, hc⟩
  · simp at hi
  · exact ⟨b, off, hp, hb, by simpa [iEnc] using hc i x hi 0 (by omega)⟩

set_option maxHeartbeats 800000 in
theorem pick_any (refs : List Int) (n : Nat) (p : Option Addr) (cap : Nat) (w : World) (hn : n < 256) (hl : refs.length ≤ 20000) (hr : ∀ r ∈ refs, r ≤ 9223372036854775807) (hg : IntsAt w p refs) :
    Calls Try.prog 37 #[.slice p refs.length cap, .int .u8 n] w fun e w' => e = .returned (.int .i64 (cpick refs n)) ∧ w' = w := by
  obtain ⟨K, hK⟩ : ∃ K : Nat, n / 2 % (refs.length + 1) = K := ⟨_, rfl⟩
  have HP := Lib.hid (cpick_at (refs := refs) hK)
  have hKl : K ≤ refs.length := by rw [← hK]; have := Nat.mod_lt (n / 2) (show 0 < refs.length + 1 by omega); omega
  have hKi : (n : Int) / 2 % ((refs.length : Int) + 1) = (K : Int) := by rw [← hK]; simp
  clear hK
  by_cases h0 : 0 < K
  · obtain ⟨x, hx⟩ : ∃ x, refs[K - 1]? = some x := ⟨_, List.getElem?_eq_getElem (by omega)⟩
    have hxm := hr x (List.mem_of_getElem? hx)
    obtain ⟨b, off, rfl, hb, hc⟩ := int_cell hg hx
    obtain ⟨J, rfl⟩ : ∃ J, K = J + 1 := ⟨K - 1, by omega⟩
    simp only [Nat.add_sub_cancel] at hc hx
    have hq : (J : Int) < (refs.length : Int) := by omega
    have HR := Lib.hid (show (if 0 < J + 1 then refs.getD (J + 1 - 1) 0 else 0) = x from by simp [List.getD_eq_getElem?_getD, hx])
    clear hg hr hx h0
    cases hodd : ((n : Int) % 2 == 1) with
    | true =>
      have HF := Lib.hid (show cpick refs n = cnot x from by rw [HP.out, if_pos (by have := beq_iff_eq.1 hodd; omega), HR.out])
      go_enter Try.func37, Try.ntmps37
      go_wp2_with (first | (go_at_call 33; refine (rnot_any _ _ hxm).mono ?_; rintro e w' ⟨rfl, rfl⟩))
      go_ret
      exact ⟨ret_int HF.out.symm, rfl⟩
    | false =>
      have HF := Lib.hid (show cpick refs n = x from by rw [HP.out, if_neg (by have := beq_eq_false_iff_ne.1 hodd; omega), HR.out])
      go_enter Try.func37, Try.ntmps37
      go_wp2_with fail
      go_ret
      exact ⟨ret_int HF.out.symm, rfl⟩
  · obtain rfl : K = 0 := by omega
    have HR := Lib.hid (show (if 0 < 0 then refs.getD (0 - 1) 0 else 0) = (0 : Int) from by simp)
    clear hg hr h0
    cases hodd : ((n : Int) % 2 == 1) with
    | true =>
      have HF := Lib.hid (show cpick refs n = cnot 0 from by rw [HP.out, if_pos (by have := beq_iff_eq.1 hodd; omega), HR.out])
      go_enter Try.func37, Try.ntmps37
      go_wp2_with (first | (go_at_call 33; refine (rnot_any _ _ (by omega)).mono ?_; rintro e w' ⟨rfl, rfl⟩))
      go_ret
      exact ⟨ret_int HF.out.symm, rfl⟩
    | false =>
      have HF := Lib.hid (show cpick refs n = 0 from by rw [HP.out, if_neg (by have := beq_eq_false_iff_ne.1 hodd; omega), HR.out])
      go_enter Try.func37, Try.ntmps37
      go_wp2_with fail
      go_ret
      exact ⟨ret_int HF.out.symm, rfl⟩
end Go.Proofs.Ytanlecgpnknhoaa
