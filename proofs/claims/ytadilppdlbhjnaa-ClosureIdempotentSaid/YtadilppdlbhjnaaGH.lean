/- Texts N10, N13, N14 in one. -/
import Derived.Test.YtadilppdlbhjnaaMH
import Derived.Test.YtadilppdlbhjnaaW10
namespace Go.Proofs.Ytadilppdlbhjnaa
set_option linter.unusedSimpArgs false
set_option linter.unusedVariables false
open Go.RowKit

/-- What stands after k halvings. -/
def hv (b : Int) : Nat → Int
  | 0 => b
  | k + 1 => hv b k / 2
def vbits (b : Int) (k : Nat) : List Bool := (List.range k).map fun i => (hv b i % 2 == 1)
theorem vbits_snoc (b : Int) (k : Nat) : vbits b (k + 1) = vbits b k ++ [(hv b k % 2 == 1)] := by simp [vbits, List.range_succ]
theorem vbits_len (b : Int) (k : Nat) : (vbits b k).length = k := by simp [vbits]
theorem hv_in {b : Int} (h0 : 0 ≤ b) (h1 : b < 256) (k : Nat) : 0 ≤ hv b k ∧ hv b k < 256 := by
  induction k with
  | zero => exact ⟨h0, h1⟩
  | succ k ih => simp only [hv]; omega
theorem quo_rem8 {x : Int} (h0 : 0 ≤ x) (h1 : x < 256) : x.tdiv 2 = x / 2 ∧ x.tmod 2 = x % 2 ∧ IntKind.u8.wrap (x / 2) = x / 2 ∧ IntKind.u8.wrap (x % 2) = x % 2 := by
  refine ⟨Int.tdiv_eq_ediv_of_nonneg h0, Int.tmod_eq_emod_of_nonneg h0, ?_, ?_⟩ <;> (simp only [IntKind.wrap, IntKind.bits, IntKind.signed]; simp; omega)
/-- A slice of truth values is returned. -/
def RetV (w : World) (V : List Bool) (e : Ending) (w' : World) : Prop := ∃ q cq, e = .returned (.slice q V.length cq) ∧ BoolsAt w' q V ∧ (q = none → cq = 0) ∧ Below w.heap.size w w'

set_option maxRecDepth 100000 in
set_option maxHeartbeats 4000000 in
theorem values2_any (b : Int) (w : World) (h0 : 0 ≤ b) (h1 : b < 256) :
    Calls Try.prog 60 #[.int .u8 b] w (RetV w (vbits b 8)) := by
  obtain ⟨i0, hi0, hz0, hz1, hz2⟩ := info_parts bool_info
  obtain ⟨s, hs⟩ : ∃ s, w.heap.size = s := ⟨_, rfl⟩
  have HS := Lib.hid hs
  go_enter Try.func60, Try.ntmps60
  go_wp2_with fail
  go_loopg [0, 3, 4] 8 (fun N s0 s3 s4 wr => ∃ (K : Nat), s4 = .int .i64 K ∧ s0 = .int .u8 (hv b K) ∧ K ≤ 8 ∧ N = 8 - K ∧ wr.ownsRow s 4 1 s3 (vbits b K).length (flat 1 bEnc (vbits b K)) ∧ Below s w wr)
  case atStart => exact ⟨0, rfl, rfl, by omega, rfl, World.ownsRow_nil _ _ _ _, Below.refl _ _⟩
  case round =>
    obtain ⟨K, rfl, rfl, hK, hN, hown, hb⟩ := hrel
    have HNk := Lib.hid hN; have HO := Lib.hid hown; have HBR := Lib.hid hb
    obtain ⟨x, hx⟩ : ∃ x, hv b K = x := ⟨_, rfl⟩
    have hx0 : 0 ≤ x := by rw [← hx]; exact (hv_in h0 h1 K).1
    have hx1 : x < 256 := by rw [← hx]; exact (hv_in h0 h1 K).2
    obtain ⟨q1, q2, q3, q4⟩ := quo_rem8 hx0 hx1
    have hlen := vbits_len b K
    have HL := Lib.hid hlen
    have HX := Lib.hid hx
    rw [hx]
    have hsz := hb.size
    rw [hs] at hsz
    clear hN hown hx hs hlen
    by_cases hlt : K < 8
    case neg =>
      obtain rfl : K = 8 := by omega
      have hO := HO.out
      obtain ⟨q, c3, hvv, o1, o2, o3, o4⟩ := owns_val (by decide) hO
      subst hvv
      have O2 := Lib.hid o2; have O3 := Lib.hid o3; have O4 := Lib.hid o4
      clear hO o2 o3 o4 hb
      go_wp2_with fail
      refine bodyPost_ret (by simp [results, Try.results60, go_sem]; try rfl) rfl ?_
      exact ⟨q, c3, rfl, O4.out, O3.out, by rw [HS.out]; exact HBR.out⟩
    case pos =>
      have hlt0 : (0 : Int) ≤ (K : Int) := by omega
      have hlt1 : (K : Int) < 8 := by omega
      clear hb
      go_wp2_with (first | (at_builtin; go_must (refine wpList_app2 (enc := bEnc) rfl _ _ _ rfl s 4 i0 _ 1 Try.underlying52 hi0 hz0 hz1 hz2 rfl (by omega) _ (vbits b K) rfl (HO.out.alloc _) (some ⟨wr.heap.size, 0, none⟩) [(x % 2 == 1)] 1 rfl (fun h => by cases h) (SlAt.bool1 (by go_cell)) bEnc_one (by have := HL.out; simp [maxLen]; omega) (by have := HL.out; simp; omega) (by simp; omega) ?_); intro v2 w3 hown2 hgr2 hbl2 hat2; obtain ⟨q2, cq2, rfl, -, -, -, -⟩ := owns_val (by decide) hown2; have HOW2 := Lib.hid hown2; have hbl3 : Below s wr w3 := (Below.alloc (Below.refl _ _) (by omega) _).trans hbl2; have HBL3 := Lib.hid hbl3; clear hown2 hgr2 hbl2 hat2 hbl3))
      go_roundg (8 - (K + 1))
      case measure => (have := HNk.out; omega)
      case rel =>
        refine ⟨K + 1, by go_num, by rw [hv, HX.out], by omega, rfl, ?_, HBR.out.trans HBL3.out⟩
        rw [vbits_snoc, HX.out]
        have hq := HOW2.out
        rw [show (vbits b K ++ [(x % 2 == 1)]).length = (vbits b K).length + 1 by simp] at hq ⊢
        exact hq
end Go.Proofs.Ytadilppdlbhjnaa

namespace Go.Proofs.Ytadilppdlbhjnaa
set_option linter.unusedSimpArgs false
set_option linter.unusedVariables false
open Go.RowKit

end Go.Proofs.Ytadilppdlbhjnaa

namespace Go.Proofs.Ytadilppdlbhjnaa
set_option linter.unusedSimpArgs false
set_option linter.unusedVariables false
open Go.RowKit

end Go.Proofs.Ytadilppdlbhjnaa
