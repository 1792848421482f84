/- Walk of layer 15: the reference's At. -/
import Derived.Test.YtadilppdlbhjnaaN3
namespace Go.Proofs.Ytadilppdlbhjnaa
set_option linter.unusedSimpArgs false
set_option linter.unusedVariables false
open Go.RowKit

set_option maxRecDepth 100000 in
set_option maxHeartbeats 1000000 in
theorem rat15_any (m : List Cell) (ar rank : Int) (p : Option Addr) (cap : Nat) (w : World) (h : MxAt w p cap m) (hl : m.length ≤ 20000) :
    Calls Try.prog 84 #[.agg #[.int .i64 ar, .slice p m.length cap], .int .i64 rank] w fun e w' => e = .returned (.int .i64 (mat m rank)) ∧ Below w.heap.size w w' := by
  have H := Lib.hid h; clear h
  obtain ⟨W2, hW2, y0⟩ : ∃ W2, w.alloc (.cells #[.int .i64 ar, .slice p m.length cap] 30) = W2 ∧ W2.cell? ⟨w.heap.size, 1, none⟩ = some (.slice p m.length cap) := ⟨_, rfl, by go_cell⟩
  have HB := Lib.hid (show Below w.heap.size w W2 from by rw [← hW2]; go_grown)
  have HW2 := Lib.hid hW2; clear hW2
  go_enter Try.func84, Try.ntmps84
  go_wp2_with fail
  rw [HW2.out]
  go_loopg [5] m.length (fun N v5 wr => ∃ K : Nat, v5 = .int .i64 K ∧ K ≤ m.length ∧ N = m.length - K ∧ mat (m.drop K) rank = mat m rank ∧ wr = W2)
  case atStart => exact ⟨0, rfl, by omega, rfl, rfl, rfl⟩
  case round =>
    obtain ⟨K, rfl, hK, hN, hm, rfl⟩ := hrel
    have HNk := Lib.hid hN; have HM := Lib.hid hm; clear hN hm
    by_cases hlt : K < m.length
    case neg =>
      have hd := Lib.hid (show mat m rank = 1 by rw [← HM.out, List.drop_eq_nil_of_le (by omega)]; rfl)
      go_wp2_with fail
      go_ret
      exact ⟨congrArg (fun x : Int => Ending.returned (.int .i64 x)) hd.out.symm, HB.out⟩
    case pos =>
      have hlt0 : (0 : Int) ≤ (K : Int) := by omega
      have hlt1 : (K : Int) < (m.length : Int) := by omega
      obtain ⟨x, hx⟩ : ∃ x, m[K]? = some x := ⟨_, List.getElem?_eq_getElem hlt⟩
      have hdr : m.drop K = x :: m.drop (K + 1) := by
        obtain ⟨hk, he⟩ := List.getElem?_eq_some_iff.1 hx
        rw [List.drop_eq_getElem_cons hk, he]
      obtain ⟨b, off, rfl, hb, h0, h1⟩ := cell_cells H.out.at' hx
      have k0 := oldcell HB.out h0 hb
      have k1 := oldcell HB.out h1 hb
      have HDR := Lib.hid hdr
      clear hx hdr h0 h1
      by_cases hr : x.rank = rank
      · have hrb : (x.rank == rank) = true := by simp [hr]
        have hd := Lib.hid (show mat m rank = x.ref by rw [← HM.out, HDR.out, mat, if_pos hr])
        have HR := Lib.hid hr; clear hr
        go_wp2_with fail
        go_ret
        exact ⟨congrArg (fun x : Int => Ending.returned (.int .i64 x)) hd.out.symm, HB.out⟩
      · have hrb : (x.rank == rank) = false := by simp [hr]
        have hd := Lib.hid (show mat (m.drop (K + 1)) rank = mat m rank by rw [← HM.out, HDR.out, mat, if_neg hr])
        have HR := Lib.hid hr; clear hr
        go_wp2_with fail
        go_roundg (m.length - (K + 1))
        case measure => (have := HNk.out; omega)
        case rel => exact ⟨K + 1, by go_num, by omega, rfl, hd.out, rfl⟩
end Go.Proofs.Ytadilppdlbhjnaa
