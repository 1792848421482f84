/- Walks of layer 13: Not, Index, Clip. -/
import Derived.Test.YtanlecgpnknhoaaBase
namespace Go.Proofs.Ytanlecgpnknhoaa
set_option linter.unusedSimpArgs false
set_option linter.unusedVariables false
open Go.RowKit

attribute [local go_sem ↓] gate_eql gate_neq gate_guard

set_option maxHeartbeats 400000 in
theorem not_any (r : Int) (w : World) (h1 : r ≤ 9223372036854775807) :
    Calls Try.prog 32 #[.int .i64 r] w fun e w' => e = .returned (.int .i64 (cnot r)) ∧ w' = w := by
  by_cases h : r < 0
  · go_enter Try.func32, Try.ntmps32
    go_wp2
    go_ret
    exact ⟨ret_int (cnot_neg h).symm, rfl⟩
  · go_enter Try.func32, Try.ntmps32
    go_wp2
    go_ret
    exact ⟨ret_int ((bits_xor_one r (by omega) h1).trans (cnot_pos (by omega)).symm), rfl⟩

set_option maxHeartbeats 400000 in
theorem rnot_any (r : Int) (w : World) (h1 : r ≤ 9223372036854775807) :
    Calls Try.prog 33 #[.int .i64 r] w fun e w' => e = .returned (.int .i64 (cnot r)) ∧ w' = w := by
  by_cases h : r < 0
  · go_enter Try.func33, Try.ntmps33
    go_wp2
    go_ret
    exact ⟨ret_int (cnot_neg h).symm, rfl⟩
  · by_cases h2 : r % 2 = 0
    · have H := Lib.hid (cnot_even (by omega) h2)
      go_enter Try.func33, Try.ntmps33
      go_wp2
      go_ret
      exact ⟨ret_int H.out.symm, rfl⟩
    · have H := Lib.hid (cnot_odd (by omega) h2)
      go_enter Try.func33, Try.ntmps33
      go_wp2
      go_ret
      exact ⟨ret_int H.out.symm, rfl⟩

set_option maxHeartbeats 400000 in
theorem clip_any (p : Option Addr) (n cap : Nat) (w : World) (h : n ≤ cap) (hc : cap ≤ maxLen) :
    Calls Try.prog 75 #[.slice p n cap] w fun e w' => e = .returned (.slice p n n) ∧ w' = w := by
  unfold maxLen at hc
  have h1 : (0 : Int) ≤ (n : Int) := by omega
  have h2 : (n : Int) ≤ (cap : Int) := by omega
  go_enter Try.func75, Try.ntmps75
  go_wp2
  go_ret
  exact ⟨rfl, rfl⟩

theorem findI_of {gs : List Gate} {g : Gate} {k : Nat} (h : ∀ j, j < k → gs[j]? ≠ some g) : ∀ x, gs[k]? = some x → (g = x → findI gs g = k) := by
  intro x hx e
  subst e
  unfold findI; rw [cfind_of hx h]
theorem findI_none {gs : List Gate} {g : Gate} (h : ∀ j, j < gs.length → gs[j]? ≠ some g) : findI gs g = -1 := by
  unfold findI
  rw [cfind_none.2]
  intro hm
  obtain ⟨i, hi, he⟩ := List.getElem_of_mem hm
  exact h i hi (by rw [List.getElem?_eq_getElem hi, he])

set_option maxHeartbeats 400000 in
theorem index_any (gs : List Gate) (g : Gate) (p : Option Addr) (cap : Nat) (w : World) (hl : gs.length ≤ maxLen) (hg : GatesAt w p gs) :
    Calls Try.prog 74 #[.slice p gs.length cap, .agg #[.int .i64 g.k, .int .i64 g.a, .int .i64 g.b]] w fun e w' => e = .returned (.int .i64 (findI gs g)) ∧ Below w.heap.size w w' := by
  unfold maxLen at hl
  rcases hg with rfl | ⟨b, off, rfl, hb, hc⟩
  · go_enter Try.func74, Try.ntmps74
    go_wp2
    go_rounds 1
    go_ret
    exact ⟨by simp [findI, cfind, findFrom], by go_grown⟩
  · obtain ⟨x, y, z⟩ := g
    go_enter Try.func74, Try.ntmps74
    go_wp2
    go_loopg [8] gs.length (fun n v wr => ∃ k : Nat, v = .int .i64 k ∧ k ≤ gs.length ∧ n = gs.length - k ∧ (∀ j, j < k → gs[j]? ≠ some ⟨x, y, z⟩) ∧ Below (w.heap.size + 1) (w.alloc (Obj.cells #[Value.int IntKind.i64 x, Value.int IntKind.i64 y, Value.int IntKind.i64 z] 47)) wr)
    case atStart => exact ⟨0, rfl, by omega, by omega, by omega, Below.refl _ _⟩
    case round =>
      obtain ⟨k, rfl, hk, rfl, hno, hB⟩ := hrel
      have h1 := oldcell (b := w.heap.size) (o := 0) (v := .int .i64 x) hB (by go_cell) (by omega)
      have h2 := oldcell (b := w.heap.size) (o := 1) (v := .int .i64 y) hB (by go_cell) (by omega)
      have h3 := oldcell (b := w.heap.size) (o := 2) (v := .int .i64 z) hB (by go_cell) (by omega)
      by_cases hlt : k < gs.length
      · have hlt0 : (0 : Int) ≤ (k : Int) := by omega
        have hlt1 : (k : Int) < (gs.length : Int) := by omega
        obtain ⟨gk, hgk⟩ : ∃ gk, gs[k]? = some gk := ⟨_, List.getElem?_eq_getElem hlt⟩
        have hB0 : Below w.heap.size w wr := Below.trans (by go_grown) (hB.mono (by omega))
        obtain ⟨e4, e5, e6⟩ := gate_cells hc hgk
        have h4 := oldcell hB0 e4 hb
        have h5 := oldcell hB0 e5 hb
        have h6 := oldcell hB0 e6 hb
        clear e4 e5 e6
        have H1 := Lib.hid hgk; have H2 := Lib.hid hno; clear hgk hno
        have H3 := Lib.hid hc; clear hc
        have HB := Lib.hid hB; have HB0 := Lib.hid hB0; clear hB hB0
        by_cases he : (⟨x, y, z⟩ : Gate) = gk
        · have hd := gEq_true he
          have H4 := Lib.hid he; clear he
          go_wp2
          go_quiet (fail)
          go_wp2
          go_ret
          exact ⟨ret_int (findI_of H2.out _ H1.out H4.out).symm, Below.drewN HB0.out _⟩
        · have hd := gEq_false he
          have H4 := Lib.hid he; clear he
          go_wp2
          go_quiet (fail)
          go_wp2
          go_roundg (gs.length - (k + 1))
          case measure => omega
          case rel =>
            refine ⟨k + 1, by go_num, by omega, rfl, fun j hj => ?_, Below.drewN HB.out _⟩
            rcases Nat.lt_or_ge j k with h | h
            · exact H2.out j h
            · obtain rfl : j = k := by omega
              rw [H1.out]; intro e; exact H4.out (by simpa using e.symm)
      · go_wp2
        go_ret
        exact ⟨ret_int (findI_none (fun j hj => hno j (by omega))).symm, Below.trans (by go_grown) (hB.mono (by omega))⟩

end Go.Proofs.Ytanlecgpnknhoaa
