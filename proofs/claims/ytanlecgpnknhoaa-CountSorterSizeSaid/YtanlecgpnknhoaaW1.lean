/- Walks of layer 13, first part: find, Index, share. -/
import Derived.Test.YtanlecgpnknhoaaW1b
namespace Go.Proofs.Ytanlecgpnknhoaa
set_option linter.unusedSimpArgs false
set_option linter.unusedVariables false
open Go.RowKit

attribute [local go_sem ↓] gate_eql gate_neq gate_guard

theorem findFrom_step {gs : List Gate} {g : Gate} {k : Nat} (h : ∀ j, j < k → gs[j]? ≠ some g) : ∀ x, gs[k]? = some x → (x = g → findI gs g = k) := by
  intro x hx e
  subst e
  unfold findI; rw [cfind_of hx h]
set_option maxHeartbeats 400000 in
theorem rfind_any (gs : List Gate) (g : Gate) (p : Option Addr) (cap : Nat) (w : World) (hl : gs.length ≤ maxLen) (hg : GatesAt w p gs) :
    Calls Try.prog 62 #[.agg #[.slice p gs.length cap], .agg #[.int .i64 g.k, .int .i64 g.a, .int .i64 g.b]] w fun e w' => e = .returned (.int .i64 (findI gs g)) ∧ Below w.heap.size w w' := by
  unfold maxLen at hl
  rcases hg with rfl | ⟨b, off, rfl, hb, hc⟩
  · go_enter Try.func62, Try.ntmps62
    go_wp2
    go_rounds 1
    go_ret
    exact ⟨by simp [findI, cfind, findFrom], by go_grown⟩
  · obtain ⟨x, y, z⟩ := g
    go_enter Try.func62, Try.ntmps62
    go_wp2
    go_loopg [5] gs.length (fun n v wr => ∃ k : Nat, v = .int .i64 k ∧ k ≤ gs.length ∧ n = gs.length - k ∧ (∀ j, j < k → gs[j]? ≠ some ⟨x, y, z⟩) ∧ Below (w.heap.size + 2) ((w.alloc (Obj.cells #[Value.slice (some ⟨b, off, none⟩) gs.length cap] 25)).alloc (Obj.cells #[Value.int IntKind.i64 x, Value.int IntKind.i64 y, Value.int IntKind.i64 z] 47)) wr)
    case atStart => exact ⟨0, rfl, by omega, by omega, by omega, Below.refl _ _⟩
    case round =>
      obtain ⟨k, rfl, hk, rfl, hno, hB⟩ := hrel
      have h0 : wr.cell? ⟨w.heap.size, 0, none⟩ = some (.slice (some ⟨b, off, none⟩) gs.length cap) := by
        refine oldcell hB ?_ (by omega); go_cell
      have h1 : wr.cell? ⟨w.heap.size + 1, 0, none⟩ = some (.int .i64 x) := by
        refine oldcell hB ?_ (by omega); go_cell
      have h2 : wr.cell? ⟨w.heap.size + 1, 1, none⟩ = some (.int .i64 y) := by
        refine oldcell hB ?_ (by omega); go_cell
      have h3 : wr.cell? ⟨w.heap.size + 1, 2, none⟩ = some (.int .i64 z) := by
        refine oldcell hB ?_ (by omega); go_cell
      by_cases hlt : k < gs.length
      · have hlt0 : (0 : Int) ≤ (k : Int) := by omega
        have hlt1 : (k : Int) < (gs.length : Int) := by omega
        obtain ⟨gk, hgk⟩ : ∃ gk, gs[k]? = some gk := ⟨_, List.getElem?_eq_getElem hlt⟩
        have hB0 : Below w.heap.size w wr := Below.trans (by go_grown) (hB.mono (by omega))
        obtain ⟨e4, e5, e6⟩ := gate_cells hc hgk
        have h4 := oldcell hB0 e4 hb
        have h5 := oldcell hB0 e5 hb
        have h6 := oldcell hB0 e6 hb
        clear e4 e5 e6
        have H1 := Lib.hid hgk; have H2 := Lib.hid hno; clear hgk hno
        have H3 := Lib.hid hc; clear hc
        have HB := Lib.hid hB; have HB0 := Lib.hid hB0; clear hB hB0
        by_cases he : gk = ⟨x, y, z⟩
        · have hd := gEq_true he
          have H4 := Lib.hid he; clear he
          go_wp2
          go_quiet (fail)
          go_wp2
          go_ret
          exact ⟨ret_int (findFrom_step H2.out _ H1.out H4.out).symm, Below.drewN HB0.out _⟩
        · have hd := gEq_false he
          have H4 := Lib.hid he; clear he
          go_wp2
          go_quiet (fail)
          go_wp2
          go_roundg (gs.length - (k + 1))
          case measure => omega
          case rel =>
            refine ⟨k + 1, by go_num, by omega, rfl, fun j hj => ?_, Below.drewN HB.out _⟩
            rcases Nat.lt_or_ge j k with h | h
            · exact H2.out j h
            · obtain rfl : j = k := by omega
              rw [H1.out]; simpa using H4.out
      · go_wp2
        go_ret
        exact ⟨ret_int (findI_none (fun j hj => hno j (by omega))).symm, Below.trans (by go_grown) (hB.mono (by omega))⟩

end Go.Proofs.Ytanlecgpnknhoaa
