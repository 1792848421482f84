/- Walk of reach. -/
import Derived.Test.YtanlecgpnknhoaaW17
import Derived.Test.YtanlecgpnknhoaaPlain8
import Derived.Test.YtanlecgpnknhoaaSeq
import Derived.Laws.OwnMore
import Derived.OwnWalk
namespace Go.Proofs.Ytanlecgpnknhoaa
set_option linter.unusedSimpArgs false
set_option linter.unusedVariables false
open Go.RowKit

theorem gates_spot {w : World} {p : Option Addr} {gs : List Gate} (h : GatesAt w p gs) (hne : 0 < gs.length) : ∃ b off, p = some ⟨b, off, none⟩ ∧ b < w.heap.size ∧ Hid (∀ i g, gs[i]? = some g → w.cell? ⟨b, off + i * 3, none⟩ = some (.int .i64 g.k) ∧ w.cell? ⟨b, off + i * 3 + 1, none⟩ = some (.int .i64 g.a) ∧ w.cell? ⟨b, off + i * 3 + 2, none⟩ = some (.int .i64 g.b)) := by
  rcases h with rfl | ⟨b, off, h1, h2, h3⟩
  · simp at hne
  · exact ⟨b, off, h1, h2, Lib.hid fun i g hi => gate_cells h3 hi⟩

theorem flat1 {α : Type} (enc : α → Nat → Value) (xs : List α) : flat 1 enc xs = xs.map fun x => enc x 0 := by
  induction xs with
  | nil => rfl
  | cons x t ih =>
    show (List.range 1).map (enc x) ++ flat 1 enc t = _
    rw [ih]; rfl
theorem flat1_set (xs : List Bool) (i : Nat) (b : Bool) : (flat 1 bEnc xs).set i (.bool b) = flat 1 bEnc (xs.set i b) := by
  rw [flat1, flat1, List.map_set]; rfl
theorem flat1_rep (n : Nat) (b : Bool) : flat 1 bEnc (List.replicate n b) = List.replicate n (.bool b) := by
  rw [flat1, List.map_replicate]; rfl

/-- n bools in a block of the call's own. -/
def OwnB (w : World) (B g n cap : Nat) (m : List Bool) : Prop := m.length = n ∧ w.ownsRow B 4 1 (.slice (some ⟨g, 0, none⟩) n cap) n (flat 1 bEnc m)
theorem OwnB.get {w : World} {B g n cap : Nat} {m : List Bool} (h : OwnB w B g n cap m) {i : Nat} (hi : i < n) : w.cell? ⟨g, i, none⟩ = some (.bool (m.getD i false)) := by
  rw [h.2.cellAt i (by omega), flat1, List.getElem?_map, List.getElem?_eq_getElem (by rw [h.1]; exact hi), List.getD_eq_getElem?_getD, List.getElem?_eq_getElem (by rw [h.1]; exact hi)]; rfl
theorem OwnB.free {w : World} {B g n cap : Nat} {m : List Bool} (h : OwnB w B g n cap m) (i : Nat) : w.frozen? ⟨g, i, none⟩ = false := h.2.frozenAt i
theorem OwnB.set {w : World} {B g n cap : Nat} {m : List Bool} (h : OwnB w B g n cap m) (i : Nat) (b : Bool) : OwnB (w.setCell ⟨g, i, none⟩ (.bool b)) B g n cap (m.set i b) := by
  have := (h.2.stored i (.bool b)).1
  rw [flat1_set] at this
  exact ⟨by rw [List.length_set]; exact h.1, this⟩
theorem OwnB.alloc {w : World} {B g n cap : Nat} {m : List Bool} (h : OwnB w B g n cap m) (o : Obj) : OwnB (w.alloc o) B g n cap m := ⟨h.1, h.2.alloc o⟩
theorem OwnB.at' {w : World} {B g n cap : Nat} {m : List Bool} (h : OwnB w B g n cap m) : BoolsAt w (some ⟨g, 0, none⟩) m := by
  obtain ⟨rfl, h2⟩ := h
  exact SlAt.of_owns (by omega) h2

def ReachPost (w : World) (gs : List Gate) (r : Int) (e : Ending) (w' : World) : Prop :=
  ∃ q cq, e = .returned (.slice q (creach gs r).length cq) ∧ BoolsAt w' q (creach gs r) ∧ Below w.heap.size w w'

set_option maxRecDepth 100000 in
set_option maxHeartbeats 4000000 in
theorem reach_any (gs : List Gate) (R : Nat) (p : Option Addr) (cap : Nat) (w : World) (hl : gs.length ≤ 20000) (hw : WfC gs) (hR : R < 2 * gs.length) (hC : GatesAt w p gs) :
    Calls Try.prog 38 #[.agg #[.slice p gs.length cap], .int .i64 R] w (ReachPost w gs R) := by
  obtain ⟨b, off, rfl, hb, U⟩ := gates_spot hC (by omega)
  obtain ⟨i0, hi0, hz0, hz1, hz2⟩ := info_parts bool_info
  obtain ⟨H, hH⟩ : ∃ H, R / 2 = H := ⟨_, rfl⟩
  have hq : (R : Int) / 2 = (H : Int) := by omega
  have hHl : (H : Int) < (gs.length : Int) := by omega
  have hH0 : (0 : Int) ≤ (H : Int) := by omega
  have hR0 : (0 : Int) ≤ (R : Int) := by omega
  have hT0 : creach gs R = rdown gs gs.length ((List.replicate gs.length false).set H true) := by
    unfold creach rstart
    rw [if_neg (by omega), show ((R : Int) / 2).toNat = H by omega]
  obtain ⟨T, hT⟩ : ∃ T, creach gs R = T := ⟨_, rfl⟩
  have hTl := Lib.hid (show T.length = gs.length by rw [← hT]; exact creach_length _ _)
  have HT0 := Lib.hid (hT.symm.trans hT0)
  have HT := Lib.hid hT
  have Hw := Lib.hid hw
  clear hC hH hT hT0 hw hR
  go_enter Try.func38, Try.ntmps38
  go_wp2_with fail
  have hr := run_make_full (P := Try.prog) (w.alloc (.cells #[.slice (some ⟨b, off, none⟩) gs.length cap] 25)) (w.heap.size + 1) 26 4 i0 (.bool false) 1 Try.underlying26 hi0 hz0 hz1 .i64 .i64 gs.length (by rw [hz2]; omega) (by simp [maxLen]; omega) (by simp)
  obtain ⟨w1, hrun, hown, hgr⟩ := hr
  rw [hrun]
  have hO : OwnB w1 (w.heap.size + 1) (w.heap.size + 1) gs.length gs.length (List.replicate gs.length false) := ⟨List.length_replicate, by rw [flat1_rep, ← toList_madeCells_one]; rw [show (Value.bool false).cells = #[.bool false] from rfl] at hown; simpa using hown⟩
  have hB1 : Below (w.heap.size + 1) (w.alloc (.cells #[.slice (some ⟨b, off, none⟩) gs.length cap] 25)) w1 := Below.grown (Below.refl _ _) hgr (by simp) (fun k hk => by cases hk)
  have k0 := oldcell (b := w.heap.size) (o := 0) (v := .slice (some ⟨b, off, none⟩) gs.length cap) hB1 (by go_cell) (by omega)
  have c1 := hO.get (i := H) (by omega)
  have f1 := hO.free H
  have HO := Lib.hid hO
  have HGR := Lib.hid hgr
  clear hown hO hgr hrun
  go_wp2_with fail
  go_loopg [6] gs.length (fun n v wr => ∃ (k : Nat) (m : List Bool), v = .int .i64 ((k : Int) - 1) ∧ n = k ∧ k ≤ gs.length ∧ rdown gs k m = T ∧ OwnB wr (w.heap.size + 1) (w.heap.size + 1) gs.length gs.length m ∧ Below (w.heap.size + 1) (w.alloc (.cells #[.slice (some ⟨b, off, none⟩) gs.length cap] 25)) wr)
  case atStart => exact ⟨gs.length, _, rfl, rfl, Nat.le_refl _, HT0.out.symm, HO.out.set H true, Below.setCell hB1 (by show _ ≤ w.heap.size + 1; omega) _⟩
  case round =>
    clear k0 c1 f1 hB1
    obtain ⟨k, m, hv, hn, hk, hm, hO, hB⟩ := hrel
    have HNk := Lib.hid hn; clear hn
    have HM := Lib.hid hm; have HOW := Lib.hid hO; have HB := Lib.hid hB
    have k0 := oldcell (b := w.heap.size) (o := 0) (v := .slice (some ⟨b, off, none⟩) gs.length cap) hB (by go_cell) (by omega)
    have HB0 := Lib.hid (show Below w.heap.size w wr from Below.trans (by go_grown) (hB.mono (by omega)))
    clear hm hO hB
    cases k with
    | zero =>
      have e0 : ((0 : Nat) : Int) - 1 = -1 := rfl
      rw [e0] at hv
      subst hv
      go_wp2_with fail
      go_ret
      have e1 : m = T := HM.out
      have e2 : creach gs R = m := HT.out.trans e1.symm
      refine ⟨some ⟨w.heap.size + 1, 0, none⟩, gs.length, ?_, ?_, HB0.out⟩
      · rw [creach_length]; rfl
      · rw [e2]; exact HOW.out.at'
    | succ j =>
      have e0 : ((j + 1 : Nat) : Int) - 1 = (j : Int) := by omega
      rw [e0] at hv
      subst hv
      have hj0 : (0 : Int) ≤ (j : Int) := by omega
      have hj1 : (j : Int) < (gs.length : Int) := by omega
      obtain ⟨g, hg⟩ : ∃ g, gs[j]? = some g := ⟨_, List.getElem?_eq_getElem (by omega)⟩
      obtain ⟨u0, u1, u2⟩ := U.out j g hg
      have v0 := oldcell HB0.out u0 hb
      have v1 := oldcell HB0.out u1 hb
      have v2 := oldcell HB0.out u2 hb
      clear u0 u1 u2
      have cin := HOW.out.get (i := j) (by omega)
      have hgI : w.heap.size + 1 < wr.heap.size := World.block_lt_of_cell? _ _ cin
      have hst : rstep gs j m = if (m.getD j false && rtest g j) = true then (m.set (g.a / 2).toNat true).set (g.b / 2).toNat true else m := by unfold rstep; rw [hg]
      have HST := Lib.hid hst; clear hst
      have hwg := (Hw.out j g hg).2
      have HWG := Lib.hid hwg; clear hwg
      have HGk := Lib.hid hg; clear hg
      cases hon : m.getD j false with
      | false =>
        rw [hon] at cin
        have HON := Lib.hid hon; clear hon
        go_wp2_with fail
        go_roundg j
        case measure => (have := HNk.out; omega)
        case rel => exact ⟨j, m, rfl, rfl, by omega, by rw [← HM.out]; show rdown gs j m = rdown gs j (rstep gs j m); rw [HST.out, HON.out]; rfl, HOW.out.alloc _, HB.out.trans (by go_grown)⟩
      | true =>
        rw [hon] at cin
        have HON := Lib.hid hon; clear hon
        by_cases hk2 : g.k = 2
        case neg =>
          have hkb : (g.k == 2) = false := beq_eq_false_iff_ne.2 hk2
          have HT2 := Lib.hid (show rtest g j = false by simp [rtest, hk2])
          clear hk2
          go_wp2_with fail
          go_roundg j
          case measure => (have := HNk.out; omega)
          case rel => exact ⟨j, m, rfl, rfl, by omega, by rw [← HM.out]; show rdown gs j m = rdown gs j (rstep gs j m); rw [HST.out, HON.out, HT2.out]; rfl, HOW.out.alloc _, HB.out.trans (by go_grown)⟩
        case pos =>
          have hkb : (g.k == 2) = true := beq_iff_eq.2 hk2
          obtain ⟨w1', w2', w3', w4'⟩ := HWG.out hk2
          have HT2 := Lib.hid (show rtest g j = true by simp only [rtest, decide_eq_true_eq]; omega)
          obtain ⟨A, hA⟩ : ∃ A : Nat, g.a / 2 = (A : Int) := ⟨(g.a / 2).toNat, by omega⟩
          obtain ⟨Z, hZ⟩ : ∃ A : Nat, g.b / 2 = (A : Int) := ⟨(g.b / 2).toNat, by omega⟩
          have hA1 : (A : Int) < (j : Int) := by omega
          have hZ1 : (Z : Int) < (j : Int) := by omega
          have hA2 : (A : Int) < (gs.length : Int) := by omega
          have hZ2 : (Z : Int) < (gs.length : Int) := by omega
          have hA0 : (0 : Int) ≤ (A : Int) := by omega
          have hZ0 : (0 : Int) ≤ (Z : Int) := by omega
          have HSE := Lib.hid (show rstep gs j m = (m.set A true).set Z true by rw [HST.out, HON.out, HT2.out, hA, hZ]; simp)
          have cA := HOW.out.get (i := A) (by omega)
          have fA := HOW.out.free A
          have cZ := HOW.out.get (i := Z) (by omega)
          have fZ := HOW.out.free Z
          have cZ2 := (HOW.out.set A true).get (i := Z) (by omega)
          clear hk2 w2' w4'
          go_wp2_with fail
          go_roundg j
          case measure => (have := HNk.out; omega)
          case rel =>
            refine ⟨j, (m.set A true).set Z true, rfl, rfl, by omega, ?_, ((HOW.out.set A true).set Z true).alloc _, ?_⟩
            · rw [← HM.out]; show _ = rdown gs j (rstep gs j m); rw [HSE.out]
            · exact HB.out.trans (Below.alloc (Below.setCell (Below.setCell (Below.refl _ _) (by show _ ≤ w.heap.size + 1; omega) _) (by show _ ≤ w.heap.size + 1; omega) _) (by simp; omega) _)
end Go.Proofs.Ytanlecgpnknhoaa
