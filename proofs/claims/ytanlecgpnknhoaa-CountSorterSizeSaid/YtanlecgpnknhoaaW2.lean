/- Walks of layer 13: share of the program. -/
import Derived.Test.YtanlecgpnknhoaaW1
import Derived.Deep.RegionLawGrows
namespace Go.Proofs.Ytanlecgpnknhoaa
set_option linter.unusedSimpArgs false
set_option linter.unusedVariables false
open Go.RowKit

set_option maxRecDepth 100000 in
set_option maxHeartbeats 1000000 in
theorem share_any (gs : List Gate) (g : Gate) (p : Option Addr) (cap : Nat) (w : World) (hl : gs.length ≤ 20000) (hcap : gs.length ≤ cap) (hcm : cap ≤ maxLen) (hp : p = none → cap = 0) (hg : GatesAt w p gs) :
    Calls Try.prog 58 #[.agg #[.slice p gs.length cap], .agg #[.int .i64 g.k, .int .i64 g.a, .int .i64 g.b]] w (RetCirc w p (cshare gs g).1 (cshare gs g).2) := by
  unfold maxLen at hcm
  cases hf : cfind gs g with
  | some i =>
    have hi := (List.getElem?_eq_some_iff.1 (cfind_some hf).1).1
    have hfi := findI_some hf
    rw [cshare_some hf]
    have Hcm := Lib.hid hcm; have Hp := Lib.hid hp; have Hg := Lib.hid hg; have Hf := Lib.hid hf; have Hfi := Lib.hid hfi; clear hcm hp hg hf hfi
    go_enter Try.func58, Try.ntmps58
    go_wp2_with fail
    refine (index_any gs g p cap _ (by unfold maxLen; omega) (Hg.out.mono (by go_grown))).mono ?_
    rintro e w1 ⟨rfl, hb1⟩
    rw [Hfi.out]
    obtain ⟨hc1, hf1⟩ := bcell hb1
    have HB1 : Below w.heap.size w w1 := Below.trans (by go_grown) (hb1.mono (by simp; omega))
    go_wp2_with fail
    refine bodyPost_ret (by simp [results, Try.results58, go_sem, hc1]; try rfl) rfl ?_
    exact ⟨p, cap, rfl, hcap, by unfold maxLen; exact Hcm.out, Hp.out, Hg.out.mono (by go_grown), by go_grown, .inl rfl⟩
  | none =>
    have hfi := findI_none' hf
    by_cases hfull : 20000 ≤ gs.length
    · rw [cshare_full hf hfull]
      have Hcm := Lib.hid hcm; have Hp := Lib.hid hp; have Hg := Lib.hid hg; have Hf := Lib.hid hf; have Hfi := Lib.hid hfi; clear hcm hp hg hf hfi
      go_enter Try.func58, Try.ntmps58
      go_wp2_with fail
      refine (index_any gs g p cap _ (by unfold maxLen; omega) (Hg.out.mono (by go_grown))).mono ?_
      rintro e w1 ⟨rfl, hb1⟩
      rw [Hfi.out]
      obtain ⟨hc1, hf1⟩ := bcell hb1
      have HB1 : Below w.heap.size w w1 := Below.trans (by go_grown) (hb1.mono (by simp; omega))
      go_wp2_with fail
      refine bodyPost_ret (by simp [results, Try.results58, go_sem, hc1]; try rfl) rfl ?_
      exact ⟨p, cap, rfl, hcap, by unfold maxLen; exact Hcm.out, Hp.out, Hg.out.mono (by go_grown), by go_grown, .inl rfl⟩
    · rw [cshare_new hf hfull]
      have Hcm := Lib.hid hcm; have Hp := Lib.hid hp; have Hg := Lib.hid hg; have Hf := Lib.hid hf; have Hfi := Lib.hid hfi; clear hcm hp hg hf hfi
      obtain ⟨i0, hi0, hz0, hz1, hz2⟩ := info_parts gate_info
      go_enter Try.func58, Try.ntmps58
      go_wp2_with fail
      refine (index_any gs g p cap _ (by unfold maxLen; omega) (Hg.out.mono (by go_grown))).mono ?_
      rintro e w1 ⟨rfl, hb1⟩
      rw [Hfi.out]
      obtain ⟨hc1, hf1⟩ := bcell hb1
      have HB1 : Below w.heap.size w w1 := Below.trans (by go_grown) (hb1.mono (by simp; omega))
      go_wp2_with fail
      have Hp0 : Hid (p = none → gs.length = 0) := fun h => by have := Hp.out h; omega
      have k0 := oldcell (b := w.heap.size) (o := 0) (v := .slice p gs.length cap) hb1 (by go_cell) (by simp; omega)
      have k1 := oldcell (b := w.heap.size + 1) (o := 0) (v := .int .i64 g.k) hb1 (by go_cell) (by simp)
      have k2 := oldcell (b := w.heap.size + 1) (o := 1) (v := .int .i64 g.a) hb1 (by go_cell) (by simp)
      have k3 := oldcell (b := w.heap.size + 1) (o := 2) (v := .int .i64 g.b) hb1 (by go_cell) (by simp)
      have k4 := oldcell (b := w.heap.size + 1 + 1) (o := 0) (v := .slice none 0 0) hb1 (by go_cell) (by simp)
      have k5 : w1.frozen? ⟨w.heap.size + 1 + 1, 0, none⟩ = false := by rw [hf1 _ _ (by simp)]; go_cell
      have kz : w.heap.size + 1 + 1 < w1.heap.size := by have := hb1.size; simp at this; omega
      have Hb1 := Lib.hid hb1; have HB1' := Lib.hid HB1; clear hb1 hc1 hf1 HB1
      go_region_held3 (fun w' => w'.cell? ⟨w.heap.size, 0, none⟩ = some (.slice p gs.length cap) ∧ w'.cell? ⟨w.heap.size + 1, 0, none⟩ = some (.int .i64 g.k) ∧ w'.cell? ⟨w.heap.size + 1, 1, none⟩ = some (.int .i64 g.a) ∧ w'.cell? ⟨w.heap.size + 1, 2, none⟩ = some (.int .i64 g.b)) (refine ⟨?_, ?_, ?_, ?_⟩ <;> repeat (first | (with_reducible assumption) | (with_reducible refine keep_alloc ?_) | (with_reducible refine keep_drew ?_) | (with_reducible refine keep_far ?_ (by dsimp only; omega)))) (first | (go_at_call 75; refine (clip_any _ _ _ _ hcap (by unfold maxLen; exact Hcm.out)).mono ?_; rintro e w' ⟨rfl, rfl⟩) | (refine step_clip_append (enc := gEnc) (by rfl) _ _ _ (by rfl) 47 i0 _ 24 Try.underlying23 hi0 hz0 hz1 hz2 rfl (by omega) p gs gs.length (by rfl) Hp0.out (Hg.out.mono (HB1'.out.trans (by go_grown))) ⟨w1.heap.size, 0, none⟩ [g] 1 (by rfl) (SlAt.gate1 (by go_cell) (by go_cell) (by go_cell)) (fun y _ j _ => gEnc_one y j) (Nat.le_refl _) (by simp) (by simp [maxLen]; omega) (by simp; omega) ?_; intro gg cap' w2 hsl hgg hc1 hc2 hb2; have j0 := oldcell (b := w.heap.size) (o := 0) (v := .slice p gs.length cap) hb2 (by go_cell) (by simp; omega); have j1 := oldcell (b := w.heap.size + 1) (o := 0) (v := .int .i64 g.k) hb2 (by go_cell) (by simp; omega); have j2 := oldcell (b := w.heap.size + 1) (o := 1) (v := .int .i64 g.a) hb2 (by go_cell) (by simp; omega); have j3 := oldcell (b := w.heap.size + 1) (o := 2) (v := .int .i64 g.b) hb2 (by go_cell) (by simp; omega); have k6 := oldcell (b := w.heap.size + 1 + 1) (o := 0) (v := .slice none 0 0) hb2 (by go_cell) (by simp; omega); have k7 := oldfree (b := w.heap.size + 1 + 1) (o := 0) hb2 (by go_cell) (by simp; omega)))
      all_goals
        go_wp2_with fail
        refine bodyPost_ret (by simp [results, Try.results58, go_sem, j0, k6, k7]; try rfl) rfl ?_
        have e1 : IntKind.i64.wrap (2 * (gs.length : Int)) = 2 * (gs.length : Int) := IntWalk.i64_in _ (by omega)
        rw [e1]
        refine ⟨some ⟨gg, 0, none⟩, cap', by simp; try rfl, by simpa using hc1, hc2, (fun h => by cases h), hsl.setCell (fun a ha => ?_) _, Below.setCell (HB1'.out.trans (Below.trans (by go_grown) (hb2.mono (by simp; omega)))) (by show _ ≤ w.heap.size + 1 + 1; omega) _, Fresh.new (by simp at hgg; omega)⟩
        cases ha; simp at hgg; show w.heap.size + 1 + 1 ≠ gg; omega
end Go.Proofs.Ytanlecgpnknhoaa
