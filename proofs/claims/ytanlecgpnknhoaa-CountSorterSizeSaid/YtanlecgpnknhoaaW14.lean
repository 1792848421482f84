/- Walks of layer 13: one step of a construction. -/
import Derived.Test.YtanlecgpnknhoaaW13
namespace Go.Proofs.Ytanlecgpnknhoaa
set_option linter.unusedSimpArgs false
set_option linter.unusedVariables false
open Go.RowKit

def DoPost (w : World) (p : Option Addr) (gs : List Gate) (refs : List Int) (s : Step) : Ending → World → Prop := RetCirc w p (cdo gs refs s).1 (cdo gs refs s).2

theorem cpick_le {refs : List Int} {n : Nat} (h : ∀ r ∈ refs, r ≤ 40001) : cpick refs n ≤ 40002 := by
  have h1 : cpickR refs n ≤ 40001 := by
    unfold cpickR
    split
    · rw [List.getD_eq_getElem?_getD]
      cases hx : refs[n / 2 % (refs.length + 1) - 1]? with
      | none => simp
      | some x => exact h x (List.mem_of_getElem? hx)
    · omega
  unfold cpick
  split
  · unfold cnot; split <;> (try split) <;> omega
  · omega

set_option maxRecDepth 100000 in
set_option maxHeartbeats 2000000 in
theorem do_any (gs : List Gate) (refs : List Int) (s : Step) (p q : Option Addr) (cap cq : Nat) (w : World) (hs1 : s.k < 256) (hs2 : s.a < 256) (hs3 : s.b < 256) (hrl : refs.length ≤ 20000) (hrr : ∀ r ∈ refs, r ≤ 40001) (hl : gs.length ≤ 20000) (hcap : gs.length ≤ cap) (hcm : cap ≤ maxLen) (hp : p = none → cap = 0) (hg : GatesAt w p gs) (hq : IntsAt w q refs) :
    Calls Try.prog 35 #[.agg #[.slice p gs.length cap], .slice q refs.length cq, .agg #[.int .u8 s.k, .int .u8 s.a, .int .u8 s.b]] w (DoPost w p gs refs s) := by
  have Hcm := Lib.hid hcm; have Hp := Lib.hid hp; have Hg := Lib.hid hg; have Hq := Lib.hid hq; clear hcm hp hg hq
  have PA := Lib.hid (show cpick refs s.a ≤ 9223372036854775807 from Int.le_trans (cpick_le hrr) (by omega))
  have PB := Lib.hid (show cpick refs s.b ≤ 9223372036854775807 from Int.le_trans (cpick_le hrr) (by omega))
  have Hrr := Lib.hid (show ∀ r ∈ refs, r ≤ 9223372036854775807 from fun r h => Int.le_trans (hrr r h) (by omega)); clear hrr
  have hsk : s.k % 4 = 0 ∨ s.k % 4 = 1 ∨ s.k % 4 = 2 ∨ s.k % 4 = 3 := by omega
  obtain ⟨sk, sa, sb⟩ := s
  dsimp only at *
  rcases hsk with hsk | hsk | hsk | hsk
  all_goals
    have m0 : ((sk : Int) % 4 == 0) = decide (sk % 4 = 0) := by rw [Bool.eq_iff_iff]; simp; omega
    have m1 : ((sk : Int) % 4 == 1) = decide (sk % 4 = 1) := by rw [Bool.eq_iff_iff]; simp; omega
    have m2 : ((sk : Int) % 4 == 2) = decide (sk % 4 = 2) := by rw [Bool.eq_iff_iff]; simp; omega
    rw [hsk] at m0 m1 m2
    simp only [decide_true, decide_false, Nat.reduceEqDiff, Nat.one_ne_zero, Nat.zero_ne_one] at m0 m1 m2
  · have HP : Hid (RetCirc w p (cinput gs ((sa : Int) % 8 + 1)).1 (cinput gs ((sa : Int) % 8 + 1)).2 = DoPost w p gs refs ⟨sk, sa, sb⟩) := by unfold DoPost; rw [show cdo gs refs ⟨sk, sa, sb⟩ = cinput gs ((sa : Int) % 8 + 1) from by simp [cdo, hsk]]; exact Lib.hid rfl
    clear hsk
    go_enter Try.func35, Try.ntmps35
    go_wp2_with (first | (go_at_call 37; refine (pick_any refs _ q cq _ (by assumption) hrl Hrr.out (Hq.out.mono (by go_grown))).mono ?_; rintro e w' ⟨rfl, rfl⟩))
    refine (input_any gs ((sa : Int) % 8 + 1) p cap _ hl hcap Hcm.out Hp.out (Hg.out.mono (by go_grown))).mono ?_
    rintro e w1 ⟨p1, cap1, rfl, hq1, hq2, hq3, hq4, hbl, hfr⟩
    obtain ⟨hc1, hf1⟩ := bcell hbl
    have HB1 : Below w.heap.size w w1 := Below.trans (by go_grown) (hbl.mono (by simp; omega))
    have Hq3 := Lib.hid hq3; have Hq4 := Lib.hid hq4; have Hfr := Lib.hid hfr; clear hq3 hq4 hfr
    have kz : w.heap.size + 1 + 1 < w1.heap.size := by have := hbl.size; simp at this; omega
    go_wp2_with fail
    rw [← HP.out]
    refine bodyPost_ret (by simp [results, Try.results35, go_sem, hc1, kz]; try rfl) rfl ?_
    exact ⟨p1, cap1, rfl, hq1, hq2, Hq3.out, Hq4.out.setBox (v0 := .slice none 0 0) (oldcell hbl (by go_cell) (by simp)) (gEnc_ne_slice _ _ _) _, Below.setCell HB1 (by show _ ≤ w.heap.size + 1 + 1; omega) _, Hfr.out.up (by simp; omega)⟩
  · have HP : Hid (RetCirc w p (cand gs (cpick refs sa) (cpick refs sb)).1 (cand gs (cpick refs sa) (cpick refs sb)).2 = DoPost w p gs refs ⟨sk, sa, sb⟩) := by unfold DoPost; rw [show cdo gs refs ⟨sk, sa, sb⟩ = cand gs (cpick refs sa) (cpick refs sb) from by simp [cdo, hsk]]; exact Lib.hid rfl
    clear hsk
    go_enter Try.func35, Try.ntmps35
    go_wp2_with (first | (go_at_call 37; refine (pick_any refs _ q cq _ (by assumption) hrl Hrr.out (Hq.out.mono (by go_grown))).mono ?_; rintro e w' ⟨rfl, rfl⟩))
    refine (and_any gs (cpick refs sa) (cpick refs sb) p cap _ (PA.out) (PB.out) hl hcap Hcm.out Hp.out (Hg.out.mono (by go_grown))).mono ?_
    rintro e w1 ⟨p1, cap1, rfl, hq1, hq2, hq3, hq4, hbl, hfr⟩
    obtain ⟨hc1, hf1⟩ := bcell hbl
    have HB1 : Below w.heap.size w w1 := Below.trans (by go_grown) (hbl.mono (by simp; omega))
    have Hq3 := Lib.hid hq3; have Hq4 := Lib.hid hq4; have Hfr := Lib.hid hfr; clear hq3 hq4 hfr
    have kz : w.heap.size + 1 + 1 < w1.heap.size := by have := hbl.size; simp at this; omega
    go_wp2_with fail
    rw [← HP.out]
    refine bodyPost_ret (by simp [results, Try.results35, go_sem, hc1, kz]; try rfl) rfl ?_
    exact ⟨p1, cap1, rfl, hq1, hq2, Hq3.out, Hq4.out.setBox (v0 := .slice none 0 0) (oldcell hbl (by go_cell) (by simp)) (gEnc_ne_slice _ _ _) _, Below.setCell HB1 (by show _ ≤ w.heap.size + 1 + 1; omega) _, Hfr.out.up (by simp; omega)⟩
  · have HP : Hid (RetCirc w p (cor gs (cpick refs sa) (cpick refs sb)).1 (cor gs (cpick refs sa) (cpick refs sb)).2 = DoPost w p gs refs ⟨sk, sa, sb⟩) := by unfold DoPost; rw [show cdo gs refs ⟨sk, sa, sb⟩ = cor gs (cpick refs sa) (cpick refs sb) from by simp [cdo, hsk]]; exact Lib.hid rfl
    clear hsk
    go_enter Try.func35, Try.ntmps35
    go_wp2_with (first | (go_at_call 37; refine (pick_any refs _ q cq _ (by assumption) hrl Hrr.out (Hq.out.mono (by go_grown))).mono ?_; rintro e w' ⟨rfl, rfl⟩))
    refine (or_any gs (cpick refs sa) (cpick refs sb) p cap _ (PA.out) (PB.out) hl hcap Hcm.out Hp.out (Hg.out.mono (by go_grown))).mono ?_
    rintro e w1 ⟨p1, cap1, rfl, hq1, hq2, hq3, hq4, hbl, hfr⟩
    obtain ⟨hc1, hf1⟩ := bcell hbl
    have HB1 : Below w.heap.size w w1 := Below.trans (by go_grown) (hbl.mono (by simp; omega))
    have Hq3 := Lib.hid hq3; have Hq4 := Lib.hid hq4; have Hfr := Lib.hid hfr; clear hq3 hq4 hfr
    have kz : w.heap.size + 1 + 1 < w1.heap.size := by have := hbl.size; simp at this; omega
    go_wp2_with fail
    rw [← HP.out]
    refine bodyPost_ret (by simp [results, Try.results35, go_sem, hc1, kz]; try rfl) rfl ?_
    exact ⟨p1, cap1, rfl, hq1, hq2, Hq3.out, Hq4.out.setBox (v0 := .slice none 0 0) (oldcell hbl (by go_cell) (by simp)) (gEnc_ne_slice _ _ _) _, Below.setCell HB1 (by show _ ≤ w.heap.size + 1 + 1; omega) _, Hfr.out.up (by simp; omega)⟩
  · have HP : Hid (RetCirc w p (ciff gs (cpick refs sa) (cpick refs sb)).1 (ciff gs (cpick refs sa) (cpick refs sb)).2 = DoPost w p gs refs ⟨sk, sa, sb⟩) := by unfold DoPost; rw [show cdo gs refs ⟨sk, sa, sb⟩ = ciff gs (cpick refs sa) (cpick refs sb) from by simp [cdo, hsk]]; exact Lib.hid rfl
    clear hsk
    go_enter Try.func35, Try.ntmps35
    go_wp2_with (first | (go_at_call 37; refine (pick_any refs _ q cq _ (by assumption) hrl Hrr.out (Hq.out.mono (by go_grown))).mono ?_; rintro e w' ⟨rfl, rfl⟩))
    refine (iff_any gs (cpick refs sa) (cpick refs sb) p cap _ (PA.out) (PB.out) hl hcap Hcm.out Hp.out (Hg.out.mono (by go_grown))).mono ?_
    rintro e w1 ⟨p1, cap1, rfl, hq1, hq2, hq3, hq4, hbl, hfr⟩
    obtain ⟨hc1, hf1⟩ := bcell hbl
    have HB1 : Below w.heap.size w w1 := Below.trans (by go_grown) (hbl.mono (by simp; omega))
    have Hq3 := Lib.hid hq3; have Hq4 := Lib.hid hq4; have Hfr := Lib.hid hfr; clear hq3 hq4 hfr
    have kz : w.heap.size + 1 + 1 < w1.heap.size := by have := hbl.size; simp at this; omega
    go_wp2_with fail
    rw [← HP.out]
    refine bodyPost_ret (by simp [results, Try.results35, go_sem, hc1, kz]; try rfl) rfl ?_
    exact ⟨p1, cap1, rfl, hq1, hq2, Hq3.out, Hq4.out.setBox (v0 := .slice none 0 0) (oldcell hbl (by go_cell) (by simp)) (gEnc_ne_slice _ _ _) _, Below.setCell HB1 (by show _ ≤ w.heap.size + 1 + 1; omega) _, Hfr.out.up (by simp; omega)⟩

set_option maxRecDepth 100000 in
set_option maxHeartbeats 2000000 in
theorem rdo_any (gs : List Gate) (refs : List Int) (s : Step) (p q : Option Addr) (cap cq : Nat) (w : World) (hs1 : s.k < 256) (hs2 : s.a < 256) (hs3 : s.b < 256) (hrl : refs.length ≤ 20000) (hrr : ∀ r ∈ refs, r ≤ 40001) (hl : gs.length ≤ 20000) (hcap : gs.length ≤ cap) (hcm : cap ≤ maxLen) (hp : p = none → cap = 0) (hg : GatesAt w p gs) (hq : IntsAt w q refs) :
    Calls Try.prog 57 #[.agg #[.slice p gs.length cap], .slice q refs.length cq, .agg #[.int .u8 s.k, .int .u8 s.a, .int .u8 s.b]] w (DoPost w p gs refs s) := by
  have Hcm := Lib.hid hcm; have Hp := Lib.hid hp; have Hg := Lib.hid hg; have Hq := Lib.hid hq; clear hcm hp hg hq
  have PA := Lib.hid (show cpick refs s.a ≤ 9223372036854775807 from Int.le_trans (cpick_le hrr) (by omega))
  have PB := Lib.hid (show cpick refs s.b ≤ 9223372036854775807 from Int.le_trans (cpick_le hrr) (by omega))
  have Hrr := Lib.hid (show ∀ r ∈ refs, r ≤ 9223372036854775807 from fun r h => Int.le_trans (hrr r h) (by omega)); clear hrr
  have hsk : s.k % 4 = 0 ∨ s.k % 4 = 1 ∨ s.k % 4 = 2 ∨ s.k % 4 = 3 := by omega
  obtain ⟨sk, sa, sb⟩ := s
  dsimp only at *
  rcases hsk with hsk | hsk | hsk | hsk
  all_goals
    have m0 : ((sk : Int) % 4 == 0) = decide (sk % 4 = 0) := by rw [Bool.eq_iff_iff]; simp; omega
    have m1 : ((sk : Int) % 4 == 1) = decide (sk % 4 = 1) := by rw [Bool.eq_iff_iff]; simp; omega
    have m2 : ((sk : Int) % 4 == 2) = decide (sk % 4 = 2) := by rw [Bool.eq_iff_iff]; simp; omega
    rw [hsk] at m0 m1 m2
    simp only [decide_true, decide_false, Nat.reduceEqDiff, Nat.one_ne_zero, Nat.zero_ne_one] at m0 m1 m2
  · have HP : Hid (RetCirc w p (cinput gs ((sa : Int) % 8 + 1)).1 (cinput gs ((sa : Int) % 8 + 1)).2 = DoPost w p gs refs ⟨sk, sa, sb⟩) := by unfold DoPost; rw [show cdo gs refs ⟨sk, sa, sb⟩ = cinput gs ((sa : Int) % 8 + 1) from by simp [cdo, hsk]]; exact Lib.hid rfl
    clear hsk
    go_enter Try.func57, Try.ntmps57
    go_wp2_with (first | (go_at_call 37; refine (pick_any refs _ q cq _ (by assumption) hrl Hrr.out (Hq.out.mono (by go_grown))).mono ?_; rintro e w' ⟨rfl, rfl⟩))
    refine (rinput_any gs ((sa : Int) % 8 + 1) p cap _ hl hcap Hcm.out Hp.out (Hg.out.mono (by go_grown))).mono ?_
    rintro e w1 ⟨p1, cap1, rfl, hq1, hq2, hq3, hq4, hbl, hfr⟩
    obtain ⟨hc1, hf1⟩ := bcell hbl
    have HB1 : Below w.heap.size w w1 := Below.trans (by go_grown) (hbl.mono (by simp; omega))
    have Hq3 := Lib.hid hq3; have Hq4 := Lib.hid hq4; have Hfr := Lib.hid hfr; clear hq3 hq4 hfr
    have kz : w.heap.size + 1 + 1 < w1.heap.size := by have := hbl.size; simp at this; omega
    go_wp2_with fail
    rw [← HP.out]
    refine bodyPost_ret (by simp [results, Try.results57, go_sem, hc1, kz]; try rfl) rfl ?_
    exact ⟨p1, cap1, rfl, hq1, hq2, Hq3.out, Hq4.out.setBox (v0 := .slice none 0 0) (oldcell hbl (by go_cell) (by simp)) (gEnc_ne_slice _ _ _) _, Below.setCell HB1 (by show _ ≤ w.heap.size + 1 + 1; omega) _, Hfr.out.up (by simp; omega)⟩
  · have HP : Hid (RetCirc w p (cand gs (cpick refs sa) (cpick refs sb)).1 (cand gs (cpick refs sa) (cpick refs sb)).2 = DoPost w p gs refs ⟨sk, sa, sb⟩) := by unfold DoPost; rw [show cdo gs refs ⟨sk, sa, sb⟩ = cand gs (cpick refs sa) (cpick refs sb) from by simp [cdo, hsk]]; exact Lib.hid rfl
    clear hsk
    go_enter Try.func57, Try.ntmps57
    go_wp2_with (first | (go_at_call 37; refine (pick_any refs _ q cq _ (by assumption) hrl Hrr.out (Hq.out.mono (by go_grown))).mono ?_; rintro e w' ⟨rfl, rfl⟩))
    refine (rand_any gs (cpick refs sa) (cpick refs sb) p cap _ (PA.out) (PB.out) hl hcap Hcm.out Hp.out (Hg.out.mono (by go_grown))).mono ?_
    rintro e w1 ⟨p1, cap1, rfl, hq1, hq2, hq3, hq4, hbl, hfr⟩
    obtain ⟨hc1, hf1⟩ := bcell hbl
    have HB1 : Below w.heap.size w w1 := Below.trans (by go_grown) (hbl.mono (by simp; omega))
    have Hq3 := Lib.hid hq3; have Hq4 := Lib.hid hq4; have Hfr := Lib.hid hfr; clear hq3 hq4 hfr
    have kz : w.heap.size + 1 + 1 < w1.heap.size := by have := hbl.size; simp at this; omega
    go_wp2_with fail
    rw [← HP.out]
    refine bodyPost_ret (by simp [results, Try.results57, go_sem, hc1, kz]; try rfl) rfl ?_
    exact ⟨p1, cap1, rfl, hq1, hq2, Hq3.out, Hq4.out.setBox (v0 := .slice none 0 0) (oldcell hbl (by go_cell) (by simp)) (gEnc_ne_slice _ _ _) _, Below.setCell HB1 (by show _ ≤ w.heap.size + 1 + 1; omega) _, Hfr.out.up (by simp; omega)⟩
  · have HP : Hid (RetCirc w p (cor gs (cpick refs sa) (cpick refs sb)).1 (cor gs (cpick refs sa) (cpick refs sb)).2 = DoPost w p gs refs ⟨sk, sa, sb⟩) := by unfold DoPost; rw [show cdo gs refs ⟨sk, sa, sb⟩ = cor gs (cpick refs sa) (cpick refs sb) from by simp [cdo, hsk]]; exact Lib.hid rfl
    clear hsk
    go_enter Try.func57, Try.ntmps57
    go_wp2_with (first | (go_at_call 37; refine (pick_any refs _ q cq _ (by assumption) hrl Hrr.out (Hq.out.mono (by go_grown))).mono ?_; rintro e w' ⟨rfl, rfl⟩))
    refine (ror_any gs (cpick refs sa) (cpick refs sb) p cap _ (PA.out) (PB.out) hl hcap Hcm.out Hp.out (Hg.out.mono (by go_grown))).mono ?_
    rintro e w1 ⟨p1, cap1, rfl, hq1, hq2, hq3, hq4, hbl, hfr⟩
    obtain ⟨hc1, hf1⟩ := bcell hbl
    have HB1 : Below w.heap.size w w1 := Below.trans (by go_grown) (hbl.mono (by simp; omega))
    have Hq3 := Lib.hid hq3; have Hq4 := Lib.hid hq4; have Hfr := Lib.hid hfr; clear hq3 hq4 hfr
    have kz : w.heap.size + 1 + 1 < w1.heap.size := by have := hbl.size; simp at this; omega
    go_wp2_with fail
    rw [← HP.out]
    refine bodyPost_ret (by simp [results, Try.results57, go_sem, hc1, kz]; try rfl) rfl ?_
    exact ⟨p1, cap1, rfl, hq1, hq2, Hq3.out, Hq4.out.setBox (v0 := .slice none 0 0) (oldcell hbl (by go_cell) (by simp)) (gEnc_ne_slice _ _ _) _, Below.setCell HB1 (by show _ ≤ w.heap.size + 1 + 1; omega) _, Hfr.out.up (by simp; omega)⟩
  · have HP : Hid (RetCirc w p (ciff gs (cpick refs sa) (cpick refs sb)).1 (ciff gs (cpick refs sa) (cpick refs sb)).2 = DoPost w p gs refs ⟨sk, sa, sb⟩) := by unfold DoPost; rw [show cdo gs refs ⟨sk, sa, sb⟩ = ciff gs (cpick refs sa) (cpick refs sb) from by simp [cdo, hsk]]; exact Lib.hid rfl
    clear hsk
    go_enter Try.func57, Try.ntmps57
    go_wp2_with (first | (go_at_call 37; refine (pick_any refs _ q cq _ (by assumption) hrl Hrr.out (Hq.out.mono (by go_grown))).mono ?_; rintro e w' ⟨rfl, rfl⟩))
    refine (riff_any gs (cpick refs sa) (cpick refs sb) p cap _ (PA.out) (PB.out) hl hcap Hcm.out Hp.out (Hg.out.mono (by go_grown))).mono ?_
    rintro e w1 ⟨p1, cap1, rfl, hq1, hq2, hq3, hq4, hbl, hfr⟩
    obtain ⟨hc1, hf1⟩ := bcell hbl
    have HB1 : Below w.heap.size w w1 := Below.trans (by go_grown) (hbl.mono (by simp; omega))
    have Hq3 := Lib.hid hq3; have Hq4 := Lib.hid hq4; have Hfr := Lib.hid hfr; clear hq3 hq4 hfr
    have kz : w.heap.size + 1 + 1 < w1.heap.size := by have := hbl.size; simp at this; omega
    go_wp2_with fail
    rw [← HP.out]
    refine bodyPost_ret (by simp [results, Try.results57, go_sem, hc1, kz]; try rfl) rfl ?_
    exact ⟨p1, cap1, rfl, hq1, hq2, Hq3.out, Hq4.out.setBox (v0 := .slice none 0 0) (oldcell hbl (by go_cell) (by simp)) (gEnc_ne_slice _ _ _) _, Below.setCell HB1 (by show _ ≤ w.heap.size + 1 + 1; omega) _, Hfr.out.up (by simp; omega)⟩

end Go.Proofs.Ytanlecgpnknhoaa
