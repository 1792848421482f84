import Derived.Test.YtadilppdlbhjnaaGD
namespace Go.Proofs.Ytadilppdlbhjnaa
set_option linter.unusedSimpArgs false
set_option linter.unusedVariables false
open Go.RowKit
def RAndPost (w : World) (p : Option Addr) (gs : List Gate) (a b : Int) : Ending → World → Prop := RetCirc w p (cand gs a b).1 (cand gs a b).2
set_option maxRecDepth 100000 in
set_option maxHeartbeats 1000000 in
theorem rand_new (gs : List Gate) (a b : Int) (p : Option Addr) (cap : Nat) (w : World) (ha1 : a ≤ 9223372036854775807) (hb1 : b ≤ 9223372036854775807) (hl : gs.length ≤ 20000) (hcap : gs.length ≤ cap) (hcm : cap ≤ maxLen) (hp : p = none → cap = 0) (hg : GatesAt w p gs)
 (a0' : ¬ a < 0) (b0' : ¬ b < 0) (am : ¬ 2 * (gs.length : Int) ≤ a) (bm : ¬ 2 * (gs.length : Int) ≤ b) (a1 : (a == 1) = false) (b1 : (b == 1) = false) (ab : (b == cnot a) = false) (a0 : (a == 0) = false) (b0 : (b == 0) = false) (aeb : (a == b) = false) (HP : RetCirc w p (cshare gs ⟨2, min a b, max a b⟩).1 (cshare gs ⟨2, min a b, max a b⟩).2 = RAndPost w p gs a b) :
 Calls Try.prog 82 #[.agg #[.slice p gs.length cap], .int .i64 a, .int .i64 b] w (RAndPost w p gs a b) := by
 have hne : a ≠ b := by simpa using aeb
 rcases Int.lt_or_gt_of_ne hne with hlt | hlt <;> clear hne
 · have hgt : (⟨2, min a b, max a b⟩ : Gate) = ⟨2, a, b⟩ := by rw [Int.min_eq_left (by omega), Int.max_eq_right (by omega)]
   rw [hgt] at HP
   have HQ := Lib.hid HP; clear HP hgt
   have Hcm := Lib.hid hcm; have Hp := Lib.hid hp; have Hg := Lib.hid hg; clear hcm hp hg
   go_enter Try.func82, Try.ntmps82
   go_wp2_with (first | (go_at_call 83; refine (rnot_any _ _ ha1).mono ?_; rintro e w' ⟨rfl, rfl⟩))
   refine (rshare_any gs ⟨2, a, b⟩ p cap _ hl hcap Hcm.out Hp.out (Hg.out.mono (by go_grown))).mono ?_
   rintro e w1 ⟨p1, cap1, rfl, hq1, hq2, hq3, hq4, hbl, hfr⟩
   obtain ⟨hc1, hf1⟩ := bcell hbl
   have HB1 : Below w.heap.size w w1 := Below.trans (by go_grown) (hbl.mono (by simp; omega))
   have Hq3 := Lib.hid hq3; have Hq4 := Lib.hid hq4; have Hfr := Lib.hid hfr; clear hq3 hq4 hfr
   have kz : w.heap.size + 1 < w1.heap.size := by have := hbl.size; simp at this; omega
   go_wp2_with fail
   rw [← HQ.out]
   refine bodyPost_ret (by simp [results, Try.results82, go_sem, hc1, kz]; try rfl) rfl ?_
   exact ⟨p1, cap1, rfl, hq1, hq2, Hq3.out, Hq4.out.setBox (v0 := .slice none 0 0) (oldcell hbl (by go_cell) (by simp)) (gEnc_ne_slice _ _ _) _, Below.setCell HB1 (by show _ ≤ w.heap.size + 1; omega) _, Hfr.out.up (by simp; omega)⟩
 · have hgt : (⟨2, min a b, max a b⟩ : Gate) = ⟨2, b, a⟩ := by rw [Int.min_eq_right (by omega), Int.max_eq_left (by omega)]
   rw [hgt] at HP
   have HQ := Lib.hid HP; clear HP hgt
   have Hcm := Lib.hid hcm; have Hp := Lib.hid hp; have Hg := Lib.hid hg; clear hcm hp hg
   go_enter Try.func82, Try.ntmps82
   go_wp2_with (first | (go_at_call 83; refine (rnot_any _ _ ha1).mono ?_; rintro e w' ⟨rfl, rfl⟩))
   refine (rshare_any gs ⟨2, b, a⟩ p cap _ hl hcap Hcm.out Hp.out (Hg.out.mono (by go_grown))).mono ?_
   rintro e w1 ⟨p1, cap1, rfl, hq1, hq2, hq3, hq4, hbl, hfr⟩
   obtain ⟨hc1, hf1⟩ := bcell hbl
   have HB1 : Below w.heap.size w w1 := Below.trans (by go_grown) (hbl.mono (by simp; omega))
   have Hq3 := Lib.hid hq3; have Hq4 := Lib.hid hq4; have Hfr := Lib.hid hfr; clear hq3 hq4 hfr
   have kz : w.heap.size + 1 < w1.heap.size := by have := hbl.size; simp at this; omega
   go_wp2_with fail
   rw [← HQ.out]
   refine bodyPost_ret (by simp [results, Try.results82, go_sem, hc1, kz]; try rfl) rfl ?_
   exact ⟨p1, cap1, rfl, hq1, hq2, Hq3.out, Hq4.out.setBox (v0 := .slice none 0 0) (oldcell hbl (by go_cell) (by simp)) (gEnc_ne_slice _ _ _) _, Below.setCell HB1 (by show _ ≤ w.heap.size + 1; omega) _, Hfr.out.up (by simp; omega)⟩
set_option maxRecDepth 100000 in
set_option maxHeartbeats 2000000 in
theorem rand_any (gs : List Gate) (a b : Int) (p : Option Addr) (cap : Nat) (w : World) (ha1 : a ≤ 9223372036854775807) (hb1 : b ≤ 9223372036854775807) (hl : gs.length ≤ 20000) (hcap : gs.length ≤ cap) (hcm : cap ≤ maxLen) (hp : p = none → cap = 0) (hg : GatesAt w p gs) :
 Calls Try.prog 82 #[.agg #[.slice p gs.length cap], .int .i64 a, .int .i64 b] w (RAndPost w p gs a b) := by
 by_cases a0' : a < 0
 · have HP : Hid (RetCirc w p gs (-1) = RAndPost w p gs a b) := by unfold RAndPost; rw [cand_bad (.inl (by simp [refOk]; omega))]; exact Lib.hid rfl
   have Hcm := Lib.hid hcm; have Hp := Lib.hid hp; have Hg := Lib.hid hg; clear hcm hp hg
   go_enter Try.func82, Try.ntmps82
   go_wp2_with (first | (go_at_call 83; refine (rnot_any _ _ ha1).mono ?_; rintro e w' ⟨rfl, rfl⟩))
   rw [← HP.out]
   refine bodyPost_ret (by simp [results, Try.results82, go_sem]; try rfl) rfl ?_
   exact ⟨p, cap, rfl, hcap, Hcm.out, Hp.out, Hg.out.mono (by go_grown), by go_grown, .inl rfl⟩
 by_cases b0' : b < 0
 · have HP : Hid (RetCirc w p gs (-1) = RAndPost w p gs a b) := by unfold RAndPost; rw [cand_bad (.inr (by simp [refOk]; omega))]; exact Lib.hid rfl
   have Hcm := Lib.hid hcm; have Hp := Lib.hid hp; have Hg := Lib.hid hg; clear hcm hp hg
   go_enter Try.func82, Try.ntmps82
   go_wp2_with (first | (go_at_call 83; refine (rnot_any _ _ ha1).mono ?_; rintro e w' ⟨rfl, rfl⟩))
   rw [← HP.out]
   refine bodyPost_ret (by simp [results, Try.results82, go_sem]; try rfl) rfl ?_
   exact ⟨p, cap, rfl, hcap, Hcm.out, Hp.out, Hg.out.mono (by go_grown), by go_grown, .inl rfl⟩
 by_cases am : 2 * (gs.length : Int) ≤ a
 · have HP : Hid (RetCirc w p gs (-1) = RAndPost w p gs a b) := by unfold RAndPost; rw [cand_bad (.inl (by simp [refOk]; omega))]; exact Lib.hid rfl
   have Hcm := Lib.hid hcm; have Hp := Lib.hid hp; have Hg := Lib.hid hg; clear hcm hp hg
   go_enter Try.func82, Try.ntmps82
   go_wp2_with (first | (go_at_call 83; refine (rnot_any _ _ ha1).mono ?_; rintro e w' ⟨rfl, rfl⟩))
   rw [← HP.out]
   refine bodyPost_ret (by simp [results, Try.results82, go_sem]; try rfl) rfl ?_
   exact ⟨p, cap, rfl, hcap, Hcm.out, Hp.out, Hg.out.mono (by go_grown), by go_grown, .inl rfl⟩
 by_cases bm : 2 * (gs.length : Int) ≤ b
 · have HP : Hid (RetCirc w p gs (-1) = RAndPost w p gs a b) := by unfold RAndPost; rw [cand_bad (.inr (by simp [refOk]; omega))]; exact Lib.hid rfl
   have Hcm := Lib.hid hcm; have Hp := Lib.hid hp; have Hg := Lib.hid hg; clear hcm hp hg
   go_enter Try.func82, Try.ntmps82
   go_wp2_with (first | (go_at_call 83; refine (rnot_any _ _ ha1).mono ?_; rintro e w' ⟨rfl, rfl⟩))
   rw [← HP.out]
   refine bodyPost_ret (by simp [results, Try.results82, go_sem]; try rfl) rfl ?_
   exact ⟨p, cap, rfl, hcap, Hcm.out, Hp.out, Hg.out.mono (by go_grown), by go_grown, .inl rfl⟩
 have ra := Lib.hid (show refOk a gs.length = true from by simp [refOk]; omega)
 have rb := Lib.hid (show refOk b gs.length = true from by simp [refOk]; omega)
 cases a1 : (a == 1) with
 | true =>
  have HP : Hid (RetCirc w p gs (1) = RAndPost w p gs a b) := by unfold RAndPost; rw [cand_lie ra.out rb.out (.inl (by simpa using a1))]; exact Lib.hid rfl
  have Hcm := Lib.hid hcm; have Hp := Lib.hid hp; have Hg := Lib.hid hg; clear hcm hp hg
  go_enter Try.func82, Try.ntmps82
  go_wp2_with (first | (go_at_call 83; refine (rnot_any _ _ ha1).mono ?_; rintro e w' ⟨rfl, rfl⟩))
  rw [← HP.out]
  refine bodyPost_ret (by simp [results, Try.results82, go_sem]; try rfl) rfl ?_
  exact ⟨p, cap, rfl, hcap, Hcm.out, Hp.out, Hg.out.mono (by go_grown), by go_grown, .inl rfl⟩
 | false =>
  cases b1 : (b == 1) with
  | true =>
   have HP : Hid (RetCirc w p gs (1) = RAndPost w p gs a b) := by unfold RAndPost; rw [cand_lie ra.out rb.out (.inr (.inl (by simpa using b1)))]; exact Lib.hid rfl
   have Hcm := Lib.hid hcm; have Hp := Lib.hid hp; have Hg := Lib.hid hg; clear hcm hp hg
   go_enter Try.func82, Try.ntmps82
   go_wp2_with (first | (go_at_call 83; refine (rnot_any _ _ ha1).mono ?_; rintro e w' ⟨rfl, rfl⟩))
   rw [← HP.out]
   refine bodyPost_ret (by simp [results, Try.results82, go_sem]; try rfl) rfl ?_
   exact ⟨p, cap, rfl, hcap, Hcm.out, Hp.out, Hg.out.mono (by go_grown), by go_grown, .inl rfl⟩
  | false =>
   cases ab : (b == cnot a) with
   | true =>
    have HP : Hid (RetCirc w p gs (1) = RAndPost w p gs a b) := by unfold RAndPost; rw [cand_lie ra.out rb.out (.inr (.inr ((cnot_cnot (by omega) (by omega)).2 (by simpa using ab))))]; exact Lib.hid rfl
    have Hcm := Lib.hid hcm; have Hp := Lib.hid hp; have Hg := Lib.hid hg; clear hcm hp hg
    go_enter Try.func82, Try.ntmps82
    go_wp2_with (first | (go_at_call 83; refine (rnot_any _ _ ha1).mono ?_; rintro e w' ⟨rfl, rfl⟩))
    rw [← HP.out]
    refine bodyPost_ret (by simp [results, Try.results82, go_sem]; try rfl) rfl ?_
    exact ⟨p, cap, rfl, hcap, Hcm.out, Hp.out, Hg.out.mono (by go_grown), by go_grown, .inl rfl⟩
   | false =>
    have hn := Lib.hid (show ¬ (a = 1 ∨ b = 1 ∨ a = cnot b) from by rw [cnot_cnot (by omega) (by omega)]; simp at a1 b1 ab; simp [a1, b1, ab])
    cases a0 : (a == 0) with
    | true =>
     have HP : Hid (RetCirc w p gs (b) = RAndPost w p gs a b) := by unfold RAndPost; rw [cand_a0 ra.out rb.out hn.out (by simpa using a0)]; exact Lib.hid rfl
     have Hcm := Lib.hid hcm; have Hp := Lib.hid hp; have Hg := Lib.hid hg; clear hcm hp hg
     go_enter Try.func82, Try.ntmps82
     go_wp2_with (first | (go_at_call 83; refine (rnot_any _ _ ha1).mono ?_; rintro e w' ⟨rfl, rfl⟩))
     rw [← HP.out]
     refine bodyPost_ret (by simp [results, Try.results82, go_sem]; try rfl) rfl ?_
     exact ⟨p, cap, rfl, hcap, Hcm.out, Hp.out, Hg.out.mono (by go_grown), by go_grown, .inl rfl⟩
    | false =>
     cases b0 : (b == 0) with
     | true =>
      have HP : Hid (RetCirc w p gs (a) = RAndPost w p gs a b) := by unfold RAndPost; rw [cand_b0 ra.out rb.out hn.out (by simpa using a0) (.inl (by simpa using b0))]; exact Lib.hid rfl
      have Hcm := Lib.hid hcm; have Hp := Lib.hid hp; have Hg := Lib.hid hg; clear hcm hp hg
      go_enter Try.func82, Try.ntmps82
      go_wp2_with (first | (go_at_call 83; refine (rnot_any _ _ ha1).mono ?_; rintro e w' ⟨rfl, rfl⟩))
      rw [← HP.out]
      refine bodyPost_ret (by simp [results, Try.results82, go_sem]; try rfl) rfl ?_
      exact ⟨p, cap, rfl, hcap, Hcm.out, Hp.out, Hg.out.mono (by go_grown), by go_grown, .inl rfl⟩
     | false =>
      cases aeb : (a == b) with
      | true =>
       have HP : Hid (RetCirc w p gs (a) = RAndPost w p gs a b) := by unfold RAndPost; rw [cand_b0 ra.out rb.out hn.out (by simpa using a0) (.inr (by simpa using aeb))]; exact Lib.hid rfl
       have Hcm := Lib.hid hcm; have Hp := Lib.hid hp; have Hg := Lib.hid hg; clear hcm hp hg
       go_enter Try.func82, Try.ntmps82
       go_wp2_with (first | (go_at_call 83; refine (rnot_any _ _ ha1).mono ?_; rintro e w' ⟨rfl, rfl⟩))
       rw [← HP.out]
       refine bodyPost_ret (by simp [results, Try.results82, go_sem]; try rfl) rfl ?_
       exact ⟨p, cap, rfl, hcap, Hcm.out, Hp.out, Hg.out.mono (by go_grown), by go_grown, .inl rfl⟩
      | false =>
       exact rand_new gs a b p cap w ha1 hb1 hl hcap hcm hp hg a0' b0' am bm a1 b1 ab a0 b0 aeb (by unfold RAndPost; rw [cand_new ra.out rb.out hn.out (by simpa using a0) (by simp at b0 aeb; simp [b0, aeb])])
end Go.Proofs.Ytadilppdlbhjnaa
