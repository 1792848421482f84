import Derived.Test.YtadilppdlbhjnaaGD
namespace Go.Proofs.Ytadilppdlbhjnaa
set_option linter.unusedSimpArgs false
set_option linter.unusedVariables false
open Go.RowKit
def RInputPost (w : World) (p : Option Addr) (gs : List Gate) (v : Int) : Ending → World → Prop := RetCirc w p (cinput gs v).1 (cinput gs v).2
set_option maxRecDepth 100000 in
set_option maxHeartbeats 1000000 in
theorem rinput_any (gs : List Gate) (v : Int) (p : Option Addr) (cap : Nat) (w : World) (hl : gs.length ≤ 20000) (hcap : gs.length ≤ cap) (hcm : cap ≤ maxLen) (hp : p = none → cap = 0) (hg : GatesAt w p gs) :
 Calls Try.prog 87 #[.agg #[.slice p gs.length cap], .int .i64 v] w (RInputPost w p gs v) := by
 by_cases v1 : v < 1
 · have HP : Hid (RetCirc w p gs (-1) = RInputPost w p gs v) := by unfold RInputPost; rw [show cinput gs v = (gs, -1) from by simp [cinput, v1]]; exact Lib.hid rfl
   have Hcm := Lib.hid hcm; have Hp := Lib.hid hp; have Hg := Lib.hid hg; clear hcm hp hg
   go_enter Try.func87, Try.ntmps87
   go_wp2_with fail
   rw [← HP.out]
   refine bodyPost_ret (by simp [results, Try.results87, go_sem]; try rfl) rfl ?_
   exact ⟨p, cap, rfl, hcap, Hcm.out, Hp.out, Hg.out.mono (by go_grown), by go_grown, .inl rfl⟩
 by_cases v2 : 20000 < v
 · have HP : Hid (RetCirc w p gs (-1) = RInputPost w p gs v) := by unfold RInputPost; rw [show cinput gs v = (gs, -1) from by simp [cinput, v2]]; exact Lib.hid rfl
   have Hcm := Lib.hid hcm; have Hp := Lib.hid hp; have Hg := Lib.hid hg; clear hcm hp hg
   go_enter Try.func87, Try.ntmps87
   go_wp2_with fail
   rw [← HP.out]
   refine bodyPost_ret (by simp [results, Try.results87, go_sem]; try rfl) rfl ?_
   exact ⟨p, cap, rfl, hcap, Hcm.out, Hp.out, Hg.out.mono (by go_grown), by go_grown, .inl rfl⟩
 have HP : Hid (RetCirc w p (cshare gs ⟨1, v, 0⟩).1 (cshare gs ⟨1, v, 0⟩).2 = RInputPost w p gs v) := by unfold RInputPost; rw [show cinput gs v = cshare gs ⟨1, v, 0⟩ from by simp [cinput, v1, v2, gInput]]; exact Lib.hid rfl
 have Hcm := Lib.hid hcm; have Hp := Lib.hid hp; have Hg := Lib.hid hg; clear hcm hp hg
 go_enter Try.func87, Try.ntmps87
 go_wp2_with fail
 refine (rshare_any gs ⟨1, v, 0⟩ p cap _ hl hcap Hcm.out Hp.out (Hg.out.mono (by go_grown))).mono ?_
 rintro e w1 ⟨p1, cap1, rfl, hq1, hq2, hq3, hq4, hbl, hfr⟩
 obtain ⟨hc1, hf1⟩ := bcell hbl
 have HB1 : Below w.heap.size w w1 := Below.trans (by go_grown) (hbl.mono (by simp; omega))
 have Hq3 := Lib.hid hq3; have Hq4 := Lib.hid hq4; have Hfr := Lib.hid hfr; clear hq3 hq4 hfr
 have kz : w.heap.size + 1 < w1.heap.size := by have := hbl.size; simp at this; omega
 go_wp2_with fail
 rw [← HP.out]
 refine bodyPost_ret (by simp [results, Try.results87, go_sem, hc1, kz]; try rfl) rfl ?_
 exact ⟨p1, cap1, rfl, hq1, hq2, Hq3.out, Hq4.out.setBox (v0 := .slice none 0 0) (oldcell hbl (by go_cell) (by simp)) (gEnc_ne_slice _ _ _) _, Below.setCell HB1 (by show _ ≤ w.heap.size + 1; omega) _, Hfr.out.up (by simp; omega)⟩
end Go.Proofs.Ytadilppdlbhjnaa
