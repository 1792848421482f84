import Derived.Test.YtadilppdlbhjnaaW6
import Derived.Test.YtadilppdlbhjnaaW7
namespace Go.Proofs.Ytadilppdlbhjnaa
set_option linter.unusedSimpArgs false
set_option linter.unusedVariables false
open Go.RowKit
theorem BoxN.alloc {w : World} {b : Nat} (h : BoxN w b) (hb : b < w.heap.size) (o : Obj) : BoxN (w.alloc o) b :=
 ⟨keep_alloc h.1, by rw [World.frozen?_alloc_past _ _ _ hb]; exact h.2⟩
theorem BoxC.new {F : Option Addr → Prop} {w : World} {gs : List Gate} {p : Option Addr} {cap : Nat} {t : TypeId} (h1 : gs.length ≤ cap) (h2 : cap ≤ maxLen) (h3 : p = none → cap = 0) (h4 : GatesAt w p gs) (h5 : F p) :
 BoxC F (w.alloc (.cells #[.slice p gs.length cap] t)) w.heap.size gs :=
 ⟨p, cap, by go_cell, by go_cell, h1, h2, h3, h4.mono (by go_grown), h5⟩
def ROrPost (w : World) (p : Option Addr) (gs : List Gate) (a b : Int) : Ending → World → Prop := RetCirc w p (cor gs a b).1 (cor gs a b).2
def RIffPost (w : World) (p : Option Addr) (gs : List Gate) (a b : Int) : Ending → World → Prop := RetCirc w p (ciff gs a b).1 (ciff gs a b).2
set_option maxRecDepth 100000 in
set_option maxHeartbeats 1000000 in
theorem ror_any (gs : List Gate) (a b : Int) (p : Option Addr) (cap : Nat) (w : World) (ha1 : a ≤ 9223372036854775807) (hb1 : b ≤ 9223372036854775807) (hl : gs.length ≤ 20000) (hcap : gs.length ≤ cap) (hcm : cap ≤ maxLen) (hp : p = none → cap = 0) (hg : GatesAt w p gs) :
 Calls Try.prog 106 #[.agg #[.slice p gs.length cap], .int .i64 a, .int .i64 b] w (ROrPost w p gs a b) := by
 have Hle := Lib.hid (cand_le (c := gs) (a := cnot a) (b := cnot b) hl)
 have HP : Hid (RetCirc w p (cand gs (cnot a) (cnot b)).1 (cnot (cand gs (cnot a) (cnot b)).2) = ROrPost w p gs a b) := rfl
 have Hcm := Lib.hid hcm; have Hp := Lib.hid hp; have Hg := Lib.hid hg; clear hcm hp hg
 go_enter Try.func106, Try.ntmps106
 go_upto_region 1 with fail
 go_cut [8, 9] (fun s8 s9 wx => ∃ b8 : Nat, s8 = .pointer (some ⟨b8, 0, none⟩) ∧ w.heap.size + 1 < b8 ∧ s9 = .int .i64 (cand gs (cnot a) (cnot b)).2 ∧ BoxC (Fresh w p) wx b8 (cand gs (cnot a) (cnot b)).1 ∧ BoxN wx (w.heap.size + 1) ∧ Below w.heap.size w wx ∧ w.heap.size + 1 < wx.heap.size)
 case first =>
  go_region_held3 (fun w' => w'.cell? ⟨w.heap.size, 0, none⟩ = some (.slice p (gs).length cap)) ((repeat (first | (with_reducible assumption) | (with_reducible refine keep_drew ?_) | (with_reducible refine keep_far ?_ (by dsimp only; omega)) | (go_cell; done) | (with_reducible refine keep_alloc ?_)))) (first | (go_at_call 83; refine (rnot_any _ _ (by assumption)).mono ?_; rintro e w' ⟨rfl, rfl⟩) | (go_at_call 82; refine (rand_any (gs) (cnot a) (cnot b) p cap _ (cnot_le ha1) (cnot_le hb1) hl hcap Hcm.out Hp.out (Hg.out.mono (by go_grown))).mono ?_; rintro e w1 ⟨p1, cap1, rfl, hq1, hq2, hq3, hq4, hbl, hfr⟩; have k0 := oldcell (b := w.heap.size) (o := 0) hbl (v := .slice p gs.length cap) (by go_cell) (by simp <;> omega); have HZ := hbl.size; obtain ⟨hc1, hf1⟩ := bcell hbl))
  all_goals
   have HB : Below w.heap.size w w1 := Below.trans (by go_grown) (hbl.mono (by simp <;> omega))
   have HN : BoxN w1 (w.heap.size + 1) := ⟨by rw [hc1 _ _ (by simp)]; go_cell, by rw [hf1 _ _ (by simp)]; go_cell⟩
   have HF : Fresh w p p1 := hfr.up (by simp <;> omega)
   simp at HZ
   go_wp2_with fail
   go_meet
   refine ⟨_, rfl, ?_, rfl, ?_, ?_, ?_, ?_⟩
   · first | omega | (simp; omega)
   · first | exact BoxC.new hq1 hq2 hq3 hq4 HF | (refine BoxC.put (a := none) (n := 0) (c := 0) ?_ ?_ hq1 hq2 hq3 hq4 HF <;> go_cell)
   · repeat (first | exact HN | (refine BoxN.far ?_ (by dsimp only; omega) _) | (refine BoxN.alloc ?_ (by omega) _))
   · go_grown
   · first | omega | (simp; omega)
 obtain ⟨b8, rfl, hb8, rfl, ⟨p1, cap1, h0, h0f, hq1, hq2, hq3, hq4, hfr⟩, ⟨h1, h1f⟩, hB, hz⟩ := hcut
 have Hq3 := Lib.hid hq3; have Hq4 := Lib.hid hq4; have Hfr := Lib.hid hfr; clear hq3 hq4 hfr
 go_wp2_with fail
 go_region_held3 (fun w' => w'.cell? ⟨b8, 0, none⟩ = some (.slice p1 (cand gs (cnot a) (cnot b)).1.length cap1)) (repeat (first | (with_reducible assumption) | (with_reducible refine keep_drew ?_) | (with_reducible refine keep_far ?_ (by dsimp only; omega)))) (first | (go_at_call 83; refine (rnot_any _ _ (by have := Hle.out.2; omega)).mono ?_; rintro e w' ⟨rfl, rfl⟩))
 all_goals
  go_wp2_with fail
  rw [← HP.out]
  refine bodyPost_ret (by simp [results, Try.results106, go_sem, h1, hz]; try rfl) rfl ?_
  exact ⟨p1, cap1, rfl, hq1, hq2, Hq3.out, Hq4.out.drew'.setBox (v0 := .slice none 0 0) (by go_cell) (gEnc_ne_slice _ _ _) _, Below.setCell (Below.drew hB) (by show _ ≤ w.heap.size + 1; omega) _, Hfr.out⟩
set_option maxRecDepth 100000 in
set_option maxHeartbeats 2000000 in
theorem riff_any (gs : List Gate) (a b : Int) (p : Option Addr) (cap : Nat) (w : World) (ha1 : a ≤ 9223372036854775807) (hb1 : b ≤ 9223372036854775807) (hl : gs.length ≤ 20000) (hcap : gs.length ≤ cap) (hcm : cap ≤ maxLen) (hp : p = none → cap = 0) (hg : GatesAt w p gs) :
 Calls Try.prog 132 #[.agg #[.slice p gs.length cap], .int .i64 a, .int .i64 b] w (RIffPost w p gs a b) := by
 have Hx := Lib.hid (cand_le (c := gs) (a := a) (b := cnot b) hl)
 have Hy := Lib.hid (cand_le (c := (cand gs a (cnot b)).1) (a := cnot a) (b := b) Hx.out.1)
 have HP : Hid (RetCirc w p (cand (cand (cand gs a (cnot b)).1 (cnot a) b).1 (cnot (cand gs a (cnot b)).2) (cnot (cand (cand gs a (cnot b)).1 (cnot a) b).2)).1 (cand (cand (cand gs a (cnot b)).1 (cnot a) b).1 (cnot (cand gs a (cnot b)).2) (cnot (cand (cand gs a (cnot b)).1 (cnot a) b).2)).2 = RIffPost w p gs a b) := rfl
 have Hcm := Lib.hid hcm; have Hp := Lib.hid hp; have Hg := Lib.hid hg; clear hcm hp hg
 go_enter Try.func132, Try.ntmps132
 go_upto_region 1 with fail
 go_cut [8, 9] (fun s8 s9 wx => ∃ b8 : Nat, s8 = .pointer (some ⟨b8, 0, none⟩) ∧ w.heap.size + 1 < b8 ∧ s9 = .int .i64 (cand gs a (cnot b)).2 ∧ BoxC (Fresh w p) wx b8 (cand gs a (cnot b)).1 ∧ BoxN wx (w.heap.size + 1) ∧ Below w.heap.size w wx ∧ w.heap.size + 1 < wx.heap.size)
 case first =>
  go_region_held3 (fun w' => w'.cell? ⟨w.heap.size, 0, none⟩ = some (.slice p gs.length cap)) ((repeat (first | (with_reducible assumption) | (with_reducible refine keep_drew ?_) | (with_reducible refine keep_far ?_ (by dsimp only; omega)) | (go_cell; done) | (with_reducible refine keep_alloc ?_)))) (first | (go_at_call 83; refine (rnot_any _ _ (by assumption)).mono ?_; rintro e w' ⟨rfl, rfl⟩) | (go_at_call 82; refine (rand_any gs a (cnot b) p cap _ ha1 (cnot_le hb1) hl hcap Hcm.out Hp.out (Hg.out.mono (by go_grown))).mono ?_; rintro e w1 ⟨p1, cap1, rfl, hq1, hq2, hq3, hq4, hbl, hfr⟩; have k0 := oldcell (b := w.heap.size) (o := 0) hbl (v := .slice p gs.length cap) (by go_cell) (by simp <;> omega); have HZ := hbl.size; obtain ⟨hc1, hf1⟩ := bcell hbl))
  all_goals
   have HB : Below w.heap.size w w1 := Below.trans (by go_grown) (hbl.mono (by simp <;> omega))
   have HN : BoxN w1 (w.heap.size + 1) := ⟨by rw [hc1 _ _ (by simp)]; go_cell, by rw [hf1 _ _ (by simp)]; go_cell⟩
   have HF : Fresh w p p1 := hfr.up (by simp <;> omega)
   simp at HZ
   go_wp2_with fail
   go_meet
   refine ⟨_, rfl, ?_, rfl, ?_, ?_, ?_, ?_⟩
   · first | omega | (simp; omega)
   · first | exact BoxC.new hq1 hq2 hq3 hq4 HF | (refine BoxC.put (a := none) (n := 0) (c := 0) ?_ ?_ hq1 hq2 hq3 hq4 HF <;> go_cell)
   · repeat (first | exact HN | (refine BoxN.far ?_ (by dsimp only; omega) _) | (refine BoxN.alloc ?_ (by omega) _))
   · go_grown
   · first | omega | (simp; omega)
 clear hcap Hcm Hp Hg
 obtain ⟨b8, rfl, hb8, rfl, ⟨p1, cap1, h0, h0f, hq1, hq2, hq3, hq4, hfr⟩, ⟨h1, h1f⟩, hB, hz⟩ := hcut
 have h8 := World.block_lt_of_cell? _ _ h0
 have Hq3 := Lib.hid hq3; have Hq4 := Lib.hid hq4; have Hfr := Lib.hid hfr; clear hq3 hq4 hfr
 go_upto_region 2 with fail
 go_cut [10, 11] (fun s10 s11 wx => ∃ b9 : Nat, s10 = .pointer (some ⟨b9, 0, none⟩) ∧ w.heap.size + 1 < b9 ∧ s11 = .int .i64 (cand (cand gs a (cnot b)).1 (cnot a) b).2 ∧ BoxC (Fresh w p) wx b9 (cand (cand gs a (cnot b)).1 (cnot a) b).1 ∧ BoxN wx (w.heap.size + 1) ∧ Below w.heap.size w wx ∧ w.heap.size + 1 < wx.heap.size)
 case first =>
  go_region_held3 (fun w' => w'.cell? ⟨b8, 0, none⟩ = some (.slice p1 (cand gs a (cnot b)).1.length cap1)) ((repeat (first | (with_reducible assumption) | (with_reducible refine keep_drew ?_) | (with_reducible refine keep_far ?_ (by dsimp only; omega)) | (go_cell; done) | (with_reducible refine keep_alloc ?_)))) (first | (go_at_call 83; refine (rnot_any _ _ (by assumption)).mono ?_; rintro e w' ⟨rfl, rfl⟩) | (go_at_call 82; refine (rand_any (cand gs a (cnot b)).1 (cnot a) b p1 cap1 _ (cnot_le ha1) hb1 Hx.out.1 hq1 hq2 Hq3.out (Hq4.out.mono (by go_grown))).mono ?_; rintro e w1 ⟨p2, cap2, rfl, hr1, hr2, hr3, hr4, hbl, hfr⟩; have k0 := oldcell (b := b8) (o := 0) hbl (v := .slice p1 (cand gs a (cnot b)).1.length cap1) (by go_cell) (by simp <;> omega); have HZ := hbl.size; obtain ⟨hc1, hf1⟩ := bcell hbl))
  all_goals
   have HN : BoxN w1 (w.heap.size + 1) := ⟨by rw [hc1 _ _ (by simp <;> omega)]; go_cell, by rw [hf1 _ _ (by simp <;> omega)]; go_cell⟩
   have HB : Below w.heap.size w w1 := Below.trans (by go_grown) (hbl.mono (by simp <;> omega))
   have HF : Fresh w p p2 := Hfr.out.trans hfr (Nat.le_trans hB.size (by simp))
   simp at HZ
   go_wp2_with fail
   go_meet
   refine ⟨_, rfl, ?_, rfl, ?_, ?_, ?_, ?_⟩
   · first | omega | (simp; omega)
   · first | exact BoxC.new hr1 hr2 hr3 hr4 HF | (refine BoxC.put (a := none) (n := 0) (c := 0) ?_ ?_ hr1 hr2 hr3 hr4 HF <;> go_cell)
   · repeat (first | exact HN | (refine BoxN.far ?_ (by dsimp only; omega) _) | (refine BoxN.alloc ?_ (by omega) _))
   · go_grown
   · first | omega | (simp; omega)
 clear hq1 hq2 Hq3 Hq4 Hfr h0 h0f h1 h1f hB hz
 obtain ⟨b9, rfl, hb9, rfl, ⟨p2, cap2, h0, h0f, hq1, hq2, hq3, hq4, hfr⟩, ⟨h1, h1f⟩, hB, hz⟩ := hcut
 have Hq3 := Lib.hid hq3; have Hq4 := Lib.hid hq4; have Hfr := Lib.hid hfr; clear hq3 hq4 hfr
 have h9 := World.block_lt_of_cell? _ _ h0
 go_wp2_with fail
 go_region_held3 (fun w' => w'.cell? ⟨b9, 0, none⟩ = some (.slice p2 (cand (cand gs a (cnot b)).1 (cnot a) b).1.length cap2)) (repeat (first | (with_reducible assumption) | (with_reducible refine keep_drew ?_) | (with_reducible refine keep_far ?_ (by dsimp only; omega)))) (first | (go_at_call 83; refine (rnot_any _ _ (by have := Hx.out.2; have := Hy.out.2; omega)).mono ?_; rintro e w' ⟨rfl, rfl⟩) | (go_at_call 82; refine (rand_any (cand (cand gs a (cnot b)).1 (cnot a) b).1 _ _ p2 cap2 _ (cnot_le (by have := Hx.out.2; omega)) (cnot_le (by have := Hy.out.2; omega)) Hy.out.1 hq1 hq2 Hq3.out (Hq4.out.mono (by go_grown))).mono ?_; rintro e w3 ⟨p3, cap3, rfl, hs1, hs2, hs3, hs4, hbl, hfr⟩; have k0 := oldcell (b := b9) (o := 0) hbl h0 (by simp <;> omega); have HN := BoxN.keep (BoxN.drew ⟨h1, h1f⟩) hbl (by simp <;> omega); obtain ⟨k2, k3⟩ := HN))
 all_goals
  go_wp2_with fail
  rw [← HP.out]
  refine bodyPost_ret (by simp [results, Try.results132, go_sem, k2]; try rfl) rfl ?_
  exact ⟨p3, cap3, rfl, hs1, hs2, hs3, hs4.setBox k2 (gEnc_ne_slice _ _ _) _, Below.setCell ((Below.drew hB).trans (hbl.mono (by simp <;> omega))) (by show _ ≤ w.heap.size + 1; omega) _, Hfr.out.trans hfr (Nat.le_trans hB.size (by simp))⟩
end Go.Proofs.Ytadilppdlbhjnaa
