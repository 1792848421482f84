/- Walks of layer 13: Or and Iff of the program. -/
import Derived.Test.YtanlecgpnknhoaaW3
import Derived.Deep.RegionWith
import Derived.Deep.DeepCutAuto
namespace Go.Proofs.Ytanlecgpnknhoaa
set_option linter.unusedSimpArgs false
set_option linter.unusedVariables false
open Go.RowKit

/-- A variable of the call's own that holds a circuit. -/
def BoxC (F : Option Addr → Prop) (w : World) (b : Nat) (gs : List Gate) : Prop :=
  ∃ p cap, w.cell? ⟨b, 0, none⟩ = some (.slice p gs.length cap) ∧ w.frozen? ⟨b, 0, none⟩ = false ∧ gs.length ≤ cap ∧ cap ≤ maxLen ∧ (p = none → cap = 0) ∧ GatesAt w p gs ∧ F p
/-- The variable that the result is read from: nothing yet. -/
def BoxN (w : World) (b : Nat) : Prop := w.cell? ⟨b, 0, none⟩ = some (.slice none 0 0) ∧ w.frozen? ⟨b, 0, none⟩ = false

theorem BoxN.keep {B : Nat} {W w1 : World} {b : Nat} (h : BoxN W b) (hB : Below B W w1) (hb : b < B) : BoxN w1 b := ⟨oldcell hB h.1 hb, oldfree hB h.2 hb⟩
theorem BoxN.far {w : World} {b : Nat} (h : BoxN w b) {q : Addr} (hne : q.block ≠ b) (u : Value) : BoxN (w.setCell q u) b :=
  ⟨keep_far h.1 hne, by rw [World.frozen?_setCell]; exact h.2⟩
theorem BoxN.drew {w : World} {b : Nat} (h : BoxN w b) : BoxN w.drew b := h
theorem BoxC.keep {F : Option Addr → Prop} {B : Nat} {W w1 : World} {b : Nat} {gs : List Gate} (h : BoxC F W b gs) (hB : Below B W w1) (hb : b < B) (hW : W.heap.size = B) : BoxC F w1 b gs := by
  obtain ⟨p, cap, h1, h2, h3, h4, h5, h6, h7⟩ := h
  subst hW
  exact ⟨p, cap, oldcell hB h1 hb, oldfree hB h2 hb, h3, h4, h5, h6.mono hB, h7⟩
/-- A circuit is stored into a variable that held some slice. -/
theorem BoxC.put {F : Option Addr → Prop} {w : World} {b : Nat} {gs : List Gate} {p : Option Addr} {cap : Nat} {a : Option Addr} {n c : Nat} (h : w.cell? ⟨b, 0, none⟩ = some (.slice a n c)) (hf : w.frozen? ⟨b, 0, none⟩ = false) (h1 : gs.length ≤ cap) (h2 : cap ≤ maxLen) (h3 : p = none → cap = 0) (h4 : GatesAt w p gs) (h5 : F p) :
    BoxC F (w.setCell ⟨b, 0, none⟩ (.slice p gs.length cap)) b gs :=
  ⟨p, cap, by go_cell, by rw [World.frozen?_setCell]; exact hf, h1, h2, h3, h4.setBox h (gEnc_ne_slice _ _ _) _, h5⟩

theorem cnot_le {r : Int} (h : r ≤ 9223372036854775807) : cnot r ≤ 9223372036854775807 := by
  unfold cnot; split <;> (try split) <;> omega

theorem cshare_le {c : List Gate} {g : Gate} (h : c.length ≤ 20000) : (cshare c g).1.length ≤ 20000 ∧ (cshare c g).2 ≤ 40000 := by
  unfold cshare
  split
  · rename_i i hi
    have := (List.getElem?_eq_some_iff.1 (cfind_some hi).1).1
    exact ⟨h, by show 2 * (i : Int) ≤ 40000; omega⟩
  · split
    · exact ⟨h, by show (-1 : Int) ≤ _; omega⟩
    · refine ⟨by simp; omega, ?_⟩
      show 2 * (c.length : Int) ≤ 40000; omega
theorem cand_le {c : List Gate} {a b : Int} (h : c.length ≤ 20000) : (cand c a b).1.length ≤ 20000 ∧ (cand c a b).2 ≤ 40000 := by
  unfold cand
  split
  · exact ⟨h, by show (-1 : Int) ≤ _; omega⟩
  · rename_i hv
    have hv : refOk a c.length = true ∧ refOk b c.length = true := by simpa using hv
    have h1 := refOk_true hv.1
    have h2 := refOk_true hv.2
    split
    · exact ⟨h, by show (1 : Int) ≤ _; omega⟩
    · split
      · exact ⟨h, by show b ≤ _; omega⟩
      · split
        · exact ⟨h, by show a ≤ _; omega⟩
        · exact cshare_le h

theorem SlAt.drew' {α : Type} {E : Nat} {enc : α → Nat → Value} {w : World} {p : Option Addr} {xs : List α} (h : SlAt E enc w p xs) : SlAt E enc w.drew p xs := h

def OrPost (w : World) (p : Option Addr) (gs : List Gate) (a b : Int) : Ending → World → Prop := RetCirc w p (cor gs a b).1 (cor gs a b).2

set_option maxRecDepth 100000 in
set_option maxHeartbeats 1000000 in
theorem or_any (gs : List Gate) (a b : Int) (p : Option Addr) (cap : Nat) (w : World) (ha1 : a ≤ 9223372036854775807) (hb1 : b ≤ 9223372036854775807) (hl : gs.length ≤ 20000) (hcap : gs.length ≤ cap) (hcm : cap ≤ maxLen) (hp : p = none → cap = 0) (hg : GatesAt w p gs) :
    Calls Try.prog 23 #[.agg #[.slice p gs.length cap], .int .i64 a, .int .i64 b] w (OrPost w p gs a b) := by
  have Hle := Lib.hid (cand_le (c := gs) (a := cnot a) (b := cnot b) hl)
  have HP : Hid (RetCirc w p (cand gs (cnot a) (cnot b)).1 (cnot (cand gs (cnot a) (cnot b)).2) = OrPost w p gs a b) := rfl
  have Hcm := Lib.hid hcm; have Hp := Lib.hid hp; have Hg := Lib.hid hg; clear hcm hp hg
  go_enter Try.func23, Try.ntmps23
  go_upto_region 1 with fail
  go_cut [8] (fun s8 wx => s8 = .int .i64 (cand gs (cnot a) (cnot b)).2 ∧ BoxC (Fresh w p) wx w.heap.size (cand gs (cnot a) (cnot b)).1 ∧ BoxN wx (w.heap.size + 1) ∧ Below w.heap.size w wx ∧ w.heap.size + 1 < wx.heap.size)
  case first =>
    go_region_with (first | (go_at_call 32; refine (not_any _ _ (by assumption)).mono ?_; rintro e w' ⟨rfl, rfl⟩) | (go_at_call 21; refine (and_any gs (cnot a) (cnot b) p cap _ (cnot_le ha1) (cnot_le hb1) hl hcap Hcm.out Hp.out (Hg.out.mono (by go_grown))).mono ?_; rintro e w1 ⟨p1, cap1, rfl, hq1, hq2, hq3, hq4, hbl, hfr⟩; have k0 := oldcell (b := w.heap.size) (o := 0) (v := .slice p gs.length cap) hbl (by go_cell) (by simp <;> omega); have k1 := oldfree (b := w.heap.size) (o := 0) hbl (by go_cell) (by simp <;> omega)))
    all_goals
      have HB : Below w.heap.size w w1 := Below.trans (by go_grown) (hbl.mono (by simp <;> omega))
      have HN : BoxN w1 (w.heap.size + 1) := BoxN.keep (W := (((w.alloc (Obj.cells #[Value.slice p gs.length cap] 25)).alloc (Obj.cells #[Value.slice none 0 0] 25)).drew)) ⟨by go_cell, by go_cell⟩ hbl (by simp)
      have HZ : w.heap.size + 1 < w1.heap.size := by have := hbl.size; simp at this; omega
      go_wp2_with fail
      go_meet
      exact ⟨rfl, BoxC.put k0 k1 hq1 hq2 hq3 hq4 (hfr.up (by simp <;> omega)), HN.far (by show w.heap.size ≠ w.heap.size + 1; omega) _, HB.setCell (Nat.le_refl _) _, by simpa using HZ⟩
  case rest =>
    obtain ⟨rfl, ⟨p1, cap1, h0, h0f, hq1, hq2, hq3, hq4, hfr⟩, ⟨h1, h1f⟩, hB, hz⟩ := hcut
    have Hq3 := Lib.hid hq3; have Hq4 := Lib.hid hq4; have Hfr := Lib.hid hfr; clear hq3 hq4 hfr
    go_wp2_with fail
    go_region_held3 (fun w' => w'.cell? ⟨w.heap.size, 0, none⟩ = some (.slice p1 (cand gs (cnot a) (cnot b)).1.length cap1)) (go_keep) (first | (go_at_call 32; refine (not_any _ _ (by have := Hle.out.2; omega)).mono ?_; rintro e w' ⟨rfl, rfl⟩))
    all_goals
      go_wp2_with fail
      rw [← HP.out]
      refine bodyPost_ret (by simp [results, Try.results23, go_sem, h1, hz]; try rfl) rfl ?_
      exact ⟨p1, cap1, rfl, hq1, hq2, Hq3.out, Hq4.out.drew'.setBox (v0 := .slice none 0 0) (by go_cell) (gEnc_ne_slice _ _ _) _, Below.setCell (Below.drew hB) (by show _ ≤ w.heap.size + 1; omega) _, Hfr.out⟩

def IffPost (w : World) (p : Option Addr) (gs : List Gate) (a b : Int) : Ending → World → Prop := RetCirc w p (ciff gs a b).1 (ciff gs a b).2

set_option maxRecDepth 100000 in
set_option maxHeartbeats 2000000 in
theorem iff_any (gs : List Gate) (a b : Int) (p : Option Addr) (cap : Nat) (w : World) (ha1 : a ≤ 9223372036854775807) (hb1 : b ≤ 9223372036854775807) (hl : gs.length ≤ 20000) (hcap : gs.length ≤ cap) (hcm : cap ≤ maxLen) (hp : p = none → cap = 0) (hg : GatesAt w p gs) :
    Calls Try.prog 25 #[.agg #[.slice p gs.length cap], .int .i64 a, .int .i64 b] w (IffPost w p gs a b) := by
  have Hx := Lib.hid (cand_le (c := gs) (a := a) (b := cnot b) hl)
  have Hy := Lib.hid (cand_le (c := (cand gs a (cnot b)).1) (a := cnot a) (b := b) Hx.out.1)
  have HP : Hid (RetCirc w p (cand (cand (cand gs a (cnot b)).1 (cnot a) b).1 (cnot (cand gs a (cnot b)).2) (cnot (cand (cand gs a (cnot b)).1 (cnot a) b).2)).1 (cand (cand (cand gs a (cnot b)).1 (cnot a) b).1 (cnot (cand gs a (cnot b)).2) (cnot (cand (cand gs a (cnot b)).1 (cnot a) b).2)).2 = IffPost w p gs a b) := rfl
  have Hcm := Lib.hid hcm; have Hp := Lib.hid hp; have Hg := Lib.hid hg; clear hcm hp hg
  go_enter Try.func25, Try.ntmps25
  go_upto_region 1 with fail
  go_cut [8] (fun s8 wx => s8 = .int .i64 (cand gs a (cnot b)).2 ∧ BoxC (Fresh w p) wx w.heap.size (cand gs a (cnot b)).1 ∧ BoxN wx (w.heap.size + 1) ∧ Below w.heap.size w wx ∧ w.heap.size + 1 < wx.heap.size)
  case first =>
    go_region_with (first | (go_at_call 32; refine (not_any _ _ (by assumption)).mono ?_; rintro e w' ⟨rfl, rfl⟩) | (go_at_call 21; refine (and_any gs a (cnot b) p cap _ ha1 (cnot_le hb1) hl hcap Hcm.out Hp.out (Hg.out.mono (by go_grown))).mono ?_; rintro e w1 ⟨p1, cap1, rfl, hq1, hq2, hq3, hq4, hbl, hfr⟩; have k0 := oldcell (b := w.heap.size) (o := 0) (v := .slice p gs.length cap) hbl (by go_cell) (by simp <;> omega); have k1 := oldfree (b := w.heap.size) (o := 0) hbl (by go_cell) (by simp <;> omega)))
    all_goals
      have HB : Below w.heap.size w w1 := Below.trans (by go_grown) (hbl.mono (by simp <;> omega))
      have HN : BoxN w1 (w.heap.size + 1) := BoxN.keep (W := (((w.alloc (Obj.cells #[Value.slice p gs.length cap] 25)).alloc (Obj.cells #[Value.slice none 0 0] 25)).drew)) ⟨by go_cell, by go_cell⟩ hbl (by simp)
      have HZ : w.heap.size + 1 < w1.heap.size := by have := hbl.size; simp at this; omega
      go_wp2_with fail
      go_meet
      exact ⟨rfl, BoxC.put k0 k1 hq1 hq2 hq3 hq4 (hfr.up (by simp <;> omega)), HN.far (by show w.heap.size ≠ w.heap.size + 1; omega) _, HB.setCell (Nat.le_refl _) _, by simpa using HZ⟩
  case rest =>
    clear hcap Hcm Hp Hg
    obtain ⟨rfl, ⟨p1, cap1, h0, h0f, hq1, hq2, hq3, hq4, hfr⟩, ⟨h1, h1f⟩, hB, hz⟩ := hcut
    have Hq3 := Lib.hid hq3; have Hq4 := Lib.hid hq4; have Hfr := Lib.hid hfr; clear hq3 hq4 hfr
    go_upto_region 2 with fail
    go_cut [9] (fun s9 wx => s9 = .int .i64 (cand (cand gs a (cnot b)).1 (cnot a) b).2 ∧ BoxC (Fresh w p) wx w.heap.size (cand (cand gs a (cnot b)).1 (cnot a) b).1 ∧ BoxN wx (w.heap.size + 1) ∧ Below w.heap.size w wx ∧ w.heap.size + 1 < wx.heap.size)
    case first =>
      go_region_with (first | (go_at_call 32; refine (not_any _ _ (by assumption)).mono ?_; rintro e w' ⟨rfl, rfl⟩) | (go_at_call 21; refine (and_any (cand gs a (cnot b)).1 (cnot a) b p1 cap1 _ (cnot_le ha1) hb1 Hx.out.1 hq1 hq2 Hq3.out (Hq4.out.mono (by go_grown))).mono ?_; rintro e w2 ⟨p2, cap2, rfl, hr1, hr2, hr3, hr4, hbl, hfr⟩; have k0 := oldcell (b := w.heap.size) (o := 0) hbl h0 (by simp <;> omega); have k1 := oldfree (b := w.heap.size) (o := 0) hbl h0f (by simp <;> omega)))
      all_goals
        have HB : Below w.heap.size w w2 := (Below.drew hB).trans (hbl.mono (by simp <;> omega))
        have HN : BoxN w2 (w.heap.size + 1) := BoxN.keep (BoxN.drew ⟨h1, h1f⟩) hbl (by simp <;> omega)
        have HZ : w.heap.size + 1 < w2.heap.size := by have := hbl.size; simp at this; omega
        go_wp2_with fail
        go_meet
        exact ⟨rfl, BoxC.put k0 k1 hr1 hr2 hr3 hr4 (Hfr.out.trans hfr (by simp <;> omega)), HN.far (by show w.heap.size ≠ w.heap.size + 1; omega) _, HB.setCell (Nat.le_refl _) _, by simpa using HZ⟩
    case rest =>
      clear hq1 hq2 Hq3 Hq4 Hfr h0 h0f h1 h1f hB hz
      obtain ⟨rfl, ⟨p2, cap2, h0, h0f, hq1, hq2, hq3, hq4, hfr⟩, ⟨h1, h1f⟩, hB, hz⟩ := hcut
      have Hq3 := Lib.hid hq3; have Hq4 := Lib.hid hq4; have Hfr := Lib.hid hfr; clear hq3 hq4 hfr
      go_wp2_with fail
      go_region_held3 (fun w' => w'.cell? ⟨w.heap.size, 0, none⟩ = some (.slice p2 (cand (cand gs a (cnot b)).1 (cnot a) b).1.length cap2)) (first | (with_reducible assumption) | go_keep) (first | (go_at_call 32; refine (not_any _ _ (by have := Hx.out.2; have := Hy.out.2; omega)).mono ?_; rintro e w' ⟨rfl, rfl⟩) | (go_at_call 21; refine (and_any (cand (cand gs a (cnot b)).1 (cnot a) b).1 _ _ p2 cap2 _ (cnot_le (by have := Hx.out.2; omega)) (cnot_le (by have := Hy.out.2; omega)) Hy.out.1 hq1 hq2 Hq3.out (Hq4.out.mono (by go_grown))).mono ?_; rintro e w3 ⟨p3, cap3, rfl, hs1, hs2, hs3, hs4, hbl, hfr⟩; have k0 := oldcell (b := w.heap.size) (o := 0) hbl h0 (by simp <;> omega); have HN := BoxN.keep (BoxN.drew ⟨h1, h1f⟩) hbl (by simp <;> omega); obtain ⟨k2, k3⟩ := HN))
      all_goals
        go_wp2_with fail
        rw [← HP.out]
        refine bodyPost_ret (by simp [results, Try.results25, go_sem, k2]; try rfl) rfl ?_
        exact ⟨p3, cap3, rfl, hs1, hs2, hs3, hs4.setBox k2 (gEnc_ne_slice _ _ _) _, Below.setCell ((Below.drew hB).trans (hbl.mono (by simp <;> omega))) (by show _ ≤ w.heap.size + 1; omega) _, Hfr.out.trans hfr (by simp <;> omega)⟩
end Go.Proofs.Ytanlecgpnknhoaa
