/- Walk of Build of the reference. -/
import Derived.Test.YtanlecgpnknhoaaW15
namespace Go.Proofs.Ytanlecgpnknhoaa
set_option linter.unusedSimpArgs false
set_option linter.unusedVariables false
open Go.RowKit

set_option maxRecDepth 100000 in
set_option maxHeartbeats 4000000 in
theorem rbuild_any (l : List Step) (p : Option Addr) (cap : Nat) (w : World) (hl : l.length ≤ 20000) (hs : ∀ s ∈ l, s.k < 256 ∧ s.a < 256 ∧ s.b < 256) (hg : StepsAt w p l) :
    Calls Try.prog 18 #[.slice p l.length cap] w (BuildPost w l) := by
  obtain ⟨i0, hi0, hz0, hz1, hz2⟩ := info_parts int_info
  have Hs := Lib.hid hs; have Hg := Lib.hid hg; clear hs hg
  go_enter Try.func18, Try.ntmps18
  go_wp2_with (first | (go_at_call 55; refine (rnew_any _).mono ?_; rintro e w1 ⟨p1, rfl, hn1, hn2, hbl, _⟩; obtain ⟨hc1, hf1⟩ := bcell hbl; have hZ := hbl.size; simp at hZ))
  have HB1 : Below w.heap.size w w1 := Below.trans (by go_grown) (hbl.mono (by simp))
  have HN := Lib.hid hn1
  go_loopg [5, 6] l.length (fun n v iv wr => ∃ k B : Nat, iv = .int .i64 k ∧ k ≤ l.length ∧ n = l.length - k ∧ w1.heap.size < B ∧ B ≤ wr.heap.size ∧ BoxC (fun p => ∀ a, p = some a → some a.block ≠ v.ownBlock) wr w1.heap.size (cbuild (l.take k)).1 ∧ BoxN wr w.heap.size ∧ wr.ownsRow B 3 1 v (cbuild (l.take k)).2.length (flat 1 iEnc (cbuild (l.take k)).2) ∧ Below w.heap.size w wr)
  case atStart =>
    refine ⟨0, w1.heap.size + 1, rfl, by omega, by omega, by omega, by simp, BoxC.new (gs := cnew) (Nat.le_refl _) (by decide) hn2 hn1 (fun a _ h => by cases h), ?_, World.ownsRow_nil _ _ _ _, by go_grown⟩
    exact BoxN.alloc ⟨by rw [hc1 _ _ (by simp)]; go_cell, by rw [hf1 _ _ (by simp)]; go_cell⟩ (by omega) _
  case round =>
    clear hn1 HN hn2 hc1 hf1 hbl
    obtain ⟨k, B, rfl, hk, rfl, hBl, hB, ⟨pc, capc, h0, h0f, hq1, hq2, hq3, hq4, hne⟩, ⟨h1, h1f⟩, hown, hbw⟩ := hrel
    have HL := Lib.hid (cbuild_le (l.take k))
    have HRl : Hid ((cbuild (l.take k)).2.length = k) := by rw [HL.out.2.2, List.length_take]; exact Nat.min_eq_left hk
    have Hq3 := Lib.hid hq3; have Hq4 := Lib.hid hq4; have HO := Lib.hid hown; have HBW := Lib.hid hbw; have HNE := Lib.hid hne; have HLT := Lib.hid hown.lt; clear hq3 hq4 hown hbw hne
    have hw0 : w.heap.size < wr.heap.size := by omega
    have hw1 : w1.heap.size < wr.heap.size := by omega
    by_cases hlt : k < l.length
    case neg =>
      have hkl : l.take k = l := List.take_of_length_le (by omega)
      obtain ⟨q, cq, rfl, ho1, ho2, ho3, ho4⟩ := owns_val (by omega) HO.out
      go_wp2_with fail
      refine bodyPost_ret (by simp [results, Try.results18, go_sem, h1]; try rfl) rfl ?_
      refine ⟨pc, capc, q, cq, by rw [hkl], by rw [hkl] at hq1; exact hq1, hq2, Hq3.out, ?_, ?_, ho2, ho3, ?_, Below.setCell HBW.out (Nat.le_refl _) _⟩
      · have := Hq4.out; rw [hkl] at this; exact this.setBox h1 (gEnc_ne_slice _ _ _) _
      · rw [hkl] at ho1; exact ho1
      · have := ho4; rw [hkl] at this; exact this.setBox h1 (fun x j => by simp [iEnc]) _
    case pos =>
      have hlt0 : (0 : Int) ≤ (k : Int) := by omega
      have hlt1 : (k : Int) < (l.length : Int) := by omega
      obtain ⟨s, hs⟩ : ∃ s, l[k]? = some s := ⟨_, List.getElem?_eq_getElem hlt⟩
      obtain ⟨hs1, hs2, hs3⟩ := Hs.out s (List.mem_of_getElem? hs)
      obtain ⟨b, off, rfl, hb, e4, e5, e6⟩ := step_cells Hg.out hs
      have h4 := oldcell HBW.out e4 hb
      have h5 := oldcell HBW.out e5 hb
      have h6 := oldcell HBW.out e6 hb
      have hb2 : b < wr.heap.size := World.block_lt_of_cell? _ _ h4
      have HS := Lib.hid (show cbuild (l.take (k + 1)) = cstep (cbuild (l.take k)) s from by
        obtain ⟨hk', he⟩ := List.getElem?_eq_some_iff.1 hs
        rw [List.take_succ_eq_append_getElem hk', he, cbuild_snoc])
      have Hsb := Lib.hid (show s.k < 256 ∧ s.a < 256 ∧ s.b < 256 from ⟨hs1, hs2, hs3⟩)
      clear e4 e5 e6 hs hs1 hs2 hs3
      obtain ⟨q, cq, rfl, ho1, ho2, ho3, ho4⟩ := owns_val (by omega) HO.out
      have Ho3 := Lib.hid ho3; have Ho4 := Lib.hid ho4; clear ho3 ho4
      generalize hcb : cbuild (l.take k) = X at *
      obtain ⟨gs, refs⟩ := X
      dsimp only at *
      have HCB := Lib.hid hcb; clear hcb
      go_upto_region 6 with fail
      go_cut [7, 8] (fun s7 s8 wx => ∃ b7 : Nat, s7 = .pointer (some ⟨b7, 0, none⟩) ∧ wr.heap.size ≤ b7 ∧ s8 = .int .i64 (cdo gs refs s).2 ∧ BoxC (Fresh wr pc) wx b7 (cdo gs refs s).1 ∧ Below wr.heap.size wr wx)
      case first =>
        go_region_held3 (fun w' => w'.cell? ⟨w1.heap.size, 0, none⟩ = some (.slice pc gs.length capc) ∧ w'.cell? ⟨b, off + k * 3, none⟩ = some (.int .u8 s.k) ∧ w'.cell? ⟨b, off + k * 3 + 1, none⟩ = some (.int .u8 s.a) ∧ w'.cell? ⟨b, off + k * 3 + 2, none⟩ = some (.int .u8 s.b)) (refine ⟨?_, ?_, ?_, ?_⟩ <;> (repeat (first | (with_reducible assumption) | (with_reducible refine keep_drew ?_) | (with_reducible refine keep_far ?_ (by dsimp only; omega)) | (go_cell; done) | (with_reducible refine keep_alloc ?_)))) (first | (go_at_call 57; (refine (rdo_any gs refs s pc q capc cq _ Hsb.out.1 Hsb.out.2.1 Hsb.out.2.2 (by rw [HRl.out]; omega) HL.out.2.1 HL.out.1 hq1 hq2 Hq3.out (Hq4.out.mono (by go_grown)) (Ho4.out.mono (by go_grown))).mono ?_); rintro e w2 ⟨p2, cap2, rfl, hr1, hr2, hr3, hr4, hbl, hfr⟩; have j0 := oldcell (b := w1.heap.size) (o := 0) (v := .slice pc gs.length capc) hbl (by go_cell) (by simp <;> omega); have j4 := oldcell (b := b) (o := off + k * 3) (v := .int .u8 s.k) hbl (by go_cell) (by simp <;> omega); have j5 := oldcell (b := b) (o := off + k * 3 + 1) (v := .int .u8 s.a) hbl (by go_cell) (by simp <;> omega); have j6 := oldcell (b := b) (o := off + k * 3 + 2) (v := .int .u8 s.b) hbl (by go_cell) (by simp <;> omega); have HZ := hbl.size; obtain ⟨hc1, hf1⟩ := bcell hbl))
        all_goals
          have HB : Below wr.heap.size wr w2 := Below.trans (by go_grown) (hbl.mono (by simp <;> omega))
          have HF : Fresh wr pc p2 := hfr.up (by simp)
          simp at HZ
          go_wp2_with fail
          go_meet
          refine ⟨_, rfl, ?_, rfl, ?_, ?_⟩
          · first | omega | (simp; omega) | simp
          · first | exact BoxC.new hr1 hr2 hr3 hr4 HF | (refine BoxC.put (a := none) (n := 0) (c := 0) ?_ ?_ hr1 hr2 hr3 hr4 HF <;> go_cell)
          · go_grown
      case rest =>
        obtain ⟨b7, rfl, hb7, rfl, ⟨p2, cap2, g0, g0f, hr1, hr2, hr3, hr4, hfr⟩, hbx⟩ := hcut
        have f0 := oldcell hbx h0 (by omega)
        have f0f := oldfree hbx h0f (by omega)
        have f1 := oldcell hbx h1 (by omega)
        have f1f := oldfree hbx h1f (by omega)
        have HBX := Lib.hid hbx; have Hr3 := Lib.hid hr3; have Hr4 := Lib.hid hr4; have HFR := Lib.hid hfr; clear hbx hr3 hr4 hfr
        have hwx := HBX.out.size
        have HO2 := Lib.hid (ownsRow_setCell_below (owns_below HO.out HBX.out) (a := ⟨w1.heap.size, 0, none⟩) (by show w1.heap.size < B; omega) (.slice p2 (cdo gs refs s).1.length cap2))
        go_wp2_with (first | (at_builtin; go_must (refine wpList_app2 (enc := iEnc) rfl _ _ _ rfl B 3 i0 _ 8 Try.underlying28 hi0 hz0 hz1 hz2 rfl (by omega) _ refs rfl (HO2.out.alloc _) (some ⟨wc.heap.size, 0, none⟩) [(cdo gs refs s).2] 1 rfl (fun h => by cases h) (SlAt.int1 (by go_cell)) iEnc_one (by rw [HRl.out]; simp [maxLen]; omega) (by rw [HRl.out]; simp; omega) (by simp; omega) ?_); intro v2 w3 hown2 hgr2 hbl2 hat2; have n0 := oldcell hbl2 (keep_alloc (cell_set f0)) (by omega); have n0f := oldfree hbl2 (free_alloc (free_set f0f) (by simp; omega)) (by omega); have n1 := oldcell hbl2 (keep_alloc (keep_far f1 (by dsimp only; omega))) (by omega); have n1f := oldfree hbl2 (free_alloc (free_set f1f) (by simp; omega)) (by omega); have HOW2 := Lib.hid hown2; have HGR2 := Lib.hid hgr2; have HBL2 := Lib.hid hbl2; have HAT2 := Lib.hid hat2; clear hown2 hgr2 hbl2 hat2))
        have hfx : ∀ a, p2 = some a → some a.block ≠ (Value.slice q refs.length cq).ownBlock := by
          intro a ha
          rcases HFR.out with h | h
          · exact HNE.out a (h ▸ ha)
          · intro e
            have := (HLT.out a.block e.symm).2
            have := h a ha
            omega
        have hg5 := SlAt.grown (((Hr4.out.setBox f0 (gEnc_ne_slice _ _ _) (.slice p2 (cdo gs refs s).1.length cap2)).mono (w' := (wc.setCell ⟨w1.heap.size, 0, none⟩ (.slice p2 (cdo gs refs s).1.length cap2)).alloc (.cells #[.int .i64 (cdo gs refs s).2] 3)) (by go_grown))) HGR2.out hfx
        have hp2 : ∀ a, p2 = some a → a.block < wc.heap.size := by
          intro a ha
          rcases Hr4.out with h | ⟨b, off, hp, hb, _⟩
          · exact absurd h (cdo_ne (cbuild_ne HCB.out))
          · rw [ha] at hp; cases hp; exact hb
        go_roundg (l.length - (k + 1))
        case measure => omega
        case rel =>
          refine ⟨k + 1, B, by go_num, by omega, rfl, hBl, by have := HBL2.out.size; simp at this; omega, ?_, ⟨n1, n1f⟩, ?_, HBW.out.trans (HBX.out.mono (by have := HBW.out.size; exact this) |>.trans (Below.trans (by go_grown) (HBL2.out.mono (by omega))))⟩
          · rw [HS.out]
            refine ⟨p2, cap2, n0, n0f, hr1, hr2, Hr3.out, hg5, fun a ha => ?_⟩
            rcases HAT2.out with h | h
            · rw [h]; exact hfx a ha
            · rw [h]; have := hp2 a ha; simp; omega
          · rw [HS.out]; exact HOW2.out

end Go.Proofs.Ytanlecgpnknhoaa
