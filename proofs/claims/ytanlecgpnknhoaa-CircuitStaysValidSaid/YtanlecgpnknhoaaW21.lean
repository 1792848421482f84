/- Walk of CircuitStaysValid. -/
import Derived.Test.YtanlecgpnknhoaaW17
namespace Go.Proofs.Ytanlecgpnknhoaa
set_option linter.unusedSimpArgs false
set_option linter.unusedVariables false
open Go.RowKit

theorem BoxC.lt {F : Option Addr → Prop} {w : World} {b : Nat} {gs : List Gate} (h : BoxC F w b gs) : b < w.heap.size := by
  obtain ⟨p, cap, h1, _⟩ := h; exact World.block_lt_of_cell? w _ h1

set_option maxRecDepth 100000 in
set_option maxHeartbeats 8000000 in
theorem stays_any (l : List Step) (p : Option Addr) (cap : Nat) (w : World) (hl : l.length ≤ maxLen) (hs : ∀ s ∈ l, s.k < 256 ∧ s.a < 256 ∧ s.b < 256) (hg : StepsAt w p l) :
    Calls Try.prog 4 #[.slice p l.length cap] w (RetB w true) := by
  unfold maxLen at hl
  obtain ⟨i0, hi0, hz0, hz1, hz2⟩ := info_parts int_info
  have Hs := Lib.hid hs; have Hg := Lib.hid hg; clear hs hg
  by_cases h60 : (60 : Int) < (l.length : Int)
  · go_enter Try.func4, Try.ntmps4
    go_wp2_with (first | (go_at_call 17; refine (head_any _).mono ?_; rintro e wh ⟨rfl, hbh⟩; have hZh := hbh.size))
    go_ret
    exact ⟨rfl, by first | exact hbh | go_grown⟩
  have hl60 : l.length ≤ 60 := by omega
  go_enter Try.func4, Try.ntmps4
  go_wp2_with (first | (go_at_call 17; refine (head_any _).mono ?_; rintro e wh ⟨rfl, hbh⟩; have hZh := hbh.size) | (go_at_call 34; refine (new_any _).mono ?_; rintro e w1 ⟨p1, rfl, hn1, hn2, hbl, _⟩; have hZ := hbl.size))
  have HB1 : Below w.heap.size w w1 := btr hbh hbl
  go_loopg [5, 6] l.length (fun n v iv wr => ∃ k B : Nat, iv = .int .i64 k ∧ k ≤ l.length ∧ n = l.length - k ∧ w1.heap.size < B ∧ B ≤ wr.heap.size ∧ BoxC (fun p => ∀ a, p = some a → some a.block ≠ v.ownBlock) wr w1.heap.size (cbuild (l.take k)).1 ∧ wr.ownsRow B 3 1 v (cbuild (l.take k)).2.length (flat 1 iEnc (cbuild (l.take k)).2) ∧ Below w.heap.size w wr)
  case atStart =>
    exact ⟨0, w1.heap.size + 1, rfl, by omega, by omega, by omega, by simp, BoxC.new (gs := cnew) (Nat.le_refl _) (by decide) hn2 hn1 (fun a _ h => by cases h), World.ownsRow_nil _ _ _ _, bal HB1 _⟩
  case round =>
    clear hn1 hn2
    obtain ⟨k, B, rfl, hk, rfl, hBl, hB, ⟨pc, capc, h0, h0f, hq1, hq2, hq3, hq4, hne⟩, hown, hbw⟩ := hrel
    have HL := Lib.hid (cbuild_le (l.take k))
    have HK := Lib.hid (built (l.take k) (by rw [List.length_take]; omega))
    have HRl : Hid ((cbuild (l.take k)).2.length = k) := by rw [HL.out.2.2, List.length_take]; exact Nat.min_eq_left hk
    have Hq3 := Lib.hid hq3; have Hq4 := Lib.hid hq4; have HO := Lib.hid hown; have HBW := Lib.hid hbw; have HNE := Lib.hid hne; have HLT := Lib.hid hown.lt; clear hq3 hq4 hown hbw hne
    have hw1 : w1.heap.size < wr.heap.size := by omega
    by_cases hlt : k < l.length
    case neg =>
      have hkl : l.take k = l := List.take_of_length_le (by omega)
      obtain ⟨q, cq, rfl, ho1, ho2, ho3, ho4⟩ := owns_val (by omega) HO.out
      go_wp2_with fail
      go_ret
      exact ⟨rfl, HBW.out⟩
    case pos =>
      have hlt0 : (0 : Int) ≤ (k : Int) := by omega
      have hlt1 : (k : Int) < (l.length : Int) := by omega
      obtain ⟨s, hs⟩ : ∃ s, l[k]? = some s := ⟨_, List.getElem?_eq_getElem hlt⟩
      obtain ⟨hs1, hs2, hs3⟩ := Hs.out s (List.mem_of_getElem? hs)
      obtain ⟨b, off, rfl, hb, e4, e5, e6⟩ := step_cells Hg.out hs
      have h4 := oldcell HBW.out e4 hb
      have h5 := oldcell HBW.out e5 hb
      have h6 := oldcell HBW.out e6 hb
      have hb2 : b < wr.heap.size := World.block_lt_of_cell? _ _ h4
      have HS := Lib.hid (show cbuild (l.take (k + 1)) = cstep (cbuild (l.take k)) s from by
        obtain ⟨hk', he⟩ := List.getElem?_eq_some_iff.1 hs
        rw [List.take_succ_eq_append_getElem hk', he, cbuild_snoc])
      have Hsb := Lib.hid (show s.k < 256 ∧ s.a < 256 ∧ s.b < 256 from ⟨hs1, hs2, hs3⟩)
      clear e4 e5 e6 hs hs1 hs2 hs3
      obtain ⟨q, cq, rfl, ho1, ho2, ho3, ho4⟩ := owns_val (by omega) HO.out
      have Ho3 := Lib.hid ho3; have Ho4 := Lib.hid ho4; clear ho3 ho4
      generalize hcb : cbuild (l.take k) = X at *
      obtain ⟨gs, refs⟩ := X
      dsimp only at *
      have HCB := Lib.hid hcb; clear hcb
      have hgl : gs.length ≤ 181 := by have h2 : gs.length ≤ 1 + 3 * (l.take k).length := HK.out.len; rw [List.length_take] at h2; omega
      have KD := keeps_do (c := gs) (refs := refs) (s := s) HK.out.good (by omega) HK.out.refs
      have hdl : (cdo gs refs s).1.length ≤ 184 := by have h1 := KD.len; omega
      have hlow := KD.low
      have hhigh := KD.high
      have hlowB : decide ((cdo gs refs s).2 < 0) = false := by rw [decide_eq_false_iff_not]; omega
      have hhighB : decide (2 * ((cdo gs refs s).1.length : Int) ≤ (cdo gs refs s).2) = false := by rw [decide_eq_false_iff_not]; omega
      have HV := Lib.hid (KD.good.valid (by omega)); clear KD
      go_upto_region 9 with fail
      go_cut [7, 8] (fun s7 s8 wx => ∃ b7 : Nat, s7 = .pointer (some ⟨b7, 0, none⟩) ∧ wr.heap.size ≤ b7 ∧ s8 = .int .i64 (cdo gs refs s).2 ∧ BoxC (Fresh wr pc) wx b7 (cdo gs refs s).1 ∧ Below wr.heap.size wr wx)
      case first =>
        go_region_held3 (fun w' => w'.cell? ⟨w1.heap.size, 0, none⟩ = some (.slice pc gs.length capc) ∧ w'.cell? ⟨b, off + k * 3, none⟩ = some (.int .u8 s.k) ∧ w'.cell? ⟨b, off + k * 3 + 1, none⟩ = some (.int .u8 s.a) ∧ w'.cell? ⟨b, off + k * 3 + 2, none⟩ = some (.int .u8 s.b)) (refine ⟨?_, ?_, ?_, ?_⟩ <;> (repeat (first | (with_reducible assumption) | (with_reducible refine keep_drew ?_) | (with_reducible refine keep_far ?_ (by dsimp only; omega)) | (go_cell; done) | (with_reducible refine keep_alloc ?_)))) (first | (go_at_call 35; (refine (do_any gs refs s pc q capc cq _ Hsb.out.1 Hsb.out.2.1 Hsb.out.2.2 (by rw [HRl.out]; omega) HL.out.2.1 HL.out.1 hq1 hq2 Hq3.out (Hq4.out.mono (by go_grown)) (Ho4.out.mono (by go_grown))).mono ?_); rintro e w2 ⟨p2, cap2, rfl, hr1, hr2, hr3, hr4, hbl, hfr⟩; have j0 := oldcell (b := w1.heap.size) (o := 0) (v := .slice pc gs.length capc) hbl (by go_cell) (by simp <;> omega); have j4 := oldcell (b := b) (o := off + k * 3) (v := .int .u8 s.k) hbl (by go_cell) (by simp <;> omega); have j5 := oldcell (b := b) (o := off + k * 3 + 1) (v := .int .u8 s.a) hbl (by go_cell) (by simp <;> omega); have j6 := oldcell (b := b) (o := off + k * 3 + 2) (v := .int .u8 s.b) hbl (by go_cell) (by simp <;> omega); have HZ := hbl.size; obtain ⟨hc1, hf1⟩ := bcell hbl))
        all_goals
          have HB : Below wr.heap.size wr w2 := Below.trans (by go_grown) (hbl.mono (by simp <;> omega))
          have HF : Fresh wr pc p2 := hfr.up (by simp)
          simp at HZ
          go_wp2_with fail
          go_meet
          refine ⟨_, rfl, ?_, rfl, ?_, ?_⟩
          · first | omega | (simp; omega) | simp
          · first | exact BoxC.new hr1 hr2 hr3 hr4 HF | (refine BoxC.put (a := none) (n := 0) (c := 0) ?_ ?_ hr1 hr2 hr3 hr4 HF <;> go_cell)
          · go_grown
      case rest =>
        obtain ⟨b7, rfl, hb7, rfl, hBC, hbx⟩ := hcut
        go_upto_region 10 with fail
        have hb7l := hBC.lt
        obtain ⟨p2, cap2, g0, g0f, hr1, hr2, hr3, hr4, hfr⟩ := id hBC
        go_cut [9] (fun sv wx => sv = .bool true ∧ BoxC (Fresh wr pc) wx b7 (cdo gs refs s).1 ∧ Below wr.heap.size wr wx)
        case first =>
          go_wp2_with (first | (go_at_call 29; refine (rvalid_is (W := wc) ⟨hr1, hr2, hr3, hr4⟩ (Below.refl _ _) HV.out).mono ?_; rintro e w3 ⟨rfl, hb3⟩; have g0' := oldcell hb3 g0 hb7l))
          go_meet
          exact ⟨rfl, hBC.keep hb3 hb7l rfl, btr hbx hb3⟩
        case rest =>
        clear hb7l g0 g0f hr1 hr2 hr3 hr4 hfr hBC hbx
        obtain ⟨rfl, hBC, hbx⟩ := hcut
        go_upto_region 11 with fail
        have hb7l := hBC.lt
        obtain ⟨p2, cap2, g0, g0f, hr1, hr2, hr3, hr4, hfr⟩ := id hBC
        go_cut [52] (fun sv wx => sv = .bool false ∧ BoxC (Fresh wr pc) wx b7 (cdo gs refs s).1 ∧ Below wr.heap.size wr wx)
        case first =>
          go_wp2_with (first | (go_at_call 28; refine (valid_is (W := wc) ⟨hr1, hr2, hr3, hr4⟩ (Below.refl _ _) HV.out).mono ?_; rintro e w3 ⟨rfl, hb3⟩; have g0' := oldcell hb3 g0 hb7l))
          go_meet
          exact ⟨rfl, hBC.keep hb3 hb7l rfl, btr hbx hb3⟩
        case rest =>
        clear hb7l g0 g0f hr1 hr2 hr3 hr4 hfr hBC hbx
        obtain ⟨rfl, hBC, hbx⟩ := hcut
        obtain ⟨p2, cap2, g0, g0f, hr1, hr2, hr3, hr4, hfr⟩ := hBC
        have f0 := oldcell hbx h0 (by omega)
        have f0f := oldfree hbx h0f (by omega)
        have HBX := Lib.hid hbx; have Hr3 := Lib.hid hr3; have Hr4 := Lib.hid hr4; have HFR := Lib.hid hfr; clear hbx hr3 hr4 hfr
        have hwx := HBX.out.size
        have HO2 := Lib.hid (ownsRow_setCell_below (owns_below HO.out HBX.out) (a := ⟨w1.heap.size, 0, none⟩) (by show w1.heap.size < B; omega) (.slice p2 (cdo gs refs s).1.length cap2))
        go_wp2_with (first | (at_builtin; go_must (refine wpList_app2 (enc := iEnc) rfl _ _ _ rfl B 3 i0 _ 8 Try.underlying28 hi0 hz0 hz1 hz2 rfl (by omega) _ refs rfl (HO2.out.alloc _) (some ⟨wc.heap.size, 0, none⟩) [(cdo gs refs s).2] 1 rfl (fun h => by cases h) (SlAt.int1 (by go_cell)) iEnc_one (by rw [HRl.out]; simp [maxLen]; omega) (by rw [HRl.out]; simp; omega) (by simp; omega) ?_); intro v2 w3 hown2 hgr2 hbl2 hat2; have n0 := oldcell hbl2 (keep_alloc (cell_set f0)) (by omega); have n0f := oldfree hbl2 (free_alloc (free_set f0f) (by simp; omega)) (by omega); have HOW2 := Lib.hid hown2; have HGR2 := Lib.hid hgr2; have HBL2 := Lib.hid hbl2; have HAT2 := Lib.hid hat2; clear hown2 hgr2 hbl2 hat2))
        have hfx : ∀ a, p2 = some a → some a.block ≠ (Value.slice q refs.length cq).ownBlock := by
          intro a ha
          rcases HFR.out with h | h
          · exact HNE.out a (h ▸ ha)
          · intro e
            have := (HLT.out a.block e.symm).2
            have := h a ha
            omega
        have hg5 := SlAt.grown (((Hr4.out.setBox f0 (gEnc_ne_slice _ _ _) (.slice p2 (cdo gs refs s).1.length cap2)).mono (w' := (wc.setCell ⟨w1.heap.size, 0, none⟩ (.slice p2 (cdo gs refs s).1.length cap2)).alloc (.cells #[.int .i64 (cdo gs refs s).2] 3)) (by go_grown))) HGR2.out hfx
        have hp2 : ∀ a, p2 = some a → a.block < wc.heap.size := by
          intro a ha
          rcases Hr4.out with h | ⟨b, off, hp, hb, _⟩
          · exact absurd h (cdo_ne (cbuild_ne HCB.out))
          · rw [ha] at hp; cases hp; exact hb
        go_roundg (l.length - (k + 1))
        case measure => omega
        case rel =>
          refine ⟨k + 1, B, by go_num, by omega, rfl, hBl, by have := HBL2.out.size; simp at this; omega, ?_, ?_, HBW.out.trans (HBX.out.mono (by have := HBW.out.size; exact this) |>.trans (Below.trans (by go_grown) (HBL2.out.mono (by omega))))⟩
          · rw [HS.out]
            refine ⟨p2, cap2, n0, n0f, hr1, hr2, Hr3.out, hg5, fun a ha => ?_⟩
            rcases HAT2.out with h | h
            · rw [h]; exact hfx a ha
            · rw [h]; have := hp2 a ha; simp; omega
          · rw [HS.out]; exact HOW2.out

end Go.Proofs.Ytanlecgpnknhoaa
