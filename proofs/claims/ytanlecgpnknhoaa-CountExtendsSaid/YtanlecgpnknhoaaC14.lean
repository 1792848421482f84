/- Walk of layer 16: Count of the reference. -/
import Derived.Test.YtanlecgpnknhoaaC13
namespace Go.Proofs.Ytanlecgpnknhoaa
set_option linter.unusedSimpArgs false
set_option linter.unusedVariables false
open Go.RowKit

theorem rmerge_any (c : List Gate) (x y : List Int) (nx ny : Nat) (p px py : Option Addr) (cap cx cy : Nat) (w : World) (hnx : x.length = nx) (hny : y.length = ny) (hx : nx ≤ 100) (hy : ny ≤ 100) (hxr : AllLe x) (hyr : AllLe y) (hl : c.length ≤ 20000) (hc : 0 < c.length)
    (hC : CAt w p cap c) (hix : IntsAt w px x) (hiy : IntsAt w py y) (hpx : ∀ a, px = some a → a.block < w.heap.size) (hpy : ∀ a, py = some a → a.block < w.heap.size) :
    Calls Try.prog 71 #[.agg #[.slice p c.length cap], .slice px nx cx, .slice py ny cy] w (RetCL w ((uadd 0 1 x y).run c)) := by
  subst hnx hny
  exact merge_any' c x y p px py cap cx cy w hx hy hxr hyr hl hc hC hix hiy hpx hpy
theorem ucount_succ (l : List Int) (i : Nat) (c : List Gate) : (ucount 0 1 l (i + 1)).run c = (uadd 0 1 ((ucount 0 1 l i).run c).2 [l.getD i 0]).run ((ucount 0 1 l i).run c).1 := by
  rw [show ucount 0 1 l (i + 1) = (ucount 0 1 l i).bind fun out => uadd 0 1 out [l.getD i 0] from rfl, CM.run_bind]
theorem uadd_len (x y : List Int) (c : List Gate) : ((uadd 0 1 x y).run c).2.length = x.length + y.length := addTo_len x y c _
theorem ucount_len (l : List Int) (c : List Gate) : ∀ i, ((ucount 0 1 l i).run c).2.length = i
  | 0 => rfl
  | i + 1 => by rw [ucount_succ, uadd_len, ucount_len l c i]; rfl
theorem ucount_le (l : List Int) {c : List Gate} (hc : c.length ≤ 20000) : ∀ i, AllLe ((ucount 0 1 l i).run c).2
  | 0 => fun r hr => by cases hr
  | i + 1 => by
    rw [ucount_succ]
    exact addTo_le _ _ (run_le _ c hc) _

set_option maxRecDepth 100000 in
set_option maxHeartbeats 4000000 in
theorem count_any (c : List Gate) (l : List Int) (n : Nat) (p pi : Option Addr) (cap ci : Nat) (w : World) (hn : l.length = n) (h6 : n ≤ 50) (hr : AllLe l) (hl : c.length ≤ 20000) (hc : 0 < c.length)
    (hC : CAt w p cap c) (hi : IntsAt w pi l) (hpl : ∀ a, pi = some a → a.block < w.heap.size) :
    Calls Try.prog 47 #[.agg #[.slice p c.length cap], .slice pi n ci] w (RetCL w ((ucount 0 1 l n).run c)) := by
  have HN := Lib.hid hn; have HR := Lib.hid hr; have HC := Lib.hid hC; have HI := Lib.hid hi; have HPL := Lib.hid hpl
  clear hn hr hC hi hpl
  go_enter Try.func47, Try.ntmps47
  go_wp2_with fail
  go_loopg [6, 7] n (fun N v6 v7 wr => ∃ (K : Nat) (q : Option Addr) (cq : Nat), v7 = .int .i64 K ∧ v6 = .slice q K cq ∧ K ≤ n ∧ N = n - K ∧ BoxC (fun _ => True) wr w.heap.size ((ucount 0 1 l K).run c).1 ∧ BoxN wr (w.heap.size + 1) ∧ IntsAt wr q ((ucount 0 1 l K).run c).2 ∧ (∀ a, q = some a → a.block < wr.heap.size) ∧ K ≤ cq ∧ cq ≤ maxLen ∧ (q = none → cq = 0) ∧ Below w.heap.size w wr)
  case atStart =>
    exact ⟨0, _, _, rfl, rfl, by omega, rfl, ⟨p, cap, (show _ = some (Value.slice p c.length cap) by go_cell), by go_cell, HC.out.le, HC.out.cm, HC.out.p0, HC.out.at'.mono (by go_grown), trivial⟩, ⟨by go_cell, by go_cell⟩, .inl rfl, (fun a ha => by cases ha; simp), Nat.le_refl _, Nat.zero_le _, (fun h => by cases h), by go_grown⟩
  case round =>
    obtain ⟨K, q, cq, rfl, rfl, hK, hN, hBC, hBN, hq, hql, hqc, hqm, hq0, hbw⟩ := hrel
    have HNk := Lib.hid hN; clear hN
    obtain ⟨c0, hc0⟩ : ∃ z, ((ucount 0 1 l K).run c).1 = z := ⟨_, rfl⟩
    obtain ⟨l0, hl0⟩ : ∃ z, ((ucount 0 1 l K).run c).2 = z := ⟨_, rfl⟩
    have hl0l : l0.length = K := by rw [← hl0]; exact ucount_len l c K
    have hc0l : c0.length ≤ 20000 := by rw [← hc0]; exact run_le _ c hl
    have hc0p : 0 < c0.length := by rw [← hc0]; have := run_ge (ucount 0 1 l K) c; omega
    have hl0r : AllLe l0 := by rw [← hl0]; exact ucount_le l hl K
    rw [hc0] at hBC; rw [hl0] at hq
    obtain ⟨pc, capc, h0, h0f, hq1, hq2, hq3, hq4, _⟩ := hBC
    have Hq3 := Lib.hid hq3; have Hq4 := Lib.hid hq4; have HC0 := Lib.hid hc0; have HL0 := Lib.hid hl0; have HLL := Lib.hid hl0l; have HLR := Lib.hid hl0r; have HBN := Lib.hid hBN; have HQ := Lib.hid hq; have HQL := Lib.hid hql; have HQ0 := Lib.hid hq0; have HBW := Lib.hid hbw
    have h1 := hBN.1
    have h1f := hBN.2
    have hb0 : w.heap.size < wr.heap.size := World.block_lt_of_cell? _ _ h0
    have hb1 : w.heap.size + 1 < wr.heap.size := World.block_lt_of_cell? _ _ h1
    clear hq3 hq4 hc0 hl0 hl0l hl0r hBN hq hql hq0 hbw
    by_cases hlt : K < n
    case neg =>
      have HKN := Lib.hid (show K = n by omega)
      go_wp2_with fail
      refine bodyPost_ret (by simp [results, Try.results47, go_sem, h1]; try rfl) rfl ?_
      have e : (ucount 0 1 l n).run c = (c0, l0) := by rw [← HC0.out, ← HL0.out, HKN.out]
      rw [e]
      refine ⟨pc, capc, q, cq, ?_, ⟨hq1, hq2, Hq3.out, Hq4.out.setBox h1 (gEnc_ne_slice _ _ _) _⟩, HQ.out.setBox h1 (fun x j => by simp [iEnc]) _, fun a ha => by have := HQL.out a ha; simpa using this, by show l0.length ≤ cq; rw [HLL.out]; exact hqc, hqm, HQ0.out, Below.setCell HBW.out (by show _ ≤ w.heap.size + 1; omega) _⟩
      show _ = Ending.returned (.tuple #[_, .slice _ l0.length _])
      rw [HLL.out]
    case pos =>
      have hlt0 : (0 : Int) ≤ (K : Int) := by omega
      have hlt1 : (K : Int) < (n : Int) := by omega
      obtain ⟨r, hr⟩ : ∃ r, l[K]? = some r := ⟨_, List.getElem?_eq_getElem (by rw [HN.out]; exact hlt)⟩
      have HRD := Lib.hid (show l.getD K 0 = r by rw [List.getD_eq_getElem?_getD, hr]; rfl)
      have hrl := HR.out r (List.mem_of_getElem? hr)
      obtain ⟨b, off, rfl, hb, hcl⟩ := int_cell HI.out hr
      have j5 := oldcell HBW.out hcl hb
      have hb2 : b < wr.heap.size := World.block_lt_of_cell? _ _ j5
      clear hr hcl
      obtain ⟨c1, l1, h1c⟩ : ∃ d s, (uadd 0 1 l0 [r]).run c0 = (d, s) := ⟨_, _, rfl⟩
      have H1C := Lib.hid h1c
      have hl1 : l1.length = K + 1 := by have := uadd_len l0 [r] c0; rw [h1c] at this; rw [show l1.length = _ from this, HLL.out]; rfl
      have HL1 := Lib.hid hl1; clear h1c hl1
      go_upto_region 5 with fail
      go_cut [8, 9] (fun s8 s9 wx => ∃ (b8 : Nat) (q' : Option Addr) (cq' : Nat), s8 = .pointer (some ⟨b8, 0, none⟩) ∧ s9 = .slice q' (K + 1) cq' ∧ wr.heap.size ≤ b8 ∧ Bx wx b8 c1 ∧ IntsAt wx q' l1 ∧ (∀ a, q' = some a → a.block < wx.heap.size) ∧ K + 1 ≤ cq' ∧ cq' ≤ maxLen ∧ (q' = none → cq' = 0) ∧ Below wr.heap.size wr wx)
      case first =>
        go_region_held3 (fun w' => w'.cell? ⟨w.heap.size, 0, none⟩ = some (.slice pc c0.length capc) ∧ w'.cell? ⟨b, off + K, none⟩ = some (.int .i64 r)) (refine ⟨?_, ?_⟩ <;> (repeat (first | (with_reducible assumption) | (with_reducible refine keep_drew ?_) | (with_reducible refine keep_far ?_ (by dsimp only; omega)) | (go_cell; done) | (with_reducible refine keep_alloc ?_)))) (first | (go_at_call 71; refine (rmerge_any c0 l0 [r] K 1 pc q (some ⟨_, 0, none⟩) capc cq 1 _ HLL.out rfl (by omega) (by omega) HLR.out (by intro z hz; rw [List.mem_singleton.1 hz]; exact hrl) hc0l hc0p ((CAt.mk hq1 hq2 Hq3.out Hq4.out).mono (by go_grown)) (HQ.out.mono (by go_grown)) (SlAt.int1 (by go_cell)) (fun a ha => by have h7 := HQL.out a ha; first | omega | (simp; done) | (simp; omega)) (fun a ha => by cases ha; first | (simp; done) | (simp; omega))).mono ?_; rw [H1C.out]; rintro e w1 ⟨p1, cap1, q1, cq1, rfl, u1, u2, u3, u4, u5, u6, hbl⟩; dsimp only at u4; rw [HL1.out] at u4; rw [HL1.out]; have k0 := oldcell (b := w.heap.size) (o := 0) hbl (v := .slice pc c0.length capc) (by go_cell) (by simp <;> omega); have k1 := oldcell (b := b) (o := off + K) hbl (v := .int .i64 r) (by go_cell) (by simp <;> omega); have HZ := hbl.size; obtain ⟨hcc1, hff1⟩ := bcell hbl))
        all_goals
          have HB : Below wr.heap.size wr w1 := Below.trans (by go_grown) (hbl.mono (by simp <;> omega))
          simp at HZ
          go_wp2_with fail
          go_meet
          first | exact ⟨_, _, _, rfl, rfl, by omega, Bx.new u1 _, u2.mono (by go_grown), (fun a ha => by have h7 := u3 a ha; simp; omega), u4, u5, u6, by go_grown⟩ | (have kb := oldcell (b := wr.heap.size + 1) (o := 0) (v := .slice none 0 0) hbl (by go_cell) (by simp <;> omega); have kf := oldfree (b := wr.heap.size + 1) (o := 0) hbl (by go_cell) (by simp <;> omega); exact ⟨_, _, _, rfl, rfl, (by first | omega | (dsimp only; omega)), ⟨p1, cap1, (by go_cell), (by rw [World.frozen?_setCell]; exact kf), u1.le, u1.cm, u1.p0, u1.at'.setBox kb (gEnc_ne_slice _ _ _) _⟩, u2.setBox kb (fun x j => by simp [iEnc]) _, (fun a ha => by have h7 := u3 a ha; simpa using h7), u4, u5, u6, by go_grown⟩) | (have kb := oldcell (b := wr.heap.size) (o := 0) (v := .slice none 0 0) hbl (by go_cell) (by simp <;> omega); have kf := oldfree (b := wr.heap.size) (o := 0) hbl (by go_cell) (by simp <;> omega); exact ⟨_, _, _, rfl, rfl, (by first | omega | (dsimp only; omega)), ⟨p1, cap1, (by go_cell), (by rw [World.frozen?_setCell]; exact kf), u1.le, u1.cm, u1.p0, u1.at'.setBox kb (gEnc_ne_slice _ _ _) _⟩, u2.setBox kb (fun x j => by simp [iEnc]) _, (fun a ha => by have h7 := u3 a ha; simpa using h7), u4, u5, u6, by go_grown⟩)
      case rest =>
        obtain ⟨b8, q1, cq1, rfl, rfl, hb8, hB8, v2, v3, v4, v5, v6, hbx⟩ := hcut
        obtain ⟨p8, c8, k8, k8f, hC8⟩ := id hB8
        have f0 := oldcell hbx h0 (by omega)
        have f0f := oldfree hbx h0f (by omega)
        have f1 := oldcell hbx h1 (by omega)
        have f1f := oldfree hbx h1f (by omega)
        have hsx := hbx.size
        have HBX := Lib.hid hbx; have HC8 := Lib.hid hC8; have V2 := Lib.hid v2; have V3 := Lib.hid v3; have V6 := Lib.hid v6
        clear hbx hC8 v2 v3 v6 hB8
        go_wp2_with fail
        go_roundg (n - (K + 1))
        case measure => (have := HNk.out; omega)
        case rel =>
          have e := ucount_succ l K c
          rw [HC0.out, HL0.out, HRD.out, H1C.out] at e
          refine ⟨K + 1, q1, cq1, by go_num, rfl, by omega, rfl, ?_, ?_, ?_, ?_, v4, v5, V6.out, Below.setCell (HBW.out.trans (HBX.out.mono (by have := HBW.out.size; omega))) (Nat.le_refl _) _⟩
          · rw [e]; exact ⟨p8, c8, by go_cell, by rw [World.frozen?_setCell]; exact f0f, HC8.out.le, HC8.out.cm, HC8.out.p0, HC8.out.at'.setBox f0 (gEnc_ne_slice _ _ _) _, trivial⟩
          · exact ⟨keep_far f1 (by dsimp only; omega), by rw [World.frozen?_setCell]; exact f1f⟩
          · rw [e]; exact V2.out.setBox f0 (fun x j => by simp [iEnc]) _
          · intro a ha; have := V3.out a ha; simpa using this
end Go.Proofs.Ytanlecgpnknhoaa

