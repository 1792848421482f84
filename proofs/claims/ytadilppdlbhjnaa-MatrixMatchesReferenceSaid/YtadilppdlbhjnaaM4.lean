import Derived.Test.YtadilppdlbhjnaaM1
namespace Go.Proofs.Ytadilppdlbhjnaa
set_option linter.unusedSimpArgs false
set_option linter.unusedVariables false
open Go.RowKit
set_option maxRecDepth 100000 in
set_option maxHeartbeats 1000000 in
theorem at_any (m : List Cell) (ar rank : Int) (p : Option Addr) (cap : Nat) (w : World) (h : MxAt w p cap m) (hl : m.length ≤ 20000) :
 Calls Try.prog 107 #[.agg #[.int .i64 ar, .slice p m.length cap], .int .i64 rank] w fun e w' => e = .returned (.int .i64 (mat m rank)) ∧ Below w.heap.size w w' := by
 have H := Lib.hid h; clear h
 obtain ⟨W2, hW2, y0⟩ : ∃ W2, w.alloc (.cells #[.int .i64 ar, .slice p m.length cap] 30) = W2 ∧ W2.cell? ⟨w.heap.size, 1, none⟩ = some (.slice p m.length cap) := ⟨_, rfl, by go_cell⟩
 have HB := Lib.hid (show Below w.heap.size w W2 from by rw [← hW2]; go_grown)
 have HW2 := Lib.hid hW2; clear hW2
 go_enter Try.func107, Try.ntmps107
 go_wp2_with fail
 rw [HW2.out]
 go_loopg [5] m.length (fun N v5 wr => ∃ K : Nat, v5 = .int .i64 K ∧ K ≤ m.length ∧ N = m.length - K ∧ mat (m.drop K) rank = mat m rank ∧ wr = W2)
 case atStart => exact ⟨0, rfl, by omega, rfl, rfl, rfl⟩
 obtain ⟨K, rfl, hK, hN, hm, rfl⟩ := hrel
 have HNk := Lib.hid hN; have HM := Lib.hid hm; clear hN hm
 by_cases hlt : K < m.length
 case neg =>
  have hd := Lib.hid (show mat m rank = 1 by rw [← HM.out, List.drop_eq_nil_of_le (by omega)]; rfl)
  go_wp2_with fail
  go_ret
  exact ⟨congrArg (fun x : Int => Ending.returned (.int .i64 x)) hd.out.symm, HB.out⟩
 have hlt0 : (0 : Int) ≤ (K : Int) := by omega
 have hlt1 : (K : Int) < (m.length : Int) := by omega
 obtain ⟨x, hx⟩ : ∃ x, m[K]? = some x := ⟨_, List.getElem?_eq_getElem hlt⟩
 have hdr : m.drop K = x :: m.drop (K + 1) := by
  obtain ⟨hk, he⟩ := List.getElem?_eq_some_iff.1 hx
  rw [List.drop_eq_getElem_cons hk, he]
 obtain ⟨b, off, rfl, hb, h0, h1⟩ := cell_cells H.out.at' hx
 have k0 := oldcell HB.out h0 hb
 have k1 := oldcell HB.out h1 hb
 have HDR := Lib.hid hdr
 clear hx hdr h0 h1
 by_cases hr : x.rank = rank
 · have hrb : (x.rank == rank) = true := by simp [hr]
   have hd := Lib.hid (show mat m rank = x.ref by rw [← HM.out, HDR.out, mat, if_pos hr])
   have HR := Lib.hid hr; clear hr
   go_wp2_with fail
   go_ret
   exact ⟨congrArg (fun x : Int => Ending.returned (.int .i64 x)) hd.out.symm, HB.out⟩
 · have hrb : (x.rank == rank) = false := by simp [hr]
   have hd := Lib.hid (show mat (m.drop (K + 1)) rank = mat m rank by rw [← HM.out, HDR.out, mat, if_neg hr])
   have HR := Lib.hid hr; clear hr
   go_wp2_with fail
   go_roundg (m.length - (K + 1))
   case measure => (have := HNk.out; omega)
   case rel => exact ⟨K + 1, by go_num, by omega, rfl, hd.out, rfl⟩
set_option maxRecDepth 100000 in
set_option maxHeartbeats 1000000 in
theorem rpower_any (n k : Nat) (w : World) (hn : n ≤ 12) (hk : k ≤ 3) :
 Calls Try.prog 109 #[.int .i64 n, .int .i64 k] w fun e w' => e = .returned (.int .i64 ((n ^ k : Nat) : Int)) ∧ w' = w := by
 have hb : ∀ i, i ≤ 3 → n ^ i ≤ 1728 := by
  intro i hi
  exact Nat.le_trans (Nat.pow_le_pow_left hn i) (Nat.le_trans (Nat.pow_le_pow_right (by decide) hi) (by decide))
 go_enter Try.func109, Try.ntmps109
 go_wp2_with fail
 go_loopg [5, 6] k (fun N s5 s6 wr => ∃ i : Nat, s5 = .int .i64 ((n ^ i : Nat) : Int) ∧ s6 = .int .i64 i ∧ i ≤ k ∧ N = k - i ∧ wr = w)
 case atStart => exact ⟨0, rfl, rfl, by omega, rfl, rfl⟩
 obtain ⟨i, rfl, rfl, hi, hN, rfl⟩ := hrel
 have HNk := Lib.hid hN; clear hN
 obtain ⟨q, hq⟩ : ∃ q, n ^ i = q := ⟨_, rfl⟩
 have hq1 : q ≤ 1728 := by rw [← hq]; exact hb i (by omega)
 have HQ := Lib.hid hq
 rw [hq]
 clear hq hb
 by_cases hlt : i < k
 case pos =>
  have hm : (q : Int) * (n : Int) = ((q * n : Nat) : Int) := by simp
  have hm2 : q * n ≤ 20736 := Nat.mul_le_mul hq1 hn
  obtain ⟨z, hz⟩ : ∃ z : Int, (q : Int) * (n : Int) = z := ⟨_, rfl⟩
  have HZ := Lib.hid (hm.symm.trans hz)
  have hw : IntKind.i64.wrap z = z := by (rw [IntWalk.i64_in]; omega)
  clear hm
  go_wp2_with fail
  go_roundg (k - (i + 1))
  case measure => (have := HNk.out; omega)
  case rel => exact ⟨i + 1, by rw [Nat.pow_succ, HQ.out, HZ.out], by go_num, by omega, rfl, rfl⟩
 obtain rfl : i = k := by omega
 go_wp2_with fail
 go_ret
 exact ⟨congrArg (fun x : Int => Ending.returned (.int .i64 x)) (by rw [HQ.out]), rfl⟩
set_option maxRecDepth 100000 in
set_option maxHeartbeats 2000000 in
theorem with_any (m : List Cell) (ar rank r : Int) (p : Option Addr) (cap : Nat) (w : World) (h : MxAt w p cap m) (hl : m.length ≤ 20000) :
 Calls Try.prog 108 #[.agg #[.int .i64 ar, .slice p m.length cap], .int .i64 rank, .int .i64 r] w (RetMF w p ar (put m rank r)) := by
 obtain ⟨i0, hi0, hz0, hz1, hz2⟩ := info_parts cell_info
 have H := Lib.hid h; clear h
 obtain ⟨s, hs⟩ : ∃ s, w.heap.size = s := ⟨_, rfl⟩
 obtain ⟨W2, hW2⟩ : ∃ W2, W2 = (w.alloc (.cells #[.int .i64 ar, .slice p m.length cap] 30)).alloc (.cells #[.int .i64 0, .slice none 0 0] 30) := ⟨_, rfl⟩
 have hB : Below w.heap.size w W2 := by rw [hW2]; go_grown
 have z2 : W2.heap.size = s + 2 := by rw [hW2, ← hs]; simp
 have y0 : W2.cell? ⟨s, 0, none⟩ = some (.int .i64 ar) := by rw [hW2, ← hs]; go_cell
 have y1 : W2.cell? ⟨s, 1, none⟩ = some (.slice p m.length cap) := by rw [hW2, ← hs]; go_cell
 have y1f : W2.frozen? ⟨s, 1, none⟩ = false := by rw [hW2, ← hs]; go_cell
 have r0 : W2.cell? ⟨s + 1, 0, none⟩ = some (.int .i64 0) := by rw [hW2, ← hs]; go_cell
 have r1 : W2.cell? ⟨s + 1, 1, none⟩ = some (.slice none 0 0) := by rw [hW2, ← hs]; go_cell
 have r0f : W2.frozen? ⟨s + 1, 0, none⟩ = false := by rw [hW2, ← hs]; go_cell
 have r1f : W2.frozen? ⟨s + 1, 1, none⟩ = false := by rw [hW2, ← hs]; go_cell
 have HB := Lib.hid hB; have HW2 := Lib.hid hW2; have HS := Lib.hid hs
 clear hB hW2 hs
 by_cases hr : r = 1
 · subst hr
   have HP := Lib.hid (show put m rank 1 = m by simp [put])
   go_enter Try.func108, Try.ntmps108
   go_wp2_with fail
   refine bodyPost_ret (by simp [results, Try.results108, go_sem]; try rfl) rfl ?_
   rw [HP.out]
   exact ⟨p, cap, rfl, H.out.up (by go_grown), by go_grown, .inl rfl⟩
 · have HP := Lib.hid (show put m rank r = m ++ [⟨rank, r⟩] by simp [put, hr])
   have hr1 : (r == 1) = false := by simp [hr]
   have hr2 : (r != 1) = true := by simp [hr]
   have HA2 := Lib.hid (H.out.up HB.out)
   have HOL : Hid ((W2.alloc (.cells #[] 76)).ownsRow (s + 2) 76 2 (.slice (some ⟨s + 2, 0, none⟩) 0 0) 0 (flat 2 cEnc [])) := Lib.hid (by
    have := World.ownsRow_lit (e := 76) (size := 2) (base := s + 2) W2 #[] 0 (by omega) (by decide) rfl
    rw [z2] at this; exact this)
   go_enter Try.func108, Try.ntmps108
   go_upto_region 2 with fail
   rw [← HW2.out]
   simp only [HS.out]
   go_wp2_with (first
    | (at_builtin; (refine wpList_app2 (enc := cEnc) rfl _ _ _ rfl (s + 2) 76 i0 _ 16 Try.underlying28 hi0 hz0 hz1 hz2 rfl (by omega) (.slice (some ⟨s + 2, 0, none⟩) 0 0) [] rfl HOL.out p m cap rfl HA2.out.p0 (HA2.out.at'.mono (by go_grown)) cEnc_one (by simp [maxLen]; omega) (by simp; omega) (by simp; omega) ?_); intro v2 w2 hown2 hgr2 hbl2 hat2; have HOW := Lib.hid hown2; have HBL2 := Lib.hid (show Below (s + 2) W2 w2 from (Below.alloc (Below.refl _ _) (by omega) _).trans hbl2); clear hown2 hgr2 hbl2 hat2; have y0 := oldcell HBL2.out y0 (by omega); have y1 := oldcell HBL2.out y1 (by omega); have y1f := oldfree HBL2.out y1f (by omega); have r0 := oldcell HBL2.out r0 (by omega); have r1 := oldcell HBL2.out r1 (by omega); have r0f := oldfree HBL2.out r0f (by omega); have r1f := oldfree HBL2.out r1f (by omega); have z2b := HBL2.out.size)
    | (at_builtin; (refine wpList_app2 (enc := cEnc) rfl _ _ _ rfl (s + 2) 76 i0 _ 16 Try.underlying28 hi0 hz0 hz1 hz2 rfl (by omega) v2 ([] ++ m) rfl (HOW.out.alloc _) (some ⟨w2.heap.size, 0, none⟩) [⟨rank, r⟩] 1 rfl (fun h => by cases h) (SlAt.cell1 (by go_cell) (by go_cell)) cEnc_one (by simp [maxLen]; omega) (by simp; omega) (by simp; omega) ?_); intro v3 w3 hown3 hgr3 hbl3 hat3; obtain ⟨q3, cq3, rfl, o1, o2, o3, o4⟩ := owns_val (by decide) hown3; have O3 := Lib.hid o3; have O4 := Lib.hid o4; have HOW3 := Lib.hid hown3; have HBL3 := Lib.hid (show Below (s + 2) w2 w3 from (Below.alloc (Below.refl _ _) (by omega) _).trans hbl3); clear o3 o4 hown3 hgr3 hbl3 hat3; have y0 := oldcell HBL3.out y0 (by omega); have y1 := oldcell HBL3.out y1 (by omega); have y1f := oldfree HBL3.out y1f (by omega); have r0 := oldcell HBL3.out r0 (by omega); have r1 := oldcell HBL3.out r1 (by omega); have r0f := oldfree HBL3.out r0f (by omega); have r1f := oldfree HBL3.out r1f (by omega); have z3b := HBL3.out.size))
   have hln : (m ++ [(⟨rank, r⟩ : Cell)]).length = m.length + 1 := by simp
   have hO4 := O4.out; have hOW := HOW3.out
   simp only [List.nil_append] at hO4 hOW o1
   rw [hln] at o1
   have hqr : ∀ ad, q3 = some ad → s + 2 ≤ ad.block ∧ ad.block < w3.heap.size := fun ad h => hOW.lt ad.block (by rw [h]; rfl)
   have KX : KeepX [s, s + 1] w3 (((w3.setCell ⟨s, 1, none⟩ (.slice q3 (m.length + 1) cq3)).setCell ⟨s + 1, 0, none⟩ (.int .i64 ar)).setCell ⟨s + 1, 1, none⟩ (.slice q3 (m.length + 1) cq3)) := (((KeepX.refl _ w3).setCell (by simp) _).setCell (by simp) _).setCell (by simp) _
   have e0 : (((w3.setCell ⟨s, 1, none⟩ (.slice q3 (m.length + 1) cq3)).setCell ⟨s + 1, 0, none⟩ (.int .i64 ar)).setCell ⟨s + 1, 1, none⟩ (.slice q3 (m.length + 1) cq3)).cell? ⟨s + 1, 0, none⟩ = some (.int .i64 ar) := by go_cell
   have e1 : (((w3.setCell ⟨s, 1, none⟩ (.slice q3 (m.length + 1) cq3)).setCell ⟨s + 1, 0, none⟩ (.int .i64 ar)).setCell ⟨s + 1, 1, none⟩ (.slice q3 (m.length + 1) cq3)).cell? ⟨s + 1, 1, none⟩ = some (.slice q3 (m.length + 1) cq3) := by go_cell
   obtain ⟨W9, hW9⟩ : ∃ W9, W9 = (((w3.setCell ⟨s, 1, none⟩ (.slice q3 (m.length + 1) cq3)).setCell ⟨s + 1, 0, none⟩ (.int .i64 ar)).setCell ⟨s + 1, 1, none⟩ (.slice q3 (m.length + 1) cq3)) := ⟨_, rfl⟩
   rw [← hW9] at KX e0 e1 ⊢
   clear hW9
   refine bodyPost_ret (by simp [results, Try.results108, go_sem, e0, e1]; try rfl) rfl ?_
   have hq8 : ∀ ad, q3 = some ad → ad.block ∉ [s, s + 1] := fun ad h hm => by have := (hqr ad h).1; simp at hm; omega
   rw [HP.out]
   refine ⟨q3, cq3, by rw [hln], ⟨by rw [hln]; exact o1, o2, O3.out, hO4.keep KX hq8, fun ad h => Nat.lt_of_lt_of_le (hqr ad h).2 KX.size⟩, ?_⟩
   have hB := ((HB.out.trans (HBL2.out.mono (by rw [HS.out]; omega))).trans (HBL3.out.mono (by rw [HS.out]; omega)))
   exact ⟨hB.trans (KX.below (by have := hB.size; exact this) (by rw [HS.out]; simp)), .inr fun ad h => Nat.le_trans (by rw [HS.out]; omega) (hqr ad h).1⟩
end Go.Proofs.Ytadilppdlbhjnaa
