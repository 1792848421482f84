/- Texts R9, R10 in one. -/
import Derived.Test.YtadilppdlbhjnaaGT
import Derived.Test.YtadilppdlbhjnaaGR
namespace Go.Proofs.Ytadilppdlbhjnaa
set_option linter.unusedSimpArgs false
set_option linter.unusedVariables false
open Go.RowKit Go.Maps

end Go.Proofs.Ytadilppdlbhjnaa

namespace Go.Proofs.Ytadilppdlbhjnaa
set_option linter.unusedSimpArgs false
set_option linter.unusedVariables false
open Go.RowKit Go.Maps

/-- the row after K rounds -/
def trRow (n : Int) (a : List Int) (K : Nat) : List Int := (a.take K).map (trF n) ++ List.replicate (a.length - K) 0
theorem trRow_at {n : Int} {a : List Int} {K : Nat} (h : K < a.length) : (trRow n a K)[K]? = some 0 := by
  unfold trRow
  rw [List.getElem?_append_right (by simp; omega), List.length_map, List.length_take, Nat.min_eq_left (by omega), Nat.sub_self, List.getElem?_replicate, if_pos (by omega)]
theorem trRow_set {n : Int} {a : List Int} {K : Nat} {t : Int} (h : a[K]? = some t) : (trRow n a K).set K (trF n t) = trRow n a (K + 1) := by
  obtain ⟨h1, h2⟩ := List.getElem?_eq_some_iff.1 h
  unfold trRow
  rw [List.set_append_right _ _ (by simp; omega), List.length_map, List.length_take, Nat.min_eq_left (by omega), Nat.sub_self, List.take_succ_eq_append_getElem h1, h2, List.map_append, List.append_assoc]
  congr 1
  obtain ⟨d, hd⟩ : ∃ d, a.length - K = d + 1 := ⟨a.length - K - 1, by omega⟩
  rw [hd, show a.length - (K + 1) = d by omega, List.replicate_succ]
  rfl
theorem trRow_all {n : Int} {a : List Int} : trRow n a a.length = a.map (trF n) := by unfold trRow; simp
theorem trRow_len {n : Int} {a : List Int} {K : Nat} (h : K ≤ a.length) : (trRow n a K).length = a.length := by unfold trRow; simp; omega

set_option maxRecDepth 100000 in
set_option maxHeartbeats 4000000 in
theorem reltrans_any (n : Nat) (a : List Int) (ar : Int) (pa : Option Addr) (ca : Nat) (w : World) (hA : SI w pa ca a) (hla : a.length ≤ 100) (hra : ∀ x ∈ a, 0 ≤ x ∧ x < 2000) (hn0 : 0 < n) (hn : n ≤ 12) :
    Calls Try.prog 74 #[.int .i64 n, .agg #[.int .i64 ar, .slice pa a.length ca]] w (RetRF w 2 (rTr n a)) := by
  obtain ⟨i0, hi0, hz0, hz1, hz2⟩ := info_parts int_info
  obtain ⟨s, hs0⟩ : ∃ s, w.heap.size = s := ⟨_, rfl⟩
  obtain ⟨W2, hW2⟩ : ∃ x, x = (w.alloc (.cells #[.int .i64 ar, .slice pa a.length ca] 44)).alloc (.cells #[.int .i64 0, .slice none 0 0] 44) := ⟨_, rfl⟩
  have hB2 : Below w.heap.size w W2 := by rw [hW2]; go_grown
  have z2 : W2.heap.size = s + 2 := by rw [hW2, ← hs0]; simp
  have y1 : W2.cell? ⟨s, 1, none⟩ = some (.slice pa a.length ca) := by rw [hW2, ← hs0]; go_cell
  have r0 : W2.cell? ⟨s + 1, 0, none⟩ = some (.int .i64 0) := by rw [hW2, ← hs0]; go_cell
  have r1 : W2.cell? ⟨s + 1, 1, none⟩ = some (.slice none 0 0) := by rw [hW2, ← hs0]; go_cell
  have r0f : W2.frozen? ⟨s + 1, 0, none⟩ = false := by rw [hW2, ← hs0]; go_cell
  have r1f : W2.frozen? ⟨s + 1, 1, none⟩ = false := by rw [hW2, ← hs0]; go_cell
  have HA := Lib.hid hA; have HW2 := Lib.hid hW2; have HS := Lib.hid hs0; have HB2 := Lib.hid hB2; have HRA := Lib.hid hra
  clear hA hW2 hs0 hB2 hra
  go_enter Try.func74, Try.ntmps74
  go_upto_region 1 with fail
  rw [← HW2.out]
  simp only [HS.out, Nat.add_assoc, Nat.reduceAdd]
  go_wp2_with fail
  have hr := run_make_full (P := Try.prog) W2 W2.heap.size 42 3 i0 (.int .i64 0) 1 Try.underlying42 hi0 hz0 hz1 .i64 .i64 a.length (by rw [hz2]; omega) (by simp [maxLen]; omega) (by simp)
  obtain ⟨w5, hrun, hown, hgr⟩ := hr
  rw [hrun]
  rw [z2] at hown ⊢
  have HO0 := Lib.hid (show OwnI w5 (s + 2) (s + 2) a.length a.length (trRow n a 0) from ⟨trRow_len (Nat.zero_le _), by
    unfold trRow
    rw [List.take_zero, List.map_nil, List.nil_append, Nat.sub_zero, flat1, List.map_replicate]
    have e := toList_madeCells_one (.int .i64 0) a.length
    rw [show (Value.int IntKind.i64 0).cells = #[.int .i64 0] from rfl, Nat.mul_one, e] at hown
    exact hown⟩)
  have hbl : Below W2.heap.size W2 w5 := Below.grown (Below.refl _ _) hgr (by simp) (fun k hk => by cases hk)
  have z5 : s + 2 < w5.heap.size := HO0.out.lt.2
  replace y1 := oldcell hbl y1 (by omega); replace r0 := oldcell hbl r0 (by omega); replace r1 := oldcell hbl r1 (by omega); replace r0f := oldfree hbl r0f (by omega); replace r1f := oldfree hbl r1f (by omega)
  have HB5 := Lib.hid (btr HB2.out hbl)
  clear hrun hown hgr hbl
  go_wp2_with fail
  go_loopg [15] a.length (fun M s15 wr => ∃ K : Nat, s15 = .int .i64 K ∧ K ≤ a.length ∧ M = a.length - K ∧ OwnI wr (s + 2) (s + 2) a.length a.length (trRow n a K) ∧ KeepX [s + 2] w5 wr)
  case atStart => exact ⟨0, rfl, by omega, rfl, HO0.out, KeepX.refl _ _⟩
  case round =>
    clear HO0
    obtain ⟨K, rfl, hK, hM, hO, hkx⟩ := hrel
    have HM := Lib.hid hM; have HO := Lib.hid hO
    have hsz := hkx.size
    clear hM hO
    have hbr : Below w.heap.size w wr := KeepX.below' HB5.out hkx HB5.out.size (by have := HS.out; simp; omega)
    by_cases hlt : K < a.length
    case pos =>
      have hlt0 : (0 : Int) ≤ (K : Int) := by omega
      have hlt1 : (K : Int) < (a.length : Int) := by omega
      obtain ⟨t, ht⟩ : ∃ t, a[K]? = some t := ⟨_, List.getElem?_eq_getElem hlt⟩
      obtain ⟨bx, off, rfl, hbx, h0⟩ := int_cell HA.out.at' ht
      replace h0 := oldcell hbr h0 hbx
      have hrt := HRA.out t (List.mem_of_getElem? ht)
      obtain ⟨a1, a2, a3, a4, a5, a6, a7⟩ := quo_rem (x := t) (n := n) hrt.1 (by omega) hn0
      obtain ⟨qq, hqq⟩ : ∃ z, t / (n : Int) = z := ⟨_, rfl⟩
      obtain ⟨rr, hrr⟩ : ∃ z, t % (n : Int) = z := ⟨_, rfl⟩
      rw [hqq] at a1 a4 a5; rw [hrr] at a2 a3 a6 a7
      have hm1 : 0 ≤ rr * (n : Int) := Int.mul_nonneg a6 (by omega)
      have hm2 : rr * (n : Int) ≤ 2000 * 12 := Int.mul_le_mul (by omega) (by omega) (by omega) (by omega)
      obtain ⟨mq, hmq⟩ : ∃ z, rr * (n : Int) = z := ⟨_, rfl⟩
      rw [hmq] at hm1 hm2
      have hwm : IntKind.i64.wrap (rr * (n : Int)) = mq := by rw [hmq, IntWalk.i64_in]; omega
      obtain ⟨v, hv⟩ : ∃ z, mq + qq = z := ⟨_, rfl⟩
      have hwv : IntKind.i64.wrap (mq + qq) = v := by rw [hv, IntWalk.i64_in]; omega
      have HV := Lib.hid (show trF n t = v by unfold trF; rw [hqq, hrr, hmq, hv])
      have HT := Lib.hid ht
      have hn00 : ¬ n = 0 := by omega
      have jr : wr.cell? ⟨s + 2, K, none⟩ = some (.int .i64 0) := HO.out.get (trRow_at hlt)
      have jf := HO.out.free K
      clear ht hbx hqq hrr hmq hv
      go_wp2_with fail
      go_region
      go_wp2_with fail
      have HO2 := Lib.hid (show OwnI (wr.setCell ⟨s + 2, K, none⟩ (.int .i64 v)) (s + 2) (s + 2) a.length a.length (trRow n a (K + 1)) by rw [← trRow_set HT.out, HV.out]; exact HO.out.put K v)
      have hd : Below (wr.setCell ⟨s + 2, K, none⟩ (.int .i64 v)).heap.size (wr.setCell ⟨s + 2, K, none⟩ (.int .i64 v)) (wr.setCell ⟨s + 2, K, none⟩ (.int .i64 v)).drew := Below.drew (Below.refl _ _)
      go_roundg (a.length - (K + 1))
      case measure => (have := HM.out; omega)
      case rel => exact ⟨K + 1, by go_num, by omega, rfl, HO2.out.up hd, (hkx.setCell (by simp) _).upB hd⟩
    case neg =>
      obtain rfl : K = a.length := by omega
      have hown : OwnR wr (s + 2) (.slice (some ⟨s + 2, 0, none⟩) (a.map (trF n)).length a.length) (a.map (trF n)) := by
        have h := HO.out.2
        rw [trRow_all] at h
        unfold OwnR
        rw [List.length_map]; exact h
      rw [List.length_map] at hown
      have HW := Lib.hid hown
      have s0 := hkx.cell r0 (by simp); have s1 := hkx.cell r1 (by simp); have s0f := hkx.free r0f (by omega) (by simp); have s1f := hkx.free r1f (by omega) (by simp)
      have hrow : rowOf (Value.slice (some ⟨s + 2, 0, none⟩) a.length a.length) = [s + 2] := rfl
      clear hown r0 r1 r0f r1f
      go_wp2_with (first | (go_at_call 113; refine (sorted_any (a.map (trF n)) 2 _ (s + 2) wr HW.out (by simp; omega)).mono ?_; rintro e w5 ⟨q, cq, rfl, hR, hqv, hkx2⟩; rw [hrow] at hkx2; have t0 := hkx2.cell s0 (by simp); have t1 := hkx2.cell s1 (by simp); have t0f := hkx2.free s0f (by omega) (by simp); have t1f := hkx2.free s1f (by omega) (by simp); clear s0 s1 s0f s1f; have HR := Lib.hid hR; have HQV := Lib.hid hqv; have HKX := Lib.hid hkx2; clear hR hqv hkx2))
      obtain ⟨W9, hW9⟩ : ∃ W9, W9 = (w5.setCell ⟨s + 1, 0, none⟩ (.int .i64 2)).setCell ⟨s + 1, 1, none⟩ (.slice q (nrm (a.map (trF n))).length cq) := ⟨_, rfl⟩
      rw [← hW9]
      have e0 : W9.cell? ⟨s + 1, 0, none⟩ = some (.int .i64 2) := by rw [hW9]; go_cell
      have e1 : W9.cell? ⟨s + 1, 1, none⟩ = some (.slice q (nrm (a.map (trF n))).length cq) := by rw [hW9]; go_cell
      have hqb : ∀ ad, q = some ad → ad.block = s + 2 := fun ad h => by have := HQV.out ad h; simp [Value.ownBlock] at this; exact this.symm
      have hR9 : SI W9 q cq (nrm (a.map (trF n))) := by rw [hW9]; exact (HR.out.set (fun ad h e => by have := hqb ad h; omega) _).set (fun ad h e => by have := hqb ad h; omega) _
      have hb9 : Below w.heap.size w W9 := by
        rw [hW9]
        exact Below.setCell (Below.setCell (KeepX.below' hbr HKX.out hbr.size (by have := HS.out; simp; omega)) (by have h := HS.out; (try dsimp only); omega) _) (by have h := HS.out; (try dsimp only); omega) _
      clear hW9
      refine bodyPost_ret (by simp [results, Try.results74, go_sem, e0, e1]; try rfl) rfl ?_
      exact ⟨q, cq, rfl, hR9, fun ad h => by have h1 := hqb ad h; have h2 := HS.out; omega, hb9⟩
end Go.Proofs.Ytadilppdlbhjnaa
