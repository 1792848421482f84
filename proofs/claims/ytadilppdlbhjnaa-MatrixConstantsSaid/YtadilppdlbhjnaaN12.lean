/- Walk of law 15: made. -/
import Derived.Test.YtadilppdlbhjnaaN11
import Derived.Test.YtadilppdlbhjnaaGE
namespace Go.Proofs.Ytadilppdlbhjnaa
set_option linter.unusedSimpArgs false
set_option linter.unusedVariables false
open Go.RowKit

def RetMade (w : World) (c : List Gate) (n : Nat) (m : List Cell) (e : Ending) (w' : World) : Prop :=
  ∃ p cap q cm, e = .returned (.tuple #[.agg #[.slice p c.length cap], .int .i64 n, .agg #[.int .i64 2, .slice q m.length cm]]) ∧ CAt w' p cap c ∧ MxAt w' q cm m ∧ Below w.heap.size w w'
theorem RetMF.eq {w w' : World} {p : Option Addr} {ar : Int} {m m' : List Cell} {e : Ending} (h : RetMF w p ar m e w') (he : m = m') : RetMF w p ar m' e w' := he ▸ h
/-- A list of numbers; a store into a variable that holds a slice leaves it. -/
def LAt (w : World) (p : Option Addr) (l : List Int) : Prop := IntsAt w p l
theorem LAt.up {w w' : World} {p : Option Addr} {l : List Int} (h : LAt w p l) (hB : Below w.heap.size w w') : LAt w' p l := SlAt.mono h hB
theorem LAt.box {w : World} {p q : Option Addr} {l : List Int} {b n c : Nat} (h : LAt w p l) (hc : w.cell? ⟨b, 0, none⟩ = some (.slice q n c)) (v : Value) : LAt (w.setCell ⟨b, 0, none⟩ v) p l := SlAt.setBox h hc (fun _ _ e => by cases e) v
theorem gates_off {w : World} {p : Option Addr} {cap b : Nat} {c : List Gate} (hC : CAt w p cap c) (hc : 0 < c.length) (hn : ∀ o, w.cell? ⟨b, o + 2, none⟩ = none) : ∀ ad, p = some ad → b ≠ ad.block := by
  intro ad h e
  rcases hC.at' with h0 | ⟨b', off, hp, hb, hg⟩
  · rw [h0] at hc; cases hc
  · rw [hp] at h; cases h; dsimp only at e; subst e
    have h2 := hg 0 c[0] (List.getElem?_eq_getElem hc) 2 (by omega)
    rw [Nat.zero_mul, Nat.add_zero, hn] at h2; cases h2
theorem short_cell {w : World} {b : Nat} {cs : Array Value} {t : TypeId} (h : w.heap[b]? = some (.cells cs t)) (hc : cs.size = 2) (o : Nat) : w.cell? ⟨b, o + 2, none⟩ = none := by simp [World.cell?, h, hc]
theorem k_facts {k : Nat} (hk : k < 256) : ∃ n : Nat, k % 4 + 1 = n ∧ 0 < n ∧ n ≤ 4 ∧ IntKind.i64.wrap (k : Int) = k ∧ (k : Int).tmod 4 = (n : Int) - 1 ∧ IntKind.i64.wrap ((n : Int) - 1) = (n : Int) - 1 ∧ (n : Int) - 1 + 1 = n ∧ IntKind.i64.wrap (n : Int) = n := by
  refine ⟨k % 4 + 1, rfl, by omega, by omega, by rw [IntWalk.i64_in]; omega, ?_, by rw [IntWalk.i64_in]; omega, by omega, by rw [IntWalk.i64_in]; omega⟩
  rw [Int.tmod_eq_emod_of_nonneg (by omega)]; omega
theorem short_alloc {w : World} {cs : Array Value} {t : TypeId} {b : Nat} (hb : w.heap.size = b) (hc : cs.size = 2) (o : Nat) : (w.alloc (.cells cs t)).cell? ⟨b, o + 2, none⟩ = none :=
  short_cell (cs := cs) (t := t) (by subst hb; show (w.heap.push _)[w.heap.size]? = _; simp) hc o

set_option maxRecDepth 100000 in
set_option maxHeartbeats 4000000 in
theorem made15_any (k : Nat) (st : List Step) (vs : List Nat) (C : List Gate) (refs : List Int) (ps pv : Option Addr) (cs cv : Nat) (w : World) (hk : k < 256) (hS : StepsAt w ps st) (hsl : st.length ≤ 20000) (hs8 : ∀ s ∈ st, s.k < 256 ∧ s.a < 256 ∧ s.b < 256) (hV : UbAt w pv vs) (hvl : vs.length ≤ maxLen) (hv8 : ∀ v ∈ vs, v < 256) (hcb : cbuild st = (C, refs)) (hc0 : 0 < C.length) (hrl : refs.length ≤ 20000) (hrr : ∀ r ∈ refs, r ≤ 9223372036854775807) :
    Calls Try.prog 17 #[.int .u8 k, .slice ps st.length cs, .slice pv vs.length cv] w (RetMade w C (k % 4 + 1) (mMade refs vs ((k % 4 + 1) ^ 2))) := by
 obtain ⟨n, hn, hn0, hn4, f1, f2, f3, f4, f5⟩ := k_facts hk
 rw [hn]
 obtain ⟨m, hm⟩ : ∃ m, mMade refs vs (n ^ 2) = m := ⟨_, rfl⟩
 have HM := Lib.hid hm; rw [hm]
 have HSS := Lib.hid hS; have H8 := Lib.hid hs8; have HV := Lib.hid hV; have HV8 := Lib.hid hv8; have HCB := Lib.hid hcb; have HRR := Lib.hid hrr
 clear hS hs8 hV hv8 hcb hrr hm
 obtain ⟨s, hs0⟩ : ∃ s, w.heap.size = s := ⟨_, rfl⟩
 obtain ⟨W2, hW2⟩ : ∃ W2, W2 = ((w.alloc (.cells #[.slice none 0 0] 27)).alloc (.cells #[.int .i64 0, .slice none 0 0] 30)) := ⟨_, rfl⟩
 have hbw : Below w.heap.size w W2 := by rw [hW2]; go_grown
 have zz : s + 2 ≤ W2.heap.size := by rw [hW2, ← hs0]; simp
 have hs : Cells W2 [(s, 0, .slice none 0 0), (s + 1, 0, .int .i64 0), (s + 1, 1, .slice none 0 0)] := by rw [hW2, ← hs0]; exact ⟨⟨by go_cell, by go_cell⟩, ⟨by go_cell, by go_cell⟩, ⟨by go_cell, by go_cell⟩, trivial⟩
 have HW2 := Lib.hid hW2; have HS := Lib.hid hs0
 clear hW2 hs0
 have n1 : ∀ o, W2.cell? ⟨s + 1, o + 2, none⟩ = none := by rw [HW2.out, ← HS.out]; exact short_alloc (by simp) rfl
 go_enter Try.func17, Try.ntmps17
 go_upto_region 1 with fail
 rw [← HW2.out]
 simp only [HS.out, Nat.add_assoc, Nat.reduceAdd]
 obtain ⟨⟨y00, y00f⟩, ⟨y10, y10f⟩, ⟨y11, y11f⟩, -⟩ := id hs
 go_upto_region 2 with (first | (go_at_call 33; refine (rbuild_any st ps cs _ hsl H8.out (HSS.out.mono hbw)).mono ?_; rintro e w2 ⟨pc, cc, pr, cr, he, o1, o2, o3, o4, r1, r2, r3, r4, hbl⟩; rw [HCB.out] at he o1 o4 r1 r4; subst he; dsimp only at o1 o4 r1 r4; have hC : CAt w2 pc cc C := ⟨o1, o2, o3, o4⟩; clear o1 o2 o3 o4; have oC1 := gates_off hC hc0 (fun o => (hbl.cell (p := ⟨s + 1, o + 2, none⟩) (by show s + 1 < _; omega)).trans (n1 o)); replace hs := hs.up hbl; replace hbw := btr hbw hbl; replace zz := Nat.le_trans zz (Below.size hbl); clear hbl; clear y00 y00f y10 y10f y11 y11f; obtain ⟨⟨y00, y00f⟩, ⟨y10, y10f⟩, ⟨y11, y11f⟩, -⟩ := id hs))
 clear n1
 have hL : LAt w2 pr refs := r4; clear r4
 have ltC := hC.lt hc0
 obtain ⟨w3, hw⟩ : ∃ zW, zW = (w2.alloc (.cells #[.slice pc C.length cc] 27)) := ⟨_, rfl⟩
 rw [← hw]
 obtain ⟨b9, hb9⟩ : ∃ zW, zW = w2.heap.size := ⟨_, rfl⟩
 rw [← hb9]
 have hbl : Below w2.heap.size w2 w3 := by rw [hw]; go_grown
 have hge9 : s + 2 ≤ b9 := by rw [hb9]; omega
 have hgw9 : w2.heap.size ≤ b9 := by rw [hb9]; omega
 clear y00 y00f y10 y10f y11 y11f
 replace hs := hs.up hbl; replace hC := hC.mono hbl; replace hL := hL.up hbl; replace hbw := btr hbw hbl; replace zz := Nat.le_trans zz (Below.size hbl)
 replace hs : Cells w3 [(b9, 0, .slice pc C.length cc), (s, 0, .slice none 0 0), (s + 1, 0, .int .i64 0), (s + 1, 1, .slice none 0 0)] := ⟨⟨by rw [hw, hb9]; go_cell, by rw [hw, hb9]; go_cell⟩, hs⟩
 clear hbl hw hb9
 obtain ⟨⟨d90, d90f⟩, ⟨y00, y00f⟩, ⟨y10, y10f⟩, ⟨y11, y11f⟩, -⟩ := id hs
 go_upto_region 3 with fail
 clear d90 d90f y00 y00f y10 y10f y11 y11f
 refine wp_region_seqE (fun x => Below w3.heap.size w3 x) (.one 0 0 (.one 1 1 (.one 2 1 (.one 3 1 (.one 4 1 (.alt 5 2 (.alt 6 3 (.one 7 1 (.alt 8 3 .nil .stop)) .stop) .stop)))))) (by kernel_rfl) (by kernel_rfl) (by kernel_rfl) (Below.drew (Below.refl _ _)) ?_
 iterate 5 (first | (refine seqE_free (v := ?_) rfl (by rfl) ?_ ?_; rotate_left; (focus (intro w; go_simp; try with_reducible rfl)); (try simp only [Act.put, List.setIfInBounds_toArray, List.set_cons_zero, List.set_cons_succ])) | (refine seqE_pure (v := ?_) rfl (by rfl) ?_ ?_; rotate_left; (focus (intro w hS; obtain ⟨⟨d90, -⟩, -⟩ := hs.up hS; go_simp; try with_reducible rfl)); (try simp only [Act.put, List.setIfInBounds_toArray, List.set_cons_zero, List.set_cons_succ])))
 refine seqE_call (f := ?_) (args := ?_) rfl (by rfl) ?_ ?_ seqE_stop
 rotate_left 2
 focus (intro w hS; go_simp; first | done | with_reducible rfl | (refine ⟨?_, ?_⟩ <;> with_reducible rfl))
 intro w1 hS
 refine ((made14_any refs vs n 2 pr pv cr cv w1 (LAt.up hL hS) hrl HRR.out (HV.out.mono (btr hbw hS)) hvl HV8.out hn0 (by omega) (by omega) (by omega)).mono fun e w' h => RetMF.eq h HM.out).mono ?_
 rintro e v1 ⟨pm, cm, rfl, hM, hbl, frM⟩
 refine ⟨_, rfl, (fun x => Below v1.heap.size v1 x), Below.refl _ _, fun x hx => btr (btr hS hbl) hx, ?_⟩
 have hXw := Nat.le_trans zz hS.size
 have hX := btr hS hbl
 replace hs := hs.up hX; replace hC := hC.mono hX; replace hL := hL.up hX; replace hbw := btr hbw hX; replace zz := Nat.le_trans zz (Below.size hX)
 have oM := Off.fresh frM (Off.none _ _) hXw
 clear frM hL
 clear hX hS hbl hXw
 (try simp only [Act.put, List.setIfInBounds_toArray, List.set_cons_zero, List.set_cons_succ])
 refine seqE_storeB rfl (by rfl) ?_ seqE_stop
 intro w2 hS
 replace hs := hs.up hS; replace hC := hC.mono hS; replace hM := hM.up hS; replace hbw := btr hbw hS; replace zz := Nat.le_trans zz (Below.size hS)
 obtain ⟨⟨d90, d90f⟩, ⟨y00, y00f⟩, ⟨y10, y10f⟩, ⟨y11, y11f⟩, -⟩ := id hs
 refine ⟨(w2.setCell ⟨s, 0, none⟩ (.slice pc C.length cc)), (by go_simp; try with_reducible rfl), (fun x => Below ((w2.setCell ⟨s, 0, none⟩ (.slice pc C.length cc))).heap.size ((w2.setCell ⟨s, 0, none⟩ (.slice pc C.length cc))) x), Below.refl _ _, ?_⟩
 obtain ⟨v2, hw⟩ : ∃ zW, zW = (w2.setCell ⟨s, 0, none⟩ (.slice pc C.length cc)) := ⟨_, rfl⟩
 rw [← hw]
 replace hs : Cells v2 [(b9, 0, .slice pc C.length cc), (s, 0, .slice pc C.length cc), (s + 1, 0, .int .i64 0), (s + 1, 1, .slice none 0 0)] := by rw [hw]; exact ⟨⟨by go_cell, (fz d90f)⟩, ⟨by go_cell, (fz y00f)⟩, ⟨by go_cell, (fz y10f)⟩, ⟨by go_cell, (fz y11f)⟩, trivial⟩
 replace hC : CAt v2 pc cc C := by rw [hw]; exact hC.box y00 _
 replace hM : MxAt v2 pm cm m := by rw [hw]; exact hM.box y00 _
 replace hbw : Below w.heap.size w v2 := by rw [hw]; exact (Below.setCell hbw (by have h := HS.out; (try dsimp only); omega) _)
 replace zz : s + 2 ≤ v2.heap.size := by rw [hw]; simpa using zz
 clear hw
 clear d90 d90f y00 y00f y10 y10f y11 y11f
 clear hS
 (try simp only [Act.put, List.setIfInBounds_toArray, List.set_cons_zero, List.set_cons_succ])
 iterate 1 (refine seqE_free (v := ?_) rfl (by rfl) ?_ ?_; rotate_left; (focus (intro w; go_simp; try with_reducible rfl)); (try simp only [Act.put, List.setIfInBounds_toArray, List.set_cons_zero, List.set_cons_succ]))
 refine seqE_storeB rfl (by rfl) ?_ seqE_stop
 intro w3 hS
 replace hs := hs.up hS; replace hC := hC.mono hS; replace hM := hM.up hS; replace hbw := btr hbw hS; replace zz := Nat.le_trans zz (Below.size hS)
 obtain ⟨⟨d90, d90f⟩, ⟨y00, y00f⟩, ⟨y10, y10f⟩, ⟨y11, y11f⟩, -⟩ := id hs
 refine ⟨((w3.setCell ⟨s + 1, 0, none⟩ (.int .i64 2)).setCell ⟨s + 1, 1, none⟩ (.slice pm m.length cm)), (by go_simp; try with_reducible rfl), (fun x => Below (((w3.setCell ⟨s + 1, 0, none⟩ (.int .i64 2)).setCell ⟨s + 1, 1, none⟩ (.slice pm m.length cm))).heap.size (((w3.setCell ⟨s + 1, 0, none⟩ (.int .i64 2)).setCell ⟨s + 1, 1, none⟩ (.slice pm m.length cm))) x), Below.refl _ _, ?_⟩
 obtain ⟨v3, hw⟩ : ∃ zW, zW = ((w3.setCell ⟨s + 1, 0, none⟩ (.int .i64 2)).setCell ⟨s + 1, 1, none⟩ (.slice pm m.length cm)) := ⟨_, rfl⟩
 rw [← hw]
 replace hs : Cells v3 [(b9, 0, .slice pc C.length cc), (s, 0, .slice pc C.length cc), (s + 1, 0, .int .i64 2), (s + 1, 1, .slice pm m.length cm)] := by rw [hw]; exact ⟨⟨by go_cell, (fz (fz d90f))⟩, ⟨by go_cell, (fz (fz y00f))⟩, ⟨by go_cell, (fz (fz y10f))⟩, ⟨by go_cell, (fz (fz y11f))⟩, trivial⟩
 replace hC : CAt v3 pc cc C := by rw [hw]; exact ((hC.set (oC1) _).set (oC1) _)
 replace hM : MxAt v3 pm cm m := by rw [hw]; exact ((hM.set (oM.ne (by omega) (by omega)) _).set (oM.ne (by omega) (by omega)) _)
 replace hbw : Below w.heap.size w v3 := by rw [hw]; exact (Below.setCell (Below.setCell hbw (by have h := HS.out; (try dsimp only); omega) _) (by have h := HS.out; (try dsimp only); omega) _)
 replace zz : s + 2 ≤ v3.heap.size := by rw [hw]; simpa using zz
 clear hw
 clear d90 d90f y00 y00f y10 y10f y11 y11f
 clear hS
 (try simp only [Act.put, List.setIfInBounds_toArray, List.set_cons_zero, List.set_cons_succ])
 refine seqE_nil ?_
 intro wz hS
 replace hs := hs.up hS; replace hC := hC.mono hS; replace hM := hM.up hS; replace hbw := btr hbw hS; replace zz := Nat.le_trans zz (Below.size hS); clear hS
 obtain ⟨⟨d90, d90f⟩, ⟨y00, y00f⟩, ⟨y10, y10f⟩, ⟨y11, y11f⟩, -⟩ := id hs
 go_wp2_with fail
 refine bodyPost_ret (by simp [results, Try.results17, go_sem, y00, y10, y11]; try rfl) rfl ?_
 exact ⟨_, _, _, _, rfl, hC, hM, hbw⟩
end Go.Proofs.Ytadilppdlbhjnaa
