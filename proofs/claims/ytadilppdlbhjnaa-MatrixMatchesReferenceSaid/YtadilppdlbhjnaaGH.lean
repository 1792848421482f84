import Derived.Test.YtadilppdlbhjnaaMH
import Derived.Test.YtadilppdlbhjnaaW10
namespace Go.Proofs.Ytadilppdlbhjnaa
set_option linter.unusedSimpArgs false
set_option linter.unusedVariables false
open Go.RowKit
def hv (b : Int) : Nat → Int
 | 0 => b
 | k + 1 => hv b k / 2
def vbits (b : Int) (k : Nat) : List Bool := (List.range k).map fun i => (hv b i % 2 == 1)
theorem vbits_snoc (b : Int) (k : Nat) : vbits b (k + 1) = vbits b k ++ [(hv b k % 2 == 1)] := by simp [vbits, List.range_succ]
theorem vbits_len (b : Int) (k : Nat) : (vbits b k).length = k := by simp [vbits]
theorem hv_in {b : Int} (h0 : 0 ≤ b) (h1 : b < 256) (k : Nat) : 0 ≤ hv b k ∧ hv b k < 256 := by
 induction k with
 | zero => exact ⟨h0, h1⟩
 | succ k ih => simp only [hv]; omega
theorem quo_rem8 {x : Int} (h0 : 0 ≤ x) (h1 : x < 256) : x.tdiv 2 = x / 2 ∧ x.tmod 2 = x % 2 ∧ IntKind.u8.wrap (x / 2) = x / 2 ∧ IntKind.u8.wrap (x % 2) = x % 2 := by
 refine ⟨Int.tdiv_eq_ediv_of_nonneg h0, Int.tmod_eq_emod_of_nonneg h0, ?_, ?_⟩ <;> (simp only [IntKind.wrap, IntKind.bits, IntKind.signed]; simp; omega)
def RetV (w : World) (V : List Bool) (e : Ending) (w' : World) : Prop := ∃ q cq, e = .returned (.slice q V.length cq) ∧ BoolsAt w' q V ∧ (q = none → cq = 0) ∧ Below w.heap.size w w'
set_option maxRecDepth 100000 in
set_option maxHeartbeats 4000000 in
theorem values1_any (b : Int) (w : World) (h0 : 0 ≤ b) (h1 : b < 256) :
 Calls Try.prog 36 #[.int .u8 b] w (RetV w (vbits b 8)) := by
 obtain ⟨i0, hi0, hz0, hz1, hz2⟩ := info_parts bool_info
 obtain ⟨s, hs⟩ : ∃ s, w.heap.size = s := ⟨_, rfl⟩
 have HS := Lib.hid hs
 go_enter Try.func36, Try.ntmps36
 go_wp2_with fail
 go_loopg [0, 3, 4] 8 (fun N s0 s3 s4 wr => ∃ (K : Nat), s4 = .int .i64 K ∧ s0 = .int .u8 (hv b K) ∧ K ≤ 8 ∧ N = 8 - K ∧ wr.ownsRow s 4 1 s3 (vbits b K).length (flat 1 bEnc (vbits b K)) ∧ Below s w wr)
 case atStart => exact ⟨0, rfl, rfl, by omega, rfl, World.ownsRow_nil _ _ _ _, Below.refl _ _⟩
 obtain ⟨K, rfl, rfl, hK, hN, hown, hb⟩ := hrel
 have HNk := Lib.hid hN; have HO := Lib.hid hown; have HBR := Lib.hid hb
 obtain ⟨x, hx⟩ : ∃ x, hv b K = x := ⟨_, rfl⟩
 have hx0 : 0 ≤ x := by rw [← hx]; exact (hv_in h0 h1 K).1
 have hx1 : x < 256 := by rw [← hx]; exact (hv_in h0 h1 K).2
 obtain ⟨q1, q2, q3, q4⟩ := quo_rem8 hx0 hx1
 have hlen := vbits_len b K
 have HL := Lib.hid hlen
 have HX := Lib.hid hx
 rw [hx]
 have hsz := hb.size
 rw [hs] at hsz
 clear hN hown hx hs hlen
 by_cases hlt : K < 8
 case neg =>
  obtain rfl : K = 8 := by omega
  have hO := HO.out
  obtain ⟨q, c3, hvv, o1, o2, o3, o4⟩ := owns_val (by decide) hO
  subst hvv
  have O2 := Lib.hid o2; have O3 := Lib.hid o3; have O4 := Lib.hid o4
  clear hO o2 o3 o4 hb
  go_wp2_with fail
  refine bodyPost_ret (by simp [results, Try.results36, go_sem]; try rfl) rfl ?_
  exact ⟨q, c3, rfl, O4.out, O3.out, by rw [HS.out]; exact HBR.out⟩
 have hlt0 : (0 : Int) ≤ (K : Int) := by omega
 have hlt1 : (K : Int) < 8 := by omega
 clear hb
 go_wp2_with (first | (at_builtin; go_must (refine wpList_app2 (enc := bEnc) rfl _ _ _ rfl s 4 i0 _ 1 Try.underlying52 hi0 hz0 hz1 hz2 rfl (by omega) _ (vbits b K) rfl (HO.out.alloc _) (some ⟨wr.heap.size, 0, none⟩) [(x % 2 == 1)] 1 rfl (fun h => by cases h) (SlAt.bool1 (by go_cell)) bEnc_one (by have := HL.out; simp [maxLen]; omega) (by have := HL.out; simp; omega) (by simp; omega) ?_); intro v2 w3 hown2 hgr2 hbl2 hat2; obtain ⟨q2, cq2, rfl, -, -, -, -⟩ := owns_val (by decide) hown2; have HOW2 := Lib.hid hown2; have hbl3 : Below s wr w3 := (Below.alloc (Below.refl _ _) (by omega) _).trans hbl2; have HBL3 := Lib.hid hbl3; clear hown2 hgr2 hbl2 hat2 hbl3))
 go_roundg (8 - (K + 1))
 case measure => (have := HNk.out; omega)
 refine ⟨K + 1, by go_num, by rw [hv, HX.out], by omega, rfl, ?_, HBR.out.trans HBL3.out⟩
 rw [vbits_snoc, HX.out]
 have hq := HOW2.out
 rw [show (vbits b K ++ [(x % 2 == 1)]).length = (vbits b K).length + 1 by simp] at hq ⊢
 exact hq
end Go.Proofs.Ytadilppdlbhjnaa
namespace Go.Proofs.Ytadilppdlbhjnaa
set_option linter.unusedSimpArgs false
set_option linter.unusedVariables false
open Go.RowKit
set_option maxRecDepth 100000 in
theorem size_any (c : List Gate) (p : Option Addr) (cap b : Nat) (w : World) (h : w.cell? ⟨b, 0, none⟩ = some (.slice p c.length cap)) :
 Calls Try.prog 85 #[.pointer (some ⟨b, 0, none⟩)] w fun e w' => e = .returned (.int .i64 c.length) ∧ w' = w := by
 go_enter Try.func85, Try.ntmps85
 go_wp2_with fail
 refine bodyPost_ret (by simp [results, Try.results85, go_sem]; try rfl) rfl ?_
 exact ⟨rfl, rfl⟩
set_option maxRecDepth 100000 in
set_option maxHeartbeats 4000000 in
theorem mxvalid_any (c : List Gate) (m : List Cell) (ar : Int) (p pm : Option Addr) (cap cm N : Nat) (w : World) (hM : MxAt w pm cm m) (hm : MOk c N m) (hl : c.length ≤ 20000) (hN2 : N ≤ 100000) (ha1 : 1 ≤ ar) (ha3 : ar ≤ 3) :
 Calls Try.prog 28 #[.agg #[.slice p c.length cap], .agg #[.int .i64 ar, .slice pm m.length cm]] w (fun e w' => e = .returned (.bool true) ∧ Below w.heap.size w w') := by
 have hml := hm.len
 have HMO := Lib.hid hm
 clear hm
 obtain ⟨s, hs0⟩ : ∃ s, w.heap.size = s := ⟨_, rfl⟩
 obtain ⟨W2, hW2⟩ : ∃ W2, W2 = ((w.alloc (.cells #[.slice p c.length cap] 27)).alloc (.cells #[.int .i64 ar, .slice pm m.length cm] 30)) := ⟨_, rfl⟩
 have hbw : Below w.heap.size w W2 := by rw [hW2]; go_grown
 have zz : s + 2 ≤ W2.heap.size := by rw [hW2, ← hs0]; simp
 have hk : Cells W2 [(s, 0, .slice p c.length cap), (s + 1, 0, .int .i64 ar), (s + 1, 1, .slice pm m.length cm)] := by rw [hW2, ← hs0]; exact ⟨⟨by go_cell, by go_cell⟩, ⟨by go_cell, by go_cell⟩, ⟨by go_cell, by go_cell⟩, trivial⟩
 have HW2 := Lib.hid hW2; have HS := Lib.hid hs0
 clear hW2 hs0
 replace hM : MxAt W2 pm cm m := hM.up hbw
 go_enter Try.func28, Try.ntmps28
 go_upto_region 1 with fail
 rw [← HW2.out]
 simp only [HS.out, Nat.add_assoc, Nat.reduceAdd]
 obtain ⟨⟨y00, y00f⟩, ⟨y10, y10f⟩, ⟨y11, y11f⟩, -⟩ := id hk
 go_upto_region 2 with fail
 obtain ⟨w3, hw⟩ : ∃ zW, zW = (W2.alloc (.cells #[.slice p c.length cap] 87)) := ⟨_, rfl⟩
 rw [← hw]
 obtain ⟨b5, hb5⟩ : ∃ zW, zW = W2.heap.size := ⟨_, rfl⟩
 rw [← hb5]
 have hbl : Below W2.heap.size W2 w3 := by rw [hw]; go_grown
 have hge5 : s + 2 ≤ b5 := by rw [hb5]; omega
 have hgw5 : W2.heap.size ≤ b5 := by rw [hb5]; omega
 clear y00 y00f y10 y10f y11 y11f
 replace hk := hk.up hbl; replace hM := hM.up hbl; replace hbw := btr hbw hbl; replace zz := Nat.le_trans zz (Below.size hbl)
 have hs : Cells w3 [(b5, 0, .slice p c.length cap)] := ⟨⟨by rw [hw, hb5]; go_cell, by rw [hw, hb5]; go_cell⟩, trivial⟩
 clear hbl hw hb5
 have hk0 := hk; clear hk; have hk := (show Cells w3 [(b5, 0, .slice p c.length cap), (s, 0, .slice p c.length cap), (s + 1, 0, .int .i64 ar), (s + 1, 1, .slice pm m.length cm)] from ⟨hs.1, hk0⟩); clear hs hk0
 obtain ⟨⟨d50, d50f⟩, ⟨y00, y00f⟩, ⟨y10, y10f⟩, ⟨y11, y11f⟩, -⟩ := id hk
 go_wp2_with fail
 go_loopg [6, 14] m.length (fun N s6 s14 wr => ∃ K : Nat, ∃ V : Int, s14 = .int .i64 K ∧ s6 = .int .i64 V ∧ K ≤ m.length ∧ N = m.length - K ∧ (∀ x, m[K]? = some x → V < x.rank) ∧ Cells wr [(b5, 0, .slice p c.length cap), (s, 0, .slice p c.length cap), (s + 1, 0, .int .i64 ar), (s + 1, 1, .slice pm m.length cm)] ∧ MxAt wr pm cm m ∧ Below w.heap.size w wr ∧ s + 2 ≤ wr.heap.size)
 case atStart => exact ⟨0, -1, rfl, rfl, by omega, rfl, fun x hx => by have := (HMO.out.ranks x (List.mem_of_getElem? hx)).1; omega, hk, hM, hbw, zz⟩
 clear hk hM hbw zz
 obtain ⟨K, V, rfl, rfl, hK, hN, hV, hk, hM, hbw, zz⟩ := hrel
 have HN := Lib.hid hN; clear hN
 by_cases hlt : K < m.length
 case neg =>
  clear d50 d50f y00 y00f y10 y10f y11 y11f
  obtain ⟨⟨d50, d50f⟩, ⟨y00, y00f⟩, ⟨y10, y10f⟩, ⟨y11, y11f⟩, -⟩ := id hk
  go_wp2_with fail
  refine bodyPost_ret (by simp [results, Try.results28, go_sem]; try rfl) rfl ?_
  exact ⟨by simp [ha1, ha3], hbw⟩
 have hlt0 : (0 : Int) ≤ (K : Int) := by omega
 have hlt1 : (K : Int) < (m.length : Int) := by omega
 obtain ⟨y, hy⟩ : ∃ y, m[K]? = some y := ⟨_, List.getElem?_eq_getElem hlt⟩
 obtain ⟨by', oy, rfl, hby, jy0, jy1⟩ := cell_cells hM.at' hy
 have hVy := hV y hy
 obtain ⟨t1, t2, t3⟩ := HMO.out.refs y (List.mem_of_getElem? hy)
 have hnx : ∀ x, m[K + 1]? = some x → y.rank < x.rank := fun x hx => by
  obtain ⟨i1, e1⟩ := List.getElem?_eq_some_iff.1 hx
  obtain ⟨i0, e0⟩ := List.getElem?_eq_some_iff.1 hy
  rw [← e0, ← e1]; exact List.pairwise_iff_getElem.1 HMO.out.sorted K (K + 1) i0 i1 (by omega)
 have HNX := Lib.hid hnx
 obtain ⟨yr, hyr⟩ : ∃ z, y.rank = z := ⟨_, rfl⟩
 obtain ⟨yf, hyf⟩ : ∃ z, y.ref = z := ⟨_, rfl⟩
 rw [hyr] at jy0 hVy HNX; rw [hyf] at jy1 t1 t2 t3
 clear hyr hyf hy hV hnx
 have g1 : ¬ yr ≤ V := by omega
 have g2 : ¬ yf < 0 := by omega
 have g4 : yf.tdiv 2 = yf / 2 := Int.tdiv_eq_ediv_of_nonneg t1
 have g5 : IntKind.i64.wrap (yf / 2) = yf / 2 := by rw [IntWalk.i64_in]; omega
 have g6 : ¬ (c.length : Int) ≤ yf / 2 := by omega
 have g7 : (yf == 1) = false := by simp [t3]
 have g8 : decide (yr ≤ V) = false := by simp [g1]
 have g9 : decide (yf < 0) = false := by simp [g2]
 have g10 : decide ((c.length : Int) ≤ yf / 2) = false := by simp [g6]
 clear d50 d50f y00 y00f y10 y10f y11 y11f
 obtain ⟨⟨d50, d50f⟩, ⟨y00, y00f⟩, ⟨y10, y10f⟩, ⟨y11, y11f⟩, -⟩ := id hk
 go_upto_region 5 with fail
 obtain ⟨wy, hw⟩ : ∃ zW, zW = wr.alloc (.cells #[.int .i64 yr, .int .i64 yf] 76) := ⟨_, rfl⟩
 obtain ⟨b8, hb8⟩ : ∃ zW, zW = wr.heap.size := ⟨_, rfl⟩
 rw [← hw, ← hb8]
 have hbl : Below wr.heap.size wr wy := by rw [hw]; go_grown
 have hge8 : s + 2 ≤ b8 := by rw [hb8]; exact zz
 have hgw8 : wr.heap.size ≤ b8 := by rw [hb8]; exact Nat.le_refl _
 clear d50 d50f y00 y00f y10 y10f y11 y11f
 replace jy0 := zD hbl jy0
 replace jy1 := zD hbl jy1
 replace hk := hk.up hbl; replace hM := hM.up hbl; replace hbw := btr hbw hbl; replace zz := Nat.le_trans zz (Below.size hbl)
 have hs : Cells wy [(b8, 0, .int .i64 yr), (b8, 1, .int .i64 yf)] := ⟨⟨by rw [hw, hb8]; go_cell, by rw [hw, hb8]; go_cell⟩, ⟨by rw [hw, hb8]; go_cell, by rw [hw, hb8]; go_cell⟩, trivial⟩
 clear hbl hw hb8
 clear jy0 jy1
 refine wp_region_seqE (fun x => Below wy.heap.size wy x) (.one 0 1 (.one 1 0 (.one 2 1 (.one 3 1 (.one 4 1 (.one 5 1 (.one 6 0 (.one 7 1 (.one 8 1 (.one 9 1 (.one 10 1 (.one 11 0 (.one 12 1 (.one 13 1 (.one 14 1 (.one 15 1 (.one 16 0 (.one 17 1 (.one 18 0 (.one 19 1 (.one 20 1 .nil))))))))))))))))))))) (by kernel_rfl) (by kernel_rfl) (by kernel_rfl) (Below.drew (Below.refl _ _)) ?_
 iterate 18 ((first | (refine seqE_free (v := ?_) rfl (by rfl) ?_ ?_; rotate_left; (focus (intro w; go_simp; try with_reducible rfl))) | (refine seqE_pure (v := ?_) rfl (by rfl) ?_ ?_; rotate_left; (focus (intro w hS; obtain ⟨⟨d80, -⟩, ⟨d81, -⟩, -⟩ := hs.up hS; go_simp; try with_reducible rfl)))); (try simp only [Act.put, zA, zB, zC]))
 refine seqE_still (v := .int .i64 c.length) (f := ?_) (args := ?_) rfl (by rfl) ?_ ?_ ?_
 rotate_left 2
 focus (intro w hS; go_simp; first | done | with_reducible rfl | (refine ⟨?_, ?_⟩ <;> with_reducible rfl))
 focus (intro w hS; obtain ⟨⟨q0, -⟩, -⟩ := hk.up hS; exact size_any c p cap _ _ q0)
 (try simp only [Act.put, zA, zB, zC])
 iterate 2 (refine seqE_free (v := ?_) rfl (by rfl) ?_ ?_; rotate_left; (focus (intro w; go_simp; try with_reducible rfl)); (try simp only [Act.put, zA, zB, zC]))
 refine seqE_nil ?_
 intro wz hS
 replace hs := hs.up hS; replace hk := hk.up hS; replace hM := hM.up hS; replace hbw := btr hbw hS; replace zz := Nat.le_trans zz (Below.size hS); clear hS
 obtain ⟨⟨d80, d80f⟩, ⟨d81, d81f⟩, -⟩ := id hs
 obtain ⟨⟨d50, d50f⟩, ⟨y00, y00f⟩, ⟨y10, y10f⟩, ⟨y11, y11f⟩, -⟩ := id hk
 go_wp2_with fail
 go_roundg (m.length - (K + 1))
 case measure => (have := HN.out; omega)
 clear d80 d80f d81 d81f d50 d50f y00 y00f y10 y10f y11 y11f
 case rel => exact ⟨K + 1, yr, by go_num, by go_num, by omega, rfl, HNX.out, hk, hM, hbw, zz⟩
end Go.Proofs.Ytadilppdlbhjnaa
namespace Go.Proofs.Ytadilppdlbhjnaa
set_option linter.unusedSimpArgs false
set_option linter.unusedVariables false
open Go.RowKit
end Go.Proofs.Ytadilppdlbhjnaa
