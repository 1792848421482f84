import Derived.Test.YtadilppdlbhjnaaLR
import Derived.Test.YtadilppdlbhjnaaGN
namespace Go.Proofs.Ytadilppdlbhjnaa
set_option linter.unusedSimpArgs false
set_option linter.unusedVariables false
open Go.RowKit
section
variable {c d : List Gate} {a b m : List Cell} {n : Nat} {p pa pb : Option Addr} {cap ca cb : Nat} {w : World} {r ar1 ar2 : Int}
theorem union_is (hC : CAt w p cap c) (hA : MxAt w pa ca a) (hD : MxAt w pb cb b) (ra : ∀ x ∈ a, x.ref ≤ 100000) (rb : ∀ x ∈ b, x.ref ≤ 100000) (hl : c.length + (a.length + b.length) ≤ 20000) (hc0 : 0 < c.length) (e : mUnion c a b = (d, m)) :
 Calls Try.prog 42 #[.agg #[.slice p c.length cap], .agg #[.int .i64 ar1, .slice pa a.length ca], .agg #[.int .i64 ar2, .slice pb b.length cb]] w (RetCM w d ar1 m) := (union_any c a b ar1 ar2 p pa pb cap ca cb w hC hA hD ra rb hl hc0).mono fun _ _ h => h.cm.eq e
theorem inter_is (hC : CAt w p cap c) (hA : MxAt w pa ca a) (hD : MxAt w pb cb b) (ra : ∀ x ∈ a, x.ref ≤ 100000) (rb : ∀ x ∈ b, x.ref ≤ 100000) (hl : c.length + (a.length + b.length) ≤ 20000) (hc0 : 0 < c.length) (e : mInter c a b = (d, m)) :
 Calls Try.prog 50 #[.agg #[.slice p c.length cap], .agg #[.int .i64 ar1, .slice pa a.length ca], .agg #[.int .i64 ar2, .slice pb b.length cb]] w (RetCM w d ar1 m) := (inter_any c a b ar1 ar2 p pa pb cap ca cb w hC hA hD ra rb hl hc0).mono fun _ _ h => h.cm.eq e
theorem lone_is {N : Int} (hC : CAt w p cap c) (hA : MxAt w pa ca a) (hg : Good c) (hl : c.length + 3 * a.length + 2 ≤ 20000) (ha : MOk c N a) (e : mLone c a = (d, r)) :
 Calls Try.prog 39 #[.agg #[.slice p c.length cap], .agg #[.int .i64 ar1, .slice pa a.length ca]] w (RetC w d r) := (lone_any c a ar1 N p pa cap ca w hC hA hg hl ha).mono fun _ _ h => h.eq e
theorem some_is {N : Int} (hC : CAt w p cap c) (hA : MxAt w pa ca a) (hg : Good c) (hl : c.length + a.length + 2 ≤ 20000) (ha : MOk c N a) (e : mSome c a = (d, r)) :
 Calls Try.prog 38 #[.agg #[.slice p c.length cap], .agg #[.int .i64 ar1, .slice pa a.length ca]] w (RetC w d r) := (some_any c a ar1 N p pa cap ca w hC hA hg hl ha).mono fun _ _ h => h.eq e
theorem in_is {N : Int} (hC : CAt w p cap c) (hA : MxAt w pa ca a) (hD : MxAt w pb cb b) (hg : Good c) (hl : c.length + 2 * a.length + 2 ≤ 20000) (ha : MOk c N a) (hb : MOk c N b) (hN : N ≤ 100000) (hbl : b.length ≤ 100000) (e : mIn c a b = (d, r)) :
 Calls Try.prog 37 #[.agg #[.slice p c.length cap], .agg #[.int .i64 ar1, .slice pa a.length ca], .agg #[.int .i64 ar2, .slice pb b.length cb]] w (RetC w d r) := (in_any c a b ar1 ar2 N p pa pb cap ca cb w hC hA hD hg hl ha hb hN hbl).mono fun _ _ h => h.eq e
end
theorem MxAt.lit1 (a : Cell) (w : World) (t : TypeId) : MxAt (w.alloc (.cells #[.int .i64 a.rank, .int .i64 a.ref] t)) (some ⟨w.heap.size, 0, none⟩) 1 [a] :=
 ⟨by simp, by simp [maxLen], (fun h => by cases h), SlAt.cell1 (by go_cell) (by go_cell), fun ad h => by cases h; simp⟩
theorem MxAt.lit3 (a b c : Cell) (w : World) (t : TypeId) : MxAt (w.alloc (.cells #[.int .i64 a.rank, .int .i64 a.ref, .int .i64 b.rank, .int .i64 b.ref, .int .i64 c.rank, .int .i64 c.ref] t)) (some ⟨w.heap.size, 0, none⟩) 3 [a, b, c] :=
  ⟨by simp, by simp [maxLen], (fun h => by cases h), .inr ⟨_, _, rfl, by simp, fun i x hi j hj => by
    match i, hi with
    | 0, hi => obtain rfl : a = x := by simpa using hi
               match j, hj with
               | 0, _ => show World.cell? _ _ = some (.int .i64 a.rank); go_cell
               | 1, _ => show World.cell? _ _ = some (.int .i64 a.ref); go_cell
    | 1, hi => obtain rfl : b = x := by simpa using hi
               match j, hj with
               | 0, _ => show World.cell? _ _ = some (.int .i64 b.rank); go_cell
               | 1, _ => show World.cell? _ _ = some (.int .i64 b.ref); go_cell
    | 2, hi => obtain rfl : c = x := by simpa using hi
               match j, hj with
               | 0, _ => show World.cell? _ _ = some (.int .i64 c.rank); go_cell
               | 1, _ => show World.cell? _ _ = some (.int .i64 c.ref); go_cell
    | i + 3, hi => simp at hi⟩, fun ad h => by cases h; simp⟩
theorem SI.lit1 (a : Int) (w : World) (t : TypeId) : SI (w.alloc (.cells #[.int .i64 a] t)) (some ⟨w.heap.size, 0, none⟩) 1 [a] :=
 ⟨by simp, by simp [maxLen], (fun h => by cases h), SlAt.int1 (by go_cell), fun ad h => by cases h; simp⟩
def gE : List Gate := [⟨0, 0, 0⟩, ⟨1, 1, 0⟩]
def gA : List Cell := [⟨0, 0⟩, ⟨2, 0⟩]
def gB : List Cell := [⟨0, 2⟩, ⟨1, 3⟩]
def gU : List Cell := [⟨0, 0⟩, ⟨1, 3⟩, ⟨2, 0⟩]
def gI : List Cell := [⟨0, 2⟩]
def gP : List Cell := [⟨1, 0⟩]
def gQ : List Cell := [⟨2, 0⟩]
def gJ : List Cell := [⟨0, 0⟩]
theorem g_in : cinput cnew 1 = (gE, 2) := by decide +kernel
theorem g_good : Good gE := (show (cinput cnew 1).1 = gE by rw [g_in]) ▸ (keeps_input (v := 1) good_new (by decide) (by decide) (by decide)).good
theorem g_constA : mConst [0, 2] = gA := by decide
theorem g_constP : mConst [1] = gP := by decide
theorem g_constQ : mConst [2] = gQ := by decide
theorem g_constJ : mConst [0] = gJ := by decide
theorem g_union : mUnion gE gA gB = (gE, gU) := by decide +kernel
theorem g_inter : mInter gE gA gB = (gE, gI) := by decide +kernel
theorem g_loneB : mLone gE gB = (gE, 0) := by decide +kernel
theorem g_loneA : mLone gE gA = (gE, 1) := by decide +kernel
theorem g_join : mJoin gE 4 2 2 gP gQ = (gE, gJ) := by decide +kernel
theorem g_in2 : mIn gE gI gA = (gE, 0) := by decide +kernel
theorem g_some : mSome gE gB = (gE, 0) := by decide +kernel
theorem g_val : mValue gE [false] gU = [0, 1, 2] := by decide +kernel
theorem g_okA : MOk gE ((3 : Nat) : Int) gA := ⟨by simp [Sorted, gA], by decide, by decide⟩
theorem g_okB : MOk gE ((3 : Nat) : Int) gB := ⟨by simp [Sorted, gB], by decide, by decide⟩
theorem g_okI : MOk gE ((3 : Nat) : Int) gI := ⟨by simp [Sorted, gI], by decide, by decide⟩
theorem g_okP : MOk gE ((4 : Nat) : Int) gP := ⟨by simp [Sorted, gP], by decide, by decide⟩
theorem g_okQ : MOk gE ((4 : Nat) : Int) gQ := ⟨by simp [Sorted, gQ], by decide, by decide⟩
theorem g_len1 : ((gE.length : Int) == 2) = true := by decide
theorem g_joinC {p pa pb : Option Addr} {cap ca cb : Nat} {w : World} (hC : CAt w p cap gE) (hA : MxAt w pa ca gP) (hD : MxAt w pb cb gQ) :
 Calls Try.prog 44 #[.agg #[.slice p gE.length cap], .int .i64 2, .agg #[.int .i64 2, .slice pa gP.length ca], .agg #[.int .i64 2, .slice pb gQ.length cb]] w (RetCM w gE 2 gJ) :=
 (join_any gE gP gQ 2 2 1 1 2 2 4 4 4 p pa pb cap ca cb w hC hA hD (by decide) (by decide) (by decide) (by decide) (by decide) (by decide) (by decide) g_good (by decide) g_okP g_okQ (by decide) (by decide) (by decide)).mono fun _ _ h => h.cm.eq g_join
set_option maxRecDepth 100000 in
set_option maxHeartbeats 8000000 in
theorem head14_any (w : World) : Calls Try.prog 32 #[] w (RetB w true) := by
 have hW : Below w.heap.size w w := Below.refl _ _
 go_enter Try.func32, Try.ntmps32
 go_upto_region 1 with fail
 go_cut [1, 2] from 20 to 24 (fun s1 s2 wx => (∃ (b : Nat), s1 = .pointer (some ⟨b, 0, none⟩) ∧ s2 = .int .i64 2 ∧ Bx wx b gE) ∧ Below w.heap.size w wx)
 case first =>
  as_aux_lemma =>
   go_wp2_with (first | (go_at_call 31; refine (rnew_is _).mono ?_; rintro e w1 ⟨p1, cap1, rfl, hC1, hb1⟩) | (go_at_call 87; refine (rinput_is (c := gE) (r := 2) hC1 (Below.refl _ _) g_in (by decide)).mono ?_; rintro e w2 ⟨p2, cap2, rfl, hC2, hbl⟩))
   go_meet
   exact ⟨⟨_, rfl, rfl, Bx.new hC2 _⟩, bal (btr hb1 hbl) _⟩
 obtain ⟨⟨b1, rfl, rfl, hB1⟩, hst⟩ := hcut
 replace hW := btr hW hst
 clear hst
 go_upto_region 2 with fail
 go_cut [3] from 25 to 27 (fun s3 wx => (∃ (b : Nat), s3 = .pointer (some ⟨b, 0, none⟩) ∧ BM wx b 1 gA) ∧ Below wc.heap.size wc wx)
 case first =>
  as_aux_lemma =>
   go_wp2_with (first | (go_at_call 29; refine (const_is (l := [0, 2]) (m := gA) (SI.lit2 0 2 _ _) (by simp) g_constA).mono ?_; rintro e w2 ⟨p2, cap2, rfl, hM2, hbl⟩))
   go_meet
   exact ⟨⟨_, rfl, BM.newAt hM2 _ rfl⟩, bal (btr (by go_grown) hbl) _⟩
 obtain ⟨⟨b3, rfl, hN3⟩, hst⟩ := hcut
 replace hB1 := hB1.up hst
 replace hW := btr hW hst
 clear hst
 go_upto_region 3 with fail
 go_cut [4] from 28 to 34 (fun s4 wx => (∃ (b : Nat), s4 = .pointer (some ⟨b, 0, none⟩) ∧ BM wx b 1 gB) ∧ Below wc.heap.size wc wx)
 case first =>
  as_aux_lemma =>
   go_wp2_with (first | (go_at_call 83; refine (rnot_any 2 _ (by decide)).mono ?_; rintro e w' ⟨rfl, hw⟩; replace hw := hw.symm; subst hw; rw [show cnot 2 = 3 from rfl]))
   go_meet
   exact ⟨⟨_, rfl, BM.newAt (m := gB) (MxAt.lit2 ⟨0, 2⟩ ⟨1, 3⟩ _ _) _ (by simp)⟩, by go_grown⟩
 obtain ⟨⟨b4, rfl, hN4⟩, hst⟩ := hcut
 replace hB1 := hB1.up hst
 replace hN3 := hN3.up hst
 replace hW := btr hW hst
 clear hst
 go_upto_region 4 with fail
 obtain ⟨p1, c1, k1, k1f, hC1⟩ := id hB1
 obtain ⟨q3, cq3, ⟨⟨m3, m3f⟩, ⟨n3, n3f⟩, -⟩, hM3⟩ := id hN3
 obtain ⟨q4, cq4, ⟨⟨m4, m4f⟩, ⟨n4, n4f⟩, -⟩, hM4⟩ := id hN4
 go_cut [5, 6] from 35 to 41 (fun s5 s6 wx => (∃ (b b' : Nat), s5 = .pointer (some ⟨b, 0, none⟩) ∧ s6 = .pointer (some ⟨b', 0, none⟩) ∧ Bx wx b gE ∧ BM wx b' 1 gU) ∧ Below wc.heap.size wc wx)
 case first =>
  as_aux_lemma =>
   go_wp2_with (first | (go_at_call 42; refine (union_is hC1 hM3 hM4 (by decide) (by decide) (by decide) (by decide) g_union).mono ?_; rintro e w2 ⟨p2, cap2, y2, cy2, rfl, hC2, hM2, hbl⟩))
   go_meet
   exact ⟨⟨_, _, rfl, rfl, (Bx.new hC2 _).up (by go_grown), BM.newAt (hM2.up (bal (Below.refl _ _) _)) _ (by simp)⟩, bal (bal hbl _) _⟩
 clear k1 k1f hC1
 obtain ⟨⟨b5, b6, rfl, rfl, hB5, hN6⟩, hst⟩ := hcut
 replace hB1 := hB1.up hst
 replace hN3 := hN3.up hst
 replace hN4 := hN4.up hst
 replace hW := btr hW hst
 clear hst
 clear m3 m3f n3 n3f hM3
 clear m4 m4f n4 n4f hM4
 go_upto_region 5 with fail
 obtain ⟨p1, c1, k1, k1f, hC1⟩ := id hB1
 obtain ⟨q3, cq3, ⟨⟨m3, m3f⟩, ⟨n3, n3f⟩, -⟩, hM3⟩ := id hN3
 obtain ⟨q4, cq4, ⟨⟨m4, m4f⟩, ⟨n4, n4f⟩, -⟩, hM4⟩ := id hN4
 go_cut [7, 8] from 42 to 48 (fun s7 s8 wx => (∃ (b b' : Nat), s7 = .pointer (some ⟨b, 0, none⟩) ∧ s8 = .pointer (some ⟨b', 0, none⟩) ∧ Bx wx b gE ∧ BM wx b' 1 gI) ∧ Below wc.heap.size wc wx)
 case first =>
  as_aux_lemma =>
   go_wp2_with (first | (go_at_call 50; refine (inter_is hC1 hM3 hM4 (by decide) (by decide) (by decide) (by decide) g_inter).mono ?_; rintro e w2 ⟨p2, cap2, y2, cy2, rfl, hC2, hM2, hbl⟩))
   go_meet
   exact ⟨⟨_, _, rfl, rfl, (Bx.new hC2 _).up (by go_grown), BM.newAt (hM2.up (bal (Below.refl _ _) _)) _ (by simp)⟩, bal (bal hbl _) _⟩
 clear k1 k1f hC1
 obtain ⟨⟨b7, b8, rfl, rfl, hB7, hN8⟩, hst⟩ := hcut
 replace hB1 := hB1.up hst
 replace hN3 := hN3.up hst
 replace hN4 := hN4.up hst
 replace hB5 := hB5.up hst
 replace hN6 := hN6.up hst
 replace hW := btr hW hst
 clear hst
 clear m3 m3f n3 n3f hM3
 clear m4 m4f n4 n4f hM4
 go_upto_region 6 with fail
 obtain ⟨p1, c1, k1, k1f, hC1⟩ := id hB1
 obtain ⟨q4, cq4, ⟨⟨m4, m4f⟩, ⟨n4, n4f⟩, -⟩, hM4⟩ := id hN4
 go_cut [9, 10] from 49 to 54 (fun s9 s10 wx => (∃ (b : Nat), s9 = .pointer (some ⟨b, 0, none⟩) ∧ s10 = .int .i64 0 ∧ Bx wx b gE) ∧ Below wc.heap.size wc wx)
 case first =>
  as_aux_lemma =>
   go_wp2_with (first | (go_at_call 39; refine (lone_is hC1 hM4 g_good (by decide) g_okB g_loneB).mono ?_; rintro e w2 ⟨p2, cap2, rfl, hC2, hbl⟩))
   go_meet
   exact ⟨⟨_, rfl, rfl, Bx.new hC2 _⟩, bal hbl _⟩
 clear k1 k1f hC1
 obtain ⟨⟨b9, rfl, rfl, hB9⟩, hst⟩ := hcut
 replace hB1 := hB1.up hst
 replace hN3 := hN3.up hst
 replace hN4 := hN4.up hst
 replace hB5 := hB5.up hst
 replace hN6 := hN6.up hst
 replace hB7 := hB7.up hst
 replace hN8 := hN8.up hst
 replace hW := btr hW hst
 clear hst
 clear m4 m4f n4 n4f hM4
 go_upto_region 7 with fail
 obtain ⟨p1, c1, k1, k1f, hC1⟩ := id hB1
 obtain ⟨q3, cq3, ⟨⟨m3, m3f⟩, ⟨n3, n3f⟩, -⟩, hM3⟩ := id hN3
 go_cut [11, 12] from 55 to 60 (fun s11 s12 wx => (∃ (b : Nat), s11 = .pointer (some ⟨b, 0, none⟩) ∧ s12 = .int .i64 1 ∧ Bx wx b gE) ∧ Below wc.heap.size wc wx)
 case first =>
  as_aux_lemma =>
   go_wp2_with (first | (go_at_call 39; refine (lone_is hC1 hM3 g_good (by decide) g_okA g_loneA).mono ?_; rintro e w2 ⟨p2, cap2, rfl, hC2, hbl⟩))
   go_meet
   exact ⟨⟨_, rfl, rfl, Bx.new hC2 _⟩, bal hbl _⟩
 clear k1 k1f hC1
 obtain ⟨⟨b11, rfl, rfl, hB11⟩, hst⟩ := hcut
 replace hB1 := hB1.up hst
 replace hN3 := hN3.up hst
 replace hN4 := hN4.up hst
 replace hB5 := hB5.up hst
 replace hN6 := hN6.up hst
 replace hB7 := hB7.up hst
 replace hN8 := hN8.up hst
 replace hB9 := hB9.up hst
 replace hW := btr hW hst
 clear hst
 clear m3 m3f n3 n3f hM3
 go_upto_region 8 with fail
 obtain ⟨p1, c1, k1, k1f, hC1⟩ := id hB1
 go_cut [13, 14] from 61 to 71 (fun s13 s14 wx => (∃ (b b' : Nat), s13 = .pointer (some ⟨b, 0, none⟩) ∧ s14 = .pointer (some ⟨b', 0, none⟩) ∧ Bx wx b gE ∧ BM wx b' 2 gJ) ∧ Below wc.heap.size wc wx)
 case first =>
  as_aux_lemma =>
   obtain ⟨s, hs0⟩ : ∃ s, wc.heap.size = s := ⟨_, rfl⟩
   have HS := Lib.hid hs0; clear hs0
   obtain ⟨tab, htab⟩ : ∃ t : Nat → Ent, t = tabL [(1, eS 1 [1]), (3, eM 2 gP), (4, eS 1 [2]), (6, eM 2 gQ), (7, eCM gE 2 gJ), (11, eVC s), (12, eVM s)] := ⟨_, rfl⟩
   refine wp_region_tab wc tab [(0, 0), (1, 1), (2, 0), (3, 1), (4, 1), (5, 0), (6, 1), (7, 1), (8, 0), (9, 0), (11, 1), (12, 1), (10, 2)] (.alt 13 3 (.alt 14 3 .nil .stop) .stop) (by kernel_rfl) (by kernel_rfl) (by kernel_rfl) (Below.drew (Below.refl _ _)) ?_
   refine seqX_pure (v := ?_) rfl (by rfl) ?_ ?_
   rotate_left
   · (intro w hS hF; have kk := zD hS k1; go_simp; try with_reducible rfl)
   (try simp only [Act.put, zA, zB, zC])
   refine seqX_move (e := eS 1 [1]) (by rw [htab]; rfl) rfl (by rfl) ?_ ?_
   · (intro w hS; exact ⟨⟨none, 0, none, 0, w.heap.size⟩, w.alloc (.cells #[.int .i64 1] 3), (by go_simp; try with_reducible rfl), by go_grown, SI.lit1 1 _ _⟩)
   rintro ⟨p63, c63, q63, d63, b63⟩
   (try dsimp only [eCM, eC, eCI, eM, eR, eS, eX, eB, eK, eVC, eVM])
   (try simp only [Act.put, zA, zB, zC])
   refine seqX_pure (v := ?_) rfl (by rfl) ?_ ?_
   rotate_left
   · (intro w hS hF; go_simp; try with_reducible rfl)
   (try simp only [Act.put, zA, zB, zC])
   refine seqX_call (e := eM 2 gP) (f := ?_) (args := ?_) (by rw [htab]; rfl) rfl (by rfl) ?_ ?_ ?_
   rotate_left 2
   · (intro w; go_simp; first | done | with_reducible rfl | (refine ⟨?_, ?_⟩ <;> with_reducible rfl))
   · (intro w hS hF; have f1 : SI w (some ⟨b63, 0, none⟩) 1 [1] := hF 1 (by kernel_rfl); refine (const_is (l := [1]) (m := gP) f1 (by simp) g_constP).mono ?_; intro e w' h; exact RetM.x h)
   rintro ⟨p65, c65, q65, d65, b65⟩
   (try dsimp only [eCM, eC, eCI, eM, eR, eS, eX, eB, eK, eVC, eVM])
   (try simp only [Act.put, zA, zB, zC])
   refine seqX_move (e := eS 1 [2]) (by rw [htab]; rfl) rfl (by rfl) ?_ ?_
   · (intro w hS; exact ⟨⟨none, 0, none, 0, w.heap.size⟩, w.alloc (.cells #[.int .i64 2] 3), (by go_simp; try with_reducible rfl), by go_grown, SI.lit1 2 _ _⟩)
   rintro ⟨p66, c66, q66, d66, b66⟩
   (try dsimp only [eCM, eC, eCI, eM, eR, eS, eX, eB, eK, eVC, eVM])
   (try simp only [Act.put, zA, zB, zC])
   refine seqX_pure (v := ?_) rfl (by rfl) ?_ ?_
   rotate_left
   · (intro w hS hF; go_simp; try with_reducible rfl)
   (try simp only [Act.put, zA, zB, zC])
   refine seqX_call (e := eM 2 gQ) (f := ?_) (args := ?_) (by rw [htab]; rfl) rfl (by rfl) ?_ ?_ ?_
   rotate_left 2
   · (intro w; go_simp; first | done | with_reducible rfl | (refine ⟨?_, ?_⟩ <;> with_reducible rfl))
   · (intro w hS hF; have f1 : SI w (some ⟨b66, 0, none⟩) 1 [2] := hF 4 (by kernel_rfl); refine (const_is (l := [2]) (m := gQ) f1 (by simp) g_constQ).mono ?_; intro e w' h; exact RetM.x h)
   rintro ⟨p68, c68, q68, d68, b68⟩
   (try dsimp only [eCM, eC, eCI, eM, eR, eS, eX, eB, eK, eVC, eVM])
   (try simp only [Act.put, zA, zB, zC])
   refine seqX_call (e := eCM gE 2 gJ) (f := ?_) (args := ?_) (by rw [htab]; rfl) rfl (by rfl) ?_ ?_ ?_
   rotate_left 2
   · (intro w; go_simp; first | done | with_reducible rfl | (refine ⟨?_, ?_⟩ <;> with_reducible rfl))
   · (intro w hS hF; have f1 : MxAt w q65 d65 gP := hF 3 (by kernel_rfl); have f2 : MxAt w q68 d68 gQ := hF 6 (by kernel_rfl); refine (g_joinC (hC1.mono hS) f1 f2).mono ?_; intro e w' h; exact RetCM.x h)
   rintro ⟨p69, c69, q69, d69, b69⟩
   (try dsimp only [eCM, eC, eCI, eM, eR, eS, eX, eB, eK, eVC, eVM])
   (try simp only [Act.put, zA, zB, zC])
   iterate 2 (refine seqX_pure (v := ?_) rfl (by rfl) ?_ ?_; rotate_left; (focus (intro w hS hF; go_simp; try with_reducible rfl)); (try simp only [Act.put, zA, zB, zC]))
   refine seqX_move (e := eVC s) (by rw [htab]; rfl) rfl (by rfl) ?_ ?_
   · (intro w hS; exact ⟨⟨none, 0, none, 0, w.heap.size⟩, w.alloc (.cells #[.slice none 0 0] 27), (by go_simp; try with_reducible rfl), by go_grown, Nat.le_trans (Nat.le_of_eq HS.out.symm) hS.size, ⟨⟨by go_cell, by go_cell⟩, trivial⟩⟩)
   rintro ⟨p13, c13, q13, d13, b13⟩
   (try dsimp only [eCM, eC, eCI, eM, eR, eS, eX, eB, eK, eVC, eVM])
   (try simp only [Act.put, zA, zB, zC])
   refine seqX_move (e := eVM s) (by rw [htab]; rfl) rfl (by rfl) ?_ ?_
   · (intro w hS; exact ⟨⟨none, 0, none, 0, w.heap.size⟩, w.alloc (.cells #[.int .i64 0, .slice none 0 0] 30), (by go_simp; try with_reducible rfl), by go_grown, Nat.le_trans (Nat.le_of_eq HS.out.symm) hS.size, ⟨⟨by go_cell, by go_cell⟩, ⟨by go_cell, by go_cell⟩, trivial⟩⟩)
   rintro ⟨p14, c14, q14, d14, b14⟩
   (try dsimp only [eCM, eC, eCI, eM, eR, eS, eX, eB, eK, eVC, eVM])
   (try simp only [Act.put, zA, zB, zC])
   refine seqX_free (v := ?_) rfl (by rfl) ?_ ?_
   rotate_left
   · (intro w; go_simp; try with_reducible rfl)
   (try simp only [Act.put, zA, zB, zC])
   refine seqX_nil ?_
   refine seqE_storeB rfl (by rfl) ?_ seqE_stop
   intro w hS
   obtain ⟨ga, ca⟩ : s ≤ b13 ∧ Cells w [(b13, 0, .slice none 0 0)] := hS.2 11
   obtain ⟨gm, cm⟩ : s ≤ b14 ∧ Cells w [(b14, 0, .int .i64 0), (b14, 1, .slice none 0 0)] := hS.2 12
   obtain ⟨fc, fm⟩ : CAt w p69 c69 (gE) ∧ MxAt w q69 d69 (gJ) := hS.2 7
   have ht : TLm s wc b13 b14 p69 c69 (gE) q69 d69 (gJ) w := ⟨hS.1, HS.out, ga, gm, ca, cm, fc, fm⟩
   obtain ⟨⟨u1, u1f⟩, -⟩ := ca
   refine ⟨w.setCell ⟨b13, 0, none⟩ (.slice p69 (gE).length c69), (by go_simp; try with_reducible rfl), fun x => T2m s wc b13 b14 (gE) q69 d69 (gJ) x, ht.s1, ?_⟩
   (try simp only [Act.put, zA, zB, zC])
   refine seqE_storeB rfl (by rfl) ?_ seqE_stop
   intro w hS
   obtain ⟨⟨u0, u0f⟩, ⟨u1, u1f⟩, -⟩ := hS.cm
   refine ⟨(w.setCell ⟨b14, 0, none⟩ (.int .i64 2)).setCell ⟨b14, 1, none⟩ (.slice q69 (gJ).length d69), (by go_simp; try with_reducible rfl), fun x => Bx x b13 (gE) ∧ BM x b14 2 (gJ) ∧ Below wc.heap.size wc x, hS.s2, ?_⟩
   (try simp only [Act.put, zA, zB, zC])
   refine seqE_nil ?_
   intro w hS
   go_wp2_with fail
   go_meet
   exact ⟨⟨_, _, rfl, rfl, hS.1, hS.2.1⟩, hS.2.2⟩
 clear k1 k1f hC1
 obtain ⟨⟨b13, b14, rfl, rfl, hB13, hN14⟩, hst⟩ := hcut
 replace hB1 := hB1.up hst
 replace hN3 := hN3.up hst
 replace hN4 := hN4.up hst
 replace hB5 := hB5.up hst
 replace hN6 := hN6.up hst
 replace hB7 := hB7.up hst
 replace hN8 := hN8.up hst
 replace hB9 := hB9.up hst
 replace hB11 := hB11.up hst
 replace hW := btr hW hst
 clear hst
 go_upto_region 9 with fail
 obtain ⟨p1, c1, k1, k1f, hC1⟩ := id hB1
 obtain ⟨q8, cq8, ⟨⟨m8, m8f⟩, ⟨n8, n8f⟩, -⟩, hM8⟩ := id hN8
 obtain ⟨q3, cq3, ⟨⟨m3, m3f⟩, ⟨n3, n3f⟩, -⟩, hM3⟩ := id hN3
 go_cut [15, 16] from 72 to 78 (fun s15 s16 wx => (∃ (b : Nat), s15 = .pointer (some ⟨b, 0, none⟩) ∧ s16 = .int .i64 0 ∧ Bx wx b gE) ∧ Below wc.heap.size wc wx)
 case first =>
  as_aux_lemma =>
   go_wp2_with (first | (go_at_call 37; refine (in_is hC1 hM8 hM3 g_good (by decide) g_okI g_okA (by decide) (by decide) g_in2).mono ?_; rintro e w2 ⟨p2, cap2, rfl, hC2, hbl⟩))
   go_meet
   exact ⟨⟨_, rfl, rfl, Bx.new hC2 _⟩, bal hbl _⟩
 clear k1 k1f hC1
 obtain ⟨⟨b15, rfl, rfl, hB15⟩, hst⟩ := hcut
 replace hB1 := hB1.up hst
 replace hN3 := hN3.up hst
 replace hN4 := hN4.up hst
 replace hB5 := hB5.up hst
 replace hN6 := hN6.up hst
 replace hB7 := hB7.up hst
 replace hN8 := hN8.up hst
 replace hB9 := hB9.up hst
 replace hB11 := hB11.up hst
 replace hB13 := hB13.up hst
 replace hN14 := hN14.up hst
 replace hW := btr hW hst
 clear hst
 clear m8 m8f n8 n8f hM8
 clear m3 m3f n3 n3f hM3
 go_upto_region 10 with fail
 obtain ⟨p1, c1, k1, k1f, hC1⟩ := id hB1
 obtain ⟨q4, cq4, ⟨⟨m4, m4f⟩, ⟨n4, n4f⟩, -⟩, hM4⟩ := id hN4
 go_cut [17, 18] from 79 to 84 (fun s17 s18 wx => (∃ (b : Nat), s17 = .pointer (some ⟨b, 0, none⟩) ∧ s18 = .int .i64 0 ∧ Bx wx b gE) ∧ Below wc.heap.size wc wx)
 case first =>
  as_aux_lemma =>
   go_wp2_with (first | (go_at_call 38; refine (some_is hC1 hM4 g_good (by decide) g_okB g_some).mono ?_; rintro e w2 ⟨p2, cap2, rfl, hC2, hbl⟩))
   go_meet
   exact ⟨⟨_, rfl, rfl, Bx.new hC2 _⟩, bal hbl _⟩
 clear k1 k1f hC1
 obtain ⟨⟨b17, rfl, rfl, hB17⟩, hst⟩ := hcut
 replace hB1 := hB1.up hst
 replace hN3 := hN3.up hst
 replace hN4 := hN4.up hst
 replace hB5 := hB5.up hst
 replace hN6 := hN6.up hst
 replace hB7 := hB7.up hst
 replace hN8 := hN8.up hst
 replace hB9 := hB9.up hst
 replace hB11 := hB11.up hst
 replace hB13 := hB13.up hst
 replace hN14 := hN14.up hst
 replace hB15 := hB15.up hst
 replace hW := btr hW hst
 clear hst
 clear m4 m4f n4 n4f hM4
 go_upto_region 11 with fail
 obtain ⟨p5, c5, k5, k5f, hC5⟩ := id hB5
 obtain ⟨q6, cq6, ⟨⟨m6, m6f⟩, ⟨n6, n6f⟩, -⟩, hM6⟩ := id hN6
 go_cut [19] from 85 to 88 (fun s19 wx => (∃ (b : Nat), s19 = .pointer (some ⟨b, 0, none⟩) ∧ BR wx b 1 [0, 1, 2]) ∧ Below wc.heap.size wc wx)
 case first =>
  as_aux_lemma =>
   go_wp2_with (first | (go_at_call 30; refine (mvalue_is (V := [false]) (nv := 1) (hC5.mono (by go_grown)) (hM6.up (by go_grown)) (bools_lit false _ _) g_good.wf (by decide) (by decide) rfl (by decide) g_val).mono ?_; rintro e w2 ⟨p2, cap2, rfl, hR2, hbl⟩))
   go_meet
   exact ⟨⟨_, rfl, BR.newAt hR2 _ rfl⟩, bal (btr (by go_grown) hbl) _⟩
 clear k5 k5f hC5
 obtain ⟨⟨b19, rfl, hN19⟩, hst⟩ := hcut
 replace hB1 := hB1.up hst
 replace hN3 := hN3.up hst
 replace hN4 := hN4.up hst
 replace hB5 := hB5.up hst
 replace hN6 := hN6.up hst
 replace hB7 := hB7.up hst
 replace hN8 := hN8.up hst
 replace hB9 := hB9.up hst
 replace hB11 := hB11.up hst
 replace hB13 := hB13.up hst
 replace hN14 := hN14.up hst
 replace hB15 := hB15.up hst
 replace hB17 := hB17.up hst
 replace hW := btr hW hst
 clear hst
 clear m6 m6f n6 n6f hM6
 have hgl := g_len1
 go_upto_region 12 with fail
 obtain ⟨p1, c1, k1, k1f, hC1⟩ := id hB1
 obtain ⟨p5, c5, k5, k5f, hC5⟩ := id hB5
 obtain ⟨p7, c7, k7, k7f, hC7⟩ := id hB7
 obtain ⟨p9, c9, k9, k9f, hC9⟩ := id hB9
 obtain ⟨p11, c11, k11, k11f, hC11⟩ := id hB11
 obtain ⟨p13, c13, k13, k13f, hC13⟩ := id hB13
 obtain ⟨q4, cq4, ⟨⟨m4, m4f⟩, ⟨n4, n4f⟩, -⟩, hM4⟩ := id hN4
 obtain ⟨q6, cq6, ⟨⟨m6, m6f⟩, ⟨n6, n6f⟩, -⟩, hM6⟩ := id hN6
 obtain ⟨q8, cq8, ⟨⟨m8, m8f⟩, ⟨n8, n8f⟩, -⟩, hM8⟩ := id hN8
 obtain ⟨q14, cq14, ⟨⟨m14, m14f⟩, ⟨n14, n14f⟩, -⟩, hM14⟩ := id hN14
 obtain ⟨q19, cq19, ⟨⟨m19, m19f⟩, ⟨n19, n19f⟩, -⟩, hM19⟩ := id hN19
 obtain ⟨s, hs0⟩ : ∃ s, wc.heap.size = s := ⟨_, rfl⟩
 have HS := Lib.hid hs0; clear hs0
 obtain ⟨tab, htab⟩ : ∃ t : Nat → Ent, t = tabL [(2, eK (.bool true)), (4, eC cnew), (6, eK (.bool false)), (19, eK (.int .i64 3)), (22, eX 3 gU), (24, eK (.bool true)), (30, eX 1 gI), (32, eK (.bool true)), (62, eS 1 [0]), (64, eM 2 gJ), (65, eK (.bool true)), (83, eS 3 [0, 1, 2]), (85, eK (.bool true))] := ⟨_, rfl⟩
 dsimp only [List.append]
 refine wp_region_tab wc tab [(0, 0), (1, 0), (2, 1), (3, 0), (4, 1), (5, 0), (6, 1), (7, 0), (8, 0), (9, 0), (10, 0), (11, 0), (12, 0), (13, 0), (14, 0), (15, 0), (16, 0), (17, 0), (18, 0), (19, 1), (20, 0), (21, 0), (22, 1), (23, 0), (24, 1), (25, 0), (26, 0), (27, 0), (28, 0), (29, 0), (30, 1), (31, 0), (32, 1), (33, 0), (34, 0), (35, 0), (36, 0), (37, 0), (38, 0), (39, 0), (40, 0), (41, 0), (42, 0), (43, 0), (44, 0), (45, 0), (46, 0), (47, 0), (48, 0), (49, 0), (50, 0), (51, 0), (52, 0), (53, 0), (54, 0), (55, 0), (56, 0), (57, 0), (58, 0), (59, 0), (60, 0), (61, 0), (62, 1), (63, 0), (64, 1), (65, 1), (66, 0), (67, 0), (68, 0), (69, 0), (70, 0), (71, 0), (72, 0), (73, 0), (74, 0), (75, 0), (76, 0), (77, 0), (78, 0), (79, 0), (80, 0), (81, 0), (82, 0), (83, 1), (84, 0), (85, 1), (86, 0), (87, 0)] .nil (by kernel_rfl) (by kernel_rfl) (by kernel_rfl) (Below.drew (Below.refl _ _)) ?_
 refine seqX_pure (v := ?_) rfl (by rfl) ?_ ?_
 rotate_left
 · (intro w hS hF; have kk := zD hS k1; go_simp; try with_reducible rfl)
 (try simp only [Act.put, zA, zB, zC])
 refine seqX_pure (v := ?_) rfl (by rfl) ?_ ?_
 rotate_left
 · (intro w hS hF; have kk := zD hS m4; have kk2 := zD hS n4; go_simp; try with_reducible rfl)
 (try simp only [Act.put, zA, zB, zC])
 refine seqX_call (e := eK (.bool true)) (f := ?_) (args := ?_) (by rw [htab]; rfl) rfl (by rfl) ?_ ?_ ?_
 rotate_left 2
 · (intro w; go_simp; first | done | with_reducible rfl | (refine ⟨?_, ?_⟩ <;> with_reducible rfl))
 · (intro w hS hF; refine (mxvalid_any gE gB 1 p1 _ c1 _ 3 w (hM4.up hS) g_okB (by decide) (by decide) (by decide) (by decide)).mono ?_; intro e w' h; exact keep_x h)
 rintro ⟨p91, c91, q91, d91, b91⟩
 (try dsimp only [eCM, eC, eCI, eM, eR, eS, eX, eB, eK, eVC, eVM])
 (try simp only [Act.put, zA, zB, zC])
 refine seqX_pure (v := ?_) rfl (by rfl) ?_ ?_
 rotate_left
 · (intro w hS hF; go_simp; try with_reducible rfl)
 (try simp only [Act.put, zA, zB, zC])
 refine seqX_call (e := eC cnew) (f := ?_) (args := ?_) (by rw [htab]; rfl) rfl (by rfl) ?_ ?_ ?_
 rotate_left 2
 · (intro w; go_simp; first | done | with_reducible rfl | (refine ⟨?_, ?_⟩ <;> with_reducible rfl))
 · (intro w hS hF; refine (rnew_is w).mono ?_; intro e w' h; exact h.x)
 rintro ⟨p93, c93, q93, d93, b93⟩
 (try dsimp only [eCM, eC, eCI, eM, eR, eS, eX, eB, eK, eVC, eVM])
 (try simp only [Act.put, zA, zB, zC])
 refine seqX_pure (v := ?_) rfl (by rfl) ?_ ?_
 rotate_left
 · (intro w hS hF; have kk := zD hS m4; have kk2 := zD hS n4; go_simp; try with_reducible rfl)
 (try simp only [Act.put, zA, zB, zC])
 refine seqX_call (e := eK (.bool false)) (f := ?_) (args := ?_) (by rw [htab]; rfl) rfl (by rfl) ?_ ?_ ?_
 rotate_left 2
 · (intro w; go_simp; first | done | with_reducible rfl | (refine ⟨?_, ?_⟩ <;> with_reducible rfl))
 · (intro w hS hF; refine (mxvalid_no cnew gB ⟨0, 2⟩ 1 _ _ _ _ w (hM4.up hS) (by decide) (by decide) rfl (by decide) (by decide) (by decide)).mono ?_; intro e w' h; exact keep_x h)
 rintro ⟨p95, c95, q95, d95, b95⟩
 (try dsimp only [eCM, eC, eCI, eM, eR, eS, eX, eB, eK, eVC, eVM])
 (try simp only [Act.put, zA, zB, zC])
 iterate 4 (refine seqX_pure (v := ?_) rfl (by rfl) ?_ ?_; rotate_left; (focus (intro w hS hF; go_simp; try with_reducible rfl)); (try simp only [Act.put, zA, zB, zC]))
 refine seqX_pure (v := ?_) rfl (by rfl) ?_ ?_
 rotate_left
 · (intro w hS hF; have kk := zD hS k5; go_simp; try with_reducible rfl)
 (try simp only [Act.put, zA, zB, zC])
 iterate 4 (refine seqX_pure (v := ?_) rfl (by rfl) ?_ ?_; rotate_left; (focus (intro w hS hF; go_simp; try with_reducible rfl)); (try simp only [Act.put, zA, zB, zC]))
 refine seqX_pure (v := ?_) rfl (by rfl) ?_ ?_
 rotate_left
 · (intro w hS hF; have kk := zD hS m6; have kk2 := zD hS n6; go_simp; try with_reducible rfl)
 (try simp only [Act.put, zA, zB, zC])
 iterate 2 (refine seqX_pure (v := ?_) rfl (by rfl) ?_ ?_; rotate_left; (focus (intro w hS hF; go_simp; try with_reducible rfl)); (try simp only [Act.put, zA, zB, zC]))
 refine seqX_call (e := eK (.int .i64 3)) (f := ?_) (args := ?_) (by rw [htab]; rfl) rfl (by rfl) ?_ ?_ ?_
 rotate_left 2
 · (intro w; go_simp; first | done | with_reducible rfl | (refine ⟨?_, ?_⟩ <;> with_reducible rfl))
 · (intro w hS hF; refine (rnot_any 2 w (by decide)).mono ?_; intro e w' h; exact keep_x (v := .int .i64 3) ⟨h.1, h.2 ▸ Below.refl _ _⟩)
 rintro ⟨p108, c108, q108, d108, b108⟩
 (try dsimp only [eCM, eC, eCI, eM, eR, eS, eX, eB, eK, eVC, eVM])
 (try simp only [Act.put, zA, zB, zC])
 iterate 2 (refine seqX_pure (v := ?_) rfl (by rfl) ?_ ?_; rotate_left; (focus (intro w hS hF; go_simp; try with_reducible rfl)); (try simp only [Act.put, zA, zB, zC]))
 refine seqX_move (e := eX 3 gU) (by rw [htab]; rfl) rfl (by rfl) ?_ ?_
 · (intro w hS; exact ⟨⟨none, 0, none, 0, w.heap.size⟩, w.alloc (.cells #[.int .i64 0, .int .i64 0, .int .i64 1, .int .i64 3, .int .i64 2, .int .i64 0] 76), (by go_simp; try with_reducible rfl), by go_grown, MxAt.lit3 ⟨0, 0⟩ ⟨1, 3⟩ ⟨2, 0⟩ _ _⟩)
 rintro ⟨p111, c111, q111, d111, b111⟩
 (try dsimp only [eCM, eC, eCI, eM, eR, eS, eX, eB, eK, eVC, eVM])
 (try simp only [Act.put, zA, zB, zC])
 refine seqX_pure (v := ?_) rfl (by rfl) ?_ ?_
 rotate_left
 · (intro w hS hF; go_simp; try with_reducible rfl)
 (try simp only [Act.put, zA, zB, zC])
 refine seqX_call (e := eK (.bool true)) (f := ?_) (args := ?_) (by rw [htab]; rfl) rfl (by rfl) ?_ ?_ ?_
 rotate_left 2
 · (intro w; go_simp; first | done | with_reducible rfl | (refine ⟨?_, ?_⟩ <;> with_reducible rfl))
 · (intro w hS hF; have f1 : MxAt w (some ⟨b111, 0, none⟩) 3 gU := hF 22 (by kernel_rfl); refine (same14_any gU 1 _ _ _ _ w (hM6.up hS) f1 (by decide)).mono ?_; intro e w' h; exact keep_x h)
 rintro ⟨p113, c113, q113, d113, b113⟩
 (try dsimp only [eCM, eC, eCI, eM, eR, eS, eX, eB, eK, eVC, eVM])
 (try simp only [Act.put, zA, zB, zC])
 iterate 2 (refine seqX_pure (v := ?_) rfl (by rfl) ?_ ?_; rotate_left; (focus (intro w hS hF; go_simp; try with_reducible rfl)); (try simp only [Act.put, zA, zB, zC]))
 refine seqX_pure (v := ?_) rfl (by rfl) ?_ ?_
 rotate_left
 · (intro w hS hF; have kk := zD hS m8; have kk2 := zD hS n8; go_simp; try with_reducible rfl)
 (try simp only [Act.put, zA, zB, zC])
 iterate 2 (refine seqX_pure (v := ?_) rfl (by rfl) ?_ ?_; rotate_left; (focus (intro w hS hF; go_simp; try with_reducible rfl)); (try simp only [Act.put, zA, zB, zC]))
 refine seqX_move (e := eX 1 gI) (by rw [htab]; rfl) rfl (by rfl) ?_ ?_
 · (intro w hS; exact ⟨⟨none, 0, none, 0, w.heap.size⟩, w.alloc (.cells #[.int .i64 0, .int .i64 2] 76), (by go_simp; try with_reducible rfl), by go_grown, MxAt.lit1 ⟨0, 2⟩ _ _⟩)
 rintro ⟨p119, c119, q119, d119, b119⟩
 (try dsimp only [eCM, eC, eCI, eM, eR, eS, eX, eB, eK, eVC, eVM])
 (try simp only [Act.put, zA, zB, zC])
 refine seqX_pure (v := ?_) rfl (by rfl) ?_ ?_
 rotate_left
 · (intro w hS hF; go_simp; try with_reducible rfl)
 (try simp only [Act.put, zA, zB, zC])
 refine seqX_call (e := eK (.bool true)) (f := ?_) (args := ?_) (by rw [htab]; rfl) rfl (by rfl) ?_ ?_ ?_
 rotate_left 2
 · (intro w; go_simp; first | done | with_reducible rfl | (refine ⟨?_, ?_⟩ <;> with_reducible rfl))
 · (intro w hS hF; have f1 : MxAt w (some ⟨b119, 0, none⟩) 1 gI := hF 30 (by kernel_rfl); refine (same14_any gI 1 _ _ _ _ w (hM8.up hS) f1 (by decide)).mono ?_; intro e w' h; exact keep_x h)
 rintro ⟨p121, c121, q121, d121, b121⟩
 (try dsimp only [eCM, eC, eCI, eM, eR, eS, eX, eB, eK, eVC, eVM])
 (try simp only [Act.put, zA, zB, zC])
 iterate 3 (refine seqX_pure (v := ?_) rfl (by rfl) ?_ ?_; rotate_left; (focus (intro w hS hF; go_simp; try with_reducible rfl)); (try simp only [Act.put, zA, zB, zC]))
 refine seqX_pure (v := ?_) rfl (by rfl) ?_ ?_
 rotate_left
 · (intro w hS hF; have kk := zD hS k7; go_simp; try with_reducible rfl)
 (try simp only [Act.put, zA, zB, zC])
 iterate 9 (refine seqX_pure (v := ?_) rfl (by rfl) ?_ ?_; rotate_left; (focus (intro w hS hF; go_simp; try with_reducible rfl)); (try simp only [Act.put, zA, zB, zC]))
 refine seqX_pure (v := ?_) rfl (by rfl) ?_ ?_
 rotate_left
 · (intro w hS hF; have kk := zD hS k9; go_simp; try with_reducible rfl)
 (try simp only [Act.put, zA, zB, zC])
 iterate 9 (refine seqX_pure (v := ?_) rfl (by rfl) ?_ ?_; rotate_left; (focus (intro w hS hF; go_simp; try with_reducible rfl)); (try simp only [Act.put, zA, zB, zC]))
 refine seqX_pure (v := ?_) rfl (by rfl) ?_ ?_
 rotate_left
 · (intro w hS hF; have kk := zD hS k11; go_simp; try with_reducible rfl)
 (try simp only [Act.put, zA, zB, zC])
 iterate 4 (refine seqX_pure (v := ?_) rfl (by rfl) ?_ ?_; rotate_left; (focus (intro w hS hF; go_simp; try with_reducible rfl)); (try simp only [Act.put, zA, zB, zC]))
 refine seqX_pure (v := ?_) rfl (by rfl) ?_ ?_
 rotate_left
 · (intro w hS hF; have kk := zD hS m14; have kk2 := zD hS n14; go_simp; try with_reducible rfl)
 (try simp only [Act.put, zA, zB, zC])
 refine seqX_move (e := eS 1 [0]) (by rw [htab]; rfl) rfl (by rfl) ?_ ?_
 · (intro w hS; exact ⟨⟨none, 0, none, 0, w.heap.size⟩, w.alloc (.cells #[.int .i64 0] 3), (by go_simp; try with_reducible rfl), by go_grown, SI.lit1 0 _ _⟩)
 rintro ⟨p151, c151, q151, d151, b151⟩
 (try dsimp only [eCM, eC, eCI, eM, eR, eS, eX, eB, eK, eVC, eVM])
 (try simp only [Act.put, zA, zB, zC])
 refine seqX_pure (v := ?_) rfl (by rfl) ?_ ?_
 rotate_left
 · (intro w hS hF; go_simp; try with_reducible rfl)
 (try simp only [Act.put, zA, zB, zC])
 refine seqX_call (e := eM 2 gJ) (f := ?_) (args := ?_) (by rw [htab]; rfl) rfl (by rfl) ?_ ?_ ?_
 rotate_left 2
 · (intro w; go_simp; first | done | with_reducible rfl | (refine ⟨?_, ?_⟩ <;> with_reducible rfl))
 · (intro w hS hF; have f1 : SI w (some ⟨b151, 0, none⟩) 1 [0] := hF 62 (by kernel_rfl); refine (const_is (l := [0]) (m := gJ) f1 (by simp) g_constJ).mono ?_; intro e w' h; exact RetM.x h)
 rintro ⟨p153, c153, q153, d153, b153⟩
 (try dsimp only [eCM, eC, eCI, eM, eR, eS, eX, eB, eK, eVC, eVM])
 (try simp only [Act.put, zA, zB, zC])
 refine seqX_call (e := eK (.bool true)) (f := ?_) (args := ?_) (by rw [htab]; rfl) rfl (by rfl) ?_ ?_ ?_
 rotate_left 2
 · (intro w; go_simp; first | done | with_reducible rfl | (refine ⟨?_, ?_⟩ <;> with_reducible rfl))
 · (intro w hS hF; have f1 : MxAt w q153 d153 gJ := hF 64 (by kernel_rfl); refine (same14_any gJ 2 _ _ _ _ w (hM14.up hS) f1 (by decide)).mono ?_; intro e w' h; exact keep_x h)
 rintro ⟨p154, c154, q154, d154, b154⟩
 (try dsimp only [eCM, eC, eCI, eM, eR, eS, eX, eB, eK, eVC, eVM])
 (try simp only [Act.put, zA, zB, zC])
 iterate 3 (refine seqX_pure (v := ?_) rfl (by rfl) ?_ ?_; rotate_left; (focus (intro w hS hF; go_simp; try with_reducible rfl)); (try simp only [Act.put, zA, zB, zC]))
 refine seqX_pure (v := ?_) rfl (by rfl) ?_ ?_
 rotate_left
 · (intro w hS hF; have kk := zD hS k13; go_simp; try with_reducible rfl)
 (try simp only [Act.put, zA, zB, zC])
 iterate 12 (refine seqX_pure (v := ?_) rfl (by rfl) ?_ ?_; rotate_left; (focus (intro w hS hF; go_simp; try with_reducible rfl)); (try simp only [Act.put, zA, zB, zC]))
 refine seqX_pure (v := ?_) rfl (by rfl) ?_ ?_
 rotate_left
 · (intro w hS hF; have kk := zD hS m19; have kk2 := zD hS n19; go_simp; try with_reducible rfl)
 (try simp only [Act.put, zA, zB, zC])
 refine seqX_move (e := eS 3 [0, 1, 2]) (by rw [htab]; rfl) rfl (by rfl) ?_ ?_
 · (intro w hS; exact ⟨⟨none, 0, none, 0, w.heap.size⟩, w.alloc (.cells #[.int .i64 0, .int .i64 1, .int .i64 2] 3), (by go_simp; try with_reducible rfl), by go_grown, SI.lit3 0 1 2 _ _⟩)
 rintro ⟨p172, c172, q172, d172, b172⟩
 (try dsimp only [eCM, eC, eCI, eM, eR, eS, eX, eB, eK, eVC, eVM])
 (try simp only [Act.put, zA, zB, zC])
 refine seqX_pure (v := ?_) rfl (by rfl) ?_ ?_
 rotate_left
 · (intro w hS hF; go_simp; try with_reducible rfl)
 (try simp only [Act.put, zA, zB, zC])
 refine seqX_call (e := eK (.bool true)) (f := ?_) (args := ?_) (by rw [htab]; rfl) rfl (by rfl) ?_ ?_ ?_
 rotate_left 2
 · (intro w; go_simp; first | done | with_reducible rfl | (refine ⟨?_, ?_⟩ <;> with_reducible rfl))
 · (intro w hS hF; have f1 : SI w (some ⟨b172, 0, none⟩) 3 [0, 1, 2] := hF 83 (by kernel_rfl); refine (requal_is (hM19.up hS) f1 rfl).mono ?_; intro e w' h; exact keep_x h)
 rintro ⟨p174, c174, q174, d174, b174⟩
 (try dsimp only [eCM, eC, eCI, eM, eR, eS, eX, eB, eK, eVC, eVM])
 (try simp only [Act.put, zA, zB, zC])
 iterate 2 (refine seqX_pure (v := ?_) rfl (by rfl) ?_ ?_; rotate_left; (focus (intro w hS hF; go_simp; try with_reducible rfl)); (try simp only [Act.put, zA, zB, zC]))
 refine seqX_nil ?_
 refine seqE_nil ?_
 intro w hS
 go_wp2_with fail
 go_ret
 exact ⟨rfl, btr hW hS.1⟩
end Go.Proofs.Ytadilppdlbhjnaa
