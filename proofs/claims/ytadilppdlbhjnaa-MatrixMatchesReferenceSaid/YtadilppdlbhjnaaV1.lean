import Derived.Test.YtadilppdlbhjnaaGP
import Derived.Test.YtadilppdlbhjnaaGV
import Derived.Test.YtadilppdlbhjnaaGN
import Derived.Test.YtadilppdlbhjnaaSeqI
namespace Go.Proofs.Ytadilppdlbhjnaa
set_option linter.unusedSimpArgs false
set_option linter.unusedVariables false
open Go.RowKit
attribute [local go_sem] Oper.semAt_some
variable {L0 : List Nat} {bb bm ka kb : Nat} {ar : Int} {w0 W w1 w2 : World} {C c2 : List Gate} {M m2 : List Cell} {v : Value}
theorem PI.ownF {α : Type} {X : List α → List Gate × List Cell} : OwnFrom w0.heap.size (fun (pre : List α) W => ∃ v, PI L0 bb bm ar w0 (X pre).1 (X pre).2 v W) := by
 rintro pre W W' row ⟨v, h⟩ hg hr0
 have hr : ∀ r, row = some r → ∃ o : Obj, W.heap[r]? = some o ∧ o.isCells = false := fun r e => (hr0 r e).2
 obtain ⟨p, cap, x1, x2, x3, x4⟩ := h.bx
 refine ⟨v, ⟨cell_kept h.g.c0 hg hr, cell_kept h.g.c1 hg hr, (frozen_kept h.g.c0 hg hr).trans h.g.fr, (frozen_kept h.g.c1 hg hr).trans h.g.fr1, owns_kept h.g.own hg hr, h.g.hb, Nat.le_trans h.g.hB hg.size⟩,
  ⟨p, cap, cell_kept x1 hg hr, (frozen_kept x1 hg hr).trans x2, ⟨x3.le, x3.cm, x3.p0, slat_kept x3.at' hg hr⟩, x4⟩, ?_⟩
 exact ⟨hg.os.trans h.kx.os, hg.tape.trans h.kx.tape, hg.output.trans h.kx.output, Nat.le_trans h.kx.size hg.size, fun k hk hx => (hg.block k (Nat.lt_of_lt_of_le hk h.kx.size) (fun e => by have := (hr0 k e.symm).1; omega)).trans (h.kx.block k hk hx)⟩
theorem PI.keeps (h : PI L0 bb bm ar w0 C M v W) (KT : KeepX (bb :: bm :: rowOf v) W w2) (hb1 : bb < w0.heap.size) (hb2 : bm < w0.heap.size) (ha : ka < w0.heap.size) (ha1 : ka ≠ bb) (ha2 : ka ≠ bm) (hb : kb < w0.heap.size) (hb3 : kb ≠ bb) (hb4 : kb ≠ bm) :
 KeepsFrom w0.heap.size W w2 ∧ KpB ka kb W w2 := by
 have hnot : ∀ k, k ≠ bb → k ≠ bm → k < w0.heap.size → k ∉ bb :: bm :: rowOf v := by
  intro k h1 h2 h3 hm
  rcases List.mem_cons.1 hm with e | hm
  · exact h1 e
  · rcases List.mem_cons.1 hm with e | hm
    · exact h2 e
    · have := (h.row hm).1; omega
 have hsz := h.kx.size
 refine ⟨⟨KT.size, fun k o hB ho hc => ?_⟩, ⟨KT.block ka (by omega) (hnot ka ha1 ha2 ha), KT.block kb (by omega) (hnot kb hb3 hb4 hb)⟩⟩
 have hkl := (Array.getElem?_eq_some_iff.1 ho).1
 rw [KT.block k hkl (fun hm => ?_)]
 · exact ho
 · rcases List.mem_cons.1 hm with e | hm
   · omega
   · rcases List.mem_cons.1 hm with e | hm
     · omega
     · have hv := rowOf_mem hm
       rcases h.g.own.2 with ⟨h0, _⟩ | ⟨g, cap, cur, hg', _, hh, _⟩
       · rw [h0] at hv; cases hv
       · rw [hg'] at hv; cases hv
         rw [hh] at ho; cases ho; cases hc
theorem overRun_snoc (P : Int) (ds : List Int) (l : List Tri) (t : Tri) (x : List Gate × List Cell) : overRun P ds (l ++ [t]) x = overStep P ds (overRun P ds l x) t := by simp [overRun, List.foldl_append]
theorem over_grow {P : Int} {ds : List Int} : ∀ (l : List Tri) (c : List Gate) (m : List Cell), Good c → c.length + 2 * l.length ≤ 20000 → (∀ r ∈ ds, In c r) → (∀ t ∈ l, In c t.p ∧ In c t.q) →
 Grow c (overRun P ds l (c, m)).1 (2 * l.length) ∧ (overRun P ds l (c, m)).2.length ≤ m.length + l.length
 | [], c, m, hg, _, _, _ => ⟨.refl hg _, by simp [overRun]⟩
 | t :: l, c, m, hg, hl, hd, ht => by
  simp only [List.length_cons] at hl
  obtain ⟨hp, hq⟩ := ht t (List.mem_cons_self ..)
  obtain ⟨gk, ik, -⟩ := kept_one hg (by omega) hp (getD_in hg hd (t.rank / P).toNat)
  obtain ⟨K, hK⟩ : ∃ K, (if t.p = 1 then (c, 1) else cbut c t.p (ds.getD (t.rank / P).toNat 1)) = K := ⟨_, rfl⟩
  rw [hK] at gk ik
  have lk := gk.len
  obtain ⟨go, -, -⟩ := ok_or.one gk.good (by omega) ik (hq.up gk)
  have g1 := gk.trans go
  have hlen := g1.len
  have hpl : (put m t.rank (cor K.1 K.2 t.q).2).length ≤ m.length + 1 := by unfold put; split <;> simp
  obtain ⟨a1, a2⟩ := over_grow (P := P) (ds := ds) l (cor K.1 K.2 t.q).1 (put m t.rank (cor K.1 K.2 t.q).2) g1.good (by omega) (fun r hr => (hd r hr).up g1) (fun s hs => ⟨(ht s (List.mem_cons_of_mem _ hs)).1.up g1, (ht s (List.mem_cons_of_mem _ hs)).2.up g1⟩)
  have e : overRun P ds (t :: l) (c, m) = overRun P ds l ((cor K.1 K.2 t.q).1, put m t.rank (cor K.1 K.2 t.q).2) := by rw [← hK]; rfl
  rw [e]
  exact ⟨(g1.trans a1).more (by simp; omega), by rw [List.length_cons]; omega⟩
set_option maxRecDepth 100000 in
set_option maxHeartbeats 8000000 in
theorem override_any (c : List Gate) (a b : List Cell) (ar1 ar2 : Int) (k1 n p : Nat) (N : Int) (pc0 pa pb : Option Addr) (cap ca cb : Nat) (w : World) (hC : CAt w pc0 cap c) (hA : MxAt w pa ca a) (hD : MxAt w pb cb b)
 (ha1 : ar1 = (k1 : Int) + 1) (hk3 : k1 ≤ 3) (hn0 : 0 < n) (hn : n ≤ 12) (hp : n ^ k1 = p) (hg : Good c) (hl : c.length + n * b.length + 2 * (a.length + b.length) + 2 ≤ 20000) (ha : MOk c N a) (hb : MOk c N b) (hN : N ≤ (n : Int) * p) (hN2 : N ≤ 2000) :
 Calls Try.prog 43 #[.agg #[.slice pc0 c.length cap], .int .i64 n, .agg #[.int .i64 ar1, .slice pa a.length ca], .agg #[.int .i64 ar2, .slice pb b.length cb]] w (RetCMB w pc0 (mOverride c n p a b).1 ar1 (mOverride c n p a b).2) := by
 obtain ⟨i0, hi0, hz0, hz1, hz2⟩ := info_parts int_info
 have hmf : ∀ (fn : Fn) (first cap : Array Value) (w : World), (Instr.makeFunc fn first cap).run Try.prog w = .ok (.func fn first cap) w := fun _ _ _ _ => rfl
 have hp1 : 0 < p := by rw [← hp]; exact Nat.pow_pos hn0
 have hp2 : p ≤ 1728 := by rw [← hp]; exact Nat.le_trans (Nat.pow_le_pow_left hn k1) (Nat.le_trans (Nat.pow_le_pow_right (by decide) hk3) (by decide))
 have HP := Lib.hid hp; clear hp
 obtain ⟨s, hs0⟩ : ∃ s, w.heap.size = s := ⟨_, rfl⟩
 obtain ⟨W2, hW2⟩ : ∃ W2, W2 = (((((w.alloc (.cells #[.slice pc0 c.length cap] 27)).alloc (.cells #[.int .i64 ar1, .slice pa a.length ca] 30)).alloc (.cells #[.int .i64 ar2, .slice pb b.length cb] 30)).alloc (.cells #[.slice none 0 0] 27)).alloc (.cells #[.int .i64 0, .slice none 0 0] 30)) := ⟨_, rfl⟩
 have hbw : Below w.heap.size w W2 := by rw [hW2]; go_grown
 have zz : s + 5 ≤ W2.heap.size := by rw [hW2, ← hs0]; simp
 have hk : Cells W2 [(s, 0, .slice pc0 c.length cap), (s + 1, 0, .int .i64 ar1), (s + 1, 1, .slice pa a.length ca), (s + 2, 0, .int .i64 ar2), (s + 2, 1, .slice pb b.length cb), (s + 3, 0, .slice none 0 0), (s + 4, 0, .int .i64 0), (s + 4, 1, .slice none 0 0)] := by rw [hW2, ← hs0]; exact ⟨⟨by go_cell, by go_cell⟩, ⟨by go_cell, by go_cell⟩, ⟨by go_cell, by go_cell⟩, ⟨by go_cell, by go_cell⟩, ⟨by go_cell, by go_cell⟩, ⟨by go_cell, by go_cell⟩, ⟨by go_cell, by go_cell⟩, ⟨by go_cell, by go_cell⟩, trivial⟩
 have HW2 := Lib.hid hW2; have HS := Lib.hid hs0
 clear hW2 hs0
 have hc0 : 0 < c.length := hg.ne
 have hal : a.length ≤ 2000 := by have := sorted_len (lo := 0) (N := N) ha.sorted ha.ranks; omega
 have hbl0 : b.length ≤ 2000 := by have := sorted_len (lo := 0) (N := N) hb.sorted hb.ranks; omega
 have hr3 : 1 ≤ ar1 := by omega
 have hr4 : ar1 ≤ 4 := by omega
 obtain ⟨nb, hnb⟩ : ∃ z, n * b.length = z := ⟨_, rfl⟩
 rw [hnb] at hl
 have HNB := Lib.hid hnb
 have DOM := Lib.hid (fun K (hK : K ≤ n) => dom_ok (P := (p : Int)) hg hb K (by have h := Nat.mul_le_mul_right b.length hK; omega))
 have HMA := Lib.hid ha; have HMB := Lib.hid hb; have HGD := Lib.hid hg; have HNN := Lib.hid hN
 have HA1 := Lib.hid ha1
 have HC := Lib.hid hC; have HA := Lib.hid hA; have HD := Lib.hid hD
 clear hC hA hD ha hb hg ha1 hnb hN
 have hwr : IntKind.i64.wrap (ar1 - 1) = ar1 - 1 := by rw [IntWalk.i64_in]; omega
 refine (callsIn_wide (n := 4)).1 ?_
 refine callsIn_of_wp_marks Try.func43 rfl trivial ?_ rfl
 refine wpIn_wide.2 ?_
 simp only [Try.ntmps43, List.size_toArray, List.length_cons, List.length_nil, Nat.reduceAdd, Nat.reduceSub, Array.replicate_succ, Array.replicate_zero, List.push_toArray, List.append_toArray, List.nil_append, List.cons_append]
 go_upto_region 1 with fail
 rw [← HW2.out]
 simp only [HS.out, Nat.add_assoc, Nat.reduceAdd]
 obtain ⟨⟨y00, y00f⟩, ⟨y10, y10f⟩, ⟨y11, y11f⟩, ⟨y20, y20f⟩, ⟨y21, y21f⟩, ⟨y30, y30f⟩, ⟨y40, y40f⟩, ⟨y41, y41f⟩, -⟩ := id hk
 go_upto_region 1 with fail
 go_cut [10, 11] from 19 to 26 (fun s10 s11 wx => ∃ (bb bg bp : Nat), s10 = .pointer (some ⟨bg, 0, none⟩) ∧ s11 = .pointer (some ⟨bp, 0, none⟩) ∧ s + 5 ≤ bb ∧ s + 5 ≤ bg ∧ s + 5 ≤ bp ∧ bb ≠ bg ∧ bb ≠ bp ∧ bg ≠ bp ∧ Cells wx [(bb, 0, .slice pc0 c.length cap), (bg, 0, .pointer (some ⟨bb, 0, none⟩)), (bp, 0, .int .i64 p)] ∧ Below W2.heap.size W2 wx)
 case first =>
  as_aux_lemma =>
   have hacc : Below W2.heap.size W2 W2 := Below.refl _ _
   clear y00 y00f y10 y10f y11 y11f y20 y20f y21 y21f y30 y30f y40 y40f y41 y41f
   refine wp_region_seqE (fun x => Below W2.heap.size W2 x) (.one 0 0 (.one 1 1 (.one 3 1 (.one 4 1 (.one 5 0 (.one 6 1 (.one 7 1 (.alt 2 2 (.alt 8 2 (.alt 9 2 (.alt 10 3 (.alt 11 3 .nil .stop) .stop) .stop) (.alt 9 2 (.alt 8 2 (.alt 10 3 (.alt 11 3 .nil .stop) .stop) .stop) .stop)) (.alt 8 2 (.alt 2 2 (.alt 9 2 (.alt 10 3 (.alt 11 3 .nil .stop) .stop) .stop) (.alt 9 2 (.alt 2 2 (.alt 10 3 (.alt 11 3 .nil .stop) .stop) .stop) .stop)) (.alt 9 2 (.alt 2 2 (.alt 8 2 (.alt 10 3 (.alt 11 3 .nil .stop) .stop) .stop) (.alt 8 2 (.alt 2 2 (.alt 10 3 (.alt 11 3 .nil .stop) .stop) .stop) .stop)) .stop)))))))))) (by kernel_rfl) (by kernel_rfl) (by kernel_rfl) (Below.drew (Below.refl _ _)) ?_
   iterate 6 ((first | (refine seqE_free (v := ?_) rfl (by rfl) ?_ ?_; rotate_left; (focus (intro w; go_simp; try with_reducible rfl))) | (refine seqE_pure (v := ?_) rfl (by rfl) ?_ ?_; rotate_left; (focus (intro w hS; obtain ⟨⟨y00, -⟩, ⟨y10, -⟩, -⟩ := hk.up hS; go_simp; try with_reducible rfl)))); (try simp only [Act.put, zA, zB, zC]))
   refine seqE_fcall (v := .int .i64 (p : Int)) (f := ?_) (args := ?_) rfl (by rfl) ?_ ?_ ?_
   rotate_left 2
   focus (intro w; go_simp; first | done | with_reducible rfl | (refine ⟨?_, ?_⟩ <;> with_reducible rfl))
   focus (intro w; refine (power_is (k := k1) (q := p) w (by have := HA1.out; first | omega | (rw [hwr]; omega)) HP.out hn (by omega)).mono ?_; rintro e w' ⟨rfl, hw⟩; exact ⟨rfl, hw⟩)
   (try simp only [Act.put, zA, zB, zC])
   clear hk
   refine seqE_move rfl (by rfl) ?_ ?_
   ·
    intro w1 hS
    refine ⟨.pointer (some ⟨w1.heap.size, 0, none⟩), w1.alloc (.cells #[.slice pc0 c.length cap] 87), (by go_simp; try with_reducible rfl), ?_⟩
    obtain ⟨b21, hb21⟩ : ∃ b, b = w1.heap.size := ⟨_, rfl⟩
    obtain ⟨v1, hw1⟩ : ∃ zW, zW = w1.alloc (.cells #[.slice pc0 c.length cap] 87) := ⟨_, rfl⟩
    rw [← hw1, ← hb21]
    have hbl : Below w1.heap.size w1 v1 := by rw [hw1]; go_grown
    have hge21 : s + 5 ≤ b21 := by rw [hb21]; exact Nat.le_trans zz hS.size
    have hga21 : W2.heap.size ≤ b21 := by rw [hb21]; exact Nat.le_trans hacc.size hS.size
    refine ⟨(fun x => Below v1.heap.size v1 x), Below.refl _ _, fun x hx => btr (btr hS hbl) hx, ?_⟩
    have hX := btr hS hbl
    replace hbw := btr hbw hX; replace zz := Nat.le_trans zz (Below.size hX); replace hacc := btr hacc hX
    have hs : Cells v1 [(b21, 0, .slice pc0 c.length cap)] := ⟨⟨by rw [hw1, hb21]; go_cell, by rw [hw1, hb21]; go_cell⟩, trivial⟩
    clear hX hS hbl hw1 hb21
    (try simp only [Act.put, zA, zB, zC])
    refine seqE_move rfl (by rfl) ?_ ?_
    ·
     intro w2 hS
     refine ⟨.pointer (some ⟨w2.heap.size, 0, none⟩), w2.alloc (.cells #[.pointer none] 95), (by go_simp; try with_reducible rfl), ?_⟩
     obtain ⟨b10, hb10⟩ : ∃ b, b = w2.heap.size := ⟨_, rfl⟩
     obtain ⟨v2, hw2⟩ : ∃ zW, zW = w2.alloc (.cells #[.pointer none] 95) := ⟨_, rfl⟩
     rw [← hw2, ← hb10]
     have hbl : Below w2.heap.size w2 v2 := by rw [hw2]; go_grown
     have hge10 : s + 5 ≤ b10 := by rw [hb10]; exact Nat.le_trans zz hS.size
     have hga10 : W2.heap.size ≤ b10 := by rw [hb10]; exact Nat.le_trans hacc.size hS.size
     have hlb21_10 : b21 < b10 := by rw [hb10]; exact Nat.lt_of_lt_of_le (World.block_lt_of_cell? _ _ hs.1.1) hS.size
     refine ⟨(fun x => Below v2.heap.size v2 x), Below.refl _ _, fun x hx => btr (btr hS hbl) hx, ?_⟩
     have hX := btr hS hbl
     replace hs := hs.up hX; replace hbw := btr hbw hX; replace zz := Nat.le_trans zz (Below.size hX); replace hacc := btr hacc hX
     replace hs : Cells v2 [(b10, 0, .pointer none), (b21, 0, .slice pc0 c.length cap)] := ⟨⟨by rw [hw2, hb10]; go_cell, by rw [hw2, hb10]; go_cell⟩, hs⟩
     clear hX hS hbl hw2 hb10
     (try simp only [Act.put, zA, zB, zC])
     refine seqE_move rfl (by rfl) ?_ seqE_stop
     intro w3 hS
     refine ⟨.pointer (some ⟨w3.heap.size, 0, none⟩), w3.alloc (.cells #[.int .i64 0] 3), (by go_simp; try with_reducible rfl), ?_⟩
     obtain ⟨b11, hb11⟩ : ∃ b, b = w3.heap.size := ⟨_, rfl⟩
     obtain ⟨v3, hw3⟩ : ∃ zW, zW = w3.alloc (.cells #[.int .i64 0] 3) := ⟨_, rfl⟩
     rw [← hw3, ← hb11]
     have hbl : Below w3.heap.size w3 v3 := by rw [hw3]; go_grown
     have hge11 : s + 5 ≤ b11 := by rw [hb11]; exact Nat.le_trans zz hS.size
     have hga11 : W2.heap.size ≤ b11 := by rw [hb11]; exact Nat.le_trans hacc.size hS.size
     have hlb10_11 : b10 < b11 := by rw [hb11]; exact Nat.lt_of_lt_of_le (World.block_lt_of_cell? _ _ hs.1.1) hS.size
     have hlb21_11 : b21 < b11 := by rw [hb11]; exact Nat.lt_of_lt_of_le (World.block_lt_of_cell? _ _ hs.2.1.1) hS.size
     refine ⟨(fun x => Below v3.heap.size v3 x), Below.refl _ _, fun x hx => btr (btr hS hbl) hx, ?_⟩
     have hX := btr hS hbl
     replace hs := hs.up hX; replace hbw := btr hbw hX; replace zz := Nat.le_trans zz (Below.size hX); replace hacc := btr hacc hX
     replace hs : Cells v3 [(b11, 0, .int .i64 0), (b10, 0, .pointer none), (b21, 0, .slice pc0 c.length cap)] := ⟨⟨by rw [hw3, hb11]; go_cell, by rw [hw3, hb11]; go_cell⟩, hs⟩
     clear hX hS hbl hw3 hb11
     (try simp only [Act.put, zA, zB, zC])
     refine seqE_storeB rfl (by rfl) ?_ seqE_stop
     intro w4 hS
     replace hs := hs.up hS; replace hbw := btr hbw hS; replace zz := Nat.le_trans zz (Below.size hS); replace hacc := btr hacc hS
     obtain ⟨⟨d110, d110f⟩, ⟨d100, d100f⟩, ⟨d210, d210f⟩, -⟩ := id hs
     refine ⟨(w4.setCell ⟨b10, 0, none⟩ (.pointer (some ⟨b21, 0, none⟩))), (by go_simp; try with_reducible rfl), (fun x => Below ((w4.setCell ⟨b10, 0, none⟩ (.pointer (some ⟨b21, 0, none⟩)))).heap.size ((w4.setCell ⟨b10, 0, none⟩ (.pointer (some ⟨b21, 0, none⟩)))) x), Below.refl _ _, ?_⟩
     obtain ⟨v4, hw⟩ : ∃ zW, zW = (w4.setCell ⟨b10, 0, none⟩ (.pointer (some ⟨b21, 0, none⟩))) := ⟨_, rfl⟩
     rw [← hw]
     replace hs : Cells v4 [(b11, 0, .int .i64 0), (b10, 0, .pointer (some ⟨b21, 0, none⟩)), (b21, 0, .slice pc0 c.length cap)] := by rw [hw]; exact ⟨⟨by go_cell, (fz d110f)⟩, ⟨by go_cell, (fz d100f)⟩, ⟨by go_cell, (fz d210f)⟩, trivial⟩
     replace hbw : Below w.heap.size w v4 := by rw [hw]; exact (Below.setCell hbw (by have h := HS.out; (try dsimp only); omega) _)
     replace hacc : Below W2.heap.size W2 v4 := by rw [hw]; exact (Below.setCell hacc (by have h := HS.out; (try dsimp only); omega) _)
     replace zz : s + 5 ≤ v4.heap.size := by rw [hw]; simpa using zz
     clear hw
     clear d110 d110f d100 d100f d210 d210f
     clear hS
     (try simp only [Act.put, zA, zB, zC])
     refine seqE_storeB rfl (by rfl) ?_ seqE_stop
     intro w5 hS
     replace hs := hs.up hS; replace hbw := btr hbw hS; replace zz := Nat.le_trans zz (Below.size hS); replace hacc := btr hacc hS
     obtain ⟨⟨d110, d110f⟩, ⟨d100, d100f⟩, ⟨d210, d210f⟩, -⟩ := id hs
     refine ⟨(w5.setCell ⟨b11, 0, none⟩ (.int .i64 (p : Int))), (by go_simp; try with_reducible rfl), (fun x => Below ((w5.setCell ⟨b11, 0, none⟩ (.int .i64 (p : Int)))).heap.size ((w5.setCell ⟨b11, 0, none⟩ (.int .i64 (p : Int)))) x), Below.refl _ _, ?_⟩
     obtain ⟨v5, hw⟩ : ∃ zW, zW = (w5.setCell ⟨b11, 0, none⟩ (.int .i64 (p : Int))) := ⟨_, rfl⟩
     rw [← hw]
     replace hs : Cells v5 [(b11, 0, .int .i64 (p : Int)), (b10, 0, .pointer (some ⟨b21, 0, none⟩)), (b21, 0, .slice pc0 c.length cap)] := by rw [hw]; exact ⟨⟨by go_cell, (fz d110f)⟩, ⟨by go_cell, (fz d100f)⟩, ⟨by go_cell, (fz d210f)⟩, trivial⟩
     replace hbw : Below w.heap.size w v5 := by rw [hw]; exact (Below.setCell hbw (by have h := HS.out; (try dsimp only); omega) _)
     replace hacc : Below W2.heap.size W2 v5 := by rw [hw]; exact (Below.setCell hacc (by have h := HS.out; (try dsimp only); omega) _)
     replace zz : s + 5 ≤ v5.heap.size := by rw [hw]; simpa using zz
     clear hw
     clear d110 d110f d100 d100f d210 d210f
     clear hS
     (try simp only [Act.put, zA, zB, zC])
     refine seqE_nil ?_
     intro wz hS
     replace hs := hs.up hS; replace hbw := btr hbw hS; replace zz := Nat.le_trans zz (Below.size hS); replace hacc := btr hacc hS; clear hS
     obtain ⟨⟨d110, d110f⟩, ⟨d100, d100f⟩, ⟨d210, d210f⟩, -⟩ := id hs
     go_wp2_with fail
     go_meet
     exact ⟨_, _, _, rfl, rfl, hge21, hge10, hge11, by omega, by omega, by omega, ⟨⟨d210, d210f⟩, ⟨d100, d100f⟩, ⟨d110, d110f⟩, trivial⟩, hacc⟩
    refine seqE_move rfl (by rfl) ?_ seqE_stop
    intro w6 hS
    refine ⟨.pointer (some ⟨w6.heap.size, 0, none⟩), w6.alloc (.cells #[.int .i64 0] 3), (by go_simp; try with_reducible rfl), ?_⟩
    obtain ⟨b11, hb11⟩ : ∃ b, b = w6.heap.size := ⟨_, rfl⟩
    obtain ⟨v6, hw6⟩ : ∃ zW, zW = w6.alloc (.cells #[.int .i64 0] 3) := ⟨_, rfl⟩
    rw [← hw6, ← hb11]
    have hbl : Below w6.heap.size w6 v6 := by rw [hw6]; go_grown
    have hge11 : s + 5 ≤ b11 := by rw [hb11]; exact Nat.le_trans zz hS.size
    have hga11 : W2.heap.size ≤ b11 := by rw [hb11]; exact Nat.le_trans hacc.size hS.size
    have hlb21_11 : b21 < b11 := by rw [hb11]; exact Nat.lt_of_lt_of_le (World.block_lt_of_cell? _ _ hs.1.1) hS.size
    refine ⟨(fun x => Below v6.heap.size v6 x), Below.refl _ _, fun x hx => btr (btr hS hbl) hx, ?_⟩
    have hX := btr hS hbl
    replace hs := hs.up hX; replace hbw := btr hbw hX; replace zz := Nat.le_trans zz (Below.size hX); replace hacc := btr hacc hX
    replace hs : Cells v6 [(b11, 0, .int .i64 0), (b21, 0, .slice pc0 c.length cap)] := ⟨⟨by rw [hw6, hb11]; go_cell, by rw [hw6, hb11]; go_cell⟩, hs⟩
    clear hX hS hbl hw6 hb11
    (try simp only [Act.put, zA, zB, zC])
    refine seqE_move rfl (by rfl) ?_ seqE_stop
    intro w7 hS
    refine ⟨.pointer (some ⟨w7.heap.size, 0, none⟩), w7.alloc (.cells #[.pointer none] 95), (by go_simp; try with_reducible rfl), ?_⟩
    obtain ⟨b10, hb10⟩ : ∃ b, b = w7.heap.size := ⟨_, rfl⟩
    obtain ⟨v7, hw7⟩ : ∃ zW, zW = w7.alloc (.cells #[.pointer none] 95) := ⟨_, rfl⟩
    rw [← hw7, ← hb10]
    have hbl : Below w7.heap.size w7 v7 := by rw [hw7]; go_grown
    have hge10 : s + 5 ≤ b10 := by rw [hb10]; exact Nat.le_trans zz hS.size
    have hga10 : W2.heap.size ≤ b10 := by rw [hb10]; exact Nat.le_trans hacc.size hS.size
    have hlb11_10 : b11 < b10 := by rw [hb10]; exact Nat.lt_of_lt_of_le (World.block_lt_of_cell? _ _ hs.1.1) hS.size
    have hlb21_10 : b21 < b10 := by rw [hb10]; exact Nat.lt_of_lt_of_le (World.block_lt_of_cell? _ _ hs.2.1.1) hS.size
    refine ⟨(fun x => Below v7.heap.size v7 x), Below.refl _ _, fun x hx => btr (btr hS hbl) hx, ?_⟩
    have hX := btr hS hbl
    replace hs := hs.up hX; replace hbw := btr hbw hX; replace zz := Nat.le_trans zz (Below.size hX); replace hacc := btr hacc hX
    replace hs : Cells v7 [(b10, 0, .pointer none), (b11, 0, .int .i64 0), (b21, 0, .slice pc0 c.length cap)] := ⟨⟨by rw [hw7, hb10]; go_cell, by rw [hw7, hb10]; go_cell⟩, hs⟩
    clear hX hS hbl hw7 hb10
    (try simp only [Act.put, zA, zB, zC])
    refine seqE_storeB rfl (by rfl) ?_ seqE_stop
    intro w8 hS
    replace hs := hs.up hS; replace hbw := btr hbw hS; replace zz := Nat.le_trans zz (Below.size hS); replace hacc := btr hacc hS
    obtain ⟨⟨d100, d100f⟩, ⟨d110, d110f⟩, ⟨d210, d210f⟩, -⟩ := id hs
    refine ⟨(w8.setCell ⟨b10, 0, none⟩ (.pointer (some ⟨b21, 0, none⟩))), (by go_simp; try with_reducible rfl), (fun x => Below ((w8.setCell ⟨b10, 0, none⟩ (.pointer (some ⟨b21, 0, none⟩)))).heap.size ((w8.setCell ⟨b10, 0, none⟩ (.pointer (some ⟨b21, 0, none⟩)))) x), Below.refl _ _, ?_⟩
    obtain ⟨v8, hw⟩ : ∃ zW, zW = (w8.setCell ⟨b10, 0, none⟩ (.pointer (some ⟨b21, 0, none⟩))) := ⟨_, rfl⟩
    rw [← hw]
    replace hs : Cells v8 [(b10, 0, .pointer (some ⟨b21, 0, none⟩)), (b11, 0, .int .i64 0), (b21, 0, .slice pc0 c.length cap)] := by rw [hw]; exact ⟨⟨by go_cell, (fz d100f)⟩, ⟨by go_cell, (fz d110f)⟩, ⟨by go_cell, (fz d210f)⟩, trivial⟩
    replace hbw : Below w.heap.size w v8 := by rw [hw]; exact (Below.setCell hbw (by have h := HS.out; (try dsimp only); omega) _)
    replace hacc : Below W2.heap.size W2 v8 := by rw [hw]; exact (Below.setCell hacc (by have h := HS.out; (try dsimp only); omega) _)
    replace zz : s + 5 ≤ v8.heap.size := by rw [hw]; simpa using zz
    clear hw
    clear d100 d100f d110 d110f d210 d210f
    clear hS
    (try simp only [Act.put, zA, zB, zC])
    refine seqE_storeB rfl (by rfl) ?_ seqE_stop
    intro w9 hS
    replace hs := hs.up hS; replace hbw := btr hbw hS; replace zz := Nat.le_trans zz (Below.size hS); replace hacc := btr hacc hS
    obtain ⟨⟨d100, d100f⟩, ⟨d110, d110f⟩, ⟨d210, d210f⟩, -⟩ := id hs
    refine ⟨(w9.setCell ⟨b11, 0, none⟩ (.int .i64 (p : Int))), (by go_simp; try with_reducible rfl), (fun x => Below ((w9.setCell ⟨b11, 0, none⟩ (.int .i64 (p : Int)))).heap.size ((w9.setCell ⟨b11, 0, none⟩ (.int .i64 (p : Int)))) x), Below.refl _ _, ?_⟩
    obtain ⟨v9, hw⟩ : ∃ zW, zW = (w9.setCell ⟨b11, 0, none⟩ (.int .i64 (p : Int))) := ⟨_, rfl⟩
    rw [← hw]
    replace hs : Cells v9 [(b10, 0, .pointer (some ⟨b21, 0, none⟩)), (b11, 0, .int .i64 (p : Int)), (b21, 0, .slice pc0 c.length cap)] := by rw [hw]; exact ⟨⟨by go_cell, (fz d100f)⟩, ⟨by go_cell, (fz d110f)⟩, ⟨by go_cell, (fz d210f)⟩, trivial⟩
    replace hbw : Below w.heap.size w v9 := by rw [hw]; exact (Below.setCell hbw (by have h := HS.out; (try dsimp only); omega) _)
    replace hacc : Below W2.heap.size W2 v9 := by rw [hw]; exact (Below.setCell hacc (by have h := HS.out; (try dsimp only); omega) _)
    replace zz : s + 5 ≤ v9.heap.size := by rw [hw]; simpa using zz
    clear hw
    clear d100 d100f d110 d110f d210 d210f
    clear hS
    (try simp only [Act.put, zA, zB, zC])
    refine seqE_nil ?_
    intro wz hS
    replace hs := hs.up hS; replace hbw := btr hbw hS; replace zz := Nat.le_trans zz (Below.size hS); replace hacc := btr hacc hS; clear hS
    obtain ⟨⟨d100, d100f⟩, ⟨d110, d110f⟩, ⟨d210, d210f⟩, -⟩ := id hs
    go_wp2_with fail
    go_meet
    exact ⟨_, _, _, rfl, rfl, hge21, hge10, hge11, by omega, by omega, by omega, ⟨⟨d210, d210f⟩, ⟨d100, d100f⟩, ⟨d110, d110f⟩, trivial⟩, hacc⟩
   refine seqE_move rfl (by rfl) ?_ ?_
   ·
    intro w10 hS
    refine ⟨.pointer (some ⟨w10.heap.size, 0, none⟩), w10.alloc (.cells #[.pointer none] 95), (by go_simp; try with_reducible rfl), ?_⟩
    obtain ⟨b10, hb10⟩ : ∃ b, b = w10.heap.size := ⟨_, rfl⟩
    obtain ⟨v10, hw10⟩ : ∃ zW, zW = w10.alloc (.cells #[.pointer none] 95) := ⟨_, rfl⟩
    rw [← hw10, ← hb10]
    have hbl : Below w10.heap.size w10 v10 := by rw [hw10]; go_grown
    have hge10 : s + 5 ≤ b10 := by rw [hb10]; exact Nat.le_trans zz hS.size
    have hga10 : W2.heap.size ≤ b10 := by rw [hb10]; exact Nat.le_trans hacc.size hS.size
    refine ⟨(fun x => Below v10.heap.size v10 x), Below.refl _ _, fun x hx => btr (btr hS hbl) hx, ?_⟩
    have hX := btr hS hbl
    replace hbw := btr hbw hX; replace zz := Nat.le_trans zz (Below.size hX); replace hacc := btr hacc hX
    have hs : Cells v10 [(b10, 0, .pointer none)] := ⟨⟨by rw [hw10, hb10]; go_cell, by rw [hw10, hb10]; go_cell⟩, trivial⟩
    clear hX hS hbl hw10 hb10
    (try simp only [Act.put, zA, zB, zC])
    refine seqE_move rfl (by rfl) ?_ ?_
    ·
     intro w11 hS
     refine ⟨.pointer (some ⟨w11.heap.size, 0, none⟩), w11.alloc (.cells #[.slice pc0 c.length cap] 87), (by go_simp; try with_reducible rfl), ?_⟩
     obtain ⟨b21, hb21⟩ : ∃ b, b = w11.heap.size := ⟨_, rfl⟩
     obtain ⟨v11, hw11⟩ : ∃ zW, zW = w11.alloc (.cells #[.slice pc0 c.length cap] 87) := ⟨_, rfl⟩
     rw [← hw11, ← hb21]
     have hbl : Below w11.heap.size w11 v11 := by rw [hw11]; go_grown
     have hge21 : s + 5 ≤ b21 := by rw [hb21]; exact Nat.le_trans zz hS.size
     have hga21 : W2.heap.size ≤ b21 := by rw [hb21]; exact Nat.le_trans hacc.size hS.size
     have hlb10_21 : b10 < b21 := by rw [hb21]; exact Nat.lt_of_lt_of_le (World.block_lt_of_cell? _ _ hs.1.1) hS.size
     refine ⟨(fun x => Below v11.heap.size v11 x), Below.refl _ _, fun x hx => btr (btr hS hbl) hx, ?_⟩
     have hX := btr hS hbl
     replace hs := hs.up hX; replace hbw := btr hbw hX; replace zz := Nat.le_trans zz (Below.size hX); replace hacc := btr hacc hX
     replace hs : Cells v11 [(b21, 0, .slice pc0 c.length cap), (b10, 0, .pointer none)] := ⟨⟨by rw [hw11, hb21]; go_cell, by rw [hw11, hb21]; go_cell⟩, hs⟩
     clear hX hS hbl hw11 hb21
     (try simp only [Act.put, zA, zB, zC])
     refine seqE_move rfl (by rfl) ?_ seqE_stop
     intro w12 hS
     refine ⟨.pointer (some ⟨w12.heap.size, 0, none⟩), w12.alloc (.cells #[.int .i64 0] 3), (by go_simp; try with_reducible rfl), ?_⟩
     obtain ⟨b11, hb11⟩ : ∃ b, b = w12.heap.size := ⟨_, rfl⟩
     obtain ⟨v12, hw12⟩ : ∃ zW, zW = w12.alloc (.cells #[.int .i64 0] 3) := ⟨_, rfl⟩
     rw [← hw12, ← hb11]
     have hbl : Below w12.heap.size w12 v12 := by rw [hw12]; go_grown
     have hge11 : s + 5 ≤ b11 := by rw [hb11]; exact Nat.le_trans zz hS.size
     have hga11 : W2.heap.size ≤ b11 := by rw [hb11]; exact Nat.le_trans hacc.size hS.size
     have hlb21_11 : b21 < b11 := by rw [hb11]; exact Nat.lt_of_lt_of_le (World.block_lt_of_cell? _ _ hs.1.1) hS.size
     have hlb10_11 : b10 < b11 := by rw [hb11]; exact Nat.lt_of_lt_of_le (World.block_lt_of_cell? _ _ hs.2.1.1) hS.size
     refine ⟨(fun x => Below v12.heap.size v12 x), Below.refl _ _, fun x hx => btr (btr hS hbl) hx, ?_⟩
     have hX := btr hS hbl
     replace hs := hs.up hX; replace hbw := btr hbw hX; replace zz := Nat.le_trans zz (Below.size hX); replace hacc := btr hacc hX
     replace hs : Cells v12 [(b11, 0, .int .i64 0), (b21, 0, .slice pc0 c.length cap), (b10, 0, .pointer none)] := ⟨⟨by rw [hw12, hb11]; go_cell, by rw [hw12, hb11]; go_cell⟩, hs⟩
     clear hX hS hbl hw12 hb11
     (try simp only [Act.put, zA, zB, zC])
     refine seqE_storeB rfl (by rfl) ?_ seqE_stop
     intro w13 hS
     replace hs := hs.up hS; replace hbw := btr hbw hS; replace zz := Nat.le_trans zz (Below.size hS); replace hacc := btr hacc hS
     obtain ⟨⟨d110, d110f⟩, ⟨d210, d210f⟩, ⟨d100, d100f⟩, -⟩ := id hs
     refine ⟨(w13.setCell ⟨b10, 0, none⟩ (.pointer (some ⟨b21, 0, none⟩))), (by go_simp; try with_reducible rfl), (fun x => Below ((w13.setCell ⟨b10, 0, none⟩ (.pointer (some ⟨b21, 0, none⟩)))).heap.size ((w13.setCell ⟨b10, 0, none⟩ (.pointer (some ⟨b21, 0, none⟩)))) x), Below.refl _ _, ?_⟩
     obtain ⟨v13, hw⟩ : ∃ zW, zW = (w13.setCell ⟨b10, 0, none⟩ (.pointer (some ⟨b21, 0, none⟩))) := ⟨_, rfl⟩
     rw [← hw]
     replace hs : Cells v13 [(b11, 0, .int .i64 0), (b21, 0, .slice pc0 c.length cap), (b10, 0, .pointer (some ⟨b21, 0, none⟩))] := by rw [hw]; exact ⟨⟨by go_cell, (fz d110f)⟩, ⟨by go_cell, (fz d210f)⟩, ⟨by go_cell, (fz d100f)⟩, trivial⟩
     replace hbw : Below w.heap.size w v13 := by rw [hw]; exact (Below.setCell hbw (by have h := HS.out; (try dsimp only); omega) _)
     replace hacc : Below W2.heap.size W2 v13 := by rw [hw]; exact (Below.setCell hacc (by have h := HS.out; (try dsimp only); omega) _)
     replace zz : s + 5 ≤ v13.heap.size := by rw [hw]; simpa using zz
     clear hw
     clear d110 d110f d210 d210f d100 d100f
     clear hS
     (try simp only [Act.put, zA, zB, zC])
     refine seqE_storeB rfl (by rfl) ?_ seqE_stop
     intro w14 hS
     replace hs := hs.up hS; replace hbw := btr hbw hS; replace zz := Nat.le_trans zz (Below.size hS); replace hacc := btr hacc hS
     obtain ⟨⟨d110, d110f⟩, ⟨d210, d210f⟩, ⟨d100, d100f⟩, -⟩ := id hs
     refine ⟨(w14.setCell ⟨b11, 0, none⟩ (.int .i64 (p : Int))), (by go_simp; try with_reducible rfl), (fun x => Below ((w14.setCell ⟨b11, 0, none⟩ (.int .i64 (p : Int)))).heap.size ((w14.setCell ⟨b11, 0, none⟩ (.int .i64 (p : Int)))) x), Below.refl _ _, ?_⟩
     obtain ⟨v14, hw⟩ : ∃ zW, zW = (w14.setCell ⟨b11, 0, none⟩ (.int .i64 (p : Int))) := ⟨_, rfl⟩
     rw [← hw]
     replace hs : Cells v14 [(b11, 0, .int .i64 (p : Int)), (b21, 0, .slice pc0 c.length cap), (b10, 0, .pointer (some ⟨b21, 0, none⟩))] := by rw [hw]; exact ⟨⟨by go_cell, (fz d110f)⟩, ⟨by go_cell, (fz d210f)⟩, ⟨by go_cell, (fz d100f)⟩, trivial⟩
     replace hbw : Below w.heap.size w v14 := by rw [hw]; exact (Below.setCell hbw (by have h := HS.out; (try dsimp only); omega) _)
     replace hacc : Below W2.heap.size W2 v14 := by rw [hw]; exact (Below.setCell hacc (by have h := HS.out; (try dsimp only); omega) _)
     replace zz : s + 5 ≤ v14.heap.size := by rw [hw]; simpa using zz
     clear hw
     clear d110 d110f d210 d210f d100 d100f
     clear hS
     (try simp only [Act.put, zA, zB, zC])
     refine seqE_nil ?_
     intro wz hS
     replace hs := hs.up hS; replace hbw := btr hbw hS; replace zz := Nat.le_trans zz (Below.size hS); replace hacc := btr hacc hS; clear hS
     obtain ⟨⟨d110, d110f⟩, ⟨d210, d210f⟩, ⟨d100, d100f⟩, -⟩ := id hs
     go_wp2_with fail
     go_meet
     exact ⟨_, _, _, rfl, rfl, hge21, hge10, hge11, by omega, by omega, by omega, ⟨⟨d210, d210f⟩, ⟨d100, d100f⟩, ⟨d110, d110f⟩, trivial⟩, hacc⟩
    refine seqE_move rfl (by rfl) ?_ seqE_stop
    intro w15 hS
    refine ⟨.pointer (some ⟨w15.heap.size, 0, none⟩), w15.alloc (.cells #[.int .i64 0] 3), (by go_simp; try with_reducible rfl), ?_⟩
    obtain ⟨b11, hb11⟩ : ∃ b, b = w15.heap.size := ⟨_, rfl⟩
    obtain ⟨v15, hw15⟩ : ∃ zW, zW = w15.alloc (.cells #[.int .i64 0] 3) := ⟨_, rfl⟩
    rw [← hw15, ← hb11]
    have hbl : Below w15.heap.size w15 v15 := by rw [hw15]; go_grown
    have hge11 : s + 5 ≤ b11 := by rw [hb11]; exact Nat.le_trans zz hS.size
    have hga11 : W2.heap.size ≤ b11 := by rw [hb11]; exact Nat.le_trans hacc.size hS.size
    have hlb10_11 : b10 < b11 := by rw [hb11]; exact Nat.lt_of_lt_of_le (World.block_lt_of_cell? _ _ hs.1.1) hS.size
    refine ⟨(fun x => Below v15.heap.size v15 x), Below.refl _ _, fun x hx => btr (btr hS hbl) hx, ?_⟩
    have hX := btr hS hbl
    replace hs := hs.up hX; replace hbw := btr hbw hX; replace zz := Nat.le_trans zz (Below.size hX); replace hacc := btr hacc hX
    replace hs : Cells v15 [(b11, 0, .int .i64 0), (b10, 0, .pointer none)] := ⟨⟨by rw [hw15, hb11]; go_cell, by rw [hw15, hb11]; go_cell⟩, hs⟩
    clear hX hS hbl hw15 hb11
    (try simp only [Act.put, zA, zB, zC])
    refine seqE_move rfl (by rfl) ?_ seqE_stop
    intro w16 hS
    refine ⟨.pointer (some ⟨w16.heap.size, 0, none⟩), w16.alloc (.cells #[.slice pc0 c.length cap] 87), (by go_simp; try with_reducible rfl), ?_⟩
    obtain ⟨b21, hb21⟩ : ∃ b, b = w16.heap.size := ⟨_, rfl⟩
    obtain ⟨v16, hw16⟩ : ∃ zW, zW = w16.alloc (.cells #[.slice pc0 c.length cap] 87) := ⟨_, rfl⟩
    rw [← hw16, ← hb21]
    have hbl : Below w16.heap.size w16 v16 := by rw [hw16]; go_grown
    have hge21 : s + 5 ≤ b21 := by rw [hb21]; exact Nat.le_trans zz hS.size
    have hga21 : W2.heap.size ≤ b21 := by rw [hb21]; exact Nat.le_trans hacc.size hS.size
    have hlb11_21 : b11 < b21 := by rw [hb21]; exact Nat.lt_of_lt_of_le (World.block_lt_of_cell? _ _ hs.1.1) hS.size
    have hlb10_21 : b10 < b21 := by rw [hb21]; exact Nat.lt_of_lt_of_le (World.block_lt_of_cell? _ _ hs.2.1.1) hS.size
    refine ⟨(fun x => Below v16.heap.size v16 x), Below.refl _ _, fun x hx => btr (btr hS hbl) hx, ?_⟩
    have hX := btr hS hbl
    replace hs := hs.up hX; replace hbw := btr hbw hX; replace zz := Nat.le_trans zz (Below.size hX); replace hacc := btr hacc hX
    replace hs : Cells v16 [(b21, 0, .slice pc0 c.length cap), (b11, 0, .int .i64 0), (b10, 0, .pointer none)] := ⟨⟨by rw [hw16, hb21]; go_cell, by rw [hw16, hb21]; go_cell⟩, hs⟩
    clear hX hS hbl hw16 hb21
    (try simp only [Act.put, zA, zB, zC])
    refine seqE_storeB rfl (by rfl) ?_ seqE_stop
    intro w17 hS
    replace hs := hs.up hS; replace hbw := btr hbw hS; replace zz := Nat.le_trans zz (Below.size hS); replace hacc := btr hacc hS
    obtain ⟨⟨d210, d210f⟩, ⟨d110, d110f⟩, ⟨d100, d100f⟩, -⟩ := id hs
    refine ⟨(w17.setCell ⟨b10, 0, none⟩ (.pointer (some ⟨b21, 0, none⟩))), (by go_simp; try with_reducible rfl), (fun x => Below ((w17.setCell ⟨b10, 0, none⟩ (.pointer (some ⟨b21, 0, none⟩)))).heap.size ((w17.setCell ⟨b10, 0, none⟩ (.pointer (some ⟨b21, 0, none⟩)))) x), Below.refl _ _, ?_⟩
    obtain ⟨v17, hw⟩ : ∃ zW, zW = (w17.setCell ⟨b10, 0, none⟩ (.pointer (some ⟨b21, 0, none⟩))) := ⟨_, rfl⟩
    rw [← hw]
    replace hs : Cells v17 [(b21, 0, .slice pc0 c.length cap), (b11, 0, .int .i64 0), (b10, 0, .pointer (some ⟨b21, 0, none⟩))] := by rw [hw]; exact ⟨⟨by go_cell, (fz d210f)⟩, ⟨by go_cell, (fz d110f)⟩, ⟨by go_cell, (fz d100f)⟩, trivial⟩
    replace hbw : Below w.heap.size w v17 := by rw [hw]; exact (Below.setCell hbw (by have h := HS.out; (try dsimp only); omega) _)
    replace hacc : Below W2.heap.size W2 v17 := by rw [hw]; exact (Below.setCell hacc (by have h := HS.out; (try dsimp only); omega) _)
    replace zz : s + 5 ≤ v17.heap.size := by rw [hw]; simpa using zz
    clear hw
    clear d210 d210f d110 d110f d100 d100f
    clear hS
    (try simp only [Act.put, zA, zB, zC])
    refine seqE_storeB rfl (by rfl) ?_ seqE_stop
    intro w18 hS
    replace hs := hs.up hS; replace hbw := btr hbw hS; replace zz := Nat.le_trans zz (Below.size hS); replace hacc := btr hacc hS
    obtain ⟨⟨d210, d210f⟩, ⟨d110, d110f⟩, ⟨d100, d100f⟩, -⟩ := id hs
    refine ⟨(w18.setCell ⟨b11, 0, none⟩ (.int .i64 (p : Int))), (by go_simp; try with_reducible rfl), (fun x => Below ((w18.setCell ⟨b11, 0, none⟩ (.int .i64 (p : Int)))).heap.size ((w18.setCell ⟨b11, 0, none⟩ (.int .i64 (p : Int)))) x), Below.refl _ _, ?_⟩
    obtain ⟨v18, hw⟩ : ∃ zW, zW = (w18.setCell ⟨b11, 0, none⟩ (.int .i64 (p : Int))) := ⟨_, rfl⟩
    rw [← hw]
    replace hs : Cells v18 [(b21, 0, .slice pc0 c.length cap), (b11, 0, .int .i64 (p : Int)), (b10, 0, .pointer (some ⟨b21, 0, none⟩))] := by rw [hw]; exact ⟨⟨by go_cell, (fz d210f)⟩, ⟨by go_cell, (fz d110f)⟩, ⟨by go_cell, (fz d100f)⟩, trivial⟩
    replace hbw : Below w.heap.size w v18 := by rw [hw]; exact (Below.setCell hbw (by have h := HS.out; (try dsimp only); omega) _)
    replace hacc : Below W2.heap.size W2 v18 := by rw [hw]; exact (Below.setCell hacc (by have h := HS.out; (try dsimp only); omega) _)
    replace zz : s + 5 ≤ v18.heap.size := by rw [hw]; simpa using zz
    clear hw
    clear d210 d210f d110 d110f d100 d100f
    clear hS
    (try simp only [Act.put, zA, zB, zC])
    refine seqE_nil ?_
    intro wz hS
    replace hs := hs.up hS; replace hbw := btr hbw hS; replace zz := Nat.le_trans zz (Below.size hS); replace hacc := btr hacc hS; clear hS
    obtain ⟨⟨d210, d210f⟩, ⟨d110, d110f⟩, ⟨d100, d100f⟩, -⟩ := id hs
    go_wp2_with fail
    go_meet
    exact ⟨_, _, _, rfl, rfl, hge21, hge10, hge11, by omega, by omega, by omega, ⟨⟨d210, d210f⟩, ⟨d100, d100f⟩, ⟨d110, d110f⟩, trivial⟩, hacc⟩
   refine seqE_move rfl (by rfl) ?_ seqE_stop
   intro w19 hS
   refine ⟨.pointer (some ⟨w19.heap.size, 0, none⟩), w19.alloc (.cells #[.int .i64 0] 3), (by go_simp; try with_reducible rfl), ?_⟩
   obtain ⟨b11, hb11⟩ : ∃ b, b = w19.heap.size := ⟨_, rfl⟩
   obtain ⟨v19, hw19⟩ : ∃ zW, zW = w19.alloc (.cells #[.int .i64 0] 3) := ⟨_, rfl⟩
   rw [← hw19, ← hb11]
   have hbl : Below w19.heap.size w19 v19 := by rw [hw19]; go_grown
   have hge11 : s + 5 ≤ b11 := by rw [hb11]; exact Nat.le_trans zz hS.size
   have hga11 : W2.heap.size ≤ b11 := by rw [hb11]; exact Nat.le_trans hacc.size hS.size
   refine ⟨(fun x => Below v19.heap.size v19 x), Below.refl _ _, fun x hx => btr (btr hS hbl) hx, ?_⟩
   have hX := btr hS hbl
   replace hbw := btr hbw hX; replace zz := Nat.le_trans zz (Below.size hX); replace hacc := btr hacc hX
   have hs : Cells v19 [(b11, 0, .int .i64 0)] := ⟨⟨by rw [hw19, hb11]; go_cell, by rw [hw19, hb11]; go_cell⟩, trivial⟩
   clear hX hS hbl hw19 hb11
   (try simp only [Act.put, zA, zB, zC])
   refine seqE_move rfl (by rfl) ?_ ?_
   ·
    intro w20 hS
    refine ⟨.pointer (some ⟨w20.heap.size, 0, none⟩), w20.alloc (.cells #[.slice pc0 c.length cap] 87), (by go_simp; try with_reducible rfl), ?_⟩
    obtain ⟨b21, hb21⟩ : ∃ b, b = w20.heap.size := ⟨_, rfl⟩
    obtain ⟨v20, hw20⟩ : ∃ zW, zW = w20.alloc (.cells #[.slice pc0 c.length cap] 87) := ⟨_, rfl⟩
    rw [← hw20, ← hb21]
    have hbl : Below w20.heap.size w20 v20 := by rw [hw20]; go_grown
    have hge21 : s + 5 ≤ b21 := by rw [hb21]; exact Nat.le_trans zz hS.size
    have hga21 : W2.heap.size ≤ b21 := by rw [hb21]; exact Nat.le_trans hacc.size hS.size
    have hlb11_21 : b11 < b21 := by rw [hb21]; exact Nat.lt_of_lt_of_le (World.block_lt_of_cell? _ _ hs.1.1) hS.size
    refine ⟨(fun x => Below v20.heap.size v20 x), Below.refl _ _, fun x hx => btr (btr hS hbl) hx, ?_⟩
    have hX := btr hS hbl
    replace hs := hs.up hX; replace hbw := btr hbw hX; replace zz := Nat.le_trans zz (Below.size hX); replace hacc := btr hacc hX
    replace hs : Cells v20 [(b21, 0, .slice pc0 c.length cap), (b11, 0, .int .i64 0)] := ⟨⟨by rw [hw20, hb21]; go_cell, by rw [hw20, hb21]; go_cell⟩, hs⟩
    clear hX hS hbl hw20 hb21
    (try simp only [Act.put, zA, zB, zC])
    refine seqE_move rfl (by rfl) ?_ seqE_stop
    intro w21 hS
    refine ⟨.pointer (some ⟨w21.heap.size, 0, none⟩), w21.alloc (.cells #[.pointer none] 95), (by go_simp; try with_reducible rfl), ?_⟩
    obtain ⟨b10, hb10⟩ : ∃ b, b = w21.heap.size := ⟨_, rfl⟩
    obtain ⟨v21, hw21⟩ : ∃ zW, zW = w21.alloc (.cells #[.pointer none] 95) := ⟨_, rfl⟩
    rw [← hw21, ← hb10]
    have hbl : Below w21.heap.size w21 v21 := by rw [hw21]; go_grown
    have hge10 : s + 5 ≤ b10 := by rw [hb10]; exact Nat.le_trans zz hS.size
    have hga10 : W2.heap.size ≤ b10 := by rw [hb10]; exact Nat.le_trans hacc.size hS.size
    have hlb21_10 : b21 < b10 := by rw [hb10]; exact Nat.lt_of_lt_of_le (World.block_lt_of_cell? _ _ hs.1.1) hS.size
    have hlb11_10 : b11 < b10 := by rw [hb10]; exact Nat.lt_of_lt_of_le (World.block_lt_of_cell? _ _ hs.2.1.1) hS.size
    refine ⟨(fun x => Below v21.heap.size v21 x), Below.refl _ _, fun x hx => btr (btr hS hbl) hx, ?_⟩
    have hX := btr hS hbl
    replace hs := hs.up hX; replace hbw := btr hbw hX; replace zz := Nat.le_trans zz (Below.size hX); replace hacc := btr hacc hX
    replace hs : Cells v21 [(b10, 0, .pointer none), (b21, 0, .slice pc0 c.length cap), (b11, 0, .int .i64 0)] := ⟨⟨by rw [hw21, hb10]; go_cell, by rw [hw21, hb10]; go_cell⟩, hs⟩
    clear hX hS hbl hw21 hb10
    (try simp only [Act.put, zA, zB, zC])
    refine seqE_storeB rfl (by rfl) ?_ seqE_stop
    intro w22 hS
    replace hs := hs.up hS; replace hbw := btr hbw hS; replace zz := Nat.le_trans zz (Below.size hS); replace hacc := btr hacc hS
    obtain ⟨⟨d100, d100f⟩, ⟨d210, d210f⟩, ⟨d110, d110f⟩, -⟩ := id hs
    refine ⟨(w22.setCell ⟨b10, 0, none⟩ (.pointer (some ⟨b21, 0, none⟩))), (by go_simp; try with_reducible rfl), (fun x => Below ((w22.setCell ⟨b10, 0, none⟩ (.pointer (some ⟨b21, 0, none⟩)))).heap.size ((w22.setCell ⟨b10, 0, none⟩ (.pointer (some ⟨b21, 0, none⟩)))) x), Below.refl _ _, ?_⟩
    obtain ⟨v22, hw⟩ : ∃ zW, zW = (w22.setCell ⟨b10, 0, none⟩ (.pointer (some ⟨b21, 0, none⟩))) := ⟨_, rfl⟩
    rw [← hw]
    replace hs : Cells v22 [(b10, 0, .pointer (some ⟨b21, 0, none⟩)), (b21, 0, .slice pc0 c.length cap), (b11, 0, .int .i64 0)] := by rw [hw]; exact ⟨⟨by go_cell, (fz d100f)⟩, ⟨by go_cell, (fz d210f)⟩, ⟨by go_cell, (fz d110f)⟩, trivial⟩
    replace hbw : Below w.heap.size w v22 := by rw [hw]; exact (Below.setCell hbw (by have h := HS.out; (try dsimp only); omega) _)
    replace hacc : Below W2.heap.size W2 v22 := by rw [hw]; exact (Below.setCell hacc (by have h := HS.out; (try dsimp only); omega) _)
    replace zz : s + 5 ≤ v22.heap.size := by rw [hw]; simpa using zz
    clear hw
    clear d100 d100f d210 d210f d110 d110f
    clear hS
    (try simp only [Act.put, zA, zB, zC])
    refine seqE_storeB rfl (by rfl) ?_ seqE_stop
    intro w23 hS
    replace hs := hs.up hS; replace hbw := btr hbw hS; replace zz := Nat.le_trans zz (Below.size hS); replace hacc := btr hacc hS
    obtain ⟨⟨d100, d100f⟩, ⟨d210, d210f⟩, ⟨d110, d110f⟩, -⟩ := id hs
    refine ⟨(w23.setCell ⟨b11, 0, none⟩ (.int .i64 (p : Int))), (by go_simp; try with_reducible rfl), (fun x => Below ((w23.setCell ⟨b11, 0, none⟩ (.int .i64 (p : Int)))).heap.size ((w23.setCell ⟨b11, 0, none⟩ (.int .i64 (p : Int)))) x), Below.refl _ _, ?_⟩
    obtain ⟨v23, hw⟩ : ∃ zW, zW = (w23.setCell ⟨b11, 0, none⟩ (.int .i64 (p : Int))) := ⟨_, rfl⟩
    rw [← hw]
    replace hs : Cells v23 [(b10, 0, .pointer (some ⟨b21, 0, none⟩)), (b21, 0, .slice pc0 c.length cap), (b11, 0, .int .i64 (p : Int))] := by rw [hw]; exact ⟨⟨by go_cell, (fz d100f)⟩, ⟨by go_cell, (fz d210f)⟩, ⟨by go_cell, (fz d110f)⟩, trivial⟩
    replace hbw : Below w.heap.size w v23 := by rw [hw]; exact (Below.setCell hbw (by have h := HS.out; (try dsimp only); omega) _)
    replace hacc : Below W2.heap.size W2 v23 := by rw [hw]; exact (Below.setCell hacc (by have h := HS.out; (try dsimp only); omega) _)
    replace zz : s + 5 ≤ v23.heap.size := by rw [hw]; simpa using zz
    clear hw
    clear d100 d100f d210 d210f d110 d110f
    clear hS
    (try simp only [Act.put, zA, zB, zC])
    refine seqE_nil ?_
    intro wz hS
    replace hs := hs.up hS; replace hbw := btr hbw hS; replace zz := Nat.le_trans zz (Below.size hS); replace hacc := btr hacc hS; clear hS
    obtain ⟨⟨d100, d100f⟩, ⟨d210, d210f⟩, ⟨d110, d110f⟩, -⟩ := id hs
    go_wp2_with fail
    go_meet
    exact ⟨_, _, _, rfl, rfl, hge21, hge10, hge11, by omega, by omega, by omega, ⟨⟨d210, d210f⟩, ⟨d100, d100f⟩, ⟨d110, d110f⟩, trivial⟩, hacc⟩
   refine seqE_move rfl (by rfl) ?_ seqE_stop
   intro w24 hS
   refine ⟨.pointer (some ⟨w24.heap.size, 0, none⟩), w24.alloc (.cells #[.pointer none] 95), (by go_simp; try with_reducible rfl), ?_⟩
   obtain ⟨b10, hb10⟩ : ∃ b, b = w24.heap.size := ⟨_, rfl⟩
   obtain ⟨v24, hw24⟩ : ∃ zW, zW = w24.alloc (.cells #[.pointer none] 95) := ⟨_, rfl⟩
   rw [← hw24, ← hb10]
   have hbl : Below w24.heap.size w24 v24 := by rw [hw24]; go_grown
   have hge10 : s + 5 ≤ b10 := by rw [hb10]; exact Nat.le_trans zz hS.size
   have hga10 : W2.heap.size ≤ b10 := by rw [hb10]; exact Nat.le_trans hacc.size hS.size
   have hlb11_10 : b11 < b10 := by rw [hb10]; exact Nat.lt_of_lt_of_le (World.block_lt_of_cell? _ _ hs.1.1) hS.size
   refine ⟨(fun x => Below v24.heap.size v24 x), Below.refl _ _, fun x hx => btr (btr hS hbl) hx, ?_⟩
   have hX := btr hS hbl
   replace hs := hs.up hX; replace hbw := btr hbw hX; replace zz := Nat.le_trans zz (Below.size hX); replace hacc := btr hacc hX
   replace hs : Cells v24 [(b10, 0, .pointer none), (b11, 0, .int .i64 0)] := ⟨⟨by rw [hw24, hb10]; go_cell, by rw [hw24, hb10]; go_cell⟩, hs⟩
   clear hX hS hbl hw24 hb10
   (try simp only [Act.put, zA, zB, zC])
   refine seqE_move rfl (by rfl) ?_ seqE_stop
   intro w25 hS
   refine ⟨.pointer (some ⟨w25.heap.size, 0, none⟩), w25.alloc (.cells #[.slice pc0 c.length cap] 87), (by go_simp; try with_reducible rfl), ?_⟩
   obtain ⟨b21, hb21⟩ : ∃ b, b = w25.heap.size := ⟨_, rfl⟩
   obtain ⟨v25, hw25⟩ : ∃ zW, zW = w25.alloc (.cells #[.slice pc0 c.length cap] 87) := ⟨_, rfl⟩
   rw [← hw25, ← hb21]
   have hbl : Below w25.heap.size w25 v25 := by rw [hw25]; go_grown
   have hge21 : s + 5 ≤ b21 := by rw [hb21]; exact Nat.le_trans zz hS.size
   have hga21 : W2.heap.size ≤ b21 := by rw [hb21]; exact Nat.le_trans hacc.size hS.size
   have hlb10_21 : b10 < b21 := by rw [hb21]; exact Nat.lt_of_lt_of_le (World.block_lt_of_cell? _ _ hs.1.1) hS.size
   have hlb11_21 : b11 < b21 := by rw [hb21]; exact Nat.lt_of_lt_of_le (World.block_lt_of_cell? _ _ hs.2.1.1) hS.size
   refine ⟨(fun x => Below v25.heap.size v25 x), Below.refl _ _, fun x hx => btr (btr hS hbl) hx, ?_⟩
   have hX := btr hS hbl
   replace hs := hs.up hX; replace hbw := btr hbw hX; replace zz := Nat.le_trans zz (Below.size hX); replace hacc := btr hacc hX
   replace hs : Cells v25 [(b21, 0, .slice pc0 c.length cap), (b10, 0, .pointer none), (b11, 0, .int .i64 0)] := ⟨⟨by rw [hw25, hb21]; go_cell, by rw [hw25, hb21]; go_cell⟩, hs⟩
   clear hX hS hbl hw25 hb21
   (try simp only [Act.put, zA, zB, zC])
   refine seqE_storeB rfl (by rfl) ?_ seqE_stop
   intro w26 hS
   replace hs := hs.up hS; replace hbw := btr hbw hS; replace zz := Nat.le_trans zz (Below.size hS); replace hacc := btr hacc hS
   obtain ⟨⟨d210, d210f⟩, ⟨d100, d100f⟩, ⟨d110, d110f⟩, -⟩ := id hs
   refine ⟨(w26.setCell ⟨b10, 0, none⟩ (.pointer (some ⟨b21, 0, none⟩))), (by go_simp; try with_reducible rfl), (fun x => Below ((w26.setCell ⟨b10, 0, none⟩ (.pointer (some ⟨b21, 0, none⟩)))).heap.size ((w26.setCell ⟨b10, 0, none⟩ (.pointer (some ⟨b21, 0, none⟩)))) x), Below.refl _ _, ?_⟩
   obtain ⟨v26, hw⟩ : ∃ zW, zW = (w26.setCell ⟨b10, 0, none⟩ (.pointer (some ⟨b21, 0, none⟩))) := ⟨_, rfl⟩
   rw [← hw]
   replace hs : Cells v26 [(b21, 0, .slice pc0 c.length cap), (b10, 0, .pointer (some ⟨b21, 0, none⟩)), (b11, 0, .int .i64 0)] := by rw [hw]; exact ⟨⟨by go_cell, (fz d210f)⟩, ⟨by go_cell, (fz d100f)⟩, ⟨by go_cell, (fz d110f)⟩, trivial⟩
   replace hbw : Below w.heap.size w v26 := by rw [hw]; exact (Below.setCell hbw (by have h := HS.out; (try dsimp only); omega) _)
   replace hacc : Below W2.heap.size W2 v26 := by rw [hw]; exact (Below.setCell hacc (by have h := HS.out; (try dsimp only); omega) _)
   replace zz : s + 5 ≤ v26.heap.size := by rw [hw]; simpa using zz
   clear hw
   clear d210 d210f d100 d100f d110 d110f
   clear hS
   (try simp only [Act.put, zA, zB, zC])
   refine seqE_storeB rfl (by rfl) ?_ seqE_stop
   intro w27 hS
   replace hs := hs.up hS; replace hbw := btr hbw hS; replace zz := Nat.le_trans zz (Below.size hS); replace hacc := btr hacc hS
   obtain ⟨⟨d210, d210f⟩, ⟨d100, d100f⟩, ⟨d110, d110f⟩, -⟩ := id hs
   refine ⟨(w27.setCell ⟨b11, 0, none⟩ (.int .i64 (p : Int))), (by go_simp; try with_reducible rfl), (fun x => Below ((w27.setCell ⟨b11, 0, none⟩ (.int .i64 (p : Int)))).heap.size ((w27.setCell ⟨b11, 0, none⟩ (.int .i64 (p : Int)))) x), Below.refl _ _, ?_⟩
   obtain ⟨v27, hw⟩ : ∃ zW, zW = (w27.setCell ⟨b11, 0, none⟩ (.int .i64 (p : Int))) := ⟨_, rfl⟩
   rw [← hw]
   replace hs : Cells v27 [(b21, 0, .slice pc0 c.length cap), (b10, 0, .pointer (some ⟨b21, 0, none⟩)), (b11, 0, .int .i64 (p : Int))] := by rw [hw]; exact ⟨⟨by go_cell, (fz d210f)⟩, ⟨by go_cell, (fz d100f)⟩, ⟨by go_cell, (fz d110f)⟩, trivial⟩
   replace hbw : Below w.heap.size w v27 := by rw [hw]; exact (Below.setCell hbw (by have h := HS.out; (try dsimp only); omega) _)
   replace hacc : Below W2.heap.size W2 v27 := by rw [hw]; exact (Below.setCell hacc (by have h := HS.out; (try dsimp only); omega) _)
   replace zz : s + 5 ≤ v27.heap.size := by rw [hw]; simpa using zz
   clear hw
   clear d210 d210f d100 d100f d110 d110f
   clear hS
   (try simp only [Act.put, zA, zB, zC])
   refine seqE_nil ?_
   intro wz hS
   replace hs := hs.up hS; replace hbw := btr hbw hS; replace zz := Nat.le_trans zz (Below.size hS); replace hacc := btr hacc hS; clear hS
   obtain ⟨⟨d210, d210f⟩, ⟨d100, d100f⟩, ⟨d110, d110f⟩, -⟩ := id hs
   go_wp2_with fail
   go_meet
   exact ⟨_, _, _, rfl, rfl, hge21, hge10, hge11, by omega, by omega, by omega, ⟨⟨d210, d210f⟩, ⟨d100, d100f⟩, ⟨d110, d110f⟩, trivial⟩, hacc⟩
 obtain ⟨bb, bg, bp, rfl, rfl, hge1, hge2, hge3, hne1, hne2, hne3, hsc, hst⟩ := hcut
 replace hk := hk.up hst; replace hbw := btr hbw hst; replace zz := Nat.le_trans zz (Below.size hst); clear hst
 clear y00 y00f y10 y10f y11 y11f y20 y20f y21 y21f y30 y30f y40 y40f y41 y41f
 obtain ⟨L0, hL0⟩ : ∃ L, L = (s + 3) :: (s + 4) :: oth s pc0 := ⟨_, rfl⟩
 have hpl : ∀ ad, pc0 = some ad → ad.block < s := by rw [← HS.out]; exact HC.out.lt hc0
 have hL1 : ∀ k ∈ L0, k < s + 5 := by
  intro k hk; rw [hL0] at hk
  rcases List.mem_cons.1 hk with e | hk
  · omega
  rcases List.mem_cons.1 hk with e | hk
  · omega
  have := oth_lt hk; omega
 have hL3 : ∀ ad, pc0 = some ad → ad.block ∉ L0 := by
  intro ad h hm
  have h9 := hpl ad h
  rw [hL0] at hm
  rcases List.mem_cons.1 hm with e | hm
  · omega
  rcases List.mem_cons.1 hm with e | hm
  · omega
  exact oth_not h hm
 have HL2 := Lib.hid (show ∀ k, k ∉ L0 → k ≠ s + 3 ∧ k ≠ s + 4 ∧ (k < s → ∃ a, pc0 = some a ∧ k = a.block) from by
  intro k hk; rw [hL0] at hk
  simp only [List.mem_cons, not_or] at hk
  exact ⟨hk.1, hk.2.1, fun hl => oth_of hk.2.2 hl⟩)
 obtain ⟨⟨x0, x0f⟩, ⟨x1, -⟩, ⟨x2, -⟩, -⟩ := id hsc
 clear x0 x0f
 obtain ⟨⟨-, -⟩, ⟨-, -⟩, ⟨y11, -⟩, ⟨-, -⟩, ⟨y21, -⟩, -⟩ := id hk
 go_upto_region 2 with fail
 go_wp2_with fail
 have hr := run_make_full (P := Try.prog) wc wc.heap.size 42 3 i0 (.int .i64 0) 1 Try.underlying42 hi0 hz0 hz1 .i64 .i64 n (by rw [hz2]; omega) (by simp [maxLen]; omega) (by simp)
 obtain ⟨w5, hrun, hown, hgr⟩ := hr
 rw [hrun]
 have hO : OwnI w5 wc.heap.size wc.heap.size n n (List.replicate n 0) := ⟨List.length_replicate, by
  rw [flat1, List.map_replicate]
  have e := toList_madeCells_one (.int .i64 0) n
  rw [show (Value.int IntKind.i64 0).cells = #[.int .i64 0] from rfl, Nat.mul_one, e] at hown
  exact hown⟩
 have hbl : Below wc.heap.size wc w5 := Below.grown (Below.refl _ _) hgr (by simp) (fun k hk => by cases hk)
 obtain ⟨gd, hgd⟩ : ∃ zW, zW = wc.heap.size := ⟨_, rfl⟩
 rw [← hgd] at hO
 try rw [← hgd]
 have hgb : bb < gd := by rw [hgd]; exact World.block_lt_of_cell? _ _ hsc.1.1
 have hgg : bg < gd := by rw [hgd]; exact World.block_lt_of_cell? _ _ hsc.2.1.1
 have hgp : bp < gd := by rw [hgd]; exact World.block_lt_of_cell? _ _ hsc.2.2.1.1
 have hCc := HC.out.mono hbw
 have hpd : ∀ ad, pc0 = some ad → ad.block < gd := fun ad h => by have := hpl ad h; omega
 replace hsc := hsc.up hbl; replace hk := hk.up hbl; replace hbw := btr hbw hbl; replace hCc := hCc.mono hbl
 clear hrun hown hgr hbl hgd x1 x2 y11 y21 zz
 obtain ⟨⟨x0, x0f⟩, ⟨x1, -⟩, ⟨x2, -⟩, -⟩ := id hsc
 clear x0 x0f
 obtain ⟨⟨-, -⟩, ⟨-, -⟩, ⟨y11, -⟩, ⟨-, -⟩, ⟨y21, -⟩, -⟩ := id hk
 go_upto_region 3 with fail
 obtain ⟨bd, hbd⟩ : ∃ z, z = w5.heap.size := ⟨_, rfl⟩
 obtain ⟨w6, hw6⟩ : ∃ z, z = w5.alloc (.cells #[.slice (some ⟨gd, 0, none⟩) n n] 42) := ⟨_, rfl⟩
 rw [← hw6, ← hbd]
 have hbl : Below w5.heap.size w5 w6 := by rw [hw6]; go_grown
 have hgdd : gd < bd := by rw [hbd]; exact hO.lt.2
 have x3 : w6.cell? ⟨bd, 0, none⟩ = some (.slice (some ⟨gd, 0, none⟩) n n) := by rw [hw6, hbd]; go_cell
 replace hsc := hsc.up hbl; replace hk := hk.up hbl; replace hbw := btr hbw hbl; replace hCc := hCc.mono hbl; replace hO := hO.up hbl
 clear hw6 hbd hbl x1 x2 y11 y21 w5
 have hBX : BxA (gd :: L0) w6 bb c := ⟨pc0, cap, hsc.1.1, hsc.1.2, hCc, fun ad h hm => by
  rcases List.mem_cons.1 hm with e | hm
  · have := hpd ad h; omega
  · exact hL3 ad h hm⟩
 have HX1 := Lib.hid hsc.2.1.1; have HX2 := Lib.hid hsc.2.2.1.1; have HX3 := Lib.hid x3; have HK := Lib.hid hk; have HBW := Lib.hid hbw
 have HL1 := Lib.hid hL1
 have hz6 : bd < w6.heap.size := World.block_lt_of_cell? _ _ x3
 clear hsc hk hbw hCc hL0 hpl hL1 hL3 hpd
 go_wp2_with fail
 go_loopg [31] n (fun M s31 wr => ∃ (K : Nat) (D : List Gate) (ds : List Int), s31 = .int .i64 K ∧ K ≤ n ∧ M = n - K ∧ domTo p b c K = (D, ds) ∧ BxA (gd :: L0) wr bb D ∧ OwnI wr gd gd n n (ds ++ List.replicate (n - K) 0) ∧ KeepX [bb, gd] w6 wr)
 case atStart => exact ⟨0, c, [], rfl, by omega, rfl, rfl, hBX, hO, KeepX.refl _ _⟩
 clear hBX hO x3
 obtain ⟨K, D, ds, rfl, hK, hM, hj, hBx, hO, hkx⟩ := hrel
 obtain ⟨gD, dl, iD, -⟩ := DOM.out K hK
 rw [hj] at gD dl iD
 dsimp only at gD dl iD
 have hDg := gD.good
 have hDl := gD.len
 have hKb : K * b.length ≤ nb := by rw [← HNB.out]; exact Nat.mul_le_mul_right _ hK
 have hD1 : D.length + b.length + 2 ≤ 20000 := by omega
 have HM := Lib.hid hM; have HJ := Lib.hid hj; have HDL := Lib.hid dl; have HGD2 := Lib.hid gD; have HID := Lib.hid iD; clear hM hj dl gD iD hDg hDl
 have hszr := hkx.size
 have hBR : Below w.heap.size w wr := KeepX.below' HBW.out hkx HBW.out.size (by have := HS.out; simp; omega)
 have x1 := hkx.cell HX1.out (by simp; omega)
 have x2 := hkx.cell HX2.out (by simp; omega)
 have x3 := hkx.cell HX3.out (by simp; omega)
 have y21 := hkx.cell HK.out.2.2.2.2.1.1 (by simp; omega)
 by_cases hlt : K < n
 case pos =>
  have hlt0 : (0 : Int) ≤ (K : Int) := by omega
  have hlt1 : (K : Int) < (n : Int) := by omega
  go_upto_region 6 with fail
  obtain ⟨bx, hbx⟩ : ∃ z, z = wr.heap.size := ⟨_, rfl⟩
  obtain ⟨wx, hwx⟩ : ∃ z, z = wr.alloc (.cells #[.int .i64 K] 3) := ⟨_, rfl⟩
  rw [← hwx, ← hbx]
  have hBx1 : Below wr.heap.size wr wx := by rw [hwx]; go_grown
  have x4 : wx.cell? ⟨bx, 0, none⟩ = some (.int .i64 K) := by rw [hwx, hbx]; go_cell
  replace x1 := zD hBx1 x1; replace x2 := zD hBx1 x2; replace x3 := zD hBx1 x3; replace y21 := zD hBx1 y21
  replace hBx := hBx.upB hBx1; replace hO := hO.up hBx1; replace hkx := hkx.upB hBx1
  have hBX1 := btr hBR hBx1
  have hne4 : bx ≠ bp ∧ bx ≠ bb ∧ bx ≠ gd ∧ bx ≠ bg ∧ bx ≠ bd := by omega
  have hbx6 : w6.heap.size ≤ bx := by omega
  have hbxl : bx < wx.heap.size := World.block_lt_of_cell? _ _ x4
  clear hwx hBx1 hBR hbx
  obtain ⟨row, hrow⟩ : ∃ r, (b.filter fun y => y.rank / (p : Int) == (K : Int)) = r := ⟨_, rfl⟩
  have hrowl : row.length ≤ b.length := by rw [← hrow]; exact List.length_filter_le _ _
  have HROW := Lib.hid hrow; clear hrow
  go_upto_region 7 with (first | (go_at_call 98; refine (clone_cells b pb cb _ (HD.out.up hBX1) (by omega)).mono ?_; rintro e w1 ⟨q, cq, rfl, hq1, hq2, hq3, hb1⟩; obtain ⟨kq, hkq, hkq1⟩ : ∃ k, (∀ ad, q = some ad → ad.block = k) ∧ wx.heap.size ≤ k := (by cases q with | none => exact ⟨wx.heap.size, (fun ad h => by cases h), Nat.le_refl _⟩ | some ad => exact ⟨ad.block, (fun x h => by cases h; rfl), hq2 ad rfl⟩); have HQ1 := Lib.hid hq1; have HQ3 := Lib.hid hq3; have HKQ := Lib.hid hkq; have HB1 := Lib.hid hb1; clear hq1 hq2 hq3 hkq hb1) | (go_at_call 97; refine (delete_ovr b (p : Int) (K : Int) q cq kq bp bx w1 HQ1.out (fun x hx => by have := HMB.out.ranks x hx; omega) (by omega) (oldcell HB1.out x2 (World.block_lt_of_cell? _ _ x2)) (oldcell HB1.out x4 (World.block_lt_of_cell? _ _ x4)) (by omega) (by omega) HKQ.out (by have := World.block_lt_of_cell? _ _ x2; dsimp only at this; omega) (by have := World.block_lt_of_cell? _ _ x4; dsimp only at this; omega) (fun o h => HQ3.out _ _ h)).mono ?_; rintro e w2 ⟨rfl, hq4, hk2⟩; have hb2 : Below wx.heap.size wx w2 := HB1.out.trans (hk2.below HB1.out.size (by simp; exact hkq1)); rw [HROW.out]; rw [HROW.out] at hq4; clear hk2))
  have hq5 : ∀ ad, q = some ad → wx.heap.size ≤ ad.block := fun ad h => by rw [HKQ.out ad h]; exact hkq1
  replace x1 := zD hb2 x1; replace x3 := zD hb2 x3; replace x4 := zD hb2 x4
  replace hBx := hBx.upB hb2; replace hO := hO.up hb2; replace hkx := hkx.upB hb2
  have hbq : ∀ ad, q = some ad → ad.block ≠ bb := fun ad h => by have := hq5 ad h; have := hszr; omega
  clear HQ1 HQ3 HKQ HB1 hkq1 hq5 x2 y21 hb2
  obtain ⟨E, r, hE⟩ : ∃ E r, orAll (row.map Cell.ref) (D, 1) = (E, r) := ⟨_, _, rfl⟩
  have HNX := Lib.hid (show domTo p b c (K + 1) = (E, ds ++ [r]) by
   show ((orAll (domRow p b K) ((domTo p b c K).1, 1)).1, (domTo p b c K).2 ++ [(orAll (domRow p b K) ((domTo p b c K).1, 1)).2]) = _
   have e : domRow p b K = row.map Cell.ref := by unfold domRow; rw [HROW.out]
   rw [HJ.out, e, hE])
  have HE := Lib.hid hE
  have hinr : ∀ x ∈ row, In D x.ref := fun x hx => by
   have h1 : x ∈ b := by have h := HROW.out; rw [← h] at hx; exact (List.mem_filter.1 hx).1
   have h2 := HMB.out.ref_in h1
   exact In.up h2 HGD2.out
  have jr : w2.cell? ⟨gd, K, none⟩ = some (.int .i64 0) := hO.get (by rw [List.getElem?_append_right (by rw [HDL.out]; exact Nat.le_refl _), HDL.out, Nat.sub_self, List.getElem?_replicate, if_pos (by omega)])
  have jf := hO.free K
  have HSET := Lib.hid (show (ds ++ List.replicate (n - K) (0 : Int)).set K r = (ds ++ [r]) ++ List.replicate (n - (K + 1)) 0 by
   rw [List.set_append_right _ _ (by rw [HDL.out]; exact Nat.le_refl _), HDL.out, Nat.sub_self, show n - K = (n - (K + 1)) + 1 by omega, List.replicate_succ, List.set_cons_zero, List.append_assoc]; rfl)
  have HINR := Lib.hid hinr; have HQ4 := Lib.hid hq4; have HBX2 := Lib.hid hBx; have HO2 := Lib.hid hO; have HKX2 := Lib.hid hkx; have HBQ := Lib.hid hbq
  have hgb1 : ¬ gd = bb := by omega
  have hLg : ∀ k ∈ gd :: L0, k < w2.heap.size := fun k hk => by
   rcases List.mem_cons.1 hk with e | hk
   · have := hO.lt.2; omega
   · have := HL1.out k hk; have := hO.lt.2; omega
  have HLG := Lib.hid hLg
  clear hE hinr hq4 hBx hO hkx hbq hLg
  refine wp_region_seqM (fun j w' => (match j with | 0 => BxA (gd :: L0) w' bb D ∧ OwnI w' gd gd n n (ds ++ List.replicate (n - K) 0) ∧ w2.heap.size ≤ w'.heap.size ∧ MxAt w' q cq row | 1 => BxA (gd :: L0) w' bb E ∧ OwnI w' gd gd n n (ds ++ List.replicate (n - K) 0) | _ => BxA (gd :: L0) w' bb E ∧ OwnI w' gd gd n n ((ds ++ [r]) ++ List.replicate (n - (K + 1)) 0)) ∧ KeepX [bb, gd] w2 w' ∧ w'.cell? ⟨bg, 0, none⟩ = some (.pointer (some ⟨bb, 0, none⟩)) ∧ w'.cell? ⟨bd, 0, none⟩ = some (.slice (some ⟨gd, 0, none⟩) n n) ∧ w'.cell? ⟨bx, 0, none⟩ = some (.int .i64 K)) [5, 7] (by kernel_rfl) (by kernel_rfl) (by kernel_rfl) ?_ ?_
  · exact ⟨⟨HBX2.out.upB (Below.drew (Below.refl _ _)), HO2.out.up (Below.drew (Below.refl _ _)), Nat.le_refl _, HQ4.out.up (Below.drew (Below.refl _ _))⟩, KeepX.of_below (Below.drew (Below.refl _ _)), keep_drew x1, keep_drew x3, keep_drew x4⟩
  iterate 2 (refine seqM_pure (v := ?_) (by decide) (by decide) (by rfl) ?_ ?_; rotate_left; (focus (intro sj hj w hS; obtain ⟨-, -, x1, x3, x4⟩ := hS; go_simp; try with_reducible rfl)); (try simp only [Act.put, zA, zB, zC]))
  refine seqM_pure (v := ?_) (by decide) (by decide) (by rfl) ?_ ?_
  rotate_left
  · (intro sj hj w hS; go_simp; try with_reducible rfl)
  (try simp only [Act.put, zA, zB, zC])
  refine seqM_pure (v := ?_) (by decide) (by decide) (by rfl) ?_ ?_
  rotate_left
  · (intro sj hj w hS; obtain ⟨-, -, x1, x3, x4⟩ := hS; go_simp; try with_reducible rfl)
  (try simp only [Act.put, zA, zB, zC])
  refine seqM_pure (v := ?_) (by decide) (by decide) (by rfl) ?_ ?_
  rotate_left
  · (intro sj hj w hS; go_simp; try with_reducible rfl)
  (try simp only [Act.put, zA, zB, zC])
  refine seqM_call (v := .int .i64 r) (f := ?_) (args := ?_) (by decide) (by decide) (by rfl) ?_ ?_ ?_
  rotate_left 2
  · (intro w hS; go_simp; first | done | with_reducible rfl | (refine ⟨?_, ?_⟩ <;> with_reducible rfl))
  · (intro w hS; obtain ⟨⟨hB1, hO1, hsz, hM1⟩, hk1, x1, x3, x4⟩ := hS; refine (fold_or (gd :: L0) D row bb q cq w hB1 (fun k hk => Nat.lt_of_lt_of_le (HLG.out k hk) hsz) hM1 HBQ.out HGD2.out.good (by omega) HINR.out).mono ?_; rintro e w3 ⟨rfl, hb3, hk3'⟩; have e9 : mSome D row = (E, r) := HE.out; rw [e9] at hb3 ⊢; exact ⟨rfl, ⟨hb3, hO1.keep hk3' (by simp; omega)⟩, hk1.trans (hk3'.sub (by simp)), hk3'.cell x1 (by simp; omega), hk3'.cell x3 (by simp; omega), hk3'.cell x4 (by simp; omega)⟩)
  (try simp only [Act.put, zA, zB, zC])
  refine seqM_pure (v := ?_) (by decide) (by decide) (by rfl) ?_ ?_
  rotate_left
  · (intro sj hj w hS; go_simp; try with_reducible rfl)
  (try simp only [Act.put, zA, zB, zC])
  refine seqM_store (f := fun w' => w'.setCell ⟨gd, K, none⟩ (.int .i64 r)) (by decide) (by decide) (by rfl) ?_ ?_
  · (intro w hS; obtain ⟨⟨hB1, hO1⟩, hk1, x1, x3, x4⟩ := hS; have jr2 := hO1.get (i := K) (x := 0) (by rw [List.getElem?_append_right (by rw [HDL.out]; exact Nat.le_refl _), HDL.out, Nat.sub_self, List.getElem?_replicate, if_pos (by omega)]); have jf2 := hO1.free K; refine ⟨by go_simp, ⟨hB1.keep (X := [gd]) ((KeepX.refl _ _).setCell (by simp) _) (by simp; omega) (by simp), by rw [← HSET.out]; exact hO1.put _ _⟩, hk1.setCell (by simp) _, keep_far x1 (by dsimp only; omega), keep_far x3 (by dsimp only; omega), keep_far x4 (by dsimp only; omega)⟩)
  (try simp only [Act.put, zA, zB, zC])
  refine seqM_nil ?_
  intro w2 hS
  obtain ⟨⟨hB3, hO3⟩, hk3', -, -, -⟩ := hS
  go_wp2_with fail
  go_roundg (n - (K + 1))
  case measure => (have := HM.out; omega)
  case rel => exact ⟨K + 1, E, ds ++ [r], by go_num, by omega, rfl, HNX.out, hB3, hO3, HKX2.out.trans hk3'⟩
 obtain rfl : n = K := by omega
 rw [Nat.sub_self, List.replicate_zero, List.append_nil] at hO
 have HDL0 := HDL.out
 obtain ⟨pD, cD, e1, e1f, hCC, hnL⟩ := hBx
 have hD0 : 0 < D.length := HGD2.out.good.ne
 have hpD := hCC.lt hD0
 have he1 := World.block_lt_of_cell? _ _ e1
 have y10 := hkx.cell HK.out.2.1.1 (by simp; omega)
 have y11 := hkx.cell HK.out.2.2.1.1 (by simp; omega)
 have y20 := hkx.cell HK.out.2.2.2.1.1 (by simp; omega)
 go_upto_region 10 with fail
 obtain ⟨bm, hbm⟩ : ∃ z, z = wr.heap.size := ⟨_, rfl⟩
 obtain ⟨wm, hwm⟩ : ∃ z, z = wr.alloc (.cells #[.int .i64 ar1, .slice none 0 0] 30) := ⟨_, rfl⟩
 rw [← hwm, ← hbm]
 have hBm : Below wr.heap.size wr wm := by rw [hwm]; go_grown
 have m0 : wm.cell? ⟨bm, 0, none⟩ = some (.int .i64 ar1) := by rw [hwm, hbm]; go_cell
 have m1 : wm.cell? ⟨bm, 1, none⟩ = some (.slice none 0 0) := by rw [hwm, hbm]; go_cell
 have m0f : wm.frozen? ⟨bm, 0, none⟩ = false := by rw [hwm, hbm]; go_cell
 have m1f : wm.frozen? ⟨bm, 1, none⟩ = false := by rw [hwm, hbm]; go_cell
 have hbm6 : w6.heap.size ≤ bm := by omega
 have hbml : bm < wm.heap.size := World.block_lt_of_cell? _ _ m0
 replace y10 := zD hBm y10; replace y11 := zD hBm y11; replace y20 := zD hBm y20; replace y21 := zD hBm y21
 replace e1 := oldcell hBm e1 he1; replace e1f := oldfree hBm e1f he1; replace hCC := hCC.mono hBm; replace hO := hO.up hBm; replace hkx := hkx.upB hBm
 rw [← hbm] at hpD he1
 have hBWm := btr hBR hBm
 clear x1 x2 x3 hBR hwm hBm hszr hbm
 go_wp2_with (first | (go_at_call 100; refine (merged_any _ _ ar1 ar2 _ _ _ rfl rfl ⟨_, _, _, rfl⟩ ⟨_, _, _, rfl⟩).mono ?_; rintro e w' ⟨rfl, hw'⟩))
 obtain ⟨sa, hsa⟩ : ∃ z, z = wm.heap.size := ⟨_, rfl⟩
 rw [← hsa]
 have z8 : w'.heap.size = sa + 2 := by rw [hw', hsa]; simp
 have BW : Below wm.heap.size wm w' := by rw [hw']; go_grown
 have q6 : w'.cell? ⟨sa, 1, none⟩ = some (.slice pa a.length ca) := by rw [hw', hsa]; go_cell
 have q7 : w'.cell? ⟨sa + 1, 1, none⟩ = some (.slice pb b.length cb) := by rw [hw', hsa]; go_cell
 have hBW' := btr hBWm BW
 obtain ⟨ka, hka, hka1⟩ : ∃ k, (∀ ad, pa = some ad → ad.block = k) ∧ (k < s ∨ k = sa) := by
  cases pa with
  | none => exact ⟨sa, (fun ad h => by cases h), .inr rfl⟩
  | some ad => exact ⟨ad.block, (fun x h => by cases h; rfl), .inl (by rw [← HS.out]; exact HA.out.lt ad rfl)⟩
 obtain ⟨kb, hkb, hkb1⟩ : ∃ k, (∀ ad, pb = some ad → ad.block = k) ∧ (k < s ∨ k = sa) := by
  cases pb with
  | none => exact ⟨sa, (fun ad h => by cases h), .inr rfl⟩
  | some ad => exact ⟨ad.block, (fun x h => by cases h; rfl), .inl (by rw [← HS.out]; exact HD.out.lt ad rfl)⟩
 have hbmsa : bm < sa := by omega
 have hkw : ka < w'.heap.size := by omega
 have hkw2 : kb < w'.heap.size := by omega
 have SXA := Lib.hid (suff_of (HA.out.up hBW') hka); have SXB := Lib.hid (suff_of (HD.out.up hBW') hkb)
 have HW' := Lib.hid hw'; clear hw'
 have m0' := oldcell BW m0 hbml; have m1' := oldcell BW m1 hbml; have m0f' := oldfree BW m0f hbml; have m1f' := oldfree BW m1f hbml
 replace e1 := oldcell BW e1 (by omega); replace e1f := oldfree BW e1f (by omega); replace hCC := hCC.mono BW; replace hO := hO.up BW; replace hkx := hkx.upB BW
 have HPI : PI (gd :: L0) bb bm ar1 w' D [] (.slice none 0 0) w' := PI.start ⟨⟨e1, e1f⟩, ⟨m0', m0f'⟩, ⟨m1', m1f'⟩, trivial⟩ hCC (fun ad h => ⟨hnL ad h, by have := hpD ad h; omega⟩)
 have HXG := Lib.hid (hkx.cell HX1.out (by simp; omega)); have HXP := Lib.hid (hkx.cell HX2.out (by simp; omega)); have HXD := Lib.hid (hkx.cell HX3.out (by simp; omega))
 have HKC := Lib.hid (Cells.keep HK.out hkx (by simp; omega))
 have HO := Lib.hid hO; have HBW' := Lib.hid hBW'
 have hbb' : bb < w'.heap.size := by omega
 have hbm' : bm < w'.heap.size := by omega
 have hne5 : bb ≠ bm := by omega
 have hLW : ∀ k ∈ gd :: L0, k < w'.heap.size := fun k hk => by
  rcases List.mem_cons.1 hk with e | hk
  · omega
  · have := HL1.out k hk; omega
 have HLW := Lib.hid hLW
 have mzl := mzip_len a b
 have HRP : ∀ t ∈ mzip a b, In c t.p ∧ In c t.q ∧ 0 ≤ t.rank ∧ t.rank < N := fun t ht => by
  obtain ⟨z1, z2⟩ := mzip_in HGD.out HMA.out HMB.out t ht
  obtain ⟨s1, s2, s3, s4⟩ := mzip_spec a b HMA.out.sorted HMB.out.sorted
  refine ⟨z1, z2, ?_⟩
  rcases (s1 t ht).2.2 with ⟨x, hx, e⟩ | ⟨x, hx, e⟩
  · rw [← e]; exact HMA.out.ranks x hx
  · rw [← e]; exact HMB.out.ranks x hx
 have HRPH := Lib.hid HRP
 have RA := Lib.hid (fun x (hx : x ∈ a) => (show x.ref ≤ 100000 from by have := (HMA.out.ref_in hx).2; omega)); have RB := Lib.hid (fun x (hx : x ∈ b) => (show x.ref ≤ 100000 from by have := (HMB.out.ref_in hx).2; omega))
 have OG := Lib.hid (fun (l : List Tri) (hl : l.length ≤ a.length + b.length) (h : ∀ t ∈ l, In c t.p ∧ In c t.q) => over_grow (P := (p : Int)) (ds := ds) l D [] HGD2.out.good (by have := HGD2.out.len; omega) HID.out (fun t ht => ⟨(h t ht).1.up HGD2.out, (h t ht).2.up HGD2.out⟩))
 have HGL := HGD2.out.len
 have hz9 : sa + 2 ≤ w'.heap.size := by omega
 clear hsa z8 e1 e1f hCC hnL hpD m0 m1 m0f m1f m0' m1' m0f' m1f' hO hkx hka hkb BW hBWm hBW' hLW HRP y10 y11 y20 y21 he1 HBW
 rw [← HW'.out]
 refine (wpIn_wide (n := 4)).1 ?_
 refine wpIn_rangeFunc_ownH (F := Fence.wide) rfl (by decide) (gf := 137) (lb := #[.pointer (some ⟨sa, 0, none⟩), .pointer (some ⟨sa + 1, 0, none⟩)]) rfl trivial (enters_of Try.func137 (by kernel_rfl) rfl)
  (merged_stopsR (R := fun t => In c t.p ∧ In c t.q ∧ 0 ≤ t.rank ∧ t.rank < N) 3 (by decide) a b HRPH.out sa (sa + 1) ka kb ar1 ar2 pa pb ca cb w' SXA.out SXB.out RA.out RB.out hkw hkw2 q6 q7) kpB_t (kpB_b hkw hkw2) (Below.refl _ _) (fun _ => rfl)
  (fun pre W => ∃ v, PI (gd :: L0) bb bm ar1 w' (overRun p ds (pre.map Subtype.val) (D, [])).1 (overRun p ds (pre.map Subtype.val) (D, [])).2 v W) (fun _ _ _ => False) PI.ownF (fun _ _ _ _ _ h _ _ => h.elim) ⟨_, HPI⟩
  (fun x a' W => ∃ Bx, W.cell? ⟨Bx, 0, none⟩ = some (.int .i64 x.1.p) ∧ W.cell? ⟨Bx, 1, none⟩ = some (.int .i64 x.1.q) ∧ w'.heap.size ≤ Bx ∧ a' = { tmps := #[.agg #[.slice pc0 c.length cap], .int .i64 n, .agg #[.int .i64 ar1, .slice pa a.length ca], .agg #[.int .i64 ar2, .slice pb b.length cb], .pointer (some ⟨s, 0, none⟩), undef, .pointer (some ⟨s + 1, 0, none⟩), .pointer (some ⟨s + 2, 0, none⟩), .pointer (some ⟨s + 3, 0, none⟩), .pointer (some ⟨s + 4, 0, none⟩), .pointer (some ⟨bg, 0, none⟩), .pointer (some ⟨bp, 0, none⟩), .pointer (some ⟨bd, 0, none⟩), u13, u14, .pointer (some ⟨bm, 0, none⟩), .int .i64 x.1.rank, .pointer (some ⟨Bx, 0, none⟩), undef, u19, u20, u21, u22, u23, u24, u25, u26, .int .i64 n, .slice (some ⟨gd, 0, none⟩) n n, .slice (some ⟨gd, 0, none⟩) n n, .int .i64 n, .int .i64 n, .bool false, u33, u34, u35, u36, u37, u38, u39, u40, u41, u42, u43, u44, u45, u46, .pointer (some ⟨s + 1, 0, none⟩), .int .i64 ar1, .agg #[.int .i64 ar1, .slice none 0 0], .agg #[.int .i64 ar1, .slice pa a.length ca], .agg #[.int .i64 ar2, .slice pb b.length cb], .func (.func 137) #[] #[.pointer (some ⟨sa, 0, none⟩), .pointer (some ⟨sa + 1, 0, none⟩)], .int .i64 x.1.rank, .agg #[.int .i64 x.1.p, .int .i64 x.1.q], undef, undef, undef, undef, undef, undef, undef, undef, undef, undef, undef, undef, undef, undef, undef, undef, undef, undef, undef, undef, undef, undef, undef, undef, undef], defers := [] }) (fun x a' _ W W' row h hg hr => by obtain ⟨Bx, h1, h2, h3, h4⟩ := h; exact ⟨Bx, cell_kept h1 hg (fun r e => (hr r e).2), cell_kept h2 hg (fun r e => (hr r e).2), h3, h4⟩) ?assign ?body ?done ?stop
 case assign =>
  clear HPI
  intro l pre x W K hI hK
  obtain ⟨v, hP⟩ := id hI
  have hsz := hP.kx.size
  have HI := Lib.hid hI; clear hI hP
  simp only [tEncR]
  gi_wp2
  refine hK _ _ ((KeepsOthers.alloc W _).from _) ⟨Below.heap_alloc W _ ka (by omega), Below.heap_alloc W _ kb (by omega)⟩ (OwnFrom.alloc PI.ownF _ HI.out) ⟨W.heap.size, ?_, ?_, hsz, rfl⟩
  all_goals go_cell
 case body =>
  clear HPI
  rintro l pre x a' W hl' ⟨r, hr⟩ ⟨v, hP⟩ ⟨Bx, k0, k1, hBx, rfl⟩ hlen
  obtain ⟨⟨rank, P, Q⟩, hin⟩ := x
  dsimp only at hin k0 k1 ⊢
  obtain ⟨hp', hq', hrk0, hrk1⟩ := hin
  have hsz := hP.kx.size
  obtain ⟨C, M, hcm⟩ : ∃ C M, overRun p ds (pre.map Subtype.val) (D, []) = (C, M) := ⟨_, _, rfl⟩
  obtain ⟨gC, hMl⟩ := OG.out (pre.map Subtype.val) (by rw [List.length_map]; omega) (fun t ht => by
   obtain ⟨z, -, rfl⟩ := List.mem_map.1 ht
   exact ⟨z.2.1, z.2.2.1⟩)
  rw [hcm] at hP gC hMl
  dsimp only at hP gC hMl
  rw [List.length_map] at gC hMl
  rw [List.length_nil] at hMl
  have hCl := gC.len
  have hCl2 : C.length + 2 ≤ 20000 := by omega
  have hC20 : C.length ≤ 20000 := by omega
  have hml : M.length ≤ 100000 := by omega
  have iP := (hp'.up HGD2.out).up gC
  have iQ := (hq'.up HGD2.out).up gC
  have hid : ∀ r ∈ ds, In C r := fun r hr => (HID.out r hr).up gC
  have hpz : (0 : Int) < (p : Int) := by omega
  obtain ⟨i, hi⟩ : ∃ i : Nat, rank / (p : Int) = (i : Int) := ⟨(rank / (p : Int)).toNat, by have := Int.ediv_nonneg hrk0 (Int.le_of_lt hpz); omega⟩
  have hin : i < n := by
   have h1 : rank < (n : Int) * p := by have := HNN.out; omega
   have h2 := Int.ediv_lt_of_lt_mul hpz h1
   omega
  have hi0 : (0 : Int) ≤ (i : Int) := by omega
  have hi1 : (i : Int) < (n : Int) := by omega
  have hp00 : ¬ p = 0 := by omega
  have hwd : IntKind.i64.wrap (rank.tdiv (p : Int)) = (i : Int) := by rw [Int.tdiv_eq_ediv_of_nonneg hrk0, hi, IntWalk.i64_in]; omega
  obtain ⟨dv, hdv⟩ : ∃ z, ds[i]? = some z := ⟨_, List.getElem?_eq_getElem (by rw [HDL0]; exact hin)⟩
  have hgd : ds.getD (rank / (p : Int)).toNat 1 = dv := by rw [hi, List.getD_eq_getElem?_getD]; simp [hdv]
  have iD := hid dv (List.mem_of_getElem? hdv)
  have jd : w'.cell? ⟨gd, i, none⟩ = some (.int .i64 dv) := HO.out.get hdv
  have HJD := Lib.hid jd
  have hLW := hP.lts HLW.out
  have hb1 := iP.2; have hb2 := iQ.2; have hb3 := iD.2
  have HST := Lib.hid (show overRun p ds ((pre ++ [(⟨⟨rank, P, Q⟩, ⟨hp', hq', hrk0, hrk1⟩⟩ : TriR fun t => In c t.p ∧ In c t.q ∧ 0 ≤ t.rank ∧ t.rank < N)]).map Subtype.val) (D, []) = overStep p ds (C, M) ⟨rank, P, Q⟩ by rw [List.map_append, List.map_cons, List.map_nil, overRun_snoc, hcm])
  have HGC := Lib.hid gC.good; have HP := Lib.hid hP; have HLT := Lib.hid hLW; have HIP := Lib.hid iP; have HIQ := Lib.hid iQ; have HIDV := Lib.hid iD; have HGDV := Lib.hid hgd
  have hBb : Bx ≠ bb := by omega
  clear hcm gC hP hLW iP iQ hid hi hdv hgd iD jd hr
  have hne9 : ∀ X : List Gate, 0 < X.length → X ≠ [] := fun X h e => by rw [e] at h; cases h
  by_cases hp1e : P = 1
  case pos =>
   subst hp1e
   have hb9 : ((1 : Int) != 1) = false := by decide
   obtain ⟨E, q2, hE2⟩ : ∃ E q2, cor C 1 Q = (E, q2) := ⟨_, _, rfl⟩
   obtain ⟨M2, hM2⟩ : ∃ m, put M rank q2 = m := ⟨_, rfl⟩
   have HSTEP := Lib.hid (show overStep p ds (C, M) ⟨rank, 1, Q⟩ = (E, M2) by unfold overStep; simp only [if_true, hE2, hM2])
   obtain ⟨gE, -, -⟩ := ok_or.one HGC.out (by omega) (in_1 HGC.out.ne) HIQ.out
   rw [hE2] at gE
   have HNE := Lib.hid (hne9 E gE.good.ne)
   have E2 := Lib.hid hE2; have HM2 := Lib.hid hM2; have HP1 := Lib.hid HP.out; have HKW := Lib.hid (KeepX.refl (bb :: bm :: rowOf v) W)
   have x1 := HP.out.cell HXG.out (by omega) (by omega)
   clear gE hE2 hM2
   gi_wp2_with (first | (refine ⟨trivial, ?_⟩; gi_at_call 93; refine (CallsIn.inRound l (callsIn_wide.2 (orM_is (by omega) (by omega) (by omega) HP1.out.bx (HP1.out.lts HLW.out) E2.out))).mono ?_; rintro e w3 ⟨rfl, hb3', hk3'⟩; have HP2 := Lib.hid (HP1.out.op hb3' hk3' hne5 hbb'); have HK3 := Lib.hid hk3'; clear hb3' hk3') | (refine ⟨trivial, ?_⟩; gi_at_call 86; refine (CallsIn.inRound l (callsIn_wide.2 (put_is HP2.out.g hml HM2.out))).mono ?_; intro e w4 hp4; obtain ⟨rfl, v', hP4, -, hk4⟩ := HP2.out.put hp4 hne5 hbb' HNE.out; have HP4 := Lib.hid hP4; have HK4 := Lib.hid hk4; clear hp4 hP4 hk4))
   have hKT : KeepX (bb :: bm :: rowOf v) W w4 := (HKW.out.trans (HK3.out.sub (by simp))).trans (HK4.out.sub fun k hk => List.mem_cons_of_mem _ hk)
   have h9 := HP.out.keeps (ka := ka) (kb := kb) hKT hbb' hbm' hkw (by omega) (by omega) hkw2 (by omega) (by omega)
   exact ⟨h9.1, h9.2, v', by rw [HST.out, HSTEP.out]; exact HP4.out⟩
  have hb9 : (P != 1) = true := by simpa using hp1e
  obtain ⟨C1, q1, hE1⟩ : ∃ C1 q1, cbut C P dv = (C1, q1) := ⟨_, _, rfl⟩
  obtain ⟨gE1, iE1, -⟩ := ok_but.one HGC.out (by omega) HIP.out HIDV.out
  rw [hE1] at gE1 iE1; dsimp only at gE1 iE1
  have hl1 := gE1.len
  have hb5 := iE1.2
  obtain ⟨E, q2, hE2⟩ : ∃ E q2, cor C1 q1 Q = (E, q2) := ⟨_, _, rfl⟩
  obtain ⟨M2, hM2⟩ : ∃ m, put M rank q2 = m := ⟨_, rfl⟩
  have HSTEP := Lib.hid (show overStep p ds (C, M) ⟨rank, P, Q⟩ = (E, M2) by unfold overStep; simp only [if_neg hp1e, HGDV.out, hE1, hE2, hM2])
  obtain ⟨gE, -, -⟩ := ok_or.one gE1.good (by omega) iE1 (HIQ.out.up gE1)
  rw [hE2] at gE
  have HNE := Lib.hid (hne9 E gE.good.ne)
  have E1 := Lib.hid hE1; have E2 := Lib.hid hE2; have HM2 := Lib.hid hM2
  clear gE gE1 iE1 hE1 hE2 hM2
  gi_wp2
  refine wpIn_region_seqM (fun j z => (match j with | 0 => PI (gd :: L0) bb bm ar1 w' C M v z | _ => PI (gd :: L0) bb bm ar1 w' C1 M v z) ∧ KeepX [bb, bm] w' z ∧ KeepX (bb :: bm :: rowOf v) W z ∧ z.cell? ⟨Bx, 0, none⟩ = some (.int .i64 P) ∧ z.cell? ⟨Bx, 1, none⟩ = some (.int .i64 Q)) [9] (by kernel_rfl) (by kernel_rfl) (by kernel_rfl) (by kernel_rfl) ?_ ?_
  · exact ⟨HP.out.up (Below.drew (Below.refl _ _)), (HP.out.up (Below.drew (Below.refl _ _))).kx, KeepX.of_below (Below.drew (Below.refl _ _)), keep_drew k0, keep_drew k1⟩
  refine seqM_pure (v := ?_) (by decide) (by decide) (by rfl) ?_ ?_
  rotate_left
  · (intro sj hj w hS; obtain ⟨-, hkk, -, k0, k1⟩ := hS; have x1 := hkk.cell HXG.out (by simp; omega); go_simp; try with_reducible rfl)
  (try simp only [Act.put, zA, zB, zC])
  refine seqM_pure (v := ?_) (by decide) (by decide) (by rfl) ?_ ?_
  rotate_left
  · (intro sj hj w hS; go_simp; try with_reducible rfl)
  (try simp only [Act.put, zA, zB, zC])
  refine seqM_pure (v := ?_) (by decide) (by decide) (by rfl) ?_ ?_
  rotate_left
  · (intro sj hj w hS; obtain ⟨-, hkk, -, k0, k1⟩ := hS; go_simp; try with_reducible rfl)
  (try simp only [Act.put, zA, zB, zC])
  refine seqM_pure (v := ?_) (by decide) (by decide) (by rfl) ?_ ?_
  rotate_left
  · (intro sj hj w hS; obtain ⟨-, hkk, -, k0, k1⟩ := hS; have x3 := hkk.cell HXD.out (by simp; omega); go_simp; try with_reducible rfl)
  (try simp only [Act.put, zA, zB, zC])
  refine seqM_pure (v := ?_) (by decide) (by decide) (by rfl) ?_ ?_
  rotate_left
  · (intro sj hj w hS; go_simp; try with_reducible rfl)
  (try simp only [Act.put, zA, zB, zC])
  refine seqM_pure (v := ?_) (by decide) (by decide) (by rfl) ?_ ?_
  rotate_left
  · (intro sj hj w hS; obtain ⟨-, hkk, -, k0, k1⟩ := hS; have x2 := hkk.cell HXP.out (by simp; omega); go_simp; try with_reducible rfl)
  (try simp only [Act.put, zA, zB, zC])
  iterate 2 (refine seqM_pure (v := ?_) (by decide) (by decide) (by rfl) ?_ ?_; rotate_left; (focus (intro sj hj w hS; go_simp; try with_reducible rfl)); (try simp only [Act.put, zA, zB, zC]))
  refine seqM_pure (v := ?_) (by decide) (by decide) (by rfl) ?_ ?_
  rotate_left
  · (intro sj hj w hS; obtain ⟨-, hkk, -, k0, k1⟩ := hS; have jd := hkk.cell HJD.out (by simp; omega); go_simp; try with_reducible rfl)
  (try simp only [Act.put, zA, zB, zC])
  refine seqM_call (v := .int .i64 q1) (f := ?_) (args := ?_) (by decide) (by decide) (by rfl) ?_ ?_ ?_
  rotate_left 2
  · (intro w hS; go_simp; first | done | with_reducible rfl | (refine ⟨?_, ?_⟩ <;> with_reducible rfl))
  · (intro w hS; obtain ⟨hP1, hkk, hkW, k0, k1⟩ := hS; refine (butM_is (by omega) (by omega) hC20 hP1.bx (hP1.lts HLW.out) E1.out).mono ?_; rintro e w3 ⟨rfl, hb3', hk3'⟩; have hP2 := hP1.op hb3' hk3' hne5 hbb'; exact ⟨rfl, hP2, hP2.kx, hkW.trans (hk3'.sub (by simp)), hk3'.cell k0 (by simp; omega), hk3'.cell k1 (by simp; omega)⟩)
  (try simp only [Act.put, zA, zB, zC])
  refine seqM_pure (v := ?_) (by decide) (by decide) (by rfl) ?_ ?_
  rotate_left
  · (intro sj hj w hS; go_simp; try with_reducible rfl)
  (try simp only [Act.put, zA, zB, zC])
  refine seqM_nil ?_
  intro w2 hS
  obtain ⟨hP1, hkk, hkW, k0', k1'⟩ := hS
  replace k1 := k1'
  clear k0' k1' k0
  have HP1 := Lib.hid hP1; have HKW := Lib.hid hkW
  have x1 := hkk.cell HXG.out (by simp; omega)
  clear hP1 hkW hkk
  gi_wp2_with (first | (refine ⟨trivial, ?_⟩; gi_at_call 93; refine (CallsIn.inRound l (callsIn_wide.2 (orM_is (by omega) (by omega) (by omega) HP1.out.bx (HP1.out.lts HLW.out) E2.out))).mono ?_; rintro e w3 ⟨rfl, hb3', hk3'⟩; have HP2 := Lib.hid (HP1.out.op hb3' hk3' hne5 hbb'); have HK3 := Lib.hid hk3'; clear hb3' hk3') | (refine ⟨trivial, ?_⟩; gi_at_call 86; refine (CallsIn.inRound l (callsIn_wide.2 (put_is HP2.out.g hml HM2.out))).mono ?_; intro e w4 hp4; obtain ⟨rfl, v', hP4, -, hk4⟩ := HP2.out.put hp4 hne5 hbb' HNE.out; have HP4 := Lib.hid hP4; have HK4 := Lib.hid hk4; clear hp4 hP4 hk4))
  have hKT : KeepX (bb :: bm :: rowOf v) W w4 := (HKW.out.trans (HK3.out.sub (by simp))).trans (HK4.out.sub fun k hk => List.mem_cons_of_mem _ hk)
  have h9 := HP.out.keeps (ka := ka) (kb := kb) hKT hbb' hbm' hkw (by omega) (by omega) hkw2 (by omega) (by omega)
  exact ⟨h9.1, h9.2, v', by rw [HST.out, HSTEP.out]; exact HP4.out⟩
 case done =>
  clear HPI
  rintro DD xs W hDl0 hS ⟨v, hP⟩ hDD
  have HF := Lib.hid (show overRun p ds (xs.map Subtype.val) (D, []) = mOverride c n p a b by rw [hS]; unfold mOverride; rw [HJ.out])
  obtain ⟨C, M, hcm⟩ : ∃ C M, mOverride c n p a b = (C, M) := ⟨_, _, rfl⟩
  rw [HF.out, hcm] at hP
  rw [hcm]
  dsimp only at hP
  have hC0 : 0 < C.length := by
   have h := (OG.out (mzip a b) mzl (fun t ht => ⟨(HRPH.out t ht).1, (HRPH.out t ht).2.1⟩)).1.good.ne
   have e : overRun p ds (mzip a b) (D, []) = mOverride c n p a b := by unfold mOverride; rw [HJ.out]
   rw [e, hcm] at h
   exact h
  have HS0 := Lib.hid hS
  have hsz := hP.kx.size
  have hDl := (Array.getElem?_eq_some_iff.1 hDD).1
  obtain ⟨pC, cC, e1, e1f, hCC, hnL⟩ := hP.bx
  have hClt := hCC.lt hC0
  have HNL := Lib.hid (fun ad h => (fun hm => hnL ad h (List.mem_cons_of_mem _ (List.mem_append_right _ (List.mem_cons_of_mem _ hm))) : ad.block ∉ L0))
  have z0 := hP.g.c0; have z1 := hP.g.c1
  obtain ⟨q3, c3, hv, o1, o2, o3, o4⟩ := owns_val (by decide) hP.g.own
  subst hv
  have hqr : ∀ ad, q3 = some ad → w'.heap.size ≤ ad.block ∧ ad.block < W.heap.size := fun ad h => hP.g.own.lt ad.block (by rw [h]; rfl)
  have O4 := Lib.hid o4; have O3 := Lib.hid o3; have HDD := Lib.hid hDD
  have hkC := Cells.keep HKC.out hP.kx (by simp; omega)
  obtain ⟨-, -, -, -, -, ⟨y30, y30f⟩, ⟨y40, y40f⟩, ⟨y41, y41f⟩, -⟩ := hkC
  have x1 := hP.cell HXG.out (by omega) (by omega)
  have hMF : MxAt W q3 c3 M := ⟨o1, o2, O3.out, O4.out, fun ad h => (hqr ad h).2⟩
  have hBR : Below w.heap.size w W := KeepX.below' HBW'.out hP.kx HBW'.out.size (by have := HS.out; simp; omega)
  have HCM := Lib.hid hcm
  clear hnL o1 o2 o3 o4 hP hDD hS hcm
  go_upto_region 17 with fail
  go_region
  go_wp2_with fail
  obtain ⟨W9, hW9⟩ : ∃ W9, W9 = (((W.setCell ⟨s + 3, 0, none⟩ (.slice pC C.length cC)).setCell ⟨s + 4, 0, none⟩ (.int .i64 ar1)).setCell ⟨s + 4, 1, none⟩ (.slice q3 M.length c3)).drew := ⟨_, rfl⟩
  rw [← hW9]
  have r0 : W9.cell? ⟨s + 3, 0, none⟩ = some (.slice pC C.length cC) := by rw [hW9]; go_cell
  have r1 : W9.cell? ⟨s + 4, 0, none⟩ = some (.int .i64 ar1) := by rw [hW9]; go_cell
  have r2 : W9.cell? ⟨s + 4, 1, none⟩ = some (.slice q3 M.length c3) := by rw [hW9]; go_cell
  have n3 : ∀ ad, pC = some ad → s + 3 ≠ ad.block := fun ad h e => (HL2.out _ (HNL.out ad h)).1 e.symm
  have n4 : ∀ ad, pC = some ad → s + 4 ≠ ad.block := fun ad h e => (HL2.out _ (HNL.out ad h)).2.1 e.symm
  have m3 : ∀ ad, q3 = some ad → s + 3 ≠ ad.block := fun ad h e => by have := (hqr ad h).1; omega
  have m4 : ∀ ad, q3 = some ad → s + 4 ≠ ad.block := fun ad h e => by have := (hqr ad h).1; omega
  have hCF : CAt W9 pC cC C := by rw [hW9]; exact (((hCC.set n3 _).set n4 _).set n4 _).mono (Below.drew (Below.refl _ _))
  replace hMF : MxAt W9 q3 c3 M := by rw [hW9]; exact (((hMF.set m3 _).set m4 _).set m4 _).up (Below.drew (Below.refl _ _))
  have hk9 : KeepX [s + 3, s + 4] W W9 := by rw [hW9]; exact ((((KeepX.refl _ W).setCell (by simp) _).setCell (by simp) _).setCell (by simp) _).upB (Below.drew (Below.refl _ _))
  have B9 : Below w.heap.size w W9 := KeepX.below' hBR hk9 hBR.size (by have := HS.out; simp; omega)
  have hD2 : W9.heap[DD]? = some (.deferred (some [])) := by rw [hk9.block DD hDl (by simp; omega)]; exact HDD.out
  clear hW9
  refine ⟨by simp, .inl ⟨_, _, rfl, run_takeDeferred hD2, ?_⟩⟩
  have hgp := grownBy_putObj' W9 DD (.deferred none)
  have hgr : ∀ r, some DD = some r → ∃ o : Obj, W9.heap[r]? = some o ∧ o.isCells = false := fun r e => by cases e; exact ⟨_, hD2, rfl⟩
  have e3 := cell_kept r0 hgp hgr; have e40 := cell_kept r1 hgp hgr; have e41 := cell_kept r2 hgp hgr
  refine ⟨.tuple #[.agg #[.slice pC C.length cC], .agg #[.int .i64 ar1, .slice q3 M.length c3]], by simp [results, Try.results43, go_sem, e3, e40, e41]; try rfl, ?_⟩
  rw [HCM.out]
  dsimp only
  refine ⟨_, _, _, _, rfl, ⟨hCF.le, hCF.cm, hCF.p0, slat_kept hCF.at' hgp hgr⟩, ⟨hMF.le, hMF.cm, hMF.p0, slat_kept hMF.at' hgp hgr, fun ad h => by have h1 := hMF.lt ad h; have h2 := hgp.size; omega⟩, ?_, fun ad h => ?_, fun ad h => by have := (hqr ad h).1; have := HS.out; omega⟩
  · exact KeepX.below' B9 (KeepX.of_grown (X := [DD]) hgp (by simp)) B9.size (fun k hk => by rw [List.mem_singleton.1 hk]; have := HS.out; omega)
  · have h9 := (HL2.out _ (HNL.out ad h)).2.2
    have := HS.out
    rcases Nat.lt_or_ge ad.block s with hlt9 | hge9
    · exact .inl (h9 hlt9)
    · exact .inr (by omega)
 rintro DD c pre W _ _ h _
 exact h.elim
end Go.Proofs.Ytadilppdlbhjnaa
