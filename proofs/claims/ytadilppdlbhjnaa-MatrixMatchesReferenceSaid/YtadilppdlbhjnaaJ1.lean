import Derived.Test.YtadilppdlbhjnaaJ0
import Derived.Test.YtadilppdlbhjnaaSh
namespace Go.Proofs.Ytadilppdlbhjnaa
set_option linter.unusedSimpArgs false
set_option linter.unusedVariables false
open Go.RowKit
theorem KeepX.grown {b : Nat} {w w' : World} (h : KeepX [b] w w') : w.grownBy w' (some b) := ⟨h.os, h.tape, h.output, h.size, fun k hk hne => h.block k hk (by simp; exact fun e => hne (by rw [e]))⟩
theorem KeepX.below' {X : List Nat} {w w' w2 : World} {B : Nat} (h0 : Below B w w') (h : KeepX X w' w2) (hB : B ≤ w'.heap.size) (hs : ∀ k ∈ X, B ≤ k) : Below B w w2 := h0.trans (h.below hB hs)
theorem int_keyed' : Maps.Keyed Try.prog 3 := Maps.int_keyed Try.underlying3
theorem wf_int {r : Int} (h0 : 0 ≤ r) (h1 : r < 100000) : (Lit.int .i64 r).wf = true := by
 have h2 : IntKind.i64.min = -9223372036854775808 := by decide
 have h3 : IntKind.i64.max = 9223372036854775807 := by decide
 simp only [Lit.wf, Bool.and_eq_true, decide_eq_true_eq, h2, h3]
 omega
theorem int_key {r : Int} (h0 : 0 ≤ r) (h1 : r < 100000) : keyOf Try.prog 3 (.int .i64 r) = some (keyI r) := Maps.keyOf_int_mk Try.underlying3 (wf_int h0 h1)
abbrev MapAt (w : World) (b n : Nat) (D : DM) : Prop := w.ownsMap Try.prog 3 (plainElem Try.prog 3) b n D
theorem MapAt.keep {X : List Nat} {w w' : World} {b n : Nat} {D : DM} (h : MapAt w b n D) (hk : KeepX X w w') (hb : b ∉ X) : MapAt w' b n D := by
 have hlt := World.ownsMap.lt h
 obtain ⟨es, clock, h1, h2⟩ := h
 exact ⟨es, clock, by rw [hk.block b hlt hb]; exact h1, h2⟩
theorem MapAt.up {w w' : World} {b n : Nat} {D : DM} (h : MapAt w b n D) (hB : Below w.heap.size w w') : MapAt w' b n D := h.keep (X := []) (KeepX.of_below hB) (by simp)
theorem BxA.upB {L : List Nat} {w w' : World} {b : Nat} {gs : List Gate} (h : BxA L w b gs) (hB : Below w.heap.size w w') : BxA L w' b gs := h.keep (X := []) (KeepX.of_below hB) (by simp) (by simp)
theorem KeepX.upB {X : List Nat} {w w1 w2 : World} (h : KeepX X w w1) (hB : Below w1.heap.size w1 w2) : KeepX X w w2 := h.trans (KeepX.of_below hB)
theorem Cells.keep {X : List Nat} {W W' : World} : ∀ {L : List (Nat × Nat × Value)}, Cells W L → KeepX X W W' → (∀ x ∈ L, x.1 ∉ X) → Cells W' L
 | [], _, _, _ => trivial
 | (b, o, v) :: t, h, hB, hb => ⟨⟨hB.cell h.1.1 (hb _ (List.mem_cons_self ..)), hB.free h.1.2 (World.block_lt_of_cell? _ _ h.1.1) (hb _ (List.mem_cons_self ..))⟩, Cells.keep h.2 hB fun x hx => hb x (List.mem_cons_of_mem _ hx)⟩
theorem andM_is {L : List Nat} {c d : List Gate} {x y r : Int} {b : Nat} {w : World} (hx : x ≤ 9223372036854775807) (hy : y ≤ 9223372036854775807) (hl : c.length ≤ 20000) (hB : BxA L w b c) (hL : ∀ k ∈ L, k < w.heap.size) (e : cand c x y = (d, r)) :
 Calls Try.prog 94 #[.pointer (some ⟨b, 0, none⟩), .int .i64 x, .int .i64 y] w (MRet L w b (d, r)) := e ▸ andM_any L c x y b w hx hy hl hB hL
theorem orM_is {L : List Nat} {c d : List Gate} {x y r : Int} {b : Nat} {w : World} (hx : x ≤ 9223372036854775807) (hy : y ≤ 9223372036854775807) (hl : c.length ≤ 20000) (hB : BxA L w b c) (hL : ∀ k ∈ L, k < w.heap.size) (e : cor c x y = (d, r)) :
 Calls Try.prog 93 #[.pointer (some ⟨b, 0, none⟩), .int .i64 x, .int .i64 y] w (MRet L w b (d, r)) := e ▸ orM_any L c x y b w hx hy hl hB hL
theorem put_is {m n : List Cell} {ar rank r : Int} {b B : Nat} {v : Value} {w : World} (h : GMx w B b ar m v) (hl : m.length ≤ 100000) (e : put m rank r = n) :
 Calls Try.prog 86 #[.pointer (some ⟨b, 0, none⟩), .int .i64 rank, .int .i64 r] w (PutPost w B b ar n v) := e ▸ put_any m ar rank r b B v w h hl
theorem row_keep {w w' : World} {B : Nat} {e : TypeId} {size : Nat} {v : Value} {n : Nat} {xs : List Value} {b : Nat} (h : w.ownsRow B e size v n xs) (hg : w.grownBy w' (some b)) (hb : b < B) : w'.ownsRow B e size v n xs := by
 refine h.kept hg ?_
 cases hv : v.ownBlock with
 | none => exact .inl rfl
 | some k => exact .inr (by have := (h.lt k hv).1; simp; omega)
theorem ranges_keep {P : Program} {k : TypeId} {Rd : Value → Option (DM × List MemPlace)} {w w' : World} {b r n : Nat} {D : DM} {left : Lit → Bool} {cnt : Nat} (h : w.ranges P k Rd b r n D left cnt) (h1 : w'.heap[b]? = w.heap[b]?) (h2 : w'.heap[r]? = w.heap[r]?) : w'.ranges P k Rd b r n D left cnt := by
 obtain ⟨es, clock, since, seen, c0, hb, F, hs, hD, hr, rest⟩ := h
 exact ⟨es, clock, since, seen, c0, h1.trans hb, F, hs, hD, h2.trans hr, rest⟩
abbrev sortI (l : List Int) : List Int := l.mergeSort fun x y => decide (x ≤ y)
theorem sort_own {ss : List Int} {B : Nat} {v : Value} {w : World} (h : w.ownsRow B 3 1 v ss.length (flat 1 iEnc ss)) (hl : ss.length < 100000000) :
 Calls Try.prog 101 #[v] w fun e w' => e = .returned (.tuple #[]) ∧ w'.ownsRow B 3 1 v (sortI ss).length (flat 1 iEnc (sortI ss)) ∧ (B ≤ w.heap.size → Below B w w') := by
 have hlen : (sortI ss).length = ss.length := List.length_mergeSort ss
 have hf : ∀ l : List Int, flat 1 iEnc l = l.map (Value.int .i64) := fun l => by rw [flat1]; rfl
 rcases h.2 with ⟨rfl, h0⟩ | ⟨g, cap, cur, rfl, hB, hb, h1, h2, h3, h4⟩
 · obtain rfl := List.length_eq_zero_iff.1 h0
   refine (Try.slices_Sort_int_none none 0 w).mono ?_
   rintro e w' ⟨rfl, rfl⟩
   exact ⟨rfl, by rw [show sortI [] = [] from List.mergeSort_nil]; exact World.ownsRow_nil _ _ _ _, fun _ => Below.refl _ _⟩
 · rw [hf, Nat.mul_one] at h4
   refine (Try.slices_Sort_int g 0 cap ss w (holds_of_blockI hb h4) (Array.getElem?_eq_some_iff.1 hb).1 (by omega)).mono ?_
   rintro e w' ⟨rfl, n, os, rfl⟩
   refine ⟨rfl, ?_, fun hB' => ?_⟩
   · rw [hf, hlen]
     exact ownsRow_sortedI hlen hB hb h1 h2 h3
   · have hg := grownBy_sortedI (w := w) (g := g) (n := n) (os := os) (sortI ss).toArray
     exact ⟨hg.os, hg.tape, hg.output, hg.size, fun k hk => hg.block k (by omega) (by simp; omega)⟩
set_option maxRecDepth 100000 in
set_option maxHeartbeats 8000000 in
theorem join_any (c : List Gate) (a b : List Cell) (ar1 ar2 : Int) (k1 k2 n p N : Nat) (A B : Int) (pc0 pa pb : Option Addr) (cap ca cb : Nat) (w : World) (hC : CAt w pc0 cap c) (hA : MxAt w pa ca a) (hD : MxAt w pb cb b)
 (ha1 : ar1 = (k1 : Int) + 1) (ha2 : ar2 = (k2 : Int) + 1) (hk3 : k1 + k2 ≤ 3) (hn0 : 0 < n) (hn : n ≤ 12) (hp : n ^ k2 = p) (hN : n ^ (k1 + k2) = N) (hg : Good c) (hl : c.length + 2 * (a.length * b.length) + 2 ≤ 20000) (ha : MOk c A a) (hb : MOk c B b) (hA2 : A ≤ 2000) (hB2 : B ≤ 2000) (hT : ∀ t ∈ jpairs n p a b, 0 ≤ t.rank ∧ t.rank < (N : Int)) :
 Calls Try.prog 44 #[.agg #[.slice pc0 c.length cap], .int .i64 n, .agg #[.int .i64 ar1, .slice pa a.length ca], .agg #[.int .i64 ar2, .slice pb b.length cb]] w (RetCMB w pc0 (mJoin c N n p a b).1 (ar1 + ar2 - 2) (mJoin c N n p a b).2) := by
 obtain ⟨i0, hi0, hz0, hz1, hz2⟩ := info_parts int_info
 have hp1 : 0 < p := by rw [← hp]; exact Nat.pow_pos hn0
 have hp2 : p ≤ 1728 := by rw [← hp]; exact Nat.le_trans (Nat.pow_le_pow_left hn k2) (Nat.le_trans (Nat.pow_le_pow_right (by decide) (show k2 ≤ 3 by omega)) (by decide))
 have hN2 : N ≤ 1728 := by rw [← hN]; exact Nat.le_trans (Nat.pow_le_pow_left hn _) (Nat.le_trans (Nat.pow_le_pow_right (by decide) hk3) (by decide))
 have HP := Lib.hid hp; clear hp hN
 obtain ⟨s, hs0⟩ : ∃ s, w.heap.size = s := ⟨_, rfl⟩
 obtain ⟨W2, hW2⟩ : ∃ W2, W2 = (((((w.alloc (.cells #[.slice pc0 c.length cap] 27)).alloc (.cells #[.int .i64 ar1, .slice pa a.length ca] 30)).alloc (.cells #[.int .i64 ar2, .slice pb b.length cb] 30)).alloc (.cells #[.slice none 0 0] 27)).alloc (.cells #[.int .i64 0, .slice none 0 0] 30)) := ⟨_, rfl⟩
 have hbw : Below w.heap.size w W2 := by rw [hW2]; go_grown
 have zz : s + 5 ≤ W2.heap.size := by rw [hW2, ← hs0]; simp
 have hk : Cells W2 [(s, 0, .slice pc0 c.length cap), (s + 1, 0, .int .i64 ar1), (s + 1, 1, .slice pa a.length ca), (s + 2, 0, .int .i64 ar2), (s + 2, 1, .slice pb b.length cb), (s + 3, 0, .slice none 0 0), (s + 4, 0, .int .i64 0), (s + 4, 1, .slice none 0 0)] := by rw [hW2, ← hs0]; exact ⟨⟨by go_cell, by go_cell⟩, ⟨by go_cell, by go_cell⟩, ⟨by go_cell, by go_cell⟩, ⟨by go_cell, by go_cell⟩, ⟨by go_cell, by go_cell⟩, ⟨by go_cell, by go_cell⟩, ⟨by go_cell, by go_cell⟩, ⟨by go_cell, by go_cell⟩, trivial⟩
 have HW2 := Lib.hid hW2; have HS := Lib.hid hs0
 clear hW2 hs0
 have JO := Lib.hid (fun I K => jst_ok (I := I) (K := K) (n := (n : Int)) (p := (p : Int)) hg (by omega) ha hb)
 have HMA := Lib.hid ha; have HMB := Lib.hid hb; have HT := Lib.hid hT; have HGD := Lib.hid hg
 have hc0 : 0 < c.length := hg.ne
 have hal : a.length ≤ 2000 := by have := sorted_len (lo := 0) (N := A) ha.sorted ha.ranks; omega
 have hbl0 : b.length ≤ 2000 := by have := sorted_len (lo := 0) (N := B) hb.sorted hb.ranks; omega
 have hab : a.length * b.length ≤ 10000 := by omega
 have hr1 : 1 ≤ ar1 := by omega
 have hr2 : ar1 ≤ 4 := by omega
 have hr3 : 1 ≤ ar2 := by omega
 have hr4 : ar2 ≤ 4 := by omega
 have HA1 := Lib.hid ha1; have HA2 := Lib.hid ha2
 have HC := Lib.hid hC; have HA := Lib.hid hA; have HD := Lib.hid hD
 clear hC hA hD ha hb hT hg ha1 ha2
 have hwr : IntKind.i64.wrap (ar2 - 1) = ar2 - 1 := by rw [IntWalk.i64_in]; omega
 go_enter Try.func44, Try.ntmps44
 go_upto_region 1 with fail
 rw [← HW2.out]
 simp only [HS.out, Nat.add_assoc, Nat.reduceAdd]
 obtain ⟨⟨y00, y00f⟩, ⟨y10, y10f⟩, ⟨y11, y11f⟩, ⟨y20, y20f⟩, ⟨y21, y21f⟩, ⟨y30, y30f⟩, ⟨y40, y40f⟩, ⟨y41, y41f⟩, -⟩ := id hk
 clear y00 y00f y10 y10f y11 y11f y20 y20f y21 y21f y30 y30f y40 y40f y41 y41f
 refine wp_region_seqE (fun x => Below W2.heap.size W2 x) (.one 0 0 (.one 1 1 (.one 3 1 (.one 4 1 (.one 5 0 (.one 6 1 (.one 7 1 (.alt 2 2 (.one 8 1 (.one 9 1 .nil)) .stop)))))))) (by kernel_rfl) (by kernel_rfl) (by kernel_rfl) (Below.drew (Below.refl _ _)) ?_
 iterate 6 ((first | (refine seqE_free (v := ?_) rfl (by rfl) ?_ ?_; rotate_left; (focus (intro w; go_simp; try with_reducible rfl))) | (refine seqE_pure (v := ?_) rfl (by rfl) ?_ ?_; rotate_left; (focus (intro w hS; obtain ⟨⟨y00, -⟩, -, -, ⟨y20, -⟩, -⟩ := hk.up hS; go_simp; try with_reducible rfl)))); (try simp only [Act.put, zA, zB, zC]))
 refine seqE_fcall (v := .int .i64 (p : Int)) (f := ?_) (args := ?_) rfl (by rfl) ?_ ?_ ?_
 rotate_left 2
 focus (intro w; go_simp; first | done | with_reducible rfl | (refine ⟨?_, ?_⟩ <;> with_reducible rfl))
 focus (intro w; refine (power_is (k := k2) (q := p) w (by have := HA2.out; first | omega | (rw [hwr]; omega)) HP.out hn (by omega)).mono ?_; rintro e w' ⟨rfl, hw⟩; exact ⟨rfl, hw⟩)
 (try simp only [Act.put, zA, zB, zC])
 refine seqE_move rfl (by rfl) ?_ seqE_stop
 intro w1 hS
 refine ⟨.pointer (some ⟨w1.heap.size, 0, none⟩), w1.alloc (.cells #[.slice pc0 c.length cap] 87), (by go_simp; try with_reducible rfl), ?_⟩
 obtain ⟨b27, hb27⟩ : ∃ b, b = w1.heap.size := ⟨_, rfl⟩
 obtain ⟨v1, hw1⟩ : ∃ zW, zW = w1.alloc (.cells #[.slice pc0 c.length cap] 87) := ⟨_, rfl⟩
 rw [← hw1, ← hb27]
 have hbl : Below w1.heap.size w1 v1 := by rw [hw1]; go_grown
 have hge27 : s + 5 ≤ b27 := by rw [hb27]; exact Nat.le_trans zz hS.size
 refine ⟨(fun x => Below v1.heap.size v1 x), Below.refl _ _, fun x hx => btr (btr hS hbl) hx, ?_⟩
 have hX := btr hS hbl
 replace hk := hk.up hX; replace hbw := btr hbw hX; replace zz := Nat.le_trans zz (Below.size hX)
 have hs : Cells v1 [(b27, 0, .slice pc0 c.length cap)] := ⟨⟨by rw [hw1, hb27]; go_cell, by rw [hw1, hb27]; go_cell⟩, trivial⟩
 clear hX hS hbl hw1 hb27
 (try simp only [Act.put, zA, zB, zC])
 iterate 2 (refine seqE_free (v := ?_) rfl (by rfl) ?_ ?_; rotate_left; (focus (intro w; go_simp; try with_reducible rfl)); (try simp only [Act.put, zA, zB, zC]))
 refine seqE_nil ?_
 intro wz hS
 replace hs := hs.up hS; replace hk := hk.up hS; replace hbw := btr hbw hS; replace zz := Nat.le_trans zz (Below.size hS); clear hS
 obtain ⟨⟨d270, d270f⟩, -⟩ := id hs
 obtain ⟨⟨y00, y00f⟩, ⟨y10, y10f⟩, ⟨y11, y11f⟩, ⟨y20, y20f⟩, ⟨y21, y21f⟩, ⟨y30, y30f⟩, ⟨y40, y40f⟩, ⟨y41, y41f⟩, -⟩ := id hk
 have hmk := run_makeMap (P := Try.prog) 105 wz
 go_upto_region 3 with fail
 obtain ⟨bm, hbm⟩ : ∃ b, b = wz.heap.size := ⟨_, rfl⟩
 obtain ⟨w7, hw7⟩ : ∃ x, x = wz.alloc (.map #[] 0) := ⟨_, rfl⟩
 rw [← hw7, ← hbm]
 have hB7 : Below wz.heap.size wz w7 := by rw [hw7]; go_grown
 have hown : MapAt w7 bm 0 (.map []) := by rw [hw7, hbm]; exact World.ownsMap_made _ _ _ _
 have hbb : b27 < bm := by rw [hbm]; exact World.block_lt_of_cell? _ _ d270
 have hsz7 : bm < w7.heap.size := World.ownsMap.lt hown
 have hk7 := hk.up hB7
 have hbw7 := btr hbw hB7
 obtain ⟨L0, hL0⟩ : ∃ L, L = (s + 3) :: (s + 4) :: bm :: oth s pc0 := ⟨_, rfl⟩
 have hpl : ∀ ad, pc0 = some ad → ad.block < s := by rw [← HS.out]; exact HC.out.lt hc0
 have hL1 : ∀ k ∈ L0, k ≤ bm := by
  intro k hk; rw [hL0] at hk
  rcases List.mem_cons.1 hk with e | hk
  · omega
  rcases List.mem_cons.1 hk with e | hk
  · omega
  rcases List.mem_cons.1 hk with e | hk
  · omega
  have := oth_lt hk; omega
 have hL5 : bm ∈ L0 := by rw [hL0]; simp
 have hL3 : ∀ ad, pc0 = some ad → ad.block ∉ L0 := by
  intro ad h hm; rw [hL0] at hm
  have := hpl ad h
  rcases List.mem_cons.1 hm with e | hm
  · omega
  rcases List.mem_cons.1 hm with e | hm
  · omega
  rcases List.mem_cons.1 hm with e | hm
  · omega
  exact oth_not h hm
 have HL2 := Lib.hid (show ∀ k, k ∉ L0 → k ≠ s + 3 ∧ k ≠ s + 4 ∧ (k < s → ∃ a, pc0 = some a ∧ k = a.block) from by
  intro k hk; rw [hL0] at hk
  simp only [List.mem_cons, not_or] at hk
  exact ⟨hk.1, hk.2.1, fun hl => oth_of hk.2.2.2 hl⟩)
 have hBx : BxA L0 w7 b27 c := ⟨pc0, cap, oldcell hB7 d270 (by omega), oldfree hB7 d270f (by omega), HC.out.mono hbw7, hL3⟩
 have HBW7 := Lib.hid hbw7; have HK7 := Lib.hid hk7
 have y11 := zD hB7 y11
 clear hw7 hbm hB7 hL0 hL3 hpl hk7 hbw7 hbw zz hs hk hmk
 clear d270 d270f y00 y00f y10 y10f y11f y20 y20f y21 y21f y30 y30f y40 y40f y41 y41f
 go_wp2_with fail
 go_loopg [37] a.length (fun M s37 wr => ∃ (I : Nat) (C : List Gate) (S : Int → Int) (D : DM) (nn : Nat), s37 = .int .i64 I ∧ I ≤ a.length ∧ M = a.length - I ∧ jst c n p a b I 0 = (C, S) ∧ Sums D S ∧ nn ≤ I * 2000 ∧ MapAt wr bm nn D ∧ BxA L0 wr b27 C ∧ KeepX [b27, bm] w7 wr)
 case atStart => exact ⟨0, c, fun _ => 1, .map [], 0, rfl, by omega, rfl, jst_start, Sums.start, by omega, hown, hBx, KeepX.refl _ _⟩
 clear hown hBx y11
 obtain ⟨I, C, S, D, nn, rfl, hI, hM, hj, hS, hnn, hmp, hBx, hkx⟩ := hrel
 have HM := Lib.hid hM; have HJ := Lib.hid hj; have HSU := Lib.hid hS; clear hM hj hS
 have hszr := hkx.size
 have hBR : Below w.heap.size w wr := KeepX.below' HBW7.out hkx HBW7.out.size (by have := HS.out; simp; omega)
 by_cases hlt : I < a.length
 case neg =>
  obtain rfl : I = a.length := by omega
  have y10 := hkx.cell (HK7.out.2.1.1) (by simp only [List.mem_cons, List.not_mem_nil, or_false, not_or]; omega)
  have y20 := hkx.cell (HK7.out.2.2.2.1.1) (by simp only [List.mem_cons, List.not_mem_nil, or_false, not_or]; omega)
  have hjo := JO.out a.length 0
  rw [HJ.out] at hjo
  dsimp only at hjo
  obtain ⟨gC, iS⟩ := hjo
  have IS := Lib.hid iS; have GC := Lib.hid gC; clear gC iS
  obtain ⟨pC, cC, e1, e1f, hCC, hnL⟩ := hBx
  have hClt := hCC.lt (show 0 < C.length from GC.out.good.ne)
  have hb27 := World.block_lt_of_cell? _ _ e1
  have HNL := Lib.hid hnL; clear hnL
  go_upto_region 18 with fail
  obtain ⟨b20, hb20⟩ : ∃ b, b = wr.heap.size := ⟨_, rfl⟩
  obtain ⟨w17, hw17⟩ : ∃ x, x = wr.alloc (.cells #[.int .i64 (ar1 + ar2 - 2), .slice none 0 0] 30) := ⟨_, rfl⟩
  rw [← hw17, ← hb20]
  have hBx1 : Below wr.heap.size wr w17 := by rw [hw17]; go_grown
  have z0 : w17.cell? ⟨b20, 0, none⟩ = some (.int .i64 (ar1 + ar2 - 2)) := by rw [hw17, hb20]; go_cell
  have z1 : w17.cell? ⟨b20, 1, none⟩ = some (.slice none 0 0) := by rw [hw17, hb20]; go_cell
  have z0f : w17.frozen? ⟨b20, 0, none⟩ = false := by rw [hw17, hb20]; go_cell
  have z1f : w17.frozen? ⟨b20, 1, none⟩ = false := by rw [hw17, hb20]; go_cell
  have hlt20 : bm < b20 := by omega
  replace hmp := hmp.up hBx1; replace hkx := hkx.upB hBx1
  replace e1 := oldcell hBx1 e1 hb27; replace e1f := oldfree hBx1 e1f hb27; replace hCC := hCC.mono hBx1
  rw [← hb20] at hClt hb27
  have hBW17 := Below.trans hBR (hBx1.mono hBR.size)
  obtain ⟨R, hR⟩ : ∃ R, R = w17.heap.size := ⟨_, rfl⟩
  have hlt17 : b20 < R := by rw [hR]; exact World.block_lt_of_cell? _ _ z0
  have HR := Lib.hid hR
  clear hw17 hBx1 hb20 hBR hszr y10 y20 y11 hR
  go_upto_region 20 with (first | (at_range; refine wpList_range_own _ rfl _ 105 rfl 3 3 int_keyed' Try.underlying105 _ bm nn D rfl hmp ?_; intro w0 hrg0 hg0 hs0))
  rw [← HR.out] at hrg0 hs0 ⊢
  have hB0 : Below R w17 w0 := by have h := hg0; exact ⟨h.os, h.tape, h.output, h.size, fun k hk => h.block k (by rw [← HR.out]; exact hk) (by simp)⟩
  clear hg0
  (first | go_frame | skip)
  go_loopg [21] (Maps.size D) (fun M s21 wr => ∃ (left : Lit → Bool) (ss : List Int) (v : Value), s21 = v ∧ wr.ranges Try.prog 3 (plainElem Try.prog 3) bm R nn D left M ∧ CollectedI D left ss ∧ (∀ x ∈ ss, (Lit.int .i64 x).wf = true) ∧ ss.length + M ≤ 5000000 ∧ wr.ownsRow (R + 1) 3 1 v ss.length (flat 1 iEnc ss) ∧ Below R w17 wr ∧ R < wr.heap.size)
  case atStart => exact ⟨Maps.has D, [], _, rfl, hrg0, CollectedI.start D, (fun x hx => by cases hx), by have := World.ownsMap.size_le hmp; simp; omega, World.ownsRow_nil _ _ _ _, hB0, by omega⟩
  clear hrg0 hs0 hB0
  obtain ⟨left, ss, v, hv, hrg, hcol, hwf, hle, hrow, hBl, hRs⟩ := hrel
  subst hv
  have HCOL := Lib.hid hcol; have HWF := Lib.hid hwf; have HROW := Lib.hid hrow; have HBL := Lib.hid hBl; clear hcol hwf hrow hBl
  go_wp2_with (first | (at_next; refine wpList_next_ranges_ii _ rfl _ rfl 3 3 .i64 .i64 int_keyed' Try.underlying3 Try.underlying3 bm R nn D left _ rfl hrg ?_ ?_))
  · intro hcz hl0
    have hb20R := hlt17
    have hmem : ∀ x, x ∈ ss ↔ Maps.has D (keyI x) = true := fun x => by rw [HCOL.out.2 x, hl0]; simp
    obtain ⟨ks, hks⟩ : ∃ ks, sortI ss = ks := ⟨_, rfl⟩
    have HS1 := Lib.hid (show ∀ r, S r ≠ 1 → 0 ≤ r ∧ r < (N : Int) from fun r hr => by
     have h := jrun_out (jpairs n p a b) c (fun _ => 1) r
     have e : jrun (jpairs n p a b) (c, fun _ => 1) = (C, S) := by have h2 := HJ.out; unfold jst at h2; rw [gl_end, ← jpairs_gp] at h2; exact h2
     rw [e] at h
     exact Classical.byContradiction fun h2 => hr (h fun t ht he => h2 (he ▸ HT.out t ht)))
    have KLT := Lib.hid (sorted_lt HCOL.out.1 hks.symm)
    have KM := Lib.hid (show ∀ r, r ∈ ks ↔ Maps.has D (keyI r) = true from fun r => by rw [← hks]; exact ((List.mergeSort_perm ss _).mem_iff).trans (hmem r))
    have KW := Lib.hid (show ∀ r ∈ ks, (Lit.int .i64 r).wf = true from fun r hr => HWF.out r (by rw [← hks] at hr; exact ((List.mergeSort_perm ss _).mem_iff).1 hr))
    have hkl : ss.length = ks.length := by rw [← hks]; exact (List.length_mergeSort ss).symm
    obtain ⟨q21, c21, hv21, -, -, -, -⟩ := owns_val (by decide) HROW.out
    subst hv21
    have HROW2 := Lib.hid (show wr.ownsRow (R + 1) 3 1 (.slice q21 ks.length c21) ss.length (flat 1 iEnc ss) by rw [← hkl]; exact HROW.out)
    rw [hkl]
    have HKS := Lib.hid hks
    clear hmem hks hl0 HCOL HROW HWF hrg
    go_upto_region 24 with (first | (go_at_call 101; refine (sort_own HROW2.out (by omega)).mono ?_; rintro e w4 ⟨rfl, hrow4, hb4⟩; rw [HKS.out] at hrow4; replace hb4 := hb4 (by omega)))
    have hB4 : Below R w17 w4 := HBL.out.trans (hb4.mono (by omega))
    have hB4w : Below w17.heap.size w17 w4 := by rw [← HR.out]; exact hB4
    obtain ⟨q', c', hv', p1, p2, p3, p4⟩ := owns_val (by decide) hrow4
    simp only [Value.slice.injEq, true_and] at hv'
    obtain ⟨hq', hc'⟩ := hv'
    subst hq' hc'
    have hqR : ∀ ad, q21 = some ad → R + 1 ≤ ad.block := fun ad h => (hrow4.lt ad.block (by rw [h]; rfl)).1
    replace z0 := oldcell hB4 z0 hb20R; replace z1 := oldcell hB4 z1 hb20R; replace z0f := oldfree hB4 z0f hb20R; replace z1f := oldfree hB4 z1f hb20R
    replace hmp := hmp.up hB4w; replace hkx := hkx.upB hB4w
    replace e1 := oldcell hB4 e1 (by omega); replace e1f := oldfree hB4 e1f (by omega); replace hCC := hCC.mono hB4w
    have hBW4 := Below.trans hBW17 (hB4.mono (by rw [HR.out]; exact hBW17.size))
    have P4 := Lib.hid p4
    obtain ⟨B4, hB4e⟩ : ∃ B, B = w4.heap.size := ⟨_, rfl⟩
    have hzR : R < w4.heap.size := by have := hb4.size; omega
    have HB4E := Lib.hid hB4e
    have HGM := Lib.hid (show GMx w4 B4 b20 (ar1 + ar2 - 2) [] (.slice none 0 0) from ⟨z0, z1, z0f, z1f, World.ownsRow_nil _ _ _ _, by omega, by omega⟩)
    have hB4R : R < B4 := by omega
    clear hB4e hB4 hB4w hrow4 hb4 p4 z0 z1 z0f z1f HBL HROW2 p1 p2 p3
    go_wp2_with fail
    go_loopg [110] ks.length (fun M s110 wr => ∃ (K : Nat) (v : Value), s110 = .int .i64 K ∧ K ≤ ks.length ∧ M = ks.length - K ∧ GMx wr B4 b20 (ar1 + ar2 - 2) (gather (ks.take K) S) v ∧ KeepX [b20] w4 wr)
    case atStart => exact ⟨0, _, rfl, by omega, rfl, HGM.out, KeepX.refl _ _⟩
    obtain ⟨K, v, rfl, hK, hM, hG, hk⟩ := hrel
    have HM := Lib.hid hM; have HG := Lib.hid hG; clear hM hG HGM
    have hml : (gather (ks.take K) S).length ≤ 2000 := by
     have h1 := sorted_len (lo := 0) (N := (N : Int)) (gather_sorted (S := S) (KLT.out.sublist (List.take_sublist K ks))) (fun x hx => HS1.out x.rank (by obtain ⟨_, h2, h3⟩ := gather_mem hx; rw [← h2]; exact h3))
     omega
    have hzk := hk.size
    by_cases hltK : K < ks.length
    case pos =>
     have hltK0 : (0 : Int) ≤ (K : Int) := by omega
     have hltK1 : (K : Int) < (ks.length : Int) := by omega
     obtain ⟨t, ht⟩ : ∃ t, ks[K]? = some t := ⟨_, List.getElem?_eq_getElem hltK⟩
     obtain ⟨b5, o5, rfl, hb5, jt⟩ := int_cell P4.out ht
     have hb5R := hqR _ rfl
     dsimp only at hb5R
     replace jt := hk.cell jt (by simp; omega)
     have hmr := hmp.keep hk (by simp; omega)
     obtain ⟨z, hz⟩ : ∃ z, S t = z := ⟨_, rfl⟩
     have HHAS := Lib.hid ((KM.out t).1 (List.mem_of_getElem? ht))
     have HKEY := Lib.hid (Maps.keyOf_int_mk Try.underlying3 (KW.out t (List.mem_of_getElem? ht)))
     have HNX := Lib.hid (show gather (ks.take (K + 1)) S = put (gather (ks.take K) S) t z by obtain ⟨h1, h2⟩ := List.getElem?_eq_some_iff.1 ht; rw [List.take_succ_eq_append_getElem h1, h2, gather_snoc, hz])
     have HZ := Lib.hid hz
     clear ht hz
     go_wp2_with (first | (at_lookup; refine wpList_lookup_own_int _ rfl _ _ 105 rfl 3 3 .i64 int_keyed' Try.underlying105 Try.underlying3 (Try.zeroValue3 _) bm nn D rfl hmr _ _ rfl HKEY.out ?_; intro cc hat hwc; obtain rfl : z = cc := by (rw [← HZ.out]; exact HSU.out.got hat HHAS.out)) | (go_at_call 86; refine (put_is HG.out (by omega) HNX.out.symm).mono ?_; rintro e w6 ⟨rfl, v', hg', hrow', hkp⟩))
     go_roundg (ks.length - (K + 1))
     case measure => (have := HM.out; omega)
     refine ⟨K + 1, v', by go_num, by omega, rfl, hg', ?_⟩
     have h6 := hkp (b20 :: (match v.ownBlock with | some g => [g] | none => [])) (by simp) (fun g hv => by rw [hv]; simp)
     refine ((hk.sub (by simp)).trans h6).fresh fun k hk6 => ?_
     rcases List.mem_cons.1 hk6 with e | hm
     · exact .inl (by simp [e])
     · cases hv : v.ownBlock with
       | none => rw [hv] at hm; cases hm
       | some g =>
        rw [hv] at hm
        rw [List.mem_singleton.1 hm]
        have := (HG.out.own.lt g hv).1
        exact .inr (by rw [← HB4E.out]; exact this)
    have htk : ks.take K = ks := List.take_of_length_le (by omega)
    have hG := HG.out
    have hfin : gather ks S = gather (ranksTo N) S := HSU.out.gather KLT.out KM.out HS1.out
    rw [htk, hfin] at hG
    have HF := Lib.hid (show mJoin c N n p a b = (C, gather (ranksTo N) S) by rw [← jst_end, HJ.out])
    obtain ⟨M4, hM4⟩ : ∃ M, gather (ranksTo N) S = M := ⟨_, rfl⟩
    rw [hM4] at hG HF
    obtain ⟨q3, c3, hv, o1, o2, o3, o4⟩ := owns_val (by decide) hG.own
    subst hv
    have g0 := hG.c0; have g1 := hG.c1; have hGown := hG.own
    have hqr : ∀ ad, q3 = some ad → B4 ≤ ad.block ∧ ad.block < wr.heap.size := fun ad h => hGown.lt ad.block (by rw [h]; rfl)
    have O4 := Lib.hid o4; have O3 := Lib.hid o3
    have hkF : KeepX [b27, bm, b20] w7 wr := (hkx.sub (by simp)).trans (hk.sub (by simp))
    have hkC := Cells.keep HK7.out hkF (by simp; omega)
    obtain ⟨-, -, -, -, -, ⟨y30, y30f⟩, ⟨y40, y40f⟩, ⟨y41, y41f⟩, -⟩ := hkC
    have x1 := hk.cell e1 (by simp; omega)
    have hCF : CAt wr pC cC C := ⟨hCC.le, hCC.cm, hCC.p0, hCC.at'.keep hk (fun ad h => by have := hClt ad h; simp; omega)⟩
    have hBF : Below w.heap.size w wr := KeepX.below' hBW4 hk hBW4.size (by have := HS.out; simp; omega)
    have hMF : MxAt wr q3 c3 M4 := ⟨o1, o2, O3.out, O4.out, fun ad h => (hqr ad h).2⟩
    clear hG htk hfin hM4 hGown o1 o2 o3 o4 hk e1 e1f hCC hml HG HSU hmp
    go_upto_region 29 with fail
    go_region
    go_wp2_with fail
    obtain ⟨W9, hW9⟩ : ∃ W9, W9 = (((wr.setCell ⟨s + 3, 0, none⟩ (.slice pC C.length cC)).setCell ⟨s + 4, 0, none⟩ (.int .i64 (ar1 + ar2 - 2))).setCell ⟨s + 4, 1, none⟩ (.slice q3 M4.length c3)).drew := ⟨_, rfl⟩
    rw [← hW9]
    have r0 : W9.cell? ⟨s + 3, 0, none⟩ = some (.slice pC C.length cC) := by rw [hW9]; go_cell
    have r1 : W9.cell? ⟨s + 4, 0, none⟩ = some (.int .i64 (ar1 + ar2 - 2)) := by rw [hW9]; go_cell
    have r2 : W9.cell? ⟨s + 4, 1, none⟩ = some (.slice q3 M4.length c3) := by rw [hW9]; go_cell
    have n3 : ∀ ad, pC = some ad → s + 3 ≠ ad.block := fun ad h e => (HL2.out _ (HNL.out ad h)).1 e.symm
    have n4 : ∀ ad, pC = some ad → s + 4 ≠ ad.block := fun ad h e => (HL2.out _ (HNL.out ad h)).2.1 e.symm
    have m3 : ∀ ad, q3 = some ad → s + 3 ≠ ad.block := fun ad h e => by have := (hqr ad h).1; omega
    have m4 : ∀ ad, q3 = some ad → s + 4 ≠ ad.block := fun ad h e => by have := (hqr ad h).1; omega
    replace hCF : CAt W9 pC cC C := by rw [hW9]; exact (((hCF.set n3 _).set n4 _).set n4 _).mono (Below.drew (Below.refl _ _))
    replace hMF : MxAt W9 q3 c3 M4 := by rw [hW9]; exact (((hMF.set m3 _).set m4 _).set m4 _).up (Below.drew (Below.refl _ _))
    have B9 : Below w.heap.size w W9 := by
     rw [hW9]
     refine Below.drew ?_
     iterate 3 refine Below.setCell ?_ (by have h := HS.out; (try dsimp only); omega) _
     exact hBF
    clear hW9
    rw [HF.out]
    refine bodyPost_ret (by simp [results, Try.results44, go_sem, r0, r1, r2]; try rfl) rfl ?_
    refine ⟨_, _, _, _, rfl, hCF, hMF, B9, fun ad h => ?_, fun ad h => by have := (hqr ad h).1; have := HS.out; omega⟩
    have h9 := (HL2.out _ (HNL.out ad h)).2.2
    have := HS.out
    rcases Nat.lt_or_ge ad.block s with hlt9 | hge9
    · exact .inl (h9 hlt9)
    · exact .inr (by omega)
  · intro x c' w1 cnt1 hwx hwc hlx hat hrg1 hlt hg1 hs1 hen
    have hRs1 : R < w1.heap.size := by omega
    clear hs1
    have HROW1 := Lib.hid (row_keep HROW.out hg1 (by omega))
    go_wp2_with (first | (at_builtin; go_must (refine wpList_app2 (enc := iEnc) rfl _ _ _ rfl (R + 1) 3 i0 _ 8 Try.underlying42 hi0 hz0 hz1 hz2 rfl (by omega) _ ss rfl ((HROW1.out).alloc _) (some ⟨w1.heap.size, 0, none⟩) [x] 1 rfl (fun h => by cases h) (SlAt.int1 (by go_cell)) iEnc_one (by simp [maxLen]; omega) (by simp; omega) (by simp; omega) ?_); intro v2 w3 hown2 hgr2 hbl2 hat2; have HOW2 := Lib.hid hown2; have HBL3 := Lib.hid (show Below (R + 1) w1 w3 from (Below.alloc (Below.refl _ _) (by omega) _).trans hbl2); clear hown2 hgr2 hbl2 hat2))
    go_roundg cnt1
    case measure => exact hlt
    refine ⟨_, ss ++ [x], _, rfl, ranges_keep hrg1 (HBL3.out.block _ (by omega)) (HBL3.out.block _ (by omega)), HCOL.out.step hlx hat, ?_, by simp; omega, HOW2.out, (HBL.out.grown hg1 (by omega) (fun j hj => by cases hj; exact Nat.le_refl _)).trans (HBL3.out.mono (by omega)), by have := HBL3.out.size; omega⟩
    intro y hy
    rcases List.mem_append.1 hy with h | h
    · exact HWF.out y h
    · simp at h; subst h; exact hwx
 have hlt0 : (0 : Int) ≤ (I : Int) := by omega
 have hlt1 : (I : Int) < (a.length : Int) := by omega
 obtain ⟨x, hx⟩ : ∃ x, a[I]? = some x := ⟨_, List.getElem?_eq_getElem hlt⟩
 obtain ⟨bx, ox, rfl, hbx, jx0, jx1⟩ := cell_cells HA.out.at' hx
 have hx1 := HMA.out.ranks x (List.mem_of_getElem? hx)
 have hx2 := HMA.out.refs x (List.mem_of_getElem? hx)
 have HX := Lib.hid hx; clear hx
 replace jx0 := oldcell hBR jx0 hbx; replace jx1 := oldcell hBR jx1 hbx
 obtain ⟨xr, hxr⟩ : ∃ z, x.rank = z := ⟨_, rfl⟩
 obtain ⟨xf, hxf⟩ : ∃ z, x.ref = z := ⟨_, rfl⟩
 rw [hxr] at jx0 hx1; rw [hxf] at jx1 hx2
 have HXR := Lib.hid hxr; have HXF := Lib.hid hxf; clear hxr hxf
 have y21 := hkx.cell (HK7.out.2.2.2.2.1.1) (by simp only [List.mem_cons, List.not_mem_nil, or_false, not_or]; omega)
 clear hbx
 go_upto_region 6 with fail
 obtain ⟨b14, hb14⟩ : ∃ b, b = wr.heap.size := ⟨_, rfl⟩
 obtain ⟨wx, hwx⟩ : ∃ x, x = wr.alloc (.cells #[.int .i64 xr, .int .i64 xf] 76) := ⟨_, rfl⟩
 rw [← hwx, ← hb14]
 have hBx1 : Below wr.heap.size wr wx := by rw [hwx]; go_grown
 have z0 : wx.cell? ⟨b14, 0, none⟩ = some (.int .i64 xr) := by rw [hwx, hb14]; go_cell
 have z1 : wx.cell? ⟨b14, 1, none⟩ = some (.int .i64 xf) := by rw [hwx, hb14]; go_cell
 have hlt14 : bm < b14 := by omega
 replace y21 := zD hBx1 y21
 replace hmp := hmp.up hBx1; replace hBx := hBx.upB hBx1; replace hkx := hkx.upB hBx1
 clear hwx hBx1 jx0 jx1 hBR hszr hb14
 go_wp2_with fail
 go_loopg [44] b.length (fun M s44 wq => ∃ (J : Nat) (C : List Gate) (S : Int → Int) (D : DM) (nn : Nat), s44 = .int .i64 J ∧ J ≤ b.length ∧ M = b.length - J ∧ jst c n p a b I J = (C, S) ∧ Sums D S ∧ nn ≤ I * 2000 + J ∧ MapAt wq bm nn D ∧ BxA L0 wq b27 C ∧ KeepX [b27, bm] w7 wq ∧ wq.cell? ⟨b14, 0, none⟩ = some (.int .i64 xr) ∧ wq.cell? ⟨b14, 1, none⟩ = some (.int .i64 xf))
 case atStart => exact ⟨0, C, S, D, nn, rfl, by omega, rfl, HJ.out, HSU.out, by omega, hmp, hBx, hkx, z0, z1⟩
 clear hmp hBx hkx z0 z1 y21 hnn HJ HSU C S D nn
 obtain ⟨J, C, S, D, nn, rfl, hJ, hM2, hj, hS, hnn, hmp, hBx, hkx, z0, z1⟩ := hrel
 have HM2 := Lib.hid hM2; have HJ2 := Lib.hid hj; have HSU := Lib.hid hS; clear hM2 hj hS
 have hszr := hkx.size
 have hBR : Below w.heap.size w wr := KeepX.below' HBW7.out hkx HBW7.out.size (by have := HS.out; simp; omega)
 by_cases hlt2 : J < b.length
 case neg =>
  obtain rfl : J = b.length := by omega
  go_wp2_with fail
  go_roundg (a.length - (I + 1))
  case measure => (have := HM.out; omega)
  case rel => exact ⟨I + 1, C, S, D, nn, by go_num, by omega, rfl, (jst_next HX.out).trans HJ2.out, HSU.out, by omega, hmp, hBx, hkx⟩
 have hlt3 : (0 : Int) ≤ (J : Int) := by omega
 have hlt4 : (J : Int) < (b.length : Int) := by omega
 obtain ⟨y, hy⟩ : ∃ y, b[J]? = some y := ⟨_, List.getElem?_eq_getElem hlt2⟩
 obtain ⟨by', oy, rfl, hby, jy0, jy1⟩ := cell_cells HD.out.at' hy
 have hy1 := HMB.out.ranks y (List.mem_of_getElem? hy)
 have hy2 := HMB.out.refs y (List.mem_of_getElem? hy)
 have HY := Lib.hid hy; clear hy
 replace jy0 := oldcell hBR jy0 hby; replace jy1 := oldcell hBR jy1 hby
 obtain ⟨yr, hyr⟩ : ∃ z, y.rank = z := ⟨_, rfl⟩
 obtain ⟨yf, hyf⟩ : ∃ z, y.ref = z := ⟨_, rfl⟩
 rw [hyr] at jy0 hy1; rw [hyf] at jy1 hy2
 have HYR := Lib.hid hyr; have HYF := Lib.hid hyf; clear hyr hyf
 clear hby
 go_upto_region 9 with fail
 obtain ⟨b16, hb16⟩ : ∃ b, b = wr.heap.size := ⟨_, rfl⟩
 obtain ⟨wy, hwy⟩ : ∃ x, x = wr.alloc (.cells #[.int .i64 yr, .int .i64 yf] 76) := ⟨_, rfl⟩
 rw [← hwy, ← hb16]
 have hBy1 : Below wr.heap.size wr wy := by rw [hwy]; go_grown
 have u0 : wy.cell? ⟨b16, 0, none⟩ = some (.int .i64 yr) := by rw [hwy, hb16]; go_cell
 have u1 : wy.cell? ⟨b16, 1, none⟩ = some (.int .i64 yf) := by rw [hwy, hb16]; go_cell
 have u0f : wy.frozen? ⟨b16, 0, none⟩ = false := by rw [hwy, hb16]; go_cell
 have u1f : wy.frozen? ⟨b16, 1, none⟩ = false := by rw [hwy, hb16]; go_cell
 replace z0 := zD hBy1 z0
 replace z1 := zD hBy1 z1
 replace hmp := hmp.up hBy1; replace hBx := hBx.upB hBy1; replace hkx := hkx.upB hBy1
 have hbw := btr hBR hBy1
 have zz : s + 0 ≤ wy.heap.size := by have h := hbw.size; have := HS.out; omega
 clear hwy hBy1 jy0 jy1 hBR hszr hb16 u0f u1f
 obtain ⟨q1, m1, r2, r1, q2, T, n1, n2, n3, n4, n5, n6, e1, e2, e3, e4, e5, e6, e7, e8⟩ := jrank hx1.1 (by omega) hy1.1 (by omega) hn0 hp1 hp2
 have N1 := Lib.hid n1; have N2 := Lib.hid n2; have N3 := Lib.hid n3; have N4 := Lib.hid n4; have N5 := Lib.hid n5; have N6 := Lib.hid n6
 clear n1 n2 n3 n4 n5 n6
 have hn00 : ¬ n = 0 := by omega
 have hp00 : ¬ p = 0 := by omega
 have hjo := JO.out I J
 rw [HJ2.out] at hjo
 dsimp only at hjo
 obtain ⟨gC, iS⟩ := hjo
 have hCl := gC.len; have hCg := gC.ge
 have hlc : C.length ≤ 20000 := by omega
 have IS := Lib.hid iS; have GC := Lib.hid gC; clear iS gC
 by_cases hm : r1 = q2
 case neg =>
  have hm2 : (r1 != q2) = true := by simp [hm]
  have HMM := Lib.hid hm; clear hm
  refine wp_region_seqE (fun x => Below wy.heap.size wy x) (.one 0 1 (.one 1 0 (.one 2 1 (.one 3 1 (.one 4 1 (.one 5 0 (.one 6 1 (.one 7 1 (.one 8 1 .nil))))))))) (by kernel_rfl) (by kernel_rfl) (by kernel_rfl) (Below.drew (Below.refl _ _)) ?_
  iterate 9 ((first | (refine seqE_free (v := ?_) rfl (by rfl) ?_ ?_; rotate_left; (focus (intro w; go_simp; try with_reducible rfl))) | (refine seqE_pure (v := ?_) rfl (by rfl) ?_ ?_; rotate_left; (focus (intro w hS; have z0 := zD hS z0; have z1 := zD hS z1; have u0 := zD hS u0; have u1 := zD hS u1; go_simp; try with_reducible rfl)))); (try simp only [Act.put, zA, zB, zC]))
  refine seqE_nil ?_
  intro wz hS; replace z0 := zD hS z0; replace z1 := zD hS z1; replace u0 := zD hS u0; replace u1 := zD hS u1
  replace hmp := hmp.up hS; replace hBx := hBx.upB hS; replace hkx := hkx.upB hS; replace hbw := btr hbw hS; replace zz := Nat.le_trans zz (Below.size hS); clear hS
  go_wp2_with fail
  go_roundg (b.length - (J + 1))
  case measure => (have := HM2.out; omega)
  case rel => exact ⟨J + 1, C, S, D, nn, by go_num, by omega, rfl, (jst_skip HX.out HY.out (by rw [HXR.out, HYR.out, N4.out, N5.out]; exact HMM.out)).trans HJ2.out, HSU.out, by omega, hmp, hBx, hkx, z0, z1⟩
 have hm2 : (r1 != q2) = false := by simp [hm]
 have hTl : T < 2000 := by
  have h := (HT.out ⟨x.rank / n * p + y.rank % p, x.ref, y.ref⟩ (mem_jpairs.2 ⟨x, List.mem_of_getElem? HX.out, y, List.mem_of_getElem? HY.out, by rw [HXR.out, HYR.out, N4.out, N5.out, hm], rfl⟩)).2
  dsimp only at h
  rw [HXR.out, HYR.out, N1.out, N2.out, N3.out, N6.out] at h; omega
 have HMM := Lib.hid hm; clear hm
 obtain ⟨E, q, hD1⟩ : ∃ E q, cand C xf yf = (E, q) := ⟨_, _, rfl⟩
 have iX : In C xf := ⟨hx2.1, by omega⟩
 have iY : In C yf := ⟨hy2.1, by omega⟩
 obtain ⟨gD, iQ, _⟩ := ok_and.one GC.out.good (by omega) iX iY
 rw [hD1] at gD iQ; dsimp only at gD iQ
 have hDl := gD.len; have hDg := gD.ge
 obtain ⟨z00, hz⟩ : ∃ z, S (T : Int) = z := ⟨_, rfl⟩
 have iZ : In C z00 := by rw [← hz]; exact IS.out _
 obtain ⟨F, z, hE1⟩ : ∃ F z, cor E z00 q = (F, z) := ⟨_, _, rfl⟩
 have iq1 := iQ.1; have iq2 := iQ.2; have iz1 := iZ.1; have iz2 := iZ.2
 have iF : In F z := by have h := (ok_or.one gD.good (by omega) (iZ.up gD) iQ).2.1; rw [hE1] at h; exact h
 have hFl : F.length ≤ 20000 := by have h := (ok_or.one gD.good (by omega) (iZ.up gD) iQ).1.len; rw [hE1] at h; dsimp only at h; omega
 have iF1 := iF.1; have iF2 := iF.2
 have HD1 := Lib.hid hD1; have HE1 := Lib.hid hE1; have HZ := Lib.hid hz
 have HKEY := Lib.hid (int_key (r := (T : Int)) (by omega) (by omega))
 clear hD1 hE1 hz gD iQ iX iY iZ iF
 refine wp_region_seqE (fun x => Below wy.heap.size wy x) (.one 0 1 (.one 1 0 (.one 2 1 (.one 3 1 (.one 4 1 (.one 5 0 (.one 6 1 (.one 7 1 (.one 8 1 .nil))))))))) (by kernel_rfl) (by kernel_rfl) (by kernel_rfl) (Below.drew (Below.refl _ _)) ?_
 iterate 9 ((first | (refine seqE_free (v := ?_) rfl (by rfl) ?_ ?_; rotate_left; (focus (intro w; go_simp; try with_reducible rfl))) | (refine seqE_pure (v := ?_) rfl (by rfl) ?_ ?_; rotate_left; (focus (intro w hS; have z0 := zD hS z0; have z1 := zD hS z1; have u0 := zD hS u0; have u1 := zD hS u1; go_simp; try with_reducible rfl)))); (try simp only [Act.put, zA, zB, zC]))
 refine seqE_nil ?_
 intro wz hS; replace z0 := zD hS z0; replace z1 := zD hS z1; replace u0 := zD hS u0; replace u1 := zD hS u1
 replace hmp := hmp.up hS; replace hBx := hBx.upB hS; replace hkx := hkx.upB hS; replace hbw := btr hbw hS; replace zz := Nat.le_trans zz (Below.size hS); clear hS
 go_upto_region 10 with fail
 refine wp_region_seqE (fun x => Below wz.heap.size wz x) (.one 0 1 (.one 1 0 (.one 2 1 (.one 3 1 (.one 4 1 (.one 5 1 (.one 6 1 (.one 7 0 (.one 8 1 (.one 9 1 (.one 10 1 (.one 11 1 .nil)))))))))))) (by kernel_rfl) (by kernel_rfl) (by kernel_rfl) (Below.drew (Below.refl _ _)) ?_
 iterate 12 ((first | (refine seqE_free (v := ?_) rfl (by rfl) ?_ ?_; rotate_left; (focus (intro w; go_simp; try with_reducible rfl))) | (refine seqE_pure (v := ?_) rfl (by rfl) ?_ ?_; rotate_left; (focus (intro w hS; have z0 := zD hS z0; have z1 := zD hS z1; have u0 := zD hS u0; have u1 := zD hS u1; go_simp; try with_reducible rfl)))); (try simp only [Act.put, zA, zB, zC]))
 refine seqE_nil ?_
 intro wz hS; replace z0 := zD hS z0; replace z1 := zD hS z1; replace u0 := zD hS u0; replace u1 := zD hS u1
 replace hmp := hmp.up hS; replace hBx := hBx.upB hS; replace hkx := hkx.upB hS; replace hbw := btr hbw hS; replace zz := Nat.le_trans zz (Below.size hS); clear hS
 have hszr := hkx.size
 have hLt : ∀ k ∈ L0, k < wz.heap.size := fun k hk => by have := hL1 k hk; omega
 obtain ⟨met, hmet⟩ : ∃ m, Maps.has D (keyI T) = m := ⟨_, rfl⟩
 have HMET := Lib.hid hmet
 cases met
 case false =>
  go_wp2_with (first | (at_lookup; refine wpList_lookup_own_ok_int _ rfl _ _ 105 rfl 3 3 .i64 int_keyed' Try.underlying105 Try.underlying3 (Try.zeroValue3 _) bm nn D rfl hmp _ _ rfl HKEY.out ?_; intro cc hat hwc; obtain rfl : z00 = 1 := by (rw [← HZ.out]; exact HSU.out.out _ HMET.out)) | (go_at_call 94; refine (andM_is (by omega) (by omega) hlc hBx hLt HD1.out).mono ?_; rintro e w2 ⟨rfl, hb2, hk2⟩; replace hmp := hmp.keep hk2 (by simp; omega); have hsz2 := hk2.size) | (go_at_call 93; refine (orM_is (by omega) (by omega) (by omega) hb2 (fun k hk => Nat.lt_of_lt_of_le (hLt k hk) hsz2) HE1.out).mono ?_; rintro e w3 ⟨rfl, hb3, hk3'⟩; replace hmp := hmp.keep hk3' (by simp; omega); have hsz3 := hk3'.size) | (at_mapUpdate; refine wpList_mapUpdate_own _ rfl _ _ _ 105 rfl 3 3 int_keyed' Try.underlying105 _ bm nn D rfl hmp (by simp [maxLen]; omega) _ _ (keyI T) rfl rfl HKEY.out (numI z) [] (plainElem_int Try.underlying3 (wf_int (by omega) (by omega))) ?_; intro w4 hown4 hgr4))
  have hk4 : KeepX [b27, bm] wz w4 := ((hk2.sub (by simp)).trans (hk3'.sub (by simp))).trans (KeepX.of_grown hgr4 (by simp))
  go_roundg (b.length - (J + 1))
  case measure => (have := HM2.out; omega)
  refine ⟨J + 1, F, _, _, _, by go_num, by omega, rfl, ?_, HSU.out.put T z, by omega, hown4, hb3.keep (X := [bm]) (KeepX.of_grown hgr4 (by simp)) (by simp; omega) (by simp; exact hL5), hkx.trans hk4, hk4.cell z0 (by simp; omega), hk4.cell z1 (by simp; omega)⟩
  have h := jst_step (D := E) (q := q) (E := F) (z := z) HX.out HY.out (by rw [HXR.out, HYR.out, N4.out, N5.out]; exact HMM.out) HJ2.out (by rw [HXF.out, HYF.out]; exact HD1.out) (by rw [HXR.out, HYR.out, N1.out, N2.out, N3.out, N6.out, HZ.out]; exact HE1.out); rw [HXR.out, HYR.out, N1.out, N2.out, N3.out, N6.out] at h; exact h
 go_wp2_with (first | (at_lookup; refine wpList_lookup_own_ok_int _ rfl _ _ 105 rfl 3 3 .i64 int_keyed' Try.underlying105 Try.underlying3 (Try.zeroValue3 _) bm nn D rfl hmp _ _ rfl HKEY.out ?_; intro cc hat hwc; obtain rfl : z00 = cc := by (rw [← HZ.out]; exact HSU.out.got hat HMET.out)) | (go_at_call 94; refine (andM_is (by omega) (by omega) hlc hBx hLt HD1.out).mono ?_; rintro e w2 ⟨rfl, hb2, hk2⟩; replace hmp := hmp.keep hk2 (by simp; omega); have hsz2 := hk2.size) | (go_at_call 93; refine (orM_is (by omega) (by omega) (by omega) hb2 (fun k hk => Nat.lt_of_lt_of_le (hLt k hk) hsz2) HE1.out).mono ?_; rintro e w3 ⟨rfl, hb3, hk3'⟩; replace hmp := hmp.keep hk3' (by simp; omega); have hsz3 := hk3'.size) | (at_mapUpdate; refine wpList_mapUpdate_own _ rfl _ _ _ 105 rfl 3 3 int_keyed' Try.underlying105 _ bm nn D rfl hmp (by simp [maxLen]; omega) _ _ (keyI T) rfl rfl HKEY.out (numI z) [] (plainElem_int Try.underlying3 (wf_int (by omega) (by omega))) ?_; intro w4 hown4 hgr4))
 have hk4 : KeepX [b27, bm] wz w4 := ((hk2.sub (by simp)).trans (hk3'.sub (by simp))).trans (KeepX.of_grown hgr4 (by simp))
 go_roundg (b.length - (J + 1))
 case measure => (have := HM2.out; omega)
 refine ⟨J + 1, F, _, _, _, by go_num, by omega, rfl, ?_, HSU.out.put T z, by omega, hown4, hb3.keep (X := [bm]) (KeepX.of_grown hgr4 (by simp)) (by simp; omega) (by simp; exact hL5), hkx.trans hk4, hk4.cell z0 (by simp; omega), hk4.cell z1 (by simp; omega)⟩
 have h := jst_step (D := E) (q := q) (E := F) (z := z) HX.out HY.out (by rw [HXR.out, HYR.out, N4.out, N5.out]; exact HMM.out) HJ2.out (by rw [HXF.out, HYF.out]; exact HD1.out) (by rw [HXR.out, HYR.out, N1.out, N2.out, N3.out, N6.out, HZ.out]; exact HE1.out); rw [HXR.out, HYR.out, N1.out, N2.out, N3.out, N6.out] at h; exact h
end Go.Proofs.Ytadilppdlbhjnaa
