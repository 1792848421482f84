import Derived.Test.YtadilppdlbhjnaaGB
import Derived.Test.YtadilppdlbhjnaaGV
import Derived.Test.YtadilppdlbhjnaaMH
import Derived.Test.YtadilppdlbhjnaaGH
namespace Go.Proofs.Ytadilppdlbhjnaa
set_option linter.unusedSimpArgs false
set_option linter.unusedVariables false
def vcells (ng : Nat) : Int → List Cell → Bool
 | _, [] => true
 | last, x :: l => decide (last < x.rank) && (decide (0 ≤ x.ref) && (x.ref != 1 && (decide (x.ref < 2 * (ng : Int)) && vcells ng x.rank l)))
def mvalid (ng : Nat) (ar : Int) (m : List Cell) : Bool := decide (1 ≤ ar) && (decide (ar ≤ 3) && vcells ng (-1) m)
theorem vcells_drop {ng : Nat} {last : Int} {m : List Cell} {K : Nat} {y : Cell} (h : m[K]? = some y) : vcells ng last (m.drop K) = (decide (last < y.rank) && (decide (0 ≤ y.ref) && (y.ref != 1 && (decide (y.ref < 2 * (ng : Int)) && vcells ng y.rank (m.drop (K + 1)))))) := by
 obtain ⟨h1, h2⟩ := List.getElem?_eq_some_iff.1 h
 rw [List.drop_eq_getElem_cons h1, h2]; rfl
theorem vcells_no {ng : Nat} {last : Int} {m : List Cell} {K : Nat} {y : Cell} (h : m[K]? = some y) (hy : y.rank ≤ last ∨ y.ref < 0 ∨ y.ref = 1 ∨ 2 * (ng : Int) ≤ y.ref) : vcells ng last (m.drop K) = false := by
 rw [vcells_drop h]
 rcases hy with q | q | q | q
 · rw [decide_eq_false (by omega)]; rfl
 · rw [decide_eq_false (show ¬ 0 ≤ y.ref by omega)]; simp
 · rw [q]; simp
 · rw [decide_eq_false (show ¬ y.ref < 2 * (ng : Int) by omega)]; simp
theorem vcells_yes {ng : Nat} {last : Int} {m : List Cell} {K : Nat} {y : Cell} (h : m[K]? = some y) (h1 : last < y.rank) (h2 : 0 ≤ y.ref) (h3 : y.ref ≠ 1) (h4 : y.ref < 2 * (ng : Int)) : vcells ng last (m.drop K) = vcells ng y.rank (m.drop (K + 1)) := by
 rw [vcells_drop h, decide_eq_true h1, decide_eq_true h2, decide_eq_true h4, show (y.ref != 1) = true by simpa using h3]; rfl
theorem vcells_end {ng : Nat} {last : Int} {m : List Cell} : vcells ng last (m.drop m.length) = true := by rw [List.drop_length]; rfl
end Go.Proofs.Ytadilppdlbhjnaa
namespace Go.Proofs.Ytadilppdlbhjnaa
set_option linter.unusedSimpArgs false
set_option linter.unusedVariables false
theorem domRow_take {P x : Int} {b : List Cell} {I : Nat} {y : Cell} (h : b[I]? = some y) : domRow P (b.take (I + 1)) x = domRow P (b.take I) x ++ (if y.rank / P = x then [y.ref] else []) := by
 obtain ⟨h1, h2⟩ := List.getElem?_eq_some_iff.1 h
 unfold domRow
 rw [List.take_succ_eq_append_getElem h1, h2, List.filter_append, List.map_append]
 congr 1
 by_cases e : y.rank / P = x
 · rw [if_pos e, List.filter_cons_of_pos (by simpa using e)]; rfl
 · rw [if_neg e, List.filter_cons_of_neg (by simpa using e)]; rfl
theorem orAll_snoc (l : List Int) (r : Int) (x : List Gate × Int) : orAll (l ++ [r]) x = cor (orAll l x).1 (orAll l x).2 r := by unfold orAll; rw [List.foldl_append]; rfl
theorem row_yes {P : Int} {b : List Cell} {I K : Nat} {y : Cell} {C E D : List Gate} {r s : Int} (h : b[I]? = some y) (hq : y.rank / P = K) (e : orAll (domRow P (b.take I) K) (C, 1) = (E, r)) (o : cor E r y.ref = (D, s)) : orAll (domRow P (b.take (I + 1)) K) (C, 1) = (D, s) := by
 rw [domRow_take h, if_pos hq, orAll_snoc, e]; exact o
theorem row_no {P : Int} {b : List Cell} {I K : Nat} {y : Cell} {C : List Gate} (h : b[I]? = some y) (hq : ¬ y.rank / P = K) : orAll (domRow P (b.take (I + 1)) K) (C, 1) = orAll (domRow P (b.take I) K) (C, 1) := by
 rw [domRow_take h, if_neg hq, List.append_nil]
theorem row_ok {C E : List Gate} {P : Int} {b : List Cell} {I K : Nat} {r : Int} (hg : Good C) (hb : ∀ x ∈ b, In C x.ref) (hl : C.length + b.length ≤ 20000) (hI : I ≤ b.length) (e : orAll (domRow P (b.take I) K) (C, 1) = (E, r)) : Good E ∧ E.length ≤ C.length + I ∧ In E r := by
 have hrow : (domRow P (b.take I) K).length ≤ I := by
  unfold domRow; rw [List.length_map]
  refine Nat.le_trans (List.length_filter_le _ _) ?_
  rw [List.length_take]; omega
 obtain ⟨g1, i1, -⟩ := orAll_ok (domRow P (b.take I) K) C 1 hg (by omega) (in_1 hg.ne) (fun r hr => by
  unfold domRow at hr
  obtain ⟨x, hx, rfl⟩ := List.mem_map.1 hr
  exact hb x (List.mem_of_mem_take (List.mem_filter.1 hx).1))
 rw [e] at g1 i1
 exact ⟨g1.good, by have := g1.len; dsimp only at this; omega, i1⟩
theorem domTo_succ {P : Int} {b : List Cell} {c C E : List Gate} {ds : List Int} {K : Nat} {r : Int} (h : domTo P b c K = (C, ds)) (e : orAll (domRow P b K) (C, 1) = (E, r)) : domTo P b c (K + 1) = (E, ds ++ [r]) := by
 show ((orAll (domRow P b K) ((domTo P b c K).1, 1)).1, (domTo P b c K).2 ++ [(orAll (domRow P b K) ((domTo P b c K).1, 1)).2]) = _
 rw [h, e]
theorem over_take {P : Int} {ds : List Int} {l : List Tri} {K : Nat} {t : Tri} {x y : List Gate × List Cell} (h : l[K]? = some t) (e : overRun P ds (l.take K) x = y) : overRun P ds (l.take (K + 1)) x = overStep P ds y t := by
 obtain ⟨h1, h2⟩ := List.getElem?_eq_some_iff.1 h
 unfold overRun at e ⊢
 rw [List.take_succ_eq_append_getElem h1, List.foldl_append, e, h2]; rfl
theorem over_step {P : Int} {ds : List Int} {C D E : List Gate} {M : List Cell} {t : Tri} {k r : Int} (h1 : (if t.p = 1 then (C, 1) else cbut C t.p (ds.getD (t.rank / P).toNat 1)) = (D, k)) (h2 : cor D k t.q = (E, r)) : overStep P ds (C, M) t = (E, put M t.rank r) := by
 unfold overStep
 dsimp only
 rw [h1, h2]
theorem over_pre {N P : Int} {c C1 C : List Gate} {a b : List Cell} {ds : List Int} {M : List Cell} {K k0 : Nat} (hg : Good c) (ha : MOk c N a) (hb : MOk c N b) (g0 : Grow c C1 k0) (hd : ∀ r ∈ ds, In C1 r) (hl : C1.length + 2 * (a.length + b.length) ≤ 20000) (e : overRun P ds ((mzip a b).take K) (C1, []) = (C, M)) :
 Good C ∧ C.length ≤ C1.length + 2 * K ∧ MOk C N M ∧ Grow C1 C (2 * K) := by
 obtain ⟨s1, s2, s3, s4⟩ := mzip_spec a b ha.sorted hb.sorted
 have hlen := mzip_len a b
 have htl : ((mzip a b).take K).length ≤ K := by rw [List.length_take]; omega
 have htl2 : ((mzip a b).take K).length ≤ a.length + b.length := by rw [List.length_take]; omega
 obtain ⟨a1, a2, -, -⟩ := over_ok (N := N) (P := P) (doms := ds) ((mzip a b).take K) C1 [] g0.good (by omega) MOk.nil hd (fun t ht => by
  obtain ⟨e1, e2, e3⟩ := s1 t (List.mem_of_mem_take ht)
  refine ⟨by rw [e1]; exact (ha.mat_in' hg _).up g0, by rw [e2]; exact (hb.mat_in' hg _).up g0, ?_⟩
  rcases e3 with ⟨x, hx, e⟩ | ⟨x, hx, e⟩
  · rw [← e]; exact ha.ranks x hx
  · rw [← e]; exact hb.ranks x hx) (s2.sublist (List.take_sublist _ _)) (fun _ _ y hy => by cases hy)
 rw [e] at a1 a2
 have h := a1.more (show 2 * ((mzip a b).take K).length ≤ 2 * K by omega)
 exact ⟨a1.good, h.len, a2, h⟩
end Go.Proofs.Ytadilppdlbhjnaa
namespace Go.Proofs.Ytadilppdlbhjnaa
set_option linter.unusedSimpArgs false
set_option linter.unusedVariables false
open Go.RowKit
set_option maxRecDepth 100000 in
theorem size_g (G : Nat) (p : Option Addr) (cap b : Nat) (w : World) (h : w.cell? ⟨b, 0, none⟩ = some (.slice p G cap)) :
 Calls Try.prog 85 #[.pointer (some ⟨b, 0, none⟩)] w fun e w' => e = .returned (.int .i64 G) ∧ w' = w := by
 go_enter Try.func85, Try.ntmps85
 go_wp2_with fail
 refine bodyPost_ret (by simp [results, Try.results85, go_sem]; try rfl) rfl ?_
 exact ⟨rfl, rfl⟩
set_option maxRecDepth 100000 in
set_option maxHeartbeats 8000000 in
theorem mxvalid_gen (c : List Gate) (m : List Cell) (ar : Int) (p pm : Option Addr) (cap cm : Nat) (w : World) (hM : CellsAt w pm m) (hml : m.length ≤ 20000) (hrg : ∀ x ∈ m, x.ref ≤ 9223372036854775807) (hl : c.length ≤ 20000) :
 Calls Try.prog 28 #[.agg #[.slice p c.length cap], .agg #[.int .i64 ar, .slice pm m.length cm]] w (fun e w' => e = .returned (.bool (mvalid c.length ar m)) ∧ Below w.heap.size w w') := by
 obtain ⟨R, hR⟩ : ∃ z, vcells c.length (-1) m = z := ⟨_, rfl⟩
 obtain ⟨G, hG⟩ : ∃ z, c.length = z := ⟨_, rfl⟩
 unfold mvalid
 rw [hR]
 rw [hG] at hR hl
 rw [hG]
 have HR := Lib.hid hR; have HRG := Lib.hid hrg
 clear hR hG hrg
 obtain ⟨s, hs0⟩ : ∃ s, w.heap.size = s := ⟨_, rfl⟩
 obtain ⟨W2, hW2⟩ : ∃ W2, W2 = ((w.alloc (.cells #[.slice p G cap] 27)).alloc (.cells #[.int .i64 ar, .slice pm m.length cm] 30)) := ⟨_, rfl⟩
 have hbw : Below w.heap.size w W2 := by rw [hW2]; go_grown
 have zz : s + 2 ≤ W2.heap.size := by rw [hW2, ← hs0]; simp
 have hk : Cells W2 [(s, 0, .slice p G cap), (s + 1, 0, .int .i64 ar), (s + 1, 1, .slice pm m.length cm)] := by rw [hW2, ← hs0]; exact ⟨⟨by go_cell, by go_cell⟩, ⟨by go_cell, by go_cell⟩, ⟨by go_cell, by go_cell⟩, trivial⟩
 have HW2 := Lib.hid hW2; have HS := Lib.hid hs0
 clear hW2 hs0
 replace hM : CellsAt W2 pm m := hM.mono hbw
 go_enter Try.func28, Try.ntmps28
 go_upto_region 1 with fail
 rw [← HW2.out]
 simp only [HS.out, Nat.add_assoc, Nat.reduceAdd]
 obtain ⟨⟨y00, y00f⟩, ⟨y10, y10f⟩, ⟨y11, y11f⟩, -⟩ := id hk
 go_upto_region 2 with fail
 obtain ⟨w3, hw⟩ : ∃ zW, zW = (W2.alloc (.cells #[.slice p G cap] 87)) := ⟨_, rfl⟩
 rw [← hw]
 obtain ⟨b5, hb5⟩ : ∃ zW, zW = W2.heap.size := ⟨_, rfl⟩
 rw [← hb5]
 have hbl : Below W2.heap.size W2 w3 := by rw [hw]; go_grown
 have hge5 : s + 2 ≤ b5 := by rw [hb5]; omega
 have hgw5 : W2.heap.size ≤ b5 := by rw [hb5]; omega
 clear y00 y00f y10 y10f y11 y11f
 replace hk := hk.up hbl; replace hM := hM.mono hbl; replace hbw := btr hbw hbl; replace zz := Nat.le_trans zz (Below.size hbl)
 have hs : Cells w3 [(b5, 0, .slice p G cap)] := ⟨⟨by rw [hw, hb5]; go_cell, by rw [hw, hb5]; go_cell⟩, trivial⟩
 clear hbl hw hb5
 have hk0 := hk; clear hk; have hk := (show Cells w3 [(b5, 0, .slice p G cap), (s, 0, .slice p G cap), (s + 1, 0, .int .i64 ar), (s + 1, 1, .slice pm m.length cm)] from ⟨hs.1, hk0⟩); clear hs hk0
 obtain ⟨⟨d50, d50f⟩, ⟨y00, y00f⟩, ⟨y10, y10f⟩, ⟨y11, y11f⟩, -⟩ := id hk
 go_wp2_with fail
 go_loopg [6, 14] m.length (fun N s6 s14 wr => ∃ K : Nat, ∃ V : Int, s14 = .int .i64 K ∧ s6 = .int .i64 V ∧ K ≤ m.length ∧ N = m.length - K ∧ R = vcells G V (m.drop K) ∧ Cells wr [(b5, 0, .slice p G cap), (s, 0, .slice p G cap), (s + 1, 0, .int .i64 ar), (s + 1, 1, .slice pm m.length cm)] ∧ CellsAt wr pm m ∧ Below w.heap.size w wr ∧ s + 2 ≤ wr.heap.size)
 case atStart => exact ⟨0, -1, rfl, rfl, by omega, rfl, by rw [List.drop_zero]; exact HR.out.symm, hk, hM, hbw, zz⟩
 clear hk hM hbw zz
 obtain ⟨K, V, rfl, rfl, hK, hN, hV, hk, hM, hbw, zz⟩ := hrel
 have HN := Lib.hid hN; have HV := Lib.hid hV; clear hN hV
 by_cases hlt : K < m.length
 case neg =>
  obtain rfl : K = m.length := by omega
  have hre : R = true := by rw [HV.out, vcells_end]
  have HRE := Lib.hid hre; clear hre
  by_cases ha1 : 1 ≤ ar
  case neg =>
   have hd1 : decide (1 ≤ ar) = false := decide_eq_false ha1
   clear d50 d50f y00 y00f y10 y10f y11 y11f
   obtain ⟨⟨d50, d50f⟩, ⟨y00, y00f⟩, ⟨y10, y10f⟩, ⟨y11, y11f⟩, -⟩ := id hk
   go_wp2_with fail
   refine bodyPost_ret (by simp [results, Try.results28, go_sem]; try rfl) rfl ?_
   (try rw [HRE.out])
   exact ⟨by first | rfl | (simp <;> omega), hbw⟩
  have hd1 : decide (1 ≤ ar) = true := decide_eq_true ha1
  clear d50 d50f y00 y00f y10 y10f y11 y11f
  obtain ⟨⟨d50, d50f⟩, ⟨y00, y00f⟩, ⟨y10, y10f⟩, ⟨y11, y11f⟩, -⟩ := id hk
  go_wp2_with fail
  refine bodyPost_ret (by simp [results, Try.results28, go_sem]; try rfl) rfl ?_
  (try rw [HRE.out])
  exact ⟨by first | rfl | (simp <;> omega), hbw⟩
 have hlt0 : (0 : Int) ≤ (K : Int) := by omega
 have hlt1 : (K : Int) < (m.length : Int) := by omega
 obtain ⟨y, hy⟩ : ∃ y, m[K]? = some y := ⟨_, List.getElem?_eq_getElem hlt⟩
 obtain ⟨by', oy, rfl, hby, jy0, jy1⟩ := cell_cells hM hy
 have qr := HRG.out y (List.mem_of_getElem? hy)
 have hno : (y.rank ≤ V ∨ y.ref < 0 ∨ y.ref = 1 ∨ 2 * (G : Int) ≤ y.ref) → R = false := fun q => HV.out.trans (vcells_no hy q)
 have hyes : V < y.rank → 0 ≤ y.ref → y.ref ≠ 1 → y.ref < 2 * (G : Int) → R = vcells G y.rank (m.drop (K + 1)) := fun a b c d => HV.out.trans (vcells_yes hy a b c d)
 obtain ⟨yr, hyr⟩ : ∃ z, y.rank = z := ⟨_, rfl⟩
 obtain ⟨yf, hyf⟩ : ∃ z, y.ref = z := ⟨_, rfl⟩
 rw [hyr] at jy0 hno hyes; rw [hyf] at jy1 hno hyes qr
 have HNO := Lib.hid hno; have HYES := Lib.hid hyes
 clear hyr hyf hy hno hyes
 clear d50 d50f y00 y00f y10 y10f y11 y11f
 obtain ⟨⟨d50, d50f⟩, ⟨y00, y00f⟩, ⟨y10, y10f⟩, ⟨y11, y11f⟩, -⟩ := id hk
 go_upto_region 5 with fail
 obtain ⟨wy, hw⟩ : ∃ zW, zW = wr.alloc (.cells #[.int .i64 yr, .int .i64 yf] 76) := ⟨_, rfl⟩
 obtain ⟨b8, hb8⟩ : ∃ zW, zW = wr.heap.size := ⟨_, rfl⟩
 rw [← hw, ← hb8]
 have hbl : Below wr.heap.size wr wy := by rw [hw]; go_grown
 have hge8 : s + 2 ≤ b8 := by rw [hb8]; exact zz
 have hgw8 : wr.heap.size ≤ b8 := by rw [hb8]; exact Nat.le_refl _
 clear d50 d50f y00 y00f y10 y10f y11 y11f
 replace jy0 := zD hbl jy0
 replace jy1 := zD hbl jy1
 replace hk := hk.up hbl; replace hM := hM.mono hbl; replace hbw := btr hbw hbl; replace zz := Nat.le_trans zz (Below.size hbl)
 have hs : Cells wy [(b8, 0, .int .i64 yr), (b8, 1, .int .i64 yf)] := ⟨⟨by rw [hw, hb8]; go_cell, by rw [hw, hb8]; go_cell⟩, ⟨by rw [hw, hb8]; go_cell, by rw [hw, hb8]; go_cell⟩, trivial⟩
 clear hbl hw hb8
 clear jy0 jy1
 by_cases q1 : yr ≤ V
 case pos =>
  have d1 : decide (yr ≤ V) = true := decide_eq_true q1
  refine wp_region_seqE (fun x => Below wy.heap.size wy x) (.one 0 1 (.one 1 0 (.one 2 1 (.one 3 1 (.one 4 1 (.one 5 1 (.one 6 1 (.one 7 1 (.one 8 1 (.one 9 1 (.one 10 1 (.one 11 1 (.one 12 1 (.one 13 1 (.one 14 1 (.one 15 1 (.one 16 1 (.one 17 1 (.one 18 1 (.one 19 1 (.one 20 1 .nil))))))))))))))))))))) (by kernel_rfl) (by kernel_rfl) (by kernel_rfl) (Below.drew (Below.refl _ _)) ?_
  iterate 5 ((first | (refine seqE_free (v := ?_) rfl (by rfl) ?_ ?_; rotate_left; (focus (intro w; go_simp; try with_reducible rfl))) | (refine seqE_pure (v := ?_) rfl (by rfl) ?_ ?_; rotate_left; (focus (intro w hS; obtain ⟨⟨d80, -⟩, ⟨d81, -⟩, -⟩ := hs.up hS; go_simp; try with_reducible rfl)))); (try simp only [Act.put, zA, zB, zC]))
  refine seqE_off rfl (by rfl) ?_
  (try simp only [Act.put, zA, zB, zC])
  refine seqE_off rfl (by rfl) ?_
  (try simp only [Act.put, zA, zB, zC])
  refine seqE_off rfl (by rfl) ?_
  (try simp only [Act.put, zA, zB, zC])
  iterate 2 (refine seqE_free (v := ?_) rfl (by rfl) ?_ ?_; rotate_left; (focus (intro w; go_simp; try with_reducible rfl)); (try simp only [Act.put, zA, zB, zC]))
  refine seqE_off rfl (by rfl) ?_
  (try simp only [Act.put, zA, zB, zC])
  refine seqE_off rfl (by rfl) ?_
  (try simp only [Act.put, zA, zB, zC])
  refine seqE_off rfl (by rfl) ?_
  (try simp only [Act.put, zA, zB, zC])
  iterate 2 (refine seqE_free (v := ?_) rfl (by rfl) ?_ ?_; rotate_left; (focus (intro w; go_simp; try with_reducible rfl)); (try simp only [Act.put, zA, zB, zC]))
  refine seqE_off rfl (by rfl) ?_
  (try simp only [Act.put, zA, zB, zC])
  refine seqE_off rfl (by rfl) ?_
  (try simp only [Act.put, zA, zB, zC])
  refine seqE_off rfl (by rfl) ?_
  (try simp only [Act.put, zA, zB, zC])
  refine seqE_off rfl (by rfl) ?_
  (try simp only [Act.put, zA, zB, zC])
  refine seqE_off rfl (by rfl) ?_
  (try simp only [Act.put, zA, zB, zC])
  iterate 1 (refine seqE_free (v := ?_) rfl (by rfl) ?_ ?_; rotate_left; (focus (intro w; go_simp; try with_reducible rfl)); (try simp only [Act.put, zA, zB, zC]))
  refine seqE_nil ?_
  intro wz hS
  replace hs := hs.up hS; replace hk := hk.up hS; replace hM := hM.mono hS; replace hbw := btr hbw hS; replace zz := Nat.le_trans zz (Below.size hS); clear hS
  obtain ⟨⟨d80, d80f⟩, ⟨d81, d81f⟩, -⟩ := id hs
  obtain ⟨⟨d50, d50f⟩, ⟨y00, y00f⟩, ⟨y10, y10f⟩, ⟨y11, y11f⟩, -⟩ := id hk
  go_wp2_with fail
  have hre := HNO.out (.inl q1)
  rw [hre]
  refine bodyPost_ret (by simp [results, Try.results28, go_sem]; try rfl) rfl ?_
  exact ⟨by simp, hbw⟩
 case neg =>
 have d1 : decide (yr ≤ V) = false := decide_eq_false q1
 by_cases q2 : yf < 0
 case pos =>
  have d2 : decide (yf < 0) = true := decide_eq_true q2
  refine wp_region_seqE (fun x => Below wy.heap.size wy x) (.one 0 1 (.one 1 0 (.one 2 1 (.one 3 1 (.one 4 1 (.one 5 1 (.one 6 0 (.one 7 1 (.one 8 1 (.one 9 1 (.one 10 1 (.one 11 1 (.one 12 1 (.one 13 1 (.one 14 1 (.one 15 1 (.one 16 1 (.one 17 1 (.one 18 1 (.one 19 1 (.one 20 1 .nil))))))))))))))))))))) (by kernel_rfl) (by kernel_rfl) (by kernel_rfl) (Below.drew (Below.refl _ _)) ?_
  iterate 10 ((first | (refine seqE_free (v := ?_) rfl (by rfl) ?_ ?_; rotate_left; (focus (intro w; go_simp; try with_reducible rfl))) | (refine seqE_pure (v := ?_) rfl (by rfl) ?_ ?_; rotate_left; (focus (intro w hS; obtain ⟨⟨d80, -⟩, ⟨d81, -⟩, -⟩ := hs.up hS; go_simp; try with_reducible rfl)))); (try simp only [Act.put, zA, zB, zC]))
  refine seqE_off rfl (by rfl) ?_
  (try simp only [Act.put, zA, zB, zC])
  refine seqE_off rfl (by rfl) ?_
  (try simp only [Act.put, zA, zB, zC])
  refine seqE_off rfl (by rfl) ?_
  (try simp only [Act.put, zA, zB, zC])
  iterate 2 (refine seqE_free (v := ?_) rfl (by rfl) ?_ ?_; rotate_left; (focus (intro w; go_simp; try with_reducible rfl)); (try simp only [Act.put, zA, zB, zC]))
  refine seqE_off rfl (by rfl) ?_
  (try simp only [Act.put, zA, zB, zC])
  refine seqE_off rfl (by rfl) ?_
  (try simp only [Act.put, zA, zB, zC])
  refine seqE_off rfl (by rfl) ?_
  (try simp only [Act.put, zA, zB, zC])
  refine seqE_off rfl (by rfl) ?_
  (try simp only [Act.put, zA, zB, zC])
  refine seqE_off rfl (by rfl) ?_
  (try simp only [Act.put, zA, zB, zC])
  iterate 1 (refine seqE_free (v := ?_) rfl (by rfl) ?_ ?_; rotate_left; (focus (intro w; go_simp; try with_reducible rfl)); (try simp only [Act.put, zA, zB, zC]))
  refine seqE_nil ?_
  intro wz hS
  replace hs := hs.up hS; replace hk := hk.up hS; replace hM := hM.mono hS; replace hbw := btr hbw hS; replace zz := Nat.le_trans zz (Below.size hS); clear hS
  obtain ⟨⟨d80, d80f⟩, ⟨d81, d81f⟩, -⟩ := id hs
  obtain ⟨⟨d50, d50f⟩, ⟨y00, y00f⟩, ⟨y10, y10f⟩, ⟨y11, y11f⟩, -⟩ := id hk
  go_wp2_with fail
  have hre := HNO.out (.inr (.inl q2))
  rw [hre]
  refine bodyPost_ret (by simp [results, Try.results28, go_sem]; try rfl) rfl ?_
  exact ⟨by simp, hbw⟩
 case neg =>
 have d2 : decide (yf < 0) = false := decide_eq_false q2
 by_cases q3 : yf = 1
 case pos =>
  have d3 : (yf == 1) = true := by simpa using q3
  refine wp_region_seqE (fun x => Below wy.heap.size wy x) (.one 0 1 (.one 1 0 (.one 2 1 (.one 3 1 (.one 4 1 (.one 5 1 (.one 6 0 (.one 7 1 (.one 8 1 (.one 9 1 (.one 10 1 (.one 11 0 (.one 12 1 (.one 13 1 (.one 14 1 (.one 15 1 (.one 16 1 (.one 17 1 (.one 18 1 (.one 19 1 (.one 20 1 .nil))))))))))))))))))))) (by kernel_rfl) (by kernel_rfl) (by kernel_rfl) (Below.drew (Below.refl _ _)) ?_
  iterate 15 ((first | (refine seqE_free (v := ?_) rfl (by rfl) ?_ ?_; rotate_left; (focus (intro w; go_simp; try with_reducible rfl))) | (refine seqE_pure (v := ?_) rfl (by rfl) ?_ ?_; rotate_left; (focus (intro w hS; obtain ⟨⟨d80, -⟩, ⟨d81, -⟩, -⟩ := hs.up hS; go_simp; try with_reducible rfl)))); (try simp only [Act.put, zA, zB, zC]))
  refine seqE_off rfl (by rfl) ?_
  (try simp only [Act.put, zA, zB, zC])
  refine seqE_off rfl (by rfl) ?_
  (try simp only [Act.put, zA, zB, zC])
  refine seqE_off rfl (by rfl) ?_
  (try simp only [Act.put, zA, zB, zC])
  refine seqE_off rfl (by rfl) ?_
  (try simp only [Act.put, zA, zB, zC])
  refine seqE_off rfl (by rfl) ?_
  (try simp only [Act.put, zA, zB, zC])
  iterate 1 (refine seqE_free (v := ?_) rfl (by rfl) ?_ ?_; rotate_left; (focus (intro w; go_simp; try with_reducible rfl)); (try simp only [Act.put, zA, zB, zC]))
  refine seqE_nil ?_
  intro wz hS
  replace hs := hs.up hS; replace hk := hk.up hS; replace hM := hM.mono hS; replace hbw := btr hbw hS; replace zz := Nat.le_trans zz (Below.size hS); clear hS
  obtain ⟨⟨d80, d80f⟩, ⟨d81, d81f⟩, -⟩ := id hs
  obtain ⟨⟨d50, d50f⟩, ⟨y00, y00f⟩, ⟨y10, y10f⟩, ⟨y11, y11f⟩, -⟩ := id hk
  go_wp2_with fail
  have hre := HNO.out (.inr (.inr (.inl q3)))
  rw [hre]
  refine bodyPost_ret (by simp [results, Try.results28, go_sem]; try rfl) rfl ?_
  exact ⟨by simp, hbw⟩
 case neg =>
 have d3 : (yf == 1) = false := (beq_eq_false_iff_ne (α := Int)).2 q3
 have g4 : yf.tdiv 2 = yf / 2 := Int.tdiv_eq_ediv_of_nonneg (by omega)
 have g5 : IntKind.i64.wrap (yf / 2) = yf / 2 := by rw [IntWalk.i64_in]; omega
 by_cases q4 : (G : Int) ≤ yf / 2
 case pos =>
  have d4 : decide ((G : Int) ≤ yf / 2) = true := decide_eq_true q4
  refine wp_region_seqE (fun x => Below wy.heap.size wy x) (.one 0 1 (.one 1 0 (.one 2 1 (.one 3 1 (.one 4 1 (.one 5 1 (.one 6 0 (.one 7 1 (.one 8 1 (.one 9 1 (.one 10 1 (.one 11 0 (.one 12 1 (.one 13 1 (.one 14 1 (.one 15 1 (.one 16 0 (.one 17 1 (.one 18 0 (.one 19 1 (.one 20 1 .nil))))))))))))))))))))) (by kernel_rfl) (by kernel_rfl) (by kernel_rfl) (Below.drew (Below.refl _ _)) ?_
  iterate 18 ((first | (refine seqE_free (v := ?_) rfl (by rfl) ?_ ?_; rotate_left; (focus (intro w; go_simp; try with_reducible rfl))) | (refine seqE_pure (v := ?_) rfl (by rfl) ?_ ?_; rotate_left; (focus (intro w hS; obtain ⟨⟨d80, -⟩, ⟨d81, -⟩, -⟩ := hs.up hS; go_simp; try with_reducible rfl)))); (try simp only [Act.put, zA, zB, zC]))
  refine seqE_still (v := .int .i64 G) (f := ?_) (args := ?_) rfl (by rfl) ?_ ?_ ?_
  rotate_left 2
  focus (intro w hS; go_simp; first | done | with_reducible rfl | (refine ⟨?_, ?_⟩ <;> with_reducible rfl))
  focus (intro w hS; obtain ⟨⟨q0, -⟩, -⟩ := hk.up hS; exact size_g G p cap _ _ q0)
  (try simp only [Act.put, zA, zB, zC])
  iterate 2 (refine seqE_free (v := ?_) rfl (by rfl) ?_ ?_; rotate_left; (focus (intro w; go_simp; try with_reducible rfl)); (try simp only [Act.put, zA, zB, zC]))
  refine seqE_nil ?_
  intro wz hS
  replace hs := hs.up hS; replace hk := hk.up hS; replace hM := hM.mono hS; replace hbw := btr hbw hS; replace zz := Nat.le_trans zz (Below.size hS); clear hS
  obtain ⟨⟨d80, d80f⟩, ⟨d81, d81f⟩, -⟩ := id hs
  obtain ⟨⟨d50, d50f⟩, ⟨y00, y00f⟩, ⟨y10, y10f⟩, ⟨y11, y11f⟩, -⟩ := id hk
  go_wp2_with fail
  have hre := HNO.out (.inr (.inr (.inr (by omega))))
  rw [hre]
  refine bodyPost_ret (by simp [results, Try.results28, go_sem]; try rfl) rfl ?_
  exact ⟨by simp, hbw⟩
 case neg =>
 have d4 : decide ((G : Int) ≤ yf / 2) = false := decide_eq_false q4
 refine wp_region_seqE (fun x => Below wy.heap.size wy x) (.one 0 1 (.one 1 0 (.one 2 1 (.one 3 1 (.one 4 1 (.one 5 1 (.one 6 0 (.one 7 1 (.one 8 1 (.one 9 1 (.one 10 1 (.one 11 0 (.one 12 1 (.one 13 1 (.one 14 1 (.one 15 1 (.one 16 0 (.one 17 1 (.one 18 0 (.one 19 1 (.one 20 1 .nil))))))))))))))))))))) (by kernel_rfl) (by kernel_rfl) (by kernel_rfl) (Below.drew (Below.refl _ _)) ?_
 iterate 18 ((first | (refine seqE_free (v := ?_) rfl (by rfl) ?_ ?_; rotate_left; (focus (intro w; go_simp; try with_reducible rfl))) | (refine seqE_pure (v := ?_) rfl (by rfl) ?_ ?_; rotate_left; (focus (intro w hS; obtain ⟨⟨d80, -⟩, ⟨d81, -⟩, -⟩ := hs.up hS; go_simp; try with_reducible rfl)))); (try simp only [Act.put, zA, zB, zC]))
 refine seqE_still (v := .int .i64 G) (f := ?_) (args := ?_) rfl (by rfl) ?_ ?_ ?_
 rotate_left 2
 focus (intro w hS; go_simp; first | done | with_reducible rfl | (refine ⟨?_, ?_⟩ <;> with_reducible rfl))
 focus (intro w hS; obtain ⟨⟨q0, -⟩, -⟩ := hk.up hS; exact size_g G p cap _ _ q0)
 (try simp only [Act.put, zA, zB, zC])
 iterate 2 (refine seqE_free (v := ?_) rfl (by rfl) ?_ ?_; rotate_left; (focus (intro w; go_simp; try with_reducible rfl)); (try simp only [Act.put, zA, zB, zC]))
 refine seqE_nil ?_
 intro wz hS
 replace hs := hs.up hS; replace hk := hk.up hS; replace hM := hM.mono hS; replace hbw := btr hbw hS; replace zz := Nat.le_trans zz (Below.size hS); clear hS
 obtain ⟨⟨d80, d80f⟩, ⟨d81, d81f⟩, -⟩ := id hs
 obtain ⟨⟨d50, d50f⟩, ⟨y00, y00f⟩, ⟨y10, y10f⟩, ⟨y11, y11f⟩, -⟩ := id hk
 go_wp2_with fail
 go_roundg (m.length - (K + 1))
 case measure => (have := HN.out; omega)
 clear d80 d80f d81 d81f d50 d50f y00 y00f y10 y10f y11 y11f
 case rel => exact ⟨K + 1, yr, by go_num, by go_num, by omega, rfl, HYES.out (by omega) (by omega) q3 (by omega), hk, hM, hbw, zz⟩
end Go.Proofs.Ytadilppdlbhjnaa
namespace Go.Proofs.Ytadilppdlbhjnaa
set_option linter.unusedSimpArgs false
set_option linter.unusedVariables false
open Go.RowKit
set_option maxRecDepth 100000 in
set_option maxHeartbeats 8000000 in
theorem rxvalid_gen (c : List Gate) (m : List Cell) (ar : Int) (p pm : Option Addr) (cap cm : Nat) (w : World) (hM : CellsAt w pm m) (hml : m.length ≤ 20000) (hl : c.length ≤ 20000) :
 Calls Try.prog 48 #[.agg #[.slice p c.length cap], .agg #[.int .i64 ar, .slice pm m.length cm]] w (fun e w' => e = .returned (.bool (mvalid c.length ar m)) ∧ Below w.heap.size w w') := by
 obtain ⟨R, hR⟩ : ∃ z, vcells c.length (-1) m = z := ⟨_, rfl⟩
 obtain ⟨G, hG⟩ : ∃ z, c.length = z := ⟨_, rfl⟩
 unfold mvalid
 rw [hR]
 rw [hG] at hR hl
 rw [hG]
 obtain ⟨Z, hZ⟩ : ∃ z, (decide (1 ≤ ar) && (decide (ar ≤ 3) && R)) = z := ⟨_, rfl⟩
 rw [hZ]
 have HZ := Lib.hid hZ
 have HR := Lib.hid hR
 clear hR hG hZ
 obtain ⟨s, hs0⟩ : ∃ s, w.heap.size = s := ⟨_, rfl⟩
 obtain ⟨W2, hW2⟩ : ∃ W2, W2 = ((w.alloc (.cells #[.slice p G cap] 27)).alloc (.cells #[.int .i64 ar, .slice pm m.length cm] 30)) := ⟨_, rfl⟩
 have hbw : Below w.heap.size w W2 := by rw [hW2]; go_grown
 have zz : s + 2 ≤ W2.heap.size := by rw [hW2, ← hs0]; simp
 have hk : Cells W2 [(s, 0, .slice p G cap), (s + 1, 0, .int .i64 ar), (s + 1, 1, .slice pm m.length cm)] := by rw [hW2, ← hs0]; exact ⟨⟨by go_cell, by go_cell⟩, ⟨by go_cell, by go_cell⟩, ⟨by go_cell, by go_cell⟩, trivial⟩
 have HW2 := Lib.hid hW2; have HS := Lib.hid hs0
 clear hW2 hs0
 replace hM : CellsAt W2 pm m := hM.mono hbw
 go_enter Try.func48, Try.ntmps48
 go_upto_region 1 with fail
 rw [← HW2.out]
 simp only [HS.out, Nat.add_assoc, Nat.reduceAdd]
 obtain ⟨⟨y00, y00f⟩, ⟨y10, y10f⟩, ⟨y11, y11f⟩, -⟩ := id hk
 by_cases ha1 : ar < 1
 case pos =>
  have hz : Z = false := by rw [← HZ.out, decide_eq_false (show ¬ 1 ≤ ar by omega)]; rfl
  have hd2 : decide (ar < 1) = true := decide_eq_true ha1
  have HZ0 := Lib.hid hz; clear hz
  go_wp2_with fail
  rw [HZ0.out]
  refine bodyPost_ret (by simp [results, Try.results48, go_sem]; try rfl) rfl ?_
  exact ⟨by first | rfl | (simp <;> omega), hbw⟩
 case neg =>
 have hd2 : decide (ar < 1) = false := decide_eq_false ha1
 by_cases ha3 : 3 < ar
 case pos =>
  have hz : Z = false := by rw [← HZ.out, decide_eq_false (show ¬ ar ≤ 3 by omega), Bool.false_and, Bool.and_false]
  have hd4 : decide (3 < ar) = true := decide_eq_true ha3
  have HZ0 := Lib.hid hz; clear hz
  go_wp2_with fail
  rw [HZ0.out]
  refine bodyPost_ret (by simp [results, Try.results48, go_sem]; try rfl) rfl ?_
  exact ⟨by first | rfl | (simp <;> omega), hbw⟩
 case neg =>
 have hd4 : decide (3 < ar) = false := decide_eq_false ha3
 have hz : Z = R := by rw [← HZ.out, decide_eq_true (show 1 ≤ ar by omega), decide_eq_true (show ar ≤ 3 by omega), Bool.true_and, Bool.true_and]
 have HZR := Lib.hid hz; clear hz
 go_wp2_with fail
 go_loopg [5] m.length (fun N s5 wr => ∃ K : Nat, ∃ V : Int, s5 = .int .i64 K ∧ K ≤ m.length ∧ N = m.length - K ∧ R = vcells G V (m.drop K) ∧ -1 ≤ V ∧ (K = 0 → V = -1) ∧ (∀ K' x, K = K' + 1 → m[K']? = some x → V = x.rank) ∧ Cells wr [(s, 0, .slice p G cap), (s + 1, 0, .int .i64 ar), (s + 1, 1, .slice pm m.length cm)] ∧ CellsAt wr pm m ∧ Below w.heap.size w wr ∧ s + 2 ≤ wr.heap.size)
 case atStart => exact ⟨0, -1, rfl, by omega, rfl, by rw [List.drop_zero]; exact HR.out.symm, by omega, fun _ => rfl, fun K x h => by omega, hk, hM, hbw, zz⟩
 clear hk hM hbw zz
 obtain ⟨K, V, rfl, hK, hN, hV, hV1, hV0, hVp, hk, hM, hbw, zz⟩ := hrel
 have HN := Lib.hid hN; have HV := Lib.hid hV; have HVP := Lib.hid hVp; clear hN hV hVp
 by_cases hlt : K < m.length
 case neg =>
  obtain rfl : K = m.length := by omega
  have hre : R = true := by rw [HV.out, vcells_end]
  have HRE := Lib.hid hre; clear hre
  clear y00 y00f y10 y10f y11 y11f
  obtain ⟨⟨y00, y00f⟩, ⟨y10, y10f⟩, ⟨y11, y11f⟩, -⟩ := id hk
  go_wp2_with fail
  refine bodyPost_ret (by simp [results, Try.results48, go_sem]; try rfl) rfl ?_
  rw [HZR.out, HRE.out]
  exact ⟨rfl, hbw⟩
 have hlt0 : (0 : Int) ≤ (K : Int) := by omega
 have hlt1 : (K : Int) < (m.length : Int) := by omega
 obtain ⟨y, hy⟩ : ∃ y, m[K]? = some y := ⟨_, List.getElem?_eq_getElem hlt⟩
 obtain ⟨by', oy, rfl, hby, jy0, jy1⟩ := cell_cells hM hy
 have hno : (y.rank ≤ V ∨ y.ref < 0 ∨ y.ref = 1 ∨ 2 * (G : Int) ≤ y.ref) → R = false := fun q => HV.out.trans (vcells_no hy q)
 have hyes : V < y.rank → 0 ≤ y.ref → y.ref ≠ 1 → y.ref < 2 * (G : Int) → R = vcells G y.rank (m.drop (K + 1)) := fun a b c d => HV.out.trans (vcells_yes hy a b c d)
 have hnp : ∀ K' x, K + 1 = K' + 1 → m[K']? = some x → y.rank = x.rank := fun K' x h1 h2 => by
  obtain rfl : K' = K := by omega
  rw [hy] at h2; rw [Option.some.inj h2]
 obtain ⟨yr, hyr⟩ : ∃ z, y.rank = z := ⟨_, rfl⟩
 obtain ⟨yf, hyf⟩ : ∃ z, y.ref = z := ⟨_, rfl⟩
 rw [hyr] at jy0 hno hyes hnp; rw [hyf] at jy1 hno hyes
 have HNO := Lib.hid hno; have HYES := Lib.hid hyes; have HNP := Lib.hid hnp
 clear hyr hyf hy hno hyes hnp
 have hw2 : IntKind.i64.wrap (2 * (G : Int)) = 2 * (G : Int) := by rw [IntWalk.i64_in]; omega
 by_cases q1 : yr < 0
 case pos =>
  clear y00 y00f y10 y10f y11 y11f
  obtain ⟨⟨y00, y00f⟩, ⟨y10, y10f⟩, ⟨y11, y11f⟩, -⟩ := id hk
  go_upto_region 7 with fail
  obtain ⟨wy, hw⟩ : ∃ zW, zW = wr.alloc (.cells #[.int .i64 yr, .int .i64 yf] 76) := ⟨_, rfl⟩
  obtain ⟨b6, hb6⟩ : ∃ zW, zW = wr.heap.size := ⟨_, rfl⟩
  rw [← hw, ← hb6]
  have hbl : Below wr.heap.size wr wy := by rw [hw]; go_grown
  have hge6 : s + 2 ≤ b6 := by rw [hb6]; exact zz
  have hgw6 : wr.heap.size ≤ b6 := by rw [hb6]; exact Nat.le_refl _
  clear y00 y00f y10 y10f y11 y11f
  replace jy0 := zD hbl jy0
  replace jy1 := zD hbl jy1
  replace hk := hk.up hbl; replace hM := hM.mono hbl; replace hbw := btr hbw hbl; replace zz := Nat.le_trans zz (Below.size hbl)
  have hs : Cells wy [(b6, 0, .int .i64 yr), (b6, 1, .int .i64 yf)] := ⟨⟨by rw [hw, hb6]; go_cell, by rw [hw, hb6]; go_cell⟩, ⟨by rw [hw, hb6]; go_cell, by rw [hw, hb6]; go_cell⟩, trivial⟩
  clear hbl hw hb6
  clear jy0 jy1
  have d1 : decide (yr < 0) = true := decide_eq_true q1
  refine wp_region_seqE (fun x => Below wy.heap.size wy x) (.one 0 1 (.one 1 0 (.one 2 1 (.one 3 1 (.one 4 1 (.one 5 1 (.one 6 1 (.one 7 1 (.one 8 1 (.one 9 1 (.one 10 1 (.one 11 1 (.one 12 1 (.one 13 1 (.one 14 1 (.one 15 1 (.one 16 1 (.one 17 1 (.one 18 1 (.one 19 1 (.one 20 1 (.one 21 1 (.one 22 1 (.one 23 1 (.one 24 1 (.one 25 1 (.one 26 1 (.one 27 1 (.one 28 1 (.one 29 1 (.one 30 1 (.one 31 1 (.one 32 1 (.one 33 1 (.one 34 1 (.one 35 1 (.one 36 1 (.one 37 1 .nil)))))))))))))))))))))))))))))))))))))) (by kernel_rfl) (by kernel_rfl) (by kernel_rfl) (Below.drew (Below.refl _ _)) ?_
  iterate 4 ((first | (refine seqE_free (v := ?_) rfl (by rfl) ?_ ?_; rotate_left; (focus (intro w; go_simp; try with_reducible rfl))) | (refine seqE_pure (v := ?_) rfl (by rfl) ?_ ?_; rotate_left; (focus (intro w hS; obtain ⟨⟨d60, -⟩, ⟨d61, -⟩, -⟩ := hs.up hS; obtain ⟨⟨y00, -⟩, -, ⟨y11, -⟩, -⟩ := hk.up hS; go_simp; try with_reducible rfl)))); (try simp only [Act.put, zA, zB, zC]))
  refine seqE_off rfl (by rfl) ?_
  (try simp only [Act.put, zA, zB, zC])
  refine seqE_off rfl (by rfl) ?_
  (try simp only [Act.put, zA, zB, zC])
  refine seqE_off rfl (by rfl) ?_
  (try simp only [Act.put, zA, zB, zC])
  refine seqE_off rfl (by rfl) ?_
  (try simp only [Act.put, zA, zB, zC])
  refine seqE_off rfl (by rfl) ?_
  (try simp only [Act.put, zA, zB, zC])
  refine seqE_off rfl (by rfl) ?_
  (try simp only [Act.put, zA, zB, zC])
  refine seqE_off rfl (by rfl) ?_
  (try simp only [Act.put, zA, zB, zC])
  refine seqE_off rfl (by rfl) ?_
  (try simp only [Act.put, zA, zB, zC])
  refine seqE_off rfl (by rfl) ?_
  (try simp only [Act.put, zA, zB, zC])
  refine seqE_off rfl (by rfl) ?_
  (try simp only [Act.put, zA, zB, zC])
  refine seqE_off rfl (by rfl) ?_
  (try simp only [Act.put, zA, zB, zC])
  refine seqE_off rfl (by rfl) ?_
  (try simp only [Act.put, zA, zB, zC])
  refine seqE_off rfl (by rfl) ?_
  (try simp only [Act.put, zA, zB, zC])
  refine seqE_off rfl (by rfl) ?_
  (try simp only [Act.put, zA, zB, zC])
  iterate 2 (refine seqE_free (v := ?_) rfl (by rfl) ?_ ?_; rotate_left; (focus (intro w; go_simp; try with_reducible rfl)); (try simp only [Act.put, zA, zB, zC]))
  refine seqE_off rfl (by rfl) ?_
  (try simp only [Act.put, zA, zB, zC])
  refine seqE_off rfl (by rfl) ?_
  (try simp only [Act.put, zA, zB, zC])
  refine seqE_off rfl (by rfl) ?_
  (try simp only [Act.put, zA, zB, zC])
  iterate 2 (refine seqE_free (v := ?_) rfl (by rfl) ?_ ?_; rotate_left; (focus (intro w; go_simp; try with_reducible rfl)); (try simp only [Act.put, zA, zB, zC]))
  refine seqE_off rfl (by rfl) ?_
  (try simp only [Act.put, zA, zB, zC])
  refine seqE_off rfl (by rfl) ?_
  (try simp only [Act.put, zA, zB, zC])
  refine seqE_off rfl (by rfl) ?_
  (try simp only [Act.put, zA, zB, zC])
  iterate 2 (refine seqE_free (v := ?_) rfl (by rfl) ?_ ?_; rotate_left; (focus (intro w; go_simp; try with_reducible rfl)); (try simp only [Act.put, zA, zB, zC]))
  refine seqE_off rfl (by rfl) ?_
  (try simp only [Act.put, zA, zB, zC])
  refine seqE_off rfl (by rfl) ?_
  (try simp only [Act.put, zA, zB, zC])
  refine seqE_off rfl (by rfl) ?_
  (try simp only [Act.put, zA, zB, zC])
  refine seqE_off rfl (by rfl) ?_
  (try simp only [Act.put, zA, zB, zC])
  refine seqE_off rfl (by rfl) ?_
  (try simp only [Act.put, zA, zB, zC])
  refine seqE_off rfl (by rfl) ?_
  (try simp only [Act.put, zA, zB, zC])
  refine seqE_off rfl (by rfl) ?_
  (try simp only [Act.put, zA, zB, zC])
  iterate 1 (refine seqE_free (v := ?_) rfl (by rfl) ?_ ?_; rotate_left; (focus (intro w; go_simp; try with_reducible rfl)); (try simp only [Act.put, zA, zB, zC]))
  refine seqE_nil ?_
  intro wz hS
  replace hs := hs.up hS; replace hk := hk.up hS; replace hM := hM.mono hS; replace hbw := btr hbw hS; replace zz := Nat.le_trans zz (Below.size hS); clear hS
  obtain ⟨⟨d60, d60f⟩, ⟨d61, d61f⟩, -⟩ := id hs
  obtain ⟨⟨y00, y00f⟩, ⟨y10, y10f⟩, ⟨y11, y11f⟩, -⟩ := id hk
  go_wp2_with fail
  have hre := HNO.out (.inl (by omega))
  rw [HZR.out, hre]
  refine bodyPost_ret (by simp [results, Try.results48, go_sem]; try rfl) rfl ?_
  exact ⟨rfl, hbw⟩
 case neg =>
 have d1 : decide (yr < 0) = false := decide_eq_false q1
 by_cases hK0 : K = 0
 case pos =>
  have hV2 := hV0 hK0
  have hKi : decide ((0 : Int) < (K : Int)) = false := decide_eq_false (by omega)
  have hKn : ¬ (0 : Int) < (K : Int) := by omega
  have hKj : decide (0 < K) = false := decide_eq_false (by omega)
  have hKm : ¬ 0 < K := by omega
  have q5 : ¬ yr ≤ V := by omega
  clear hK0
  clear y00 y00f y10 y10f y11 y11f
  obtain ⟨⟨y00, y00f⟩, ⟨y10, y10f⟩, ⟨y11, y11f⟩, -⟩ := id hk
  go_upto_region 7 with fail
  obtain ⟨wy, hw⟩ : ∃ zW, zW = wr.alloc (.cells #[.int .i64 yr, .int .i64 yf] 76) := ⟨_, rfl⟩
  obtain ⟨b6, hb6⟩ : ∃ zW, zW = wr.heap.size := ⟨_, rfl⟩
  rw [← hw, ← hb6]
  have hbl : Below wr.heap.size wr wy := by rw [hw]; go_grown
  have hge6 : s + 2 ≤ b6 := by rw [hb6]; exact zz
  have hgw6 : wr.heap.size ≤ b6 := by rw [hb6]; exact Nat.le_refl _
  clear y00 y00f y10 y10f y11 y11f
  replace jy0 := zD hbl jy0
  replace jy1 := zD hbl jy1
  replace hk := hk.up hbl; replace hM := hM.mono hbl; replace hbw := btr hbw hbl; replace zz := Nat.le_trans zz (Below.size hbl)
  have hs : Cells wy [(b6, 0, .int .i64 yr), (b6, 1, .int .i64 yf)] := ⟨⟨by rw [hw, hb6]; go_cell, by rw [hw, hb6]; go_cell⟩, ⟨by rw [hw, hb6]; go_cell, by rw [hw, hb6]; go_cell⟩, trivial⟩
  clear hbl hw hb6
  clear jy0 jy1
  by_cases q2 : yf < 0
  case pos =>
   have d2 : decide (yf < 0) = true := decide_eq_true q2
   refine wp_region_seqE (fun x => Below wy.heap.size wy x) (.one 0 1 (.one 1 0 (.one 2 1 (.one 3 1 (.one 4 1 (.one 5 1 (.one 6 1 (.one 7 1 (.one 8 1 (.one 9 1 (.one 10 1 (.one 11 1 (.one 12 1 (.one 13 1 (.one 14 1 (.one 15 1 (.one 16 1 (.one 17 1 (.one 18 1 (.one 19 1 (.one 20 1 (.one 21 0 (.one 22 1 (.one 23 1 (.one 24 1 (.one 25 1 (.one 26 1 (.one 27 1 (.one 28 1 (.one 29 1 (.one 30 1 (.one 31 1 (.one 32 1 (.one 33 1 (.one 34 1 (.one 35 1 (.one 36 1 (.one 37 1 .nil)))))))))))))))))))))))))))))))))))))) (by kernel_rfl) (by kernel_rfl) (by kernel_rfl) (Below.drew (Below.refl _ _)) ?_
   iterate 7 ((first | (refine seqE_free (v := ?_) rfl (by rfl) ?_ ?_; rotate_left; (focus (intro w; go_simp; try with_reducible rfl))) | (refine seqE_pure (v := ?_) rfl (by rfl) ?_ ?_; rotate_left; (focus (intro w hS; obtain ⟨⟨d60, -⟩, ⟨d61, -⟩, -⟩ := hs.up hS; obtain ⟨⟨y00, -⟩, -, ⟨y11, -⟩, -⟩ := hk.up hS; go_simp; try with_reducible rfl)))); (try simp only [Act.put, zA, zB, zC]))
   refine seqE_off rfl (by rfl) ?_
   (try simp only [Act.put, zA, zB, zC])
   refine seqE_off rfl (by rfl) ?_
   (try simp only [Act.put, zA, zB, zC])
   refine seqE_off rfl (by rfl) ?_
   (try simp only [Act.put, zA, zB, zC])
   refine seqE_off rfl (by rfl) ?_
   (try simp only [Act.put, zA, zB, zC])
   refine seqE_off rfl (by rfl) ?_
   (try simp only [Act.put, zA, zB, zC])
   refine seqE_off rfl (by rfl) ?_
   (try simp only [Act.put, zA, zB, zC])
   refine seqE_off rfl (by rfl) ?_
   (try simp only [Act.put, zA, zB, zC])
   refine seqE_off rfl (by rfl) ?_
   (try simp only [Act.put, zA, zB, zC])
   refine seqE_off rfl (by rfl) ?_
   (try simp only [Act.put, zA, zB, zC])
   refine seqE_off rfl (by rfl) ?_
   (try simp only [Act.put, zA, zB, zC])
   iterate 8 ((first | (refine seqE_free (v := ?_) rfl (by rfl) ?_ ?_; rotate_left; (focus (intro w; go_simp; try with_reducible rfl))) | (refine seqE_pure (v := ?_) rfl (by rfl) ?_ ?_; rotate_left; (focus (intro w hS; obtain ⟨⟨d60, -⟩, ⟨d61, -⟩, -⟩ := hs.up hS; obtain ⟨⟨y00, -⟩, -, ⟨y11, -⟩, -⟩ := hk.up hS; go_simp; try with_reducible rfl)))); (try simp only [Act.put, zA, zB, zC]))
   refine seqE_off rfl (by rfl) ?_
   (try simp only [Act.put, zA, zB, zC])
   refine seqE_off rfl (by rfl) ?_
   (try simp only [Act.put, zA, zB, zC])
   refine seqE_off rfl (by rfl) ?_
   (try simp only [Act.put, zA, zB, zC])
   iterate 2 (refine seqE_free (v := ?_) rfl (by rfl) ?_ ?_; rotate_left; (focus (intro w; go_simp; try with_reducible rfl)); (try simp only [Act.put, zA, zB, zC]))
   refine seqE_off rfl (by rfl) ?_
   (try simp only [Act.put, zA, zB, zC])
   refine seqE_off rfl (by rfl) ?_
   (try simp only [Act.put, zA, zB, zC])
   refine seqE_off rfl (by rfl) ?_
   (try simp only [Act.put, zA, zB, zC])
   refine seqE_off rfl (by rfl) ?_
   (try simp only [Act.put, zA, zB, zC])
   refine seqE_off rfl (by rfl) ?_
   (try simp only [Act.put, zA, zB, zC])
   refine seqE_off rfl (by rfl) ?_
   (try simp only [Act.put, zA, zB, zC])
   refine seqE_off rfl (by rfl) ?_
   (try simp only [Act.put, zA, zB, zC])
   iterate 1 (refine seqE_free (v := ?_) rfl (by rfl) ?_ ?_; rotate_left; (focus (intro w; go_simp; try with_reducible rfl)); (try simp only [Act.put, zA, zB, zC]))
   refine seqE_nil ?_
   intro wz hS
   replace hs := hs.up hS; replace hk := hk.up hS; replace hM := hM.mono hS; replace hbw := btr hbw hS; replace zz := Nat.le_trans zz (Below.size hS); clear hS
   obtain ⟨⟨d60, d60f⟩, ⟨d61, d61f⟩, -⟩ := id hs
   obtain ⟨⟨y00, y00f⟩, ⟨y10, y10f⟩, ⟨y11, y11f⟩, -⟩ := id hk
   go_wp2_with fail
   have hre := HNO.out (.inr (.inl q2))
   rw [HZR.out, hre]
   refine bodyPost_ret (by simp [results, Try.results48, go_sem]; try rfl) rfl ?_
   exact ⟨rfl, hbw⟩
  case neg =>
  have d2 : decide (yf < 0) = false := decide_eq_false q2
  by_cases q3 : yf = 1
  case pos =>
   have d3 : (yf == 1) = true := by simpa using q3
   refine wp_region_seqE (fun x => Below wy.heap.size wy x) (.one 0 1 (.one 1 0 (.one 2 1 (.one 3 1 (.one 4 1 (.one 5 1 (.one 6 1 (.one 7 1 (.one 8 1 (.one 9 1 (.one 10 1 (.one 11 1 (.one 12 1 (.one 13 1 (.one 14 1 (.one 15 1 (.one 16 1 (.one 17 1 (.one 18 1 (.one 19 1 (.one 20 1 (.one 21 0 (.one 22 1 (.one 23 1 (.one 24 1 (.one 25 1 (.one 26 0 (.one 27 1 (.one 28 1 (.one 29 1 (.one 30 1 (.one 31 1 (.one 32 1 (.one 33 1 (.one 34 1 (.one 35 1 (.one 36 1 (.one 37 1 .nil)))))))))))))))))))))))))))))))))))))) (by kernel_rfl) (by kernel_rfl) (by kernel_rfl) (Below.drew (Below.refl _ _)) ?_
   iterate 7 ((first | (refine seqE_free (v := ?_) rfl (by rfl) ?_ ?_; rotate_left; (focus (intro w; go_simp; try with_reducible rfl))) | (refine seqE_pure (v := ?_) rfl (by rfl) ?_ ?_; rotate_left; (focus (intro w hS; obtain ⟨⟨d60, -⟩, ⟨d61, -⟩, -⟩ := hs.up hS; obtain ⟨⟨y00, -⟩, -, ⟨y11, -⟩, -⟩ := hk.up hS; go_simp; try with_reducible rfl)))); (try simp only [Act.put, zA, zB, zC]))
   refine seqE_off rfl (by rfl) ?_
   (try simp only [Act.put, zA, zB, zC])
   refine seqE_off rfl (by rfl) ?_
   (try simp only [Act.put, zA, zB, zC])
   refine seqE_off rfl (by rfl) ?_
   (try simp only [Act.put, zA, zB, zC])
   refine seqE_off rfl (by rfl) ?_
   (try simp only [Act.put, zA, zB, zC])
   refine seqE_off rfl (by rfl) ?_
   (try simp only [Act.put, zA, zB, zC])
   refine seqE_off rfl (by rfl) ?_
   (try simp only [Act.put, zA, zB, zC])
   refine seqE_off rfl (by rfl) ?_
   (try simp only [Act.put, zA, zB, zC])
   refine seqE_off rfl (by rfl) ?_
   (try simp only [Act.put, zA, zB, zC])
   refine seqE_off rfl (by rfl) ?_
   (try simp only [Act.put, zA, zB, zC])
   refine seqE_off rfl (by rfl) ?_
   (try simp only [Act.put, zA, zB, zC])
   iterate 13 ((first | (refine seqE_free (v := ?_) rfl (by rfl) ?_ ?_; rotate_left; (focus (intro w; go_simp; try with_reducible rfl))) | (refine seqE_pure (v := ?_) rfl (by rfl) ?_ ?_; rotate_left; (focus (intro w hS; obtain ⟨⟨d60, -⟩, ⟨d61, -⟩, -⟩ := hs.up hS; obtain ⟨⟨y00, -⟩, -, ⟨y11, -⟩, -⟩ := hk.up hS; go_simp; try with_reducible rfl)))); (try simp only [Act.put, zA, zB, zC]))
   refine seqE_off rfl (by rfl) ?_
   (try simp only [Act.put, zA, zB, zC])
   refine seqE_off rfl (by rfl) ?_
   (try simp only [Act.put, zA, zB, zC])
   refine seqE_off rfl (by rfl) ?_
   (try simp only [Act.put, zA, zB, zC])
   refine seqE_off rfl (by rfl) ?_
   (try simp only [Act.put, zA, zB, zC])
   refine seqE_off rfl (by rfl) ?_
   (try simp only [Act.put, zA, zB, zC])
   refine seqE_off rfl (by rfl) ?_
   (try simp only [Act.put, zA, zB, zC])
   refine seqE_off rfl (by rfl) ?_
   (try simp only [Act.put, zA, zB, zC])
   iterate 1 (refine seqE_free (v := ?_) rfl (by rfl) ?_ ?_; rotate_left; (focus (intro w; go_simp; try with_reducible rfl)); (try simp only [Act.put, zA, zB, zC]))
   refine seqE_nil ?_
   intro wz hS
   replace hs := hs.up hS; replace hk := hk.up hS; replace hM := hM.mono hS; replace hbw := btr hbw hS; replace zz := Nat.le_trans zz (Below.size hS); clear hS
   obtain ⟨⟨d60, d60f⟩, ⟨d61, d61f⟩, -⟩ := id hs
   obtain ⟨⟨y00, y00f⟩, ⟨y10, y10f⟩, ⟨y11, y11f⟩, -⟩ := id hk
   go_wp2_with fail
   have hre := HNO.out (.inr (.inr (.inl q3)))
   rw [HZR.out, hre]
   refine bodyPost_ret (by simp [results, Try.results48, go_sem]; try rfl) rfl ?_
   exact ⟨rfl, hbw⟩
  case neg =>
  have d3 : (yf == 1) = false := (beq_eq_false_iff_ne (α := Int)).2 q3
  by_cases q4 : 2 * (G : Int) ≤ yf
  case pos =>
   have d4 : decide (2 * (G : Int) ≤ yf) = true := decide_eq_true q4
   refine wp_region_seqE (fun x => Below wy.heap.size wy x) (.one 0 1 (.one 1 0 (.one 2 1 (.one 3 1 (.one 4 1 (.one 5 1 (.one 6 1 (.one 7 1 (.one 8 1 (.one 9 1 (.one 10 1 (.one 11 1 (.one 12 1 (.one 13 1 (.one 14 1 (.one 15 1 (.one 16 1 (.one 17 1 (.one 18 1 (.one 19 1 (.one 20 1 (.one 21 0 (.one 22 1 (.one 23 1 (.one 24 1 (.one 25 1 (.one 26 0 (.one 27 1 (.one 28 1 (.one 29 1 (.one 30 1 (.one 31 0 (.one 32 1 (.one 33 0 (.one 34 1 (.one 35 1 (.one 36 1 (.one 37 1 .nil)))))))))))))))))))))))))))))))))))))) (by kernel_rfl) (by kernel_rfl) (by kernel_rfl) (Below.drew (Below.refl _ _)) ?_
   iterate 7 ((first | (refine seqE_free (v := ?_) rfl (by rfl) ?_ ?_; rotate_left; (focus (intro w; go_simp; try with_reducible rfl))) | (refine seqE_pure (v := ?_) rfl (by rfl) ?_ ?_; rotate_left; (focus (intro w hS; obtain ⟨⟨d60, -⟩, ⟨d61, -⟩, -⟩ := hs.up hS; obtain ⟨⟨y00, -⟩, -, ⟨y11, -⟩, -⟩ := hk.up hS; go_simp; try with_reducible rfl)))); (try simp only [Act.put, zA, zB, zC]))
   refine seqE_off rfl (by rfl) ?_
   (try simp only [Act.put, zA, zB, zC])
   refine seqE_off rfl (by rfl) ?_
   (try simp only [Act.put, zA, zB, zC])
   refine seqE_off rfl (by rfl) ?_
   (try simp only [Act.put, zA, zB, zC])
   refine seqE_off rfl (by rfl) ?_
   (try simp only [Act.put, zA, zB, zC])
   refine seqE_off rfl (by rfl) ?_
   (try simp only [Act.put, zA, zB, zC])
   refine seqE_off rfl (by rfl) ?_
   (try simp only [Act.put, zA, zB, zC])
   refine seqE_off rfl (by rfl) ?_
   (try simp only [Act.put, zA, zB, zC])
   refine seqE_off rfl (by rfl) ?_
   (try simp only [Act.put, zA, zB, zC])
   refine seqE_off rfl (by rfl) ?_
   (try simp only [Act.put, zA, zB, zC])
   refine seqE_off rfl (by rfl) ?_
   (try simp only [Act.put, zA, zB, zC])
   iterate 21 ((first | (refine seqE_free (v := ?_) rfl (by rfl) ?_ ?_; rotate_left; (focus (intro w; go_simp; try with_reducible rfl))) | (refine seqE_pure (v := ?_) rfl (by rfl) ?_ ?_; rotate_left; (focus (intro w hS; obtain ⟨⟨d60, -⟩, ⟨d61, -⟩, -⟩ := hs.up hS; obtain ⟨⟨y00, -⟩, -, ⟨y11, -⟩, -⟩ := hk.up hS; go_simp; try with_reducible rfl)))); (try simp only [Act.put, zA, zB, zC]))
   refine seqE_nil ?_
   intro wz hS
   replace hs := hs.up hS; replace hk := hk.up hS; replace hM := hM.mono hS; replace hbw := btr hbw hS; replace zz := Nat.le_trans zz (Below.size hS); clear hS
   obtain ⟨⟨d60, d60f⟩, ⟨d61, d61f⟩, -⟩ := id hs
   obtain ⟨⟨y00, y00f⟩, ⟨y10, y10f⟩, ⟨y11, y11f⟩, -⟩ := id hk
   go_wp2_with fail
   have hre := HNO.out (.inr (.inr (.inr q4)))
   rw [HZR.out, hre]
   refine bodyPost_ret (by simp [results, Try.results48, go_sem]; try rfl) rfl ?_
   exact ⟨rfl, hbw⟩
  case neg =>
  have d4 : decide (2 * (G : Int) ≤ yf) = false := decide_eq_false q4
  refine wp_region_seqE (fun x => Below wy.heap.size wy x) (.one 0 1 (.one 1 0 (.one 2 1 (.one 3 1 (.one 4 1 (.one 5 1 (.one 6 1 (.one 7 1 (.one 8 1 (.one 9 1 (.one 10 1 (.one 11 1 (.one 12 1 (.one 13 1 (.one 14 1 (.one 15 1 (.one 16 1 (.one 17 1 (.one 18 1 (.one 19 1 (.one 20 1 (.one 21 0 (.one 22 1 (.one 23 1 (.one 24 1 (.one 25 1 (.one 26 0 (.one 27 1 (.one 28 1 (.one 29 1 (.one 30 1 (.one 31 0 (.one 32 1 (.one 33 0 (.one 34 1 (.one 35 1 (.one 36 1 (.one 37 1 .nil)))))))))))))))))))))))))))))))))))))) (by kernel_rfl) (by kernel_rfl) (by kernel_rfl) (Below.drew (Below.refl _ _)) ?_
  iterate 7 ((first | (refine seqE_free (v := ?_) rfl (by rfl) ?_ ?_; rotate_left; (focus (intro w; go_simp; try with_reducible rfl))) | (refine seqE_pure (v := ?_) rfl (by rfl) ?_ ?_; rotate_left; (focus (intro w hS; obtain ⟨⟨d60, -⟩, ⟨d61, -⟩, -⟩ := hs.up hS; obtain ⟨⟨y00, -⟩, -, ⟨y11, -⟩, -⟩ := hk.up hS; go_simp; try with_reducible rfl)))); (try simp only [Act.put, zA, zB, zC]))
  refine seqE_off rfl (by rfl) ?_
  (try simp only [Act.put, zA, zB, zC])
  refine seqE_off rfl (by rfl) ?_
  (try simp only [Act.put, zA, zB, zC])
  refine seqE_off rfl (by rfl) ?_
  (try simp only [Act.put, zA, zB, zC])
  refine seqE_off rfl (by rfl) ?_
  (try simp only [Act.put, zA, zB, zC])
  refine seqE_off rfl (by rfl) ?_
  (try simp only [Act.put, zA, zB, zC])
  refine seqE_off rfl (by rfl) ?_
  (try simp only [Act.put, zA, zB, zC])
  refine seqE_off rfl (by rfl) ?_
  (try simp only [Act.put, zA, zB, zC])
  refine seqE_off rfl (by rfl) ?_
  (try simp only [Act.put, zA, zB, zC])
  refine seqE_off rfl (by rfl) ?_
  (try simp only [Act.put, zA, zB, zC])
  refine seqE_off rfl (by rfl) ?_
  (try simp only [Act.put, zA, zB, zC])
  iterate 21 ((first | (refine seqE_free (v := ?_) rfl (by rfl) ?_ ?_; rotate_left; (focus (intro w; go_simp; try with_reducible rfl))) | (refine seqE_pure (v := ?_) rfl (by rfl) ?_ ?_; rotate_left; (focus (intro w hS; obtain ⟨⟨d60, -⟩, ⟨d61, -⟩, -⟩ := hs.up hS; obtain ⟨⟨y00, -⟩, -, ⟨y11, -⟩, -⟩ := hk.up hS; go_simp; try with_reducible rfl)))); (try simp only [Act.put, zA, zB, zC]))
  refine seqE_nil ?_
  intro wz hS
  replace hs := hs.up hS; replace hk := hk.up hS; replace hM := hM.mono hS; replace hbw := btr hbw hS; replace zz := Nat.le_trans zz (Below.size hS); clear hS
  obtain ⟨⟨d60, d60f⟩, ⟨d61, d61f⟩, -⟩ := id hs
  obtain ⟨⟨y00, y00f⟩, ⟨y10, y10f⟩, ⟨y11, y11f⟩, -⟩ := id hk
  go_wp2_with fail
  go_roundg (m.length - (K + 1))
  case measure => (have := HN.out; omega)
  clear d60 d60f d61 d61f y00 y00f y10 y10f y11 y11f
  case rel => exact ⟨K + 1, yr, by go_num, by omega, rfl, HYES.out (by omega) (by omega) q3 (by omega), by omega, fun h => by omega, HNP.out, hk, hM, hbw, zz⟩
 case neg =>
 obtain ⟨K', hK'⟩ : ∃ K', K = K' + 1 := ⟨K - 1, by omega⟩
 obtain ⟨x, hx⟩ : ∃ x, m[K']? = some x := ⟨_, List.getElem?_eq_getElem (by omega)⟩
 obtain ⟨bx', ox, hq, -, jx0, -⟩ := cell_cells hM hx
 obtain ⟨rfl, rfl⟩ : by' = bx' ∧ oy = ox := by simpa using hq
 have hVx := HVP.out K' x hK' hx
 rw [← hVx] at jx0
 clear hq hx hVx
 have hKi : decide ((0 : Int) < (K : Int)) = true := decide_eq_true (by omega)
 have hKn : (0 : Int) < (K : Int) := by omega
 have hKj : decide (0 < K) = true := decide_eq_true (by omega)
 have hKm : 0 < K := by omega
 have hwk : IntKind.i64.wrap ((K : Int) - 1) = (K' : Int) := by rw [IntWalk.i64_in] <;> omega
 have hk0 : (0 : Int) ≤ (K' : Int) := by omega
 have hk1 : (K' : Int) < (m.length : Int) := by omega
 clear hK' hK0
 clear y00 y00f y10 y10f y11 y11f
 obtain ⟨⟨y00, y00f⟩, ⟨y10, y10f⟩, ⟨y11, y11f⟩, -⟩ := id hk
 go_upto_region 7 with fail
 obtain ⟨wy, hw⟩ : ∃ zW, zW = wr.alloc (.cells #[.int .i64 yr, .int .i64 yf] 76) := ⟨_, rfl⟩
 obtain ⟨b6, hb6⟩ : ∃ zW, zW = wr.heap.size := ⟨_, rfl⟩
 rw [← hw, ← hb6]
 have hbl : Below wr.heap.size wr wy := by rw [hw]; go_grown
 have hge6 : s + 2 ≤ b6 := by rw [hb6]; exact zz
 have hgw6 : wr.heap.size ≤ b6 := by rw [hb6]; exact Nat.le_refl _
 clear y00 y00f y10 y10f y11 y11f
 replace jy0 := zD hbl jy0
 replace jy1 := zD hbl jy1
 replace jx0 := zD hbl jx0
 replace hk := hk.up hbl; replace hM := hM.mono hbl; replace hbw := btr hbw hbl; replace zz := Nat.le_trans zz (Below.size hbl)
 have hs : Cells wy [(b6, 0, .int .i64 yr), (b6, 1, .int .i64 yf)] := ⟨⟨by rw [hw, hb6]; go_cell, by rw [hw, hb6]; go_cell⟩, ⟨by rw [hw, hb6]; go_cell, by rw [hw, hb6]; go_cell⟩, trivial⟩
 clear hbl hw hb6
 clear jy0 jy1
 by_cases q5 : yr ≤ V
 case pos =>
  have d5 : decide (yr ≤ V) = true := decide_eq_true q5
  refine wp_region_seqE (fun x => Below wy.heap.size wy x) (.one 0 1 (.one 1 0 (.one 2 1 (.one 3 1 (.one 4 1 (.one 5 1 (.one 6 1 (.one 7 1 (.one 8 0 (.one 9 1 (.one 10 1 (.one 11 1 (.one 12 1 (.one 13 0 (.one 14 1 (.one 15 0 (.one 16 1 (.one 17 1 (.one 18 1 (.one 19 1 (.one 20 1 (.one 21 1 (.one 22 1 (.one 23 1 (.one 24 1 (.one 25 1 (.one 26 1 (.one 27 1 (.one 28 1 (.one 29 1 (.one 30 1 (.one 31 1 (.one 32 1 (.one 33 1 (.one 34 1 (.one 35 1 (.one 36 1 (.one 37 1 .nil)))))))))))))))))))))))))))))))))))))) (by kernel_rfl) (by kernel_rfl) (by kernel_rfl) (Below.drew (Below.refl _ _)) ?_
  iterate 20 ((first | (refine seqE_free (v := ?_) rfl (by rfl) ?_ ?_; rotate_left; (focus (intro w; go_simp; try with_reducible rfl))) | (refine seqE_pure (v := ?_) rfl (by rfl) ?_ ?_; rotate_left; (focus (intro w hS; obtain ⟨⟨d60, -⟩, ⟨d61, -⟩, -⟩ := hs.up hS; obtain ⟨⟨y00, -⟩, -, ⟨y11, -⟩, -⟩ := hk.up hS; have jx0 := zD hS jx0; go_simp; try with_reducible rfl)))); (try simp only [Act.put, zA, zB, zC]))
  refine seqE_off rfl (by rfl) ?_
  (try simp only [Act.put, zA, zB, zC])
  refine seqE_off rfl (by rfl) ?_
  (try simp only [Act.put, zA, zB, zC])
  refine seqE_off rfl (by rfl) ?_
  (try simp only [Act.put, zA, zB, zC])
  iterate 2 (refine seqE_free (v := ?_) rfl (by rfl) ?_ ?_; rotate_left; (focus (intro w; go_simp; try with_reducible rfl)); (try simp only [Act.put, zA, zB, zC]))
  refine seqE_off rfl (by rfl) ?_
  (try simp only [Act.put, zA, zB, zC])
  refine seqE_off rfl (by rfl) ?_
  (try simp only [Act.put, zA, zB, zC])
  refine seqE_off rfl (by rfl) ?_
  (try simp only [Act.put, zA, zB, zC])
  iterate 2 (refine seqE_free (v := ?_) rfl (by rfl) ?_ ?_; rotate_left; (focus (intro w; go_simp; try with_reducible rfl)); (try simp only [Act.put, zA, zB, zC]))
  refine seqE_off rfl (by rfl) ?_
  (try simp only [Act.put, zA, zB, zC])
  refine seqE_off rfl (by rfl) ?_
  (try simp only [Act.put, zA, zB, zC])
  refine seqE_off rfl (by rfl) ?_
  (try simp only [Act.put, zA, zB, zC])
  refine seqE_off rfl (by rfl) ?_
  (try simp only [Act.put, zA, zB, zC])
  refine seqE_off rfl (by rfl) ?_
  (try simp only [Act.put, zA, zB, zC])
  refine seqE_off rfl (by rfl) ?_
  (try simp only [Act.put, zA, zB, zC])
  refine seqE_off rfl (by rfl) ?_
  (try simp only [Act.put, zA, zB, zC])
  iterate 1 (refine seqE_free (v := ?_) rfl (by rfl) ?_ ?_; rotate_left; (focus (intro w; go_simp; try with_reducible rfl)); (try simp only [Act.put, zA, zB, zC]))
  refine seqE_nil ?_
  intro wz hS; replace jx0 := zD hS jx0
  replace hs := hs.up hS; replace hk := hk.up hS; replace hM := hM.mono hS; replace hbw := btr hbw hS; replace zz := Nat.le_trans zz (Below.size hS); clear hS
  obtain ⟨⟨d60, d60f⟩, ⟨d61, d61f⟩, -⟩ := id hs
  obtain ⟨⟨y00, y00f⟩, ⟨y10, y10f⟩, ⟨y11, y11f⟩, -⟩ := id hk
  go_wp2_with fail
  have hre := HNO.out (.inl q5)
  rw [HZR.out, hre]
  refine bodyPost_ret (by simp [results, Try.results48, go_sem]; try rfl) rfl ?_
  exact ⟨rfl, hbw⟩
 case neg =>
 have d5 : decide (yr ≤ V) = false := decide_eq_false q5
 by_cases q2 : yf < 0
 case pos =>
  have d2 : decide (yf < 0) = true := decide_eq_true q2
  refine wp_region_seqE (fun x => Below wy.heap.size wy x) (.one 0 1 (.one 1 0 (.one 2 1 (.one 3 1 (.one 4 1 (.one 5 1 (.one 6 1 (.one 7 1 (.one 8 0 (.one 9 1 (.one 10 1 (.one 11 1 (.one 12 1 (.one 13 0 (.one 14 1 (.one 15 0 (.one 16 1 (.one 17 1 (.one 18 1 (.one 19 1 (.one 20 1 (.one 21 0 (.one 22 1 (.one 23 1 (.one 24 1 (.one 25 1 (.one 26 1 (.one 27 1 (.one 28 1 (.one 29 1 (.one 30 1 (.one 31 1 (.one 32 1 (.one 33 1 (.one 34 1 (.one 35 1 (.one 36 1 (.one 37 1 .nil)))))))))))))))))))))))))))))))))))))) (by kernel_rfl) (by kernel_rfl) (by kernel_rfl) (Below.drew (Below.refl _ _)) ?_
  iterate 25 ((first | (refine seqE_free (v := ?_) rfl (by rfl) ?_ ?_; rotate_left; (focus (intro w; go_simp; try with_reducible rfl))) | (refine seqE_pure (v := ?_) rfl (by rfl) ?_ ?_; rotate_left; (focus (intro w hS; obtain ⟨⟨d60, -⟩, ⟨d61, -⟩, -⟩ := hs.up hS; obtain ⟨⟨y00, -⟩, -, ⟨y11, -⟩, -⟩ := hk.up hS; have jx0 := zD hS jx0; go_simp; try with_reducible rfl)))); (try simp only [Act.put, zA, zB, zC]))
  refine seqE_off rfl (by rfl) ?_
  (try simp only [Act.put, zA, zB, zC])
  refine seqE_off rfl (by rfl) ?_
  (try simp only [Act.put, zA, zB, zC])
  refine seqE_off rfl (by rfl) ?_
  (try simp only [Act.put, zA, zB, zC])
  iterate 2 (refine seqE_free (v := ?_) rfl (by rfl) ?_ ?_; rotate_left; (focus (intro w; go_simp; try with_reducible rfl)); (try simp only [Act.put, zA, zB, zC]))
  refine seqE_off rfl (by rfl) ?_
  (try simp only [Act.put, zA, zB, zC])
  refine seqE_off rfl (by rfl) ?_
  (try simp only [Act.put, zA, zB, zC])
  refine seqE_off rfl (by rfl) ?_
  (try simp only [Act.put, zA, zB, zC])
  refine seqE_off rfl (by rfl) ?_
  (try simp only [Act.put, zA, zB, zC])
  refine seqE_off rfl (by rfl) ?_
  (try simp only [Act.put, zA, zB, zC])
  refine seqE_off rfl (by rfl) ?_
  (try simp only [Act.put, zA, zB, zC])
  refine seqE_off rfl (by rfl) ?_
  (try simp only [Act.put, zA, zB, zC])
  iterate 1 (refine seqE_free (v := ?_) rfl (by rfl) ?_ ?_; rotate_left; (focus (intro w; go_simp; try with_reducible rfl)); (try simp only [Act.put, zA, zB, zC]))
  refine seqE_nil ?_
  intro wz hS; replace jx0 := zD hS jx0
  replace hs := hs.up hS; replace hk := hk.up hS; replace hM := hM.mono hS; replace hbw := btr hbw hS; replace zz := Nat.le_trans zz (Below.size hS); clear hS
  obtain ⟨⟨d60, d60f⟩, ⟨d61, d61f⟩, -⟩ := id hs
  obtain ⟨⟨y00, y00f⟩, ⟨y10, y10f⟩, ⟨y11, y11f⟩, -⟩ := id hk
  go_wp2_with fail
  have hre := HNO.out (.inr (.inl q2))
  rw [HZR.out, hre]
  refine bodyPost_ret (by simp [results, Try.results48, go_sem]; try rfl) rfl ?_
  exact ⟨rfl, hbw⟩
 case neg =>
 have d2 : decide (yf < 0) = false := decide_eq_false q2
 by_cases q3 : yf = 1
 case pos =>
  have d3 : (yf == 1) = true := by simpa using q3
  refine wp_region_seqE (fun x => Below wy.heap.size wy x) (.one 0 1 (.one 1 0 (.one 2 1 (.one 3 1 (.one 4 1 (.one 5 1 (.one 6 1 (.one 7 1 (.one 8 0 (.one 9 1 (.one 10 1 (.one 11 1 (.one 12 1 (.one 13 0 (.one 14 1 (.one 15 0 (.one 16 1 (.one 17 1 (.one 18 1 (.one 19 1 (.one 20 1 (.one 21 0 (.one 22 1 (.one 23 1 (.one 24 1 (.one 25 1 (.one 26 0 (.one 27 1 (.one 28 1 (.one 29 1 (.one 30 1 (.one 31 1 (.one 32 1 (.one 33 1 (.one 34 1 (.one 35 1 (.one 36 1 (.one 37 1 .nil)))))))))))))))))))))))))))))))))))))) (by kernel_rfl) (by kernel_rfl) (by kernel_rfl) (Below.drew (Below.refl _ _)) ?_
  iterate 30 ((first | (refine seqE_free (v := ?_) rfl (by rfl) ?_ ?_; rotate_left; (focus (intro w; go_simp; try with_reducible rfl))) | (refine seqE_pure (v := ?_) rfl (by rfl) ?_ ?_; rotate_left; (focus (intro w hS; obtain ⟨⟨d60, -⟩, ⟨d61, -⟩, -⟩ := hs.up hS; obtain ⟨⟨y00, -⟩, -, ⟨y11, -⟩, -⟩ := hk.up hS; have jx0 := zD hS jx0; go_simp; try with_reducible rfl)))); (try simp only [Act.put, zA, zB, zC]))
  refine seqE_off rfl (by rfl) ?_
  (try simp only [Act.put, zA, zB, zC])
  refine seqE_off rfl (by rfl) ?_
  (try simp only [Act.put, zA, zB, zC])
  refine seqE_off rfl (by rfl) ?_
  (try simp only [Act.put, zA, zB, zC])
  refine seqE_off rfl (by rfl) ?_
  (try simp only [Act.put, zA, zB, zC])
  refine seqE_off rfl (by rfl) ?_
  (try simp only [Act.put, zA, zB, zC])
  refine seqE_off rfl (by rfl) ?_
  (try simp only [Act.put, zA, zB, zC])
  refine seqE_off rfl (by rfl) ?_
  (try simp only [Act.put, zA, zB, zC])
  iterate 1 (refine seqE_free (v := ?_) rfl (by rfl) ?_ ?_; rotate_left; (focus (intro w; go_simp; try with_reducible rfl)); (try simp only [Act.put, zA, zB, zC]))
  refine seqE_nil ?_
  intro wz hS; replace jx0 := zD hS jx0
  replace hs := hs.up hS; replace hk := hk.up hS; replace hM := hM.mono hS; replace hbw := btr hbw hS; replace zz := Nat.le_trans zz (Below.size hS); clear hS
  obtain ⟨⟨d60, d60f⟩, ⟨d61, d61f⟩, -⟩ := id hs
  obtain ⟨⟨y00, y00f⟩, ⟨y10, y10f⟩, ⟨y11, y11f⟩, -⟩ := id hk
  go_wp2_with fail
  have hre := HNO.out (.inr (.inr (.inl q3)))
  rw [HZR.out, hre]
  refine bodyPost_ret (by simp [results, Try.results48, go_sem]; try rfl) rfl ?_
  exact ⟨rfl, hbw⟩
 case neg =>
 have d3 : (yf == 1) = false := (beq_eq_false_iff_ne (α := Int)).2 q3
 by_cases q4 : 2 * (G : Int) ≤ yf
 case pos =>
  have d4 : decide (2 * (G : Int) ≤ yf) = true := decide_eq_true q4
  refine wp_region_seqE (fun x => Below wy.heap.size wy x) (.one 0 1 (.one 1 0 (.one 2 1 (.one 3 1 (.one 4 1 (.one 5 1 (.one 6 1 (.one 7 1 (.one 8 0 (.one 9 1 (.one 10 1 (.one 11 1 (.one 12 1 (.one 13 0 (.one 14 1 (.one 15 0 (.one 16 1 (.one 17 1 (.one 18 1 (.one 19 1 (.one 20 1 (.one 21 0 (.one 22 1 (.one 23 1 (.one 24 1 (.one 25 1 (.one 26 0 (.one 27 1 (.one 28 1 (.one 29 1 (.one 30 1 (.one 31 0 (.one 32 1 (.one 33 0 (.one 34 1 (.one 35 1 (.one 36 1 (.one 37 1 .nil)))))))))))))))))))))))))))))))))))))) (by kernel_rfl) (by kernel_rfl) (by kernel_rfl) (Below.drew (Below.refl _ _)) ?_
  iterate 38 ((first | (refine seqE_free (v := ?_) rfl (by rfl) ?_ ?_; rotate_left; (focus (intro w; go_simp; try with_reducible rfl))) | (refine seqE_pure (v := ?_) rfl (by rfl) ?_ ?_; rotate_left; (focus (intro w hS; obtain ⟨⟨d60, -⟩, ⟨d61, -⟩, -⟩ := hs.up hS; obtain ⟨⟨y00, -⟩, -, ⟨y11, -⟩, -⟩ := hk.up hS; have jx0 := zD hS jx0; go_simp; try with_reducible rfl)))); (try simp only [Act.put, zA, zB, zC]))
  refine seqE_nil ?_
  intro wz hS; replace jx0 := zD hS jx0
  replace hs := hs.up hS; replace hk := hk.up hS; replace hM := hM.mono hS; replace hbw := btr hbw hS; replace zz := Nat.le_trans zz (Below.size hS); clear hS
  obtain ⟨⟨d60, d60f⟩, ⟨d61, d61f⟩, -⟩ := id hs
  obtain ⟨⟨y00, y00f⟩, ⟨y10, y10f⟩, ⟨y11, y11f⟩, -⟩ := id hk
  go_wp2_with fail
  have hre := HNO.out (.inr (.inr (.inr q4)))
  rw [HZR.out, hre]
  refine bodyPost_ret (by simp [results, Try.results48, go_sem]; try rfl) rfl ?_
  exact ⟨rfl, hbw⟩
 case neg =>
 have d4 : decide (2 * (G : Int) ≤ yf) = false := decide_eq_false q4
 refine wp_region_seqE (fun x => Below wy.heap.size wy x) (.one 0 1 (.one 1 0 (.one 2 1 (.one 3 1 (.one 4 1 (.one 5 1 (.one 6 1 (.one 7 1 (.one 8 0 (.one 9 1 (.one 10 1 (.one 11 1 (.one 12 1 (.one 13 0 (.one 14 1 (.one 15 0 (.one 16 1 (.one 17 1 (.one 18 1 (.one 19 1 (.one 20 1 (.one 21 0 (.one 22 1 (.one 23 1 (.one 24 1 (.one 25 1 (.one 26 0 (.one 27 1 (.one 28 1 (.one 29 1 (.one 30 1 (.one 31 0 (.one 32 1 (.one 33 0 (.one 34 1 (.one 35 1 (.one 36 1 (.one 37 1 .nil)))))))))))))))))))))))))))))))))))))) (by kernel_rfl) (by kernel_rfl) (by kernel_rfl) (Below.drew (Below.refl _ _)) ?_
 iterate 38 ((first | (refine seqE_free (v := ?_) rfl (by rfl) ?_ ?_; rotate_left; (focus (intro w; go_simp; try with_reducible rfl))) | (refine seqE_pure (v := ?_) rfl (by rfl) ?_ ?_; rotate_left; (focus (intro w hS; obtain ⟨⟨d60, -⟩, ⟨d61, -⟩, -⟩ := hs.up hS; obtain ⟨⟨y00, -⟩, -, ⟨y11, -⟩, -⟩ := hk.up hS; have jx0 := zD hS jx0; go_simp; try with_reducible rfl)))); (try simp only [Act.put, zA, zB, zC]))
 refine seqE_nil ?_
 intro wz hS; replace jx0 := zD hS jx0
 replace hs := hs.up hS; replace hk := hk.up hS; replace hM := hM.mono hS; replace hbw := btr hbw hS; replace zz := Nat.le_trans zz (Below.size hS); clear hS
 obtain ⟨⟨d60, d60f⟩, ⟨d61, d61f⟩, -⟩ := id hs
 obtain ⟨⟨y00, y00f⟩, ⟨y10, y10f⟩, ⟨y11, y11f⟩, -⟩ := id hk
 go_wp2_with fail
 go_roundg (m.length - (K + 1))
 case measure => (have := HN.out; omega)
 clear d60 d60f d61 d61f y00 y00f y10 y10f y11 y11f
 case rel => exact ⟨K + 1, yr, by go_num, by omega, rfl, HYES.out (by omega) (by omega) q3 (by omega), by omega, fun h => by omega, HNP.out, hk, hM, hbw, zz⟩
end Go.Proofs.Ytadilppdlbhjnaa
