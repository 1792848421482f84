import Derived.Test.YtadilppdlbhjnaaM4
namespace Go.Proofs.Ytadilppdlbhjnaa
set_option linter.unusedSimpArgs false
set_option linter.unusedVariables false
open Go.RowKit
structure SI (w : World) (q : Option Addr) (cq : Nat) (xs : List Int) : Prop where
 le : xs.length ≤ cq
 cm : cq ≤ maxLen
 q0 : q = none → cq = 0
 at' : IntsAt w q xs
 lt : ∀ a, q = some a → a.block < w.heap.size
theorem SI.up {w w' : World} {q : Option Addr} {cq : Nat} {xs : List Int} (h : SI w q cq xs) (hB : Below w.heap.size w w') : SI w' q cq xs := ⟨h.le, h.cm, h.q0, h.at'.mono hB, fun a ha => Nat.lt_of_lt_of_le (h.lt a ha) hB.size⟩
def RetSI (w : World) (xs : List Int) (e : Ending) (w' : World) : Prop := ∃ q cq, e = .returned (.slice q xs.length cq) ∧ SI w' q cq xs ∧ Below w.heap.size w w' ∧ ∀ a, q = some a → w.heap.size ≤ a.block
def mranks (a b : List Cell) : List Int := (mzip a b).map Tri.rank
theorem mranks_left (x : Cell) (xs : List Cell) : mranks (x :: xs) [] = x.rank :: mranks xs [] := by unfold mranks; rw [mzip_left]; rfl
theorem mranks_right (y : Cell) (ys : List Cell) : mranks [] (y :: ys) = y.rank :: mranks [] ys := by unfold mranks; rw [mzip_right]; rfl
theorem mranks_lt {x y : Cell} {xs ys : List Cell} (h : x.rank < y.rank) : mranks (x :: xs) (y :: ys) = x.rank :: mranks xs (y :: ys) := by unfold mranks; rw [mzip_cons, if_pos h]; rfl
theorem mranks_gt {x y : Cell} {xs ys : List Cell} (h : y.rank < x.rank) : mranks (x :: xs) (y :: ys) = y.rank :: mranks (x :: xs) ys := by unfold mranks; rw [mzip_cons, if_neg (by omega), if_pos h]; rfl
theorem mranks_eq {x y : Cell} {xs ys : List Cell} (h : x.rank = y.rank) : mranks (x :: xs) (y :: ys) = y.rank :: mranks xs ys := by unfold mranks; rw [mzip_cons, if_neg (by omega), if_neg (by omega), h]; rfl
theorem drop_cons {α : Type} {l : List α} {i : Nat} {x : α} (h : l[i]? = some x) : l.drop i = x :: l.drop (i + 1) := by
 obtain ⟨hk, he⟩ := List.getElem?_eq_some_iff.1 h
 rw [List.drop_eq_getElem_cons hk, he]
theorem mranks_len (a b : List Cell) : (mranks a b).length ≤ a.length + b.length := by unfold mranks; rw [List.length_map]; exact mzip_len a b
set_option maxRecDepth 100000 in
set_option maxHeartbeats 4000000 in
theorem ranks_any (a b : List Cell) (ar1 ar2 : Int) (p q : Option Addr) (cap cq : Nat) (w : World) (h : MxAt w p cap a) (k : MxAt w q cq b) (hla : a.length ≤ 20000) (hlb : b.length ≤ 20000) :
 Calls Try.prog 105 #[.agg #[.int .i64 ar1, .slice p a.length cap], .agg #[.int .i64 ar2, .slice q b.length cq]] w (RetSI w (mranks a b)) := by
 obtain ⟨i0, hi0, hz0, hz1, hz2⟩ := info_parts int_info
 have H := Lib.hid h; have K0 := Lib.hid k; clear h k
 have hml := mranks_len a b
 obtain ⟨s, hs⟩ : ∃ s, w.heap.size = s := ⟨_, rfl⟩
 obtain ⟨W2, hW2⟩ : ∃ W2, W2 = (w.alloc (.cells #[.int .i64 ar1, .slice p a.length cap] 30)).alloc (.cells #[.int .i64 ar2, .slice q b.length cq] 30) := ⟨_, rfl⟩
 have hB : Below w.heap.size w W2 := by rw [hW2]; go_grown
 have z2 : W2.heap.size = s + 2 := by rw [hW2, ← hs]; simp
 have y1 : W2.cell? ⟨s, 1, none⟩ = some (.slice p a.length cap) := by rw [hW2, ← hs]; go_cell
 have x1 : W2.cell? ⟨s + 1, 1, none⟩ = some (.slice q b.length cq) := by rw [hW2, ← hs]; go_cell
 have HB := Lib.hid hB; have HW2 := Lib.hid hW2; have HS := Lib.hid hs
 clear hB hW2 hs
 go_enter Try.func105, Try.ntmps105
 go_upto_region 1 with fail
 rw [← HW2.out]
 simp only [HS.out]
 go_wp2_with fail
 go_loopg [5, 6, 7] (mranks a b).length (fun N s5 v6 v7 wr => ∃ (i k : Nat) (v5 : Value) (pre : List Int), v6 = .int .i64 i ∧ v7 = .int .i64 k ∧ s5 = v5 ∧ i ≤ a.length ∧ k ≤ b.length ∧ pre ++ mranks (a.drop i) (b.drop k) = mranks a b ∧ N = (mranks (a.drop i) (b.drop k)).length ∧ wr.ownsRow (s + 2) 3 1 v5 pre.length (flat 1 iEnc pre) ∧ Below (s + 2) W2 wr)
 case atStart => exact ⟨0, 0, _, [], rfl, rfl, rfl, by omega, by omega, rfl, rfl, World.ownsRow_nil _ _ _ _, Below.refl _ _⟩
 obtain ⟨i, k, v5, pre, rfl, rfl, rfl, hi, hk, hpre, hN, hown, hb⟩ := hrel
 have HPRE := Lib.hid hpre; have HN := Lib.hid hN; have HO := Lib.hid hown; have HBR := Lib.hid hb
 have hz := hb.size
 have hpl : pre.length ≤ 40000 := by have := congrArg List.length hpre; rw [List.length_append] at this; omega
 have y1 := oldcell hb y1 (by omega)
 have x1 := oldcell hb x1 (by omega)
 have hBW : Below w.heap.size w wr := HB.out.trans (hb.mono (by rw [HS.out]; omega))
 have HBW := Lib.hid hBW
 have hi0' : (0 : Int) ≤ (i : Int) := by omega
 have hk0' : (0 : Int) ≤ (k : Int) := by omega
 clear hpre hN hown hb hBW
 by_cases hia : i < a.length
 case pos =>
  by_cases hkb : k < b.length
  case pos =>
   have hia1 : (i : Int) < (a.length : Int) := by omega
   obtain ⟨x, hx⟩ : ∃ x, a[i]? = some x := ⟨_, List.getElem?_eq_getElem hia⟩
   obtain ⟨b4, o4, rfl, hb4, h40, _⟩ := cell_cells H.out.at' hx
   have j4 := oldcell HBW.out h40 hb4
   have DX := Lib.hid (drop_cons hx)
   clear hx h40
   have hkb1 : (k : Int) < (b.length : Int) := by omega
   have hkb2 : ((k : Int) == (b.length : Int)) = false := by simp; omega
   have hkb3 : ¬ k = b.length := by omega
   obtain ⟨y, hy⟩ : ∃ y, b[k]? = some y := ⟨_, List.getElem?_eq_getElem hkb⟩
   obtain ⟨b5, o5, rfl, hb5, h50, _⟩ := cell_cells K0.out.at' hy
   have j5 := oldcell HBW.out h50 hb5
   have DY := Lib.hid (drop_cons hy)
   clear hy h50
   by_cases hrel : x.rank < y.rank
   case pos =>
    go_upto_region 5 with fail
    go_cut [46] from 20 to 45 (fun s46 wx => s46 = .bool true ∧ Below wr.heap.size wr wx)
    case first =>
     as_aux_lemma =>
      refine wp_region_seq (fun w' => Below wr.heap.size wr w') (by kernel_rfl) (by kernel_rfl) (by first | assumption | go_grown) ?_
      iterate 2 (refine seq_pure (v := ?_) (by rfl) ?_ ?_; rotate_left; (focus (intro w hS; go_simp; try with_reducible rfl)); (try simp only [Act.put, zA, zB, zC]))
      refine seq_pure (v := ?_) (by rfl) ?_ ?_
      rotate_left
      · (intro w hS; have x1 := zD hS x1; go_simp; try with_reducible rfl)
      (try simp only [Act.put, zA, zB, zC])
      iterate 5 (refine seq_pure (v := ?_) (by rfl) ?_ ?_; rotate_left; (focus (intro w hS; go_simp; try with_reducible rfl)); (try simp only [Act.put, zA, zB, zC]))
      refine seq_pure (v := ?_) (by rfl) ?_ ?_
      rotate_left
      · (intro w hS; have y1 := zD hS y1; go_simp; try with_reducible rfl)
      (try simp only [Act.put, zA, zB, zC])
      iterate 4 (refine seq_pure (v := ?_) (by rfl) ?_ ?_; rotate_left; (focus (intro w hS; go_simp; try with_reducible rfl)); (try simp only [Act.put, zA, zB, zC]))
      refine seq_pure (v := ?_) (by rfl) ?_ ?_
      rotate_left
      · (intro w hS; have y1 := zD hS y1; go_simp; try with_reducible rfl)
      (try simp only [Act.put, zA, zB, zC])
      iterate 3 (refine seq_pure (v := ?_) (by rfl) ?_ ?_; rotate_left; (focus (intro w hS; go_simp; try with_reducible rfl)); (try simp only [Act.put, zA, zB, zC]))
      refine seq_pure (v := ?_) (by rfl) ?_ ?_
      rotate_left
      · (intro w hS; have j4 := zD hS j4; go_simp; try with_reducible rfl)
      (try simp only [Act.put, zA, zB, zC])
      refine seq_pure (v := ?_) (by rfl) ?_ ?_
      rotate_left
      · (intro w hS; go_simp; try with_reducible rfl)
      (try simp only [Act.put, zA, zB, zC])
      refine seq_pure (v := ?_) (by rfl) ?_ ?_
      rotate_left
      · (intro w hS; have x1 := zD hS x1; go_simp; try with_reducible rfl)
      (try simp only [Act.put, zA, zB, zC])
      iterate 3 (refine seq_pure (v := ?_) (by rfl) ?_ ?_; rotate_left; (focus (intro w hS; go_simp; try with_reducible rfl)); (try simp only [Act.put, zA, zB, zC]))
      refine seq_pure (v := ?_) (by rfl) ?_ ?_
      rotate_left
      · (intro w hS; have j5 := zD hS j5; go_simp; try with_reducible rfl)
      (try simp only [Act.put, zA, zB, zC])
      iterate 3 (refine seq_pure (v := ?_) (by rfl) ?_ ?_; rotate_left; (focus (intro w hS; go_simp; try with_reducible rfl)); (try simp only [Act.put, zA, zB, zC]))
      refine seq_nil ?_
      intro w2 HB0
      go_wp2_with fail
      go_meet
      exact ⟨rfl, HB0⟩
    obtain ⟨rfl, hst⟩ := hcut
    have y1 := zD hst y1
    have x1 := zD hst x1
    have j4 := zD hst j4
    have j5 := zD hst j5
    have hz3 := hst.size
    have HM := Lib.hid (show mranks (a.drop i) (b.drop k) = x.rank :: mranks (a.drop (i + 1)) (b.drop k) from by rw [DX.out, DY.out]; exact mranks_lt hrel)
    go_wp2_with (first | (at_builtin; go_must (refine wpList_app2 (enc := iEnc) rfl _ _ _ rfl (s + 2) 3 i0 _ 8 Try.underlying42 hi0 hz0 hz1 hz2 rfl (by omega) _ pre rfl ((owns_below HO.out hst).alloc _) (some ⟨wc.heap.size, 0, none⟩) [x.rank] 1 rfl (fun h => by cases h) (SlAt.int1 (by go_cell)) iEnc_one (by simp [maxLen]; omega) (by simp; omega) (by simp; omega) ?_); intro v2 w3 hown2 hgr2 hbl2 hat2; have HOW2 := Lib.hid hown2; have HBL2 := Lib.hid (show Below (s + 2) wc w3 from (Below.alloc (Below.refl _ _) (by omega) _).trans hbl2); clear hown2 hgr2 hbl2 hat2))
    go_roundg (mranks (a.drop (i + 1)) (b.drop k)).length
    case measure => (have := HN.out; rw [HM.out] at this; simp at this; omega)
    case rel => exact ⟨i + 1, k, _, pre ++ [x.rank], by go_num, by go_num, rfl, by omega, by omega, by rw [← HPRE.out, HM.out]; simp, rfl, HOW2.out, HBR.out.trans ((hst.mono (by omega)).trans HBL2.out)⟩
   have hn1 := hrel; clear hrel
   by_cases hrel : x.rank = y.rank
   case pos =>
    have hre : (x.rank == y.rank) = true := by simp [hrel]
    go_upto_region 5 with fail
    go_cut [46] from 20 to 45 (fun s46 wx => s46 = .bool false ∧ Below wr.heap.size wr wx)
    case first =>
     as_aux_lemma =>
      refine wp_region_seq (fun w' => Below wr.heap.size wr w') (by kernel_rfl) (by kernel_rfl) (by first | assumption | go_grown) ?_
      iterate 2 (refine seq_pure (v := ?_) (by rfl) ?_ ?_; rotate_left; (focus (intro w hS; go_simp; try with_reducible rfl)); (try simp only [Act.put, zA, zB, zC]))
      refine seq_pure (v := ?_) (by rfl) ?_ ?_
      rotate_left
      · (intro w hS; have x1 := zD hS x1; go_simp; try with_reducible rfl)
      (try simp only [Act.put, zA, zB, zC])
      iterate 5 (refine seq_pure (v := ?_) (by rfl) ?_ ?_; rotate_left; (focus (intro w hS; go_simp; try with_reducible rfl)); (try simp only [Act.put, zA, zB, zC]))
      refine seq_pure (v := ?_) (by rfl) ?_ ?_
      rotate_left
      · (intro w hS; have y1 := zD hS y1; go_simp; try with_reducible rfl)
      (try simp only [Act.put, zA, zB, zC])
      iterate 4 (refine seq_pure (v := ?_) (by rfl) ?_ ?_; rotate_left; (focus (intro w hS; go_simp; try with_reducible rfl)); (try simp only [Act.put, zA, zB, zC]))
      refine seq_pure (v := ?_) (by rfl) ?_ ?_
      rotate_left
      · (intro w hS; have y1 := zD hS y1; go_simp; try with_reducible rfl)
      (try simp only [Act.put, zA, zB, zC])
      iterate 3 (refine seq_pure (v := ?_) (by rfl) ?_ ?_; rotate_left; (focus (intro w hS; go_simp; try with_reducible rfl)); (try simp only [Act.put, zA, zB, zC]))
      refine seq_pure (v := ?_) (by rfl) ?_ ?_
      rotate_left
      · (intro w hS; have j4 := zD hS j4; go_simp; try with_reducible rfl)
      (try simp only [Act.put, zA, zB, zC])
      refine seq_pure (v := ?_) (by rfl) ?_ ?_
      rotate_left
      · (intro w hS; go_simp; try with_reducible rfl)
      (try simp only [Act.put, zA, zB, zC])
      refine seq_pure (v := ?_) (by rfl) ?_ ?_
      rotate_left
      · (intro w hS; have x1 := zD hS x1; go_simp; try with_reducible rfl)
      (try simp only [Act.put, zA, zB, zC])
      iterate 3 (refine seq_pure (v := ?_) (by rfl) ?_ ?_; rotate_left; (focus (intro w hS; go_simp; try with_reducible rfl)); (try simp only [Act.put, zA, zB, zC]))
      refine seq_pure (v := ?_) (by rfl) ?_ ?_
      rotate_left
      · (intro w hS; have j5 := zD hS j5; go_simp; try with_reducible rfl)
      (try simp only [Act.put, zA, zB, zC])
      iterate 3 (refine seq_pure (v := ?_) (by rfl) ?_ ?_; rotate_left; (focus (intro w hS; go_simp; try with_reducible rfl)); (try simp only [Act.put, zA, zB, zC]))
      refine seq_nil ?_
      intro w2 HB0
      go_wp2_with fail
      go_meet
      exact ⟨rfl, HB0⟩
    obtain ⟨rfl, hst⟩ := hcut
    have y1 := zD hst y1
    have x1 := zD hst x1
    have j4 := zD hst j4
    have j5 := zD hst j5
    have hz3 := hst.size
    have HM := Lib.hid (show mranks (a.drop i) (b.drop k) = y.rank :: mranks (a.drop (i + 1)) (b.drop (k + 1)) from by rw [DX.out, DY.out]; exact mranks_eq hrel)
    have HST := Lib.hid hst
    go_upto_region 8 with fail
    go_cut [77] from 58 to 76 (fun s77 wx => s77 = .bool true ∧ Below wc.heap.size wc wx)
    case first =>
     as_aux_lemma =>
      refine wp_region_seq (fun w' => Below wc.heap.size wc w') (by kernel_rfl) (by kernel_rfl) (by first | assumption | go_grown) ?_
      iterate 2 (refine seq_pure (v := ?_) (by rfl) ?_ ?_; rotate_left; (focus (intro w hS; go_simp; try with_reducible rfl)); (try simp only [Act.put, zA, zB, zC]))
      refine seq_pure (v := ?_) (by rfl) ?_ ?_
      rotate_left
      · (intro w hS; have y1 := zD hS y1; go_simp; try with_reducible rfl)
      (try simp only [Act.put, zA, zB, zC])
      iterate 4 (refine seq_pure (v := ?_) (by rfl) ?_ ?_; rotate_left; (focus (intro w hS; go_simp; try with_reducible rfl)); (try simp only [Act.put, zA, zB, zC]))
      refine seq_pure (v := ?_) (by rfl) ?_ ?_
      rotate_left
      · (intro w hS; have y1 := zD hS y1; go_simp; try with_reducible rfl)
      (try simp only [Act.put, zA, zB, zC])
      iterate 3 (refine seq_pure (v := ?_) (by rfl) ?_ ?_; rotate_left; (focus (intro w hS; go_simp; try with_reducible rfl)); (try simp only [Act.put, zA, zB, zC]))
      refine seq_pure (v := ?_) (by rfl) ?_ ?_
      rotate_left
      · (intro w hS; have j4 := zD hS j4; go_simp; try with_reducible rfl)
      (try simp only [Act.put, zA, zB, zC])
      refine seq_pure (v := ?_) (by rfl) ?_ ?_
      rotate_left
      · (intro w hS; go_simp; try with_reducible rfl)
      (try simp only [Act.put, zA, zB, zC])
      refine seq_pure (v := ?_) (by rfl) ?_ ?_
      rotate_left
      · (intro w hS; have x1 := zD hS x1; go_simp; try with_reducible rfl)
      (try simp only [Act.put, zA, zB, zC])
      iterate 3 (refine seq_pure (v := ?_) (by rfl) ?_ ?_; rotate_left; (focus (intro w hS; go_simp; try with_reducible rfl)); (try simp only [Act.put, zA, zB, zC]))
      refine seq_pure (v := ?_) (by rfl) ?_ ?_
      rotate_left
      · (intro w hS; have j5 := zD hS j5; go_simp; try with_reducible rfl)
      (try simp only [Act.put, zA, zB, zC])
      iterate 2 (refine seq_pure (v := ?_) (by rfl) ?_ ?_; rotate_left; (focus (intro w hS; go_simp; try with_reducible rfl)); (try simp only [Act.put, zA, zB, zC]))
      refine seq_nil ?_
      intro w2 HB0
      go_wp2_with fail
      go_meet
      exact ⟨rfl, HB0⟩
    obtain ⟨rfl, hst⟩ := hcut
    have y1 := zD hst y1
    have x1 := zD hst x1
    have j4 := zD hst j4
    have j5 := zD hst j5
    replace hst := btr HST.out hst
    have hz3 := hst.size
    go_wp2_with (first | (at_builtin; go_must (refine wpList_app2 (enc := iEnc) rfl _ _ _ rfl (s + 2) 3 i0 _ 8 Try.underlying42 hi0 hz0 hz1 hz2 rfl (by omega) _ pre rfl ((owns_below HO.out hst).alloc _) (some ⟨wc.heap.size, 0, none⟩) [y.rank] 1 rfl (fun h => by cases h) (SlAt.int1 (by go_cell)) iEnc_one (by simp [maxLen]; omega) (by simp; omega) (by simp; omega) ?_); intro v2 w3 hown2 hgr2 hbl2 hat2; have HOW2 := Lib.hid hown2; have HBL2 := Lib.hid (show Below (s + 2) wc w3 from (Below.alloc (Below.refl _ _) (by omega) _).trans hbl2); clear hown2 hgr2 hbl2 hat2))
    go_roundg (mranks (a.drop (i + 1)) (b.drop (k + 1))).length
    case measure => (have := HN.out; rw [HM.out] at this; simp at this; omega)
    case rel => exact ⟨i + 1, k + 1, _, pre ++ [y.rank], by go_num, by go_num, rfl, by omega, by omega, by rw [← HPRE.out, HM.out]; simp, rfl, HOW2.out, HBR.out.trans ((hst.mono (by omega)).trans HBL2.out)⟩
   have hre : (x.rank == y.rank) = false := by simp [hrel]
   have hrel : y.rank < x.rank := by omega
   go_upto_region 5 with fail
   go_cut [46] from 20 to 45 (fun s46 wx => s46 = .bool false ∧ Below wr.heap.size wr wx)
   case first =>
    as_aux_lemma =>
     refine wp_region_seq (fun w' => Below wr.heap.size wr w') (by kernel_rfl) (by kernel_rfl) (by first | assumption | go_grown) ?_
     iterate 2 (refine seq_pure (v := ?_) (by rfl) ?_ ?_; rotate_left; (focus (intro w hS; go_simp; try with_reducible rfl)); (try simp only [Act.put, zA, zB, zC]))
     refine seq_pure (v := ?_) (by rfl) ?_ ?_
     rotate_left
     · (intro w hS; have x1 := zD hS x1; go_simp; try with_reducible rfl)
     (try simp only [Act.put, zA, zB, zC])
     iterate 5 (refine seq_pure (v := ?_) (by rfl) ?_ ?_; rotate_left; (focus (intro w hS; go_simp; try with_reducible rfl)); (try simp only [Act.put, zA, zB, zC]))
     refine seq_pure (v := ?_) (by rfl) ?_ ?_
     rotate_left
     · (intro w hS; have y1 := zD hS y1; go_simp; try with_reducible rfl)
     (try simp only [Act.put, zA, zB, zC])
     iterate 4 (refine seq_pure (v := ?_) (by rfl) ?_ ?_; rotate_left; (focus (intro w hS; go_simp; try with_reducible rfl)); (try simp only [Act.put, zA, zB, zC]))
     refine seq_pure (v := ?_) (by rfl) ?_ ?_
     rotate_left
     · (intro w hS; have y1 := zD hS y1; go_simp; try with_reducible rfl)
     (try simp only [Act.put, zA, zB, zC])
     iterate 3 (refine seq_pure (v := ?_) (by rfl) ?_ ?_; rotate_left; (focus (intro w hS; go_simp; try with_reducible rfl)); (try simp only [Act.put, zA, zB, zC]))
     refine seq_pure (v := ?_) (by rfl) ?_ ?_
     rotate_left
     · (intro w hS; have j4 := zD hS j4; go_simp; try with_reducible rfl)
     (try simp only [Act.put, zA, zB, zC])
     refine seq_pure (v := ?_) (by rfl) ?_ ?_
     rotate_left
     · (intro w hS; go_simp; try with_reducible rfl)
     (try simp only [Act.put, zA, zB, zC])
     refine seq_pure (v := ?_) (by rfl) ?_ ?_
     rotate_left
     · (intro w hS; have x1 := zD hS x1; go_simp; try with_reducible rfl)
     (try simp only [Act.put, zA, zB, zC])
     iterate 3 (refine seq_pure (v := ?_) (by rfl) ?_ ?_; rotate_left; (focus (intro w hS; go_simp; try with_reducible rfl)); (try simp only [Act.put, zA, zB, zC]))
     refine seq_pure (v := ?_) (by rfl) ?_ ?_
     rotate_left
     · (intro w hS; have j5 := zD hS j5; go_simp; try with_reducible rfl)
     (try simp only [Act.put, zA, zB, zC])
     iterate 3 (refine seq_pure (v := ?_) (by rfl) ?_ ?_; rotate_left; (focus (intro w hS; go_simp; try with_reducible rfl)); (try simp only [Act.put, zA, zB, zC]))
     refine seq_nil ?_
     intro w2 HB0
     go_wp2_with fail
     go_meet
     exact ⟨rfl, HB0⟩
   obtain ⟨rfl, hst⟩ := hcut
   have y1 := zD hst y1
   have x1 := zD hst x1
   have j4 := zD hst j4
   have j5 := zD hst j5
   have hz3 := hst.size
   have HM := Lib.hid (show mranks (a.drop i) (b.drop k) = y.rank :: mranks (a.drop i) (b.drop (k + 1)) from by rw [DX.out, DY.out]; exact mranks_gt hrel)
   have HST := Lib.hid hst
   go_upto_region 8 with fail
   go_cut [77] from 58 to 76 (fun s77 wx => s77 = .bool false ∧ Below wc.heap.size wc wx)
   case first =>
    as_aux_lemma =>
     refine wp_region_seq (fun w' => Below wc.heap.size wc w') (by kernel_rfl) (by kernel_rfl) (by first | assumption | go_grown) ?_
     iterate 2 (refine seq_pure (v := ?_) (by rfl) ?_ ?_; rotate_left; (focus (intro w hS; go_simp; try with_reducible rfl)); (try simp only [Act.put, zA, zB, zC]))
     refine seq_pure (v := ?_) (by rfl) ?_ ?_
     rotate_left
     · (intro w hS; have y1 := zD hS y1; go_simp; try with_reducible rfl)
     (try simp only [Act.put, zA, zB, zC])
     iterate 4 (refine seq_pure (v := ?_) (by rfl) ?_ ?_; rotate_left; (focus (intro w hS; go_simp; try with_reducible rfl)); (try simp only [Act.put, zA, zB, zC]))
     refine seq_pure (v := ?_) (by rfl) ?_ ?_
     rotate_left
     · (intro w hS; have y1 := zD hS y1; go_simp; try with_reducible rfl)
     (try simp only [Act.put, zA, zB, zC])
     iterate 3 (refine seq_pure (v := ?_) (by rfl) ?_ ?_; rotate_left; (focus (intro w hS; go_simp; try with_reducible rfl)); (try simp only [Act.put, zA, zB, zC]))
     refine seq_pure (v := ?_) (by rfl) ?_ ?_
     rotate_left
     · (intro w hS; have j4 := zD hS j4; go_simp; try with_reducible rfl)
     (try simp only [Act.put, zA, zB, zC])
     refine seq_pure (v := ?_) (by rfl) ?_ ?_
     rotate_left
     · (intro w hS; go_simp; try with_reducible rfl)
     (try simp only [Act.put, zA, zB, zC])
     refine seq_pure (v := ?_) (by rfl) ?_ ?_
     rotate_left
     · (intro w hS; have x1 := zD hS x1; go_simp; try with_reducible rfl)
     (try simp only [Act.put, zA, zB, zC])
     iterate 3 (refine seq_pure (v := ?_) (by rfl) ?_ ?_; rotate_left; (focus (intro w hS; go_simp; try with_reducible rfl)); (try simp only [Act.put, zA, zB, zC]))
     refine seq_pure (v := ?_) (by rfl) ?_ ?_
     rotate_left
     · (intro w hS; have j5 := zD hS j5; go_simp; try with_reducible rfl)
     (try simp only [Act.put, zA, zB, zC])
     iterate 2 (refine seq_pure (v := ?_) (by rfl) ?_ ?_; rotate_left; (focus (intro w hS; go_simp; try with_reducible rfl)); (try simp only [Act.put, zA, zB, zC]))
     refine seq_nil ?_
     intro w2 HB0
     go_wp2_with fail
     go_meet
     exact ⟨rfl, HB0⟩
   obtain ⟨rfl, hst⟩ := hcut
   have y1 := zD hst y1
   have x1 := zD hst x1
   have j4 := zD hst j4
   have j5 := zD hst j5
   replace hst := btr HST.out hst
   have hz3 := hst.size
   go_wp2_with (first | (at_builtin; go_must (refine wpList_app2 (enc := iEnc) rfl _ _ _ rfl (s + 2) 3 i0 _ 8 Try.underlying42 hi0 hz0 hz1 hz2 rfl (by omega) _ pre rfl ((owns_below HO.out hst).alloc _) (some ⟨wc.heap.size, 0, none⟩) [y.rank] 1 rfl (fun h => by cases h) (SlAt.int1 (by go_cell)) iEnc_one (by simp [maxLen]; omega) (by simp; omega) (by simp; omega) ?_); intro v2 w3 hown2 hgr2 hbl2 hat2; have HOW2 := Lib.hid hown2; have HBL2 := Lib.hid (show Below (s + 2) wc w3 from (Below.alloc (Below.refl _ _) (by omega) _).trans hbl2); clear hown2 hgr2 hbl2 hat2))
   go_roundg (mranks (a.drop i) (b.drop (k + 1))).length
   case measure => (have := HN.out; rw [HM.out] at this; simp at this; omega)
   case rel => exact ⟨i, k + 1, _, pre ++ [y.rank], by go_num, by go_num, rfl, by omega, by omega, by rw [← HPRE.out, HM.out]; simp, rfl, HOW2.out, HBR.out.trans ((hst.mono (by omega)).trans HBL2.out)⟩
  have hia1 : (i : Int) < (a.length : Int) := by omega
  obtain ⟨x, hx⟩ : ∃ x, a[i]? = some x := ⟨_, List.getElem?_eq_getElem hia⟩
  obtain ⟨b4, o4, rfl, hb4, h40, _⟩ := cell_cells H.out.at' hx
  have j4 := oldcell HBW.out h40 hb4
  have DX := Lib.hid (drop_cons hx)
  clear hx h40
  have hkb1 : ¬ (k : Int) < (b.length : Int) := by omega
  have hkb2 : ((k : Int) == (b.length : Int)) = true := by simp; omega
  have hkb3 : k = b.length := by omega
  have HKE := Lib.hid hkb3
  clear hkb3
  have DY := Lib.hid (show b.drop k = [] from List.drop_eq_nil_of_le (by omega))
  go_upto_region 5 with fail
  go_cut [46] from 20 to 45 (fun s46 wx => s46 = .bool true ∧ Below wr.heap.size wr wx)
  case first =>
   as_aux_lemma =>
    refine wp_region_seq (fun w' => Below wr.heap.size wr w') (by kernel_rfl) (by kernel_rfl) (by first | assumption | go_grown) ?_
    iterate 2 (refine seq_pure (v := ?_) (by rfl) ?_ ?_; rotate_left; (focus (intro w hS; go_simp; try with_reducible rfl)); (try simp only [Act.put, zA, zB, zC]))
    refine seq_pure (v := ?_) (by rfl) ?_ ?_
    rotate_left
    · (intro w hS; have x1 := zD hS x1; go_simp; try with_reducible rfl)
    (try simp only [Act.put, zA, zB, zC])
    iterate 3 (refine seq_pure (v := ?_) (by rfl) ?_ ?_; rotate_left; (focus (intro w hS; go_simp; try with_reducible rfl)); (try simp only [Act.put, zA, zB, zC]))
    refine seq_off (by rfl) ?_
    (try simp only [Act.put, zA, zB, zC])
    refine seq_off (by rfl) ?_
    (try simp only [Act.put, zA, zB, zC])
    refine seq_off (by rfl) ?_
    (try simp only [Act.put, zA, zB, zC])
    refine seq_off (by rfl) ?_
    (try simp only [Act.put, zA, zB, zC])
    refine seq_off (by rfl) ?_
    (try simp only [Act.put, zA, zB, zC])
    refine seq_off (by rfl) ?_
    (try simp only [Act.put, zA, zB, zC])
    refine seq_off (by rfl) ?_
    (try simp only [Act.put, zA, zB, zC])
    refine seq_off (by rfl) ?_
    (try simp only [Act.put, zA, zB, zC])
    refine seq_off (by rfl) ?_
    (try simp only [Act.put, zA, zB, zC])
    refine seq_off (by rfl) ?_
    (try simp only [Act.put, zA, zB, zC])
    refine seq_off (by rfl) ?_
    (try simp only [Act.put, zA, zB, zC])
    refine seq_off (by rfl) ?_
    (try simp only [Act.put, zA, zB, zC])
    refine seq_off (by rfl) ?_
    (try simp only [Act.put, zA, zB, zC])
    refine seq_off (by rfl) ?_
    (try simp only [Act.put, zA, zB, zC])
    refine seq_off (by rfl) ?_
    (try simp only [Act.put, zA, zB, zC])
    refine seq_off (by rfl) ?_
    (try simp only [Act.put, zA, zB, zC])
    refine seq_off (by rfl) ?_
    (try simp only [Act.put, zA, zB, zC])
    refine seq_off (by rfl) ?_
    (try simp only [Act.put, zA, zB, zC])
    refine seq_off (by rfl) ?_
    (try simp only [Act.put, zA, zB, zC])
    refine seq_off (by rfl) ?_
    (try simp only [Act.put, zA, zB, zC])
    refine seq_pure (v := ?_) (by rfl) ?_ ?_
    rotate_left
    · (intro w hS; go_simp; try with_reducible rfl)
    (try simp only [Act.put, zA, zB, zC])
    refine seq_nil ?_
    intro w2 HB0
    go_wp2_with fail
    go_meet
    exact ⟨rfl, HB0⟩
  obtain ⟨rfl, hst⟩ := hcut
  have y1 := zD hst y1
  have x1 := zD hst x1
  have j4 := zD hst j4
  have hz3 := hst.size
  have HM := Lib.hid (show mranks (a.drop i) (b.drop k) = x.rank :: mranks (a.drop (i + 1)) (b.drop k) from by rw [DX.out, DY.out]; exact mranks_left _ _)
  go_wp2_with (first | (at_builtin; go_must (refine wpList_app2 (enc := iEnc) rfl _ _ _ rfl (s + 2) 3 i0 _ 8 Try.underlying42 hi0 hz0 hz1 hz2 rfl (by omega) _ pre rfl ((owns_below HO.out hst).alloc _) (some ⟨wc.heap.size, 0, none⟩) [x.rank] 1 rfl (fun h => by cases h) (SlAt.int1 (by go_cell)) iEnc_one (by simp [maxLen]; omega) (by simp; omega) (by simp; omega) ?_); intro v2 w3 hown2 hgr2 hbl2 hat2; have HOW2 := Lib.hid hown2; have HBL2 := Lib.hid (show Below (s + 2) wc w3 from (Below.alloc (Below.refl _ _) (by omega) _).trans hbl2); clear hown2 hgr2 hbl2 hat2))
  go_roundg (mranks (a.drop (i + 1)) (b.drop k)).length
  case measure => (have := HN.out; rw [HM.out] at this; simp at this; omega)
  case rel => exact ⟨i + 1, k, _, pre ++ [x.rank], by go_num, by go_num, rfl, by omega, by omega, by rw [← HPRE.out, HM.out]; simp, rfl, HOW2.out, HBR.out.trans ((hst.mono (by omega)).trans HBL2.out)⟩
 by_cases hkb : k < b.length
 case pos =>
  have hia1 : ¬ (i : Int) < (a.length : Int) := by omega
  have DX := Lib.hid (show a.drop i = [] from List.drop_eq_nil_of_le (by omega))
  have hkb1 : (k : Int) < (b.length : Int) := by omega
  have hkb2 : ((k : Int) == (b.length : Int)) = false := by simp; omega
  have hkb3 : ¬ k = b.length := by omega
  obtain ⟨y, hy⟩ : ∃ y, b[k]? = some y := ⟨_, List.getElem?_eq_getElem hkb⟩
  obtain ⟨b5, o5, rfl, hb5, h50, _⟩ := cell_cells K0.out.at' hy
  have j5 := oldcell HBW.out h50 hb5
  have DY := Lib.hid (drop_cons hy)
  clear hy h50
  go_upto_region 5 with fail
  go_cut [46] from 20 to 45 (fun s46 wx => s46 = .bool false ∧ Below wr.heap.size wr wx)
  case first =>
   as_aux_lemma =>
    refine wp_region_seq (fun w' => Below wr.heap.size wr w') (by kernel_rfl) (by kernel_rfl) (by first | assumption | go_grown) ?_
    iterate 2 (refine seq_pure (v := ?_) (by rfl) ?_ ?_; rotate_left; (focus (intro w hS; go_simp; try with_reducible rfl)); (try simp only [Act.put, zA, zB, zC]))
    refine seq_pure (v := ?_) (by rfl) ?_ ?_
    rotate_left
    · (intro w hS; have x1 := zD hS x1; go_simp; try with_reducible rfl)
    (try simp only [Act.put, zA, zB, zC])
    iterate 5 (refine seq_pure (v := ?_) (by rfl) ?_ ?_; rotate_left; (focus (intro w hS; go_simp; try with_reducible rfl)); (try simp only [Act.put, zA, zB, zC]))
    refine seq_pure (v := ?_) (by rfl) ?_ ?_
    rotate_left
    · (intro w hS; have y1 := zD hS y1; go_simp; try with_reducible rfl)
    (try simp only [Act.put, zA, zB, zC])
    iterate 3 (refine seq_pure (v := ?_) (by rfl) ?_ ?_; rotate_left; (focus (intro w hS; go_simp; try with_reducible rfl)); (try simp only [Act.put, zA, zB, zC]))
    refine seq_off (by rfl) ?_
    (try simp only [Act.put, zA, zB, zC])
    refine seq_off (by rfl) ?_
    (try simp only [Act.put, zA, zB, zC])
    refine seq_off (by rfl) ?_
    (try simp only [Act.put, zA, zB, zC])
    refine seq_off (by rfl) ?_
    (try simp only [Act.put, zA, zB, zC])
    refine seq_off (by rfl) ?_
    (try simp only [Act.put, zA, zB, zC])
    refine seq_off (by rfl) ?_
    (try simp only [Act.put, zA, zB, zC])
    refine seq_off (by rfl) ?_
    (try simp only [Act.put, zA, zB, zC])
    refine seq_off (by rfl) ?_
    (try simp only [Act.put, zA, zB, zC])
    refine seq_off (by rfl) ?_
    (try simp only [Act.put, zA, zB, zC])
    refine seq_off (by rfl) ?_
    (try simp only [Act.put, zA, zB, zC])
    refine seq_off (by rfl) ?_
    (try simp only [Act.put, zA, zB, zC])
    refine seq_off (by rfl) ?_
    (try simp only [Act.put, zA, zB, zC])
    refine seq_off (by rfl) ?_
    (try simp only [Act.put, zA, zB, zC])
    iterate 2 (refine seq_pure (v := ?_) (by rfl) ?_ ?_; rotate_left; (focus (intro w hS; go_simp; try with_reducible rfl)); (try simp only [Act.put, zA, zB, zC]))
    refine seq_nil ?_
    intro w2 HB0
    go_wp2_with fail
    go_meet
    exact ⟨rfl, HB0⟩
  obtain ⟨rfl, hst⟩ := hcut
  have y1 := zD hst y1
  have x1 := zD hst x1
  have j5 := zD hst j5
  have hz3 := hst.size
  have HM := Lib.hid (show mranks (a.drop i) (b.drop k) = y.rank :: mranks (a.drop i) (b.drop (k + 1)) from by rw [DX.out, DY.out]; exact mranks_right _ _)
  have HST := Lib.hid hst
  go_upto_region 8 with fail
  go_cut [77] from 58 to 76 (fun s77 wx => s77 = .bool false ∧ Below wc.heap.size wc wx)
  case first =>
   as_aux_lemma =>
    refine wp_region_seq (fun w' => Below wc.heap.size wc w') (by kernel_rfl) (by kernel_rfl) (by first | assumption | go_grown) ?_
    iterate 2 (refine seq_pure (v := ?_) (by rfl) ?_ ?_; rotate_left; (focus (intro w hS; go_simp; try with_reducible rfl)); (try simp only [Act.put, zA, zB, zC]))
    refine seq_pure (v := ?_) (by rfl) ?_ ?_
    rotate_left
    · (intro w hS; have y1 := zD hS y1; go_simp; try with_reducible rfl)
    (try simp only [Act.put, zA, zB, zC])
    iterate 3 (refine seq_pure (v := ?_) (by rfl) ?_ ?_; rotate_left; (focus (intro w hS; go_simp; try with_reducible rfl)); (try simp only [Act.put, zA, zB, zC]))
    refine seq_off (by rfl) ?_
    (try simp only [Act.put, zA, zB, zC])
    refine seq_off (by rfl) ?_
    (try simp only [Act.put, zA, zB, zC])
    refine seq_off (by rfl) ?_
    (try simp only [Act.put, zA, zB, zC])
    refine seq_off (by rfl) ?_
    (try simp only [Act.put, zA, zB, zC])
    refine seq_off (by rfl) ?_
    (try simp only [Act.put, zA, zB, zC])
    refine seq_off (by rfl) ?_
    (try simp only [Act.put, zA, zB, zC])
    refine seq_off (by rfl) ?_
    (try simp only [Act.put, zA, zB, zC])
    refine seq_off (by rfl) ?_
    (try simp only [Act.put, zA, zB, zC])
    refine seq_off (by rfl) ?_
    (try simp only [Act.put, zA, zB, zC])
    refine seq_off (by rfl) ?_
    (try simp only [Act.put, zA, zB, zC])
    refine seq_off (by rfl) ?_
    (try simp only [Act.put, zA, zB, zC])
    refine seq_off (by rfl) ?_
    (try simp only [Act.put, zA, zB, zC])
    refine seq_off (by rfl) ?_
    (try simp only [Act.put, zA, zB, zC])
    refine seq_pure (v := ?_) (by rfl) ?_ ?_
    rotate_left
    · (intro w hS; go_simp; try with_reducible rfl)
    (try simp only [Act.put, zA, zB, zC])
    refine seq_nil ?_
    intro w2 HB0
    go_wp2_with fail
    go_meet
    exact ⟨rfl, HB0⟩
  obtain ⟨rfl, hst⟩ := hcut
  have y1 := zD hst y1
  have x1 := zD hst x1
  have j5 := zD hst j5
  replace hst := btr HST.out hst
  have hz3 := hst.size
  go_wp2_with (first | (at_builtin; go_must (refine wpList_app2 (enc := iEnc) rfl _ _ _ rfl (s + 2) 3 i0 _ 8 Try.underlying42 hi0 hz0 hz1 hz2 rfl (by omega) _ pre rfl ((owns_below HO.out hst).alloc _) (some ⟨wc.heap.size, 0, none⟩) [y.rank] 1 rfl (fun h => by cases h) (SlAt.int1 (by go_cell)) iEnc_one (by simp [maxLen]; omega) (by simp; omega) (by simp; omega) ?_); intro v2 w3 hown2 hgr2 hbl2 hat2; have HOW2 := Lib.hid hown2; have HBL2 := Lib.hid (show Below (s + 2) wc w3 from (Below.alloc (Below.refl _ _) (by omega) _).trans hbl2); clear hown2 hgr2 hbl2 hat2))
  go_roundg (mranks (a.drop i) (b.drop (k + 1))).length
  case measure => (have := HN.out; rw [HM.out] at this; simp at this; omega)
  case rel => exact ⟨i, k + 1, _, pre ++ [y.rank], by go_num, by go_num, rfl, by omega, by omega, by rw [← HPRE.out, HM.out]; simp, rfl, HOW2.out, HBR.out.trans ((hst.mono (by omega)).trans HBL2.out)⟩
 have hia1 : ¬ (i : Int) < (a.length : Int) := by omega
 have hkb1 : ¬ (k : Int) < (b.length : Int) := by omega
 have hfin : pre = mranks a b := by
  have := HPRE.out
  rw [List.drop_eq_nil_of_le (by omega), List.drop_eq_nil_of_le (by omega)] at this
  simpa [mranks, mzip_nil] using this
 obtain ⟨q5, c5, hv5, t1, t2, t3, t4⟩ := owns_val (by decide) HO.out
 subst hv5
 have HF := Lib.hid hfin; have T3 := Lib.hid t3; have T4 := Lib.hid t4
 have hlt5 := HO.out.lt
 have HL5 := Lib.hid hlt5
 clear hfin t3 t4 hlt5
 go_wp2_with fail
 go_ret
 exact ⟨q5, c5, by rw [← HF.out]; rfl, by rw [← HF.out]; exact ⟨t1, t2, T3.out, T4.out, fun ad h => (HL5.out ad.block (by rw [h]; rfl)).2⟩, HBW.out, fun ad h => by have := (HL5.out ad.block (by rw [h]; rfl)).1; rw [HS.out]; omega⟩
end Go.Proofs.Ytadilppdlbhjnaa
