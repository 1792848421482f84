/- Texts R9, R10, T1, T2 in one. -/
import Derived.Test.YtadilppdlbhjnaaGT
import Derived.Test.YtadilppdlbhjnaaGR
import Derived.Test.YtadilppdlbhjnaaSh2
import Derived.Test.YtadilppdlbhjnaaSh
import Derived.Test.YtadilppdlbhjnaaMH
namespace Go.Proofs.Ytadilppdlbhjnaa
set_option linter.unusedSimpArgs false
set_option linter.unusedVariables false
open Go.RowKit Go.Maps

/-- the numbers of a that are among those of b -/
def rInter (a b : List Int) : List Int := a.filter fun x => decide (0 < b.count x)
theorem rInter_snoc {a b : List Int} {K : Nat} {t : Int} (h : a[K]? = some t) : rInter (a.take (K + 1)) b = if decide (0 < b.count t) = true then rInter (a.take K) b ++ [t] else rInter (a.take K) b := by
  obtain ⟨hk, he⟩ := List.getElem?_eq_some_iff.1 h
  unfold rInter
  rw [List.take_succ_eq_append_getElem hk, he, List.filter_append]
  split
  · rename_i h1; rw [show List.filter (fun x => decide (0 < b.count x)) [t] = [t] from List.filter_cons_of_pos (p := fun x => decide (0 < b.count x)) h1]
  · rename_i h1; rw [show List.filter (fun x => decide (0 < b.count x)) [t] = [] from List.filter_cons_of_neg (p := fun x => decide (0 < b.count x)) h1, List.append_nil]
theorem rInter_len (a b : List Int) : (rInter a b).length ≤ a.length := List.length_filter_le _ _
theorem mem_inter {a b : List Int} {x : Int} : x ∈ rInter a b ↔ x ∈ a ∧ x ∈ b := by
  unfold rInter
  rw [List.mem_filter, decide_eq_true_eq, List.count_pos_iff]
/-- the pairs of an atom with itself -/
def idl (n k : Nat) : List Int := (List.range k).map fun x => ((x * n + x : Nat) : Int)
theorem idl_snoc (n k : Nat) : idl n (k + 1) = idl n k ++ [((k * n + k : Nat) : Int)] := by unfold idl; rw [List.range_succ, List.map_append]; rfl
theorem idl_len (n k : Nat) : (idl n k).length = k := by unfold idl; simp

set_option maxRecDepth 100000 in
theorem inter1_any (t : Int) (bv bm n : Nat) (D : DM) (b : List Int) (w : World) (hv : w.cell? ⟨bv, 0, none⟩ = some (.map (some bm))) (hm : MapAt w bm n D) (hc : CMap D b) (h0 : 0 ≤ t) (h1 : t < 100000) :
    Calls Try.prog 119 #[.int .i64 t, .pointer (some ⟨bv, 0, none⟩)] w fun e w' => e = .returned (.bool (decide (0 < b.count t))) ∧ w' = w := by
  have HKEY := Lib.hid (int_key h0 h1)
  obtain ⟨z, hz⟩ : ∃ z : Nat, b.count t = z := ⟨_, rfl⟩
  have HZ := Lib.hid hz; have HC := Lib.hid hc
  clear hz hc
  go_enter Try.func119, Try.ntmps119
  go_wp2_with (first | (at_lookup; refine wpList_lookup_own_int _ rfl _ _ 105 rfl 3 3 .i64 int_keyed' Try.underlying105 Try.underlying3 (Try.zeroValue3 _) bm n D rfl hm _ _ rfl HKEY.out ?_; intro cc hat hwc; obtain rfl : cc = (z : Int) := by (rw [HC.out.read hat, HZ.out])))
  go_ret
  rw [HZ.out]
  refine ⟨?_, rfl⟩
  have e : decide ((0 : Int) < ((z : Nat) : Int)) = decide (0 < z) := decide_eq_decide.2 (by omega)
  first | rw [← e]; rfl | rfl | simp [e]


set_option maxRecDepth 100000 in
set_option maxHeartbeats 2000000 in
theorem keepi_any (a b : List Int) (pa : Option Addr) (ca bv bm n : Nat) (D : DM) (w : World) (hA : SI w pa ca a) (hl : a.length ≤ 20000) (hr : ∀ x ∈ a, 0 ≤ x ∧ x < 100000) (hv : w.cell? ⟨bv, 0, none⟩ = some (.map (some bm))) (hm : MapAt w bm n D) (hc : CMap D b) :
    Calls Try.prog 118 #[.slice pa a.length ca, .func (.func 119) #[] #[.pointer (some ⟨bv, 0, none⟩)]] w
      fun e w' => ∃ q cq, e = .returned (.slice q (rInter a b).length cq) ∧ SI w' q cq (rInter a b) ∧ (∀ ad, q = some ad → w.heap.size ≤ ad.block) ∧ Below w.heap.size w w' := by
  obtain ⟨i0, hi0, hz0, hz1, hz2⟩ := info_parts int_info
  have HA := Lib.hid hA; have HR := Lib.hid hr; have HC := Lib.hid hc
  have hbv := World.block_lt_of_cell? _ _ hv
  clear hA hr hc
  obtain ⟨B, hBe⟩ : ∃ B, w.heap.size = B := ⟨_, rfl⟩
  have HBE := Lib.hid hBe
  clear hBe
  go_enter Try.func118, Try.ntmps118
  go_wp2_with fail
  go_loopg [10, 5] a.length (fun M s10 s5 wr => ∃ (K : Nat) (v : Value) (o : List Int), s10 = .int .i64 K ∧ s5 = v ∧ K ≤ a.length ∧ M = a.length - K ∧ rInter (a.take K) b = o ∧ wr.ownsRow B 3 1 v o.length (flat 1 iEnc o) ∧ Below B w wr)
  case atStart => exact ⟨0, _, [], rfl, rfl, by omega, rfl, rfl, World.ownsRow_nil _ _ _ _, Below.refl _ _⟩
  case round =>
    obtain ⟨K, v, o, rfl, hsv, hK, hM, ho, hown, hb⟩ := hrel
    have HM := Lib.hid hM; have HO := Lib.hid hown; have HOO := Lib.hid ho
    have hol : o.length ≤ 20000 := by rw [← ho]; exact Nat.le_trans (rInter_len _ _) (by rw [List.length_take]; omega)
    have hBR : Below w.heap.size w wr := by rw [HBE.out]; exact hb
    have zb := hb.size
    clear hM hown ho
    subst hsv
    by_cases hlt : K < a.length
    case pos =>
      have hlt0 : (0 : Int) ≤ (K : Int) := by omega
      have hlt1 : (K : Int) < (a.length : Int) := by omega
      obtain ⟨t, ht⟩ : ∃ t, a[K]? = some t := ⟨_, List.getElem?_eq_getElem hlt⟩
      obtain ⟨bx, off, rfl, hb1, h0⟩ := int_cell HA.out.at' ht
      replace h0 := oldcell hBR h0 hb1
      have hrt := HR.out t (List.mem_of_getElem? ht)
      have HNX := Lib.hid (rInter_snoc (b := b) ht)
      have hv1 := oldcell hBR hv hbv
      have hm1 := hm.up hBR
      obtain ⟨z, hz⟩ : ∃ z : Bool, (decide (0 < b.count t)) = z := ⟨_, rfl⟩
      have HZ := Lib.hid hz
      clear ht hb1 hz
      cases z
      case false =>
        go_wp2_with (first | (go_at_call 119; refine (inter1_any t bv bm n D b _ hv1 hm1 HC.out hrt.1 hrt.2).mono ?_; rw [HZ.out]; rintro e w' ⟨rfl, hw⟩; replace hw := hw.symm; subst hw))
        go_roundg (a.length - (K + 1))
        case measure => (have := HM.out; omega)
        case rel => exact ⟨K + 1, _, o, by go_num, rfl, by omega, rfl, by rw [HNX.out, HZ.out]; exact HOO.out, HO.out, hb⟩
      case true =>
        go_wp2_with (first | (go_at_call 119; refine (inter1_any t bv bm n D b _ hv1 hm1 HC.out hrt.1 hrt.2).mono ?_; rw [HZ.out]; rintro e w' ⟨rfl, hw⟩; replace hw := hw.symm; subst hw) | (at_builtin; go_must (refine wpList_app2 (enc := iEnc) rfl _ _ _ rfl B 3 i0 _ 8 Try.underlying42 hi0 hz0 hz1 hz2 rfl (by omega) _ o rfl ((HO.out).alloc _) (some ⟨wr.heap.size, 0, none⟩) [t] 1 rfl (fun h => by cases h) (SlAt.int1 (by go_cell)) iEnc_one (by simp [maxLen]; omega) (by simp; omega) (by simp; have := HBE.out; omega) ?_); intro v2 w3 hown2 hgr2 hbl2 hat2; have HOW2 := Lib.hid hown2; have HBL3 := Lib.hid (show Below B wr w3 from (Below.alloc (Below.refl _ _) (by have := HBE.out; omega) _).trans hbl2); clear hown2 hgr2 hbl2 hat2))
        go_roundg (a.length - (K + 1))
        case measure => (have := HM.out; omega)
        case rel => exact ⟨K + 1, _, o ++ [t], by go_num, rfl, by omega, rfl, by rw [HNX.out, HZ.out, if_pos rfl, HOO.out], HOW2.out, hb.trans HBL3.out⟩
    case neg =>
      obtain rfl : K = a.length := by omega
      have ho := HOO.out
      rw [List.take_length] at ho
      obtain ⟨q, cq, hvq, o1, o2, o3, o4⟩ := owns_val (by decide) HO.out
      subst hvq
      have hlt2 := HO.out.lt
      have HOF := Lib.hid ho; have O3 := Lib.hid o3; have O4 := Lib.hid o4; have HLT := Lib.hid hlt2
      clear ho o3 o4 hlt2
      go_wp2_with fail
      go_ret
      rw [HOF.out]
      exact ⟨q, cq, rfl, ⟨o1, o2, O3.out, O4.out, fun ad h => (HLT.out ad.block (by rw [h]; rfl)).2⟩, fun ad h => by rw [HBE.out]; exact (HLT.out ad.block (by rw [h]; rfl)).1, hBR⟩

set_option maxRecDepth 100000 in
set_option maxHeartbeats 4000000 in
theorem relinter_any (a b : List Int) (ar1 ar2 : Int) (pa pb : Option Addr) (ca cb : Nat) (w : World) (hA : SI w pa ca a) (hD : SI w pb cb b) (hla : a.length ≤ 20000) (hlb : b.length ≤ 20000) (ha : ∀ x ∈ a, 0 ≤ x ∧ x < 100000) (hb : ∀ x ∈ b, 0 ≤ x ∧ x < 100000) :
    Calls Try.prog 65 #[.agg #[.int .i64 ar1, .slice pa a.length ca], .agg #[.int .i64 ar2, .slice pb b.length cb]] w (RetR w ar1 (rInter a b)) := by
 obtain ⟨s, hs0⟩ : ∃ s, w.heap.size = s := ⟨_, rfl⟩
 obtain ⟨W2, hW2⟩ : ∃ W2, W2 = (((w.alloc (.cells #[.int .i64 ar1, .slice pa a.length ca] 44)).alloc (.cells #[.int .i64 ar2, .slice pb b.length cb] 44)).alloc (.cells #[.int .i64 0, .slice none 0 0] 44)) := ⟨_, rfl⟩
 have hbw : Below w.heap.size w W2 := by rw [hW2]; go_grown
 have zz : s + 3 ≤ W2.heap.size := by rw [hW2, ← hs0]; simp
 have hs : Cells W2 [(s + 2, 0, .int .i64 0), (s + 2, 1, .slice none 0 0)] := by rw [hW2, ← hs0]; exact ⟨⟨by go_cell, by go_cell⟩, ⟨by go_cell, by go_cell⟩, trivial⟩
 have hk : Cells W2 [(s, 0, .int .i64 ar1), (s, 1, .slice pa a.length ca), (s + 1, 0, .int .i64 ar2), (s + 1, 1, .slice pb b.length cb)] := by rw [hW2, ← hs0]; exact ⟨⟨by go_cell, by go_cell⟩, ⟨by go_cell, by go_cell⟩, ⟨by go_cell, by go_cell⟩, ⟨by go_cell, by go_cell⟩, trivial⟩
 have HW2 := Lib.hid hW2; have HS := Lib.hid hs0
 clear hW2 hs0
 have HA := Lib.hid hA; have HD := Lib.hid hD; have HRA := Lib.hid ha; have HRB := Lib.hid hb
 clear hA hD ha hb
 go_enter Try.func65, Try.ntmps65
 go_upto_region 1 with fail
 rw [← HW2.out]
 simp only [HS.out, Nat.add_assoc, Nat.reduceAdd]
 obtain ⟨⟨y20, y20f⟩, ⟨y21, y21f⟩, -⟩ := id hs
 obtain ⟨⟨y00, y00f⟩, ⟨y01, y01f⟩, ⟨y10, y10f⟩, ⟨y11, y11f⟩, -⟩ := id hk
 go_upto_region 2 with (first | (go_at_call 116; refine (set_any b ar2 pb cb W2 (HD.out.up hbw) hlb HRB.out).mono ?_; rintro e w3 ⟨bm, D, nn, rfl, hmp, hcm, hbm, hb3⟩))
 obtain ⟨bv, hbv⟩ : ∃ x, x = w3.heap.size := ⟨_, rfl⟩
 obtain ⟨w4, hw4⟩ : ∃ x, x = w3.alloc (.cells #[.map (some bm)] 105) := ⟨_, rfl⟩
 rw [← hw4, ← hbv]
 have hb4 : Below W2.heap.size W2 w4 := by rw [hw4]; exact bal hb3 _
 have v0 : w4.cell? ⟨bv, 0, none⟩ = some (.map (some bm)) := by rw [hw4, hbv]; go_cell
 replace hmp : MapAt w4 bm nn D := by rw [hw4]; exact World.ownsMap.alloc hmp _
 have HCM := Lib.hid hcm
 clear hw4 hbv hcm hbm hb3
 replace hs := hs.up hb4; replace hk := hk.up hb4; replace hbw := btr hbw hb4; replace zz := Nat.le_trans zz (Below.size hb4); clear hb4
 clear y20 y20f y21 y21f y00 y00f y01 y01f y10 y10f y11 y11f
 replace hmp : MapAt w4 bm nn D := hmp
 refine wp_region_seqE (fun x => Below w4.heap.size w4 x) (.one 0 1 (.one 1 0 (.one 2 1 (.one 3 0 (.one 4 1 (.alt 5 2 (.one 6 1 (.alt 7 3 .nil .stop)) .stop)))))) (by kernel_rfl) (by kernel_rfl) (by kernel_rfl) (Below.drew (Below.refl _ _)) ?_
 iterate 5 (first | (refine seqE_free (v := ?_) rfl (by rfl) ?_ ?_; rotate_left; (focus (intro w; go_simp; try with_reducible rfl)); (try simp only [Act.put, List.setIfInBounds_toArray, List.set_cons_zero, List.set_cons_succ])) | (refine seqE_pure (v := ?_) rfl (by rfl) ?_ ?_; rotate_left; (focus (intro w hS; obtain ⟨⟨y00, -⟩, ⟨y01, -⟩, -⟩ := hk.up hS; go_simp; try with_reducible rfl)); (try simp only [Act.put, List.setIfInBounds_toArray, List.set_cons_zero, List.set_cons_succ])))
 refine seqE_call (f := ?_) (args := ?_) rfl (by rfl) ?_ ?_ seqE_stop
 rotate_left 2
 focus (intro w hS; go_simp; first | done | with_reducible rfl | (refine ⟨?_, ?_⟩ <;> with_reducible rfl))
 intro w1 hS
 refine (keepi_any a b pa ca bv bm nn D w1 (HA.out.up (btr hbw hS)) hla HRA.out (oldcell hS v0 (World.block_lt_of_cell? _ _ v0)) (hmp.up hS) HCM.out).mono ?_
 rintro e v1 ⟨q, cq, rfl, hR, hqn, hbl⟩
 refine ⟨_, rfl, (fun x => Below v1.heap.size v1 x), Below.refl _ _, fun x hx => btr (btr hS hbl) hx, ?_⟩
 have hXw := Nat.le_trans zz hS.size
 have hX := btr hS hbl
 replace hs := hs.up hX; replace hk := hk.up hX; replace hbw := btr hbw hX; replace zz := Nat.le_trans zz (Below.size hX)
 have oR : ∀ ad, q = some ad → s + 2 ≠ ad.block := fun ad h e => by have h1 := hqn ad h; have h2 := hXw; omega
 clear hqn
 clear hX hS hbl hXw
 (try simp only [Act.put, List.setIfInBounds_toArray, List.set_cons_zero, List.set_cons_succ])
 iterate 1 (refine seqE_free (v := ?_) rfl (by rfl) ?_ ?_; rotate_left; (focus (intro w; go_simp; try with_reducible rfl)); (try simp only [Act.put, List.setIfInBounds_toArray, List.set_cons_zero, List.set_cons_succ]))
 refine seqE_storeB rfl (by rfl) ?_ seqE_stop
 intro w2 hS
 replace hs := hs.up hS; replace hk := hk.up hS; replace hR := hR.up hS; replace hbw := btr hbw hS; replace zz := Nat.le_trans zz (Below.size hS)
 obtain ⟨⟨y20, y20f⟩, ⟨y21, y21f⟩, -⟩ := id hs
 obtain ⟨⟨y00, y00f⟩, ⟨y01, y01f⟩, ⟨y10, y10f⟩, ⟨y11, y11f⟩, -⟩ := id hk
 refine ⟨((w2.setCell ⟨s + 2, 0, none⟩ (.int .i64 ar1)).setCell ⟨s + 2, 1, none⟩ (.slice q (rInter a b).length cq)), (by go_simp; try with_reducible rfl), (fun x => Below (((w2.setCell ⟨s + 2, 0, none⟩ (.int .i64 ar1)).setCell ⟨s + 2, 1, none⟩ (.slice q (rInter a b).length cq))).heap.size (((w2.setCell ⟨s + 2, 0, none⟩ (.int .i64 ar1)).setCell ⟨s + 2, 1, none⟩ (.slice q (rInter a b).length cq))) x), Below.refl _ _, ?_⟩
 obtain ⟨v2, hw⟩ : ∃ zW, zW = ((w2.setCell ⟨s + 2, 0, none⟩ (.int .i64 ar1)).setCell ⟨s + 2, 1, none⟩ (.slice q (rInter a b).length cq)) := ⟨_, rfl⟩
 rw [← hw]
 replace hs : Cells v2 [(s + 2, 0, .int .i64 ar1), (s + 2, 1, .slice q (rInter a b).length cq)] := by rw [hw]; exact ⟨⟨by go_cell, (fz (fz y20f))⟩, ⟨by go_cell, (fz (fz y21f))⟩, trivial⟩
 replace hk : Cells v2 [(s, 0, .int .i64 ar1), (s, 1, .slice pa a.length ca), (s + 1, 0, .int .i64 ar2), (s + 1, 1, .slice pb b.length cb)] := by rw [hw]; exact ((hk.far (by simp <;> omega)).far (by simp <;> omega))
 replace hR : SI v2 q cq (rInter a b) := by rw [hw]; exact ((hR.set (oR) _).set (oR) _)
 replace hbw : Below w.heap.size w v2 := by rw [hw]; exact (Below.setCell (Below.setCell hbw (by have h := HS.out; (try dsimp only); omega) _) (by have h := HS.out; (try dsimp only); omega) _)
 replace zz : s + 3 ≤ v2.heap.size := by rw [hw]; simpa using zz
 clear hw
 clear y20 y20f y21 y21f y00 y00f y01 y01f y10 y10f y11 y11f
 clear hS
 (try simp only [Act.put, List.setIfInBounds_toArray, List.set_cons_zero, List.set_cons_succ])
 refine seqE_nil ?_
 intro wz hS
 replace hs := hs.up hS; replace hk := hk.up hS; replace hR := hR.up hS; replace hbw := btr hbw hS; replace zz := Nat.le_trans zz (Below.size hS); clear hS
 obtain ⟨⟨y20, y20f⟩, ⟨y21, y21f⟩, -⟩ := id hs
 obtain ⟨⟨y00, y00f⟩, ⟨y01, y01f⟩, ⟨y10, y10f⟩, ⟨y11, y11f⟩, -⟩ := id hk
 go_wp2_with fail
 refine bodyPost_ret (by simp [results, Try.results65, go_sem, y20, y21]; try rfl) rfl ?_
 exact ⟨_, _, rfl, hR, hbw⟩

set_option maxRecDepth 100000 in
set_option maxHeartbeats 2000000 in
theorem reliden_any (n : Nat) (w : World) (hn : n ≤ 12) :
    Calls Try.prog 66 #[.int .i64 n] w (RetR w 2 (idl n n)) := by
  obtain ⟨i0, hi0, hz0, hz1, hz2⟩ := info_parts int_info
  obtain ⟨s, hs0⟩ : ∃ s, w.heap.size = s := ⟨_, rfl⟩
  obtain ⟨W2, hW2⟩ : ∃ x, x = (w.alloc (.cells #[.int .i64 0, .slice none 0 0] 44)).alloc (.cells #[.int .i64 2, .slice none 0 0] 44) := ⟨_, rfl⟩
  have hB2 : Below w.heap.size w W2 := by rw [hW2]; go_grown
  have z2 : W2.heap.size = s + 2 := by rw [hW2, ← hs0]; simp
  have r0 : W2.cell? ⟨s, 0, none⟩ = some (.int .i64 0) := by rw [hW2, ← hs0]; go_cell
  have r1 : W2.cell? ⟨s, 1, none⟩ = some (.slice none 0 0) := by rw [hW2, ← hs0]; go_cell
  have r0f : W2.frozen? ⟨s, 0, none⟩ = false := by rw [hW2, ← hs0]; go_cell
  have r1f : W2.frozen? ⟨s, 1, none⟩ = false := by rw [hW2, ← hs0]; go_cell
  have c0 : W2.cell? ⟨s + 1, 0, none⟩ = some (.int .i64 2) := by rw [hW2, ← hs0]; go_cell
  have c1 : W2.cell? ⟨s + 1, 1, none⟩ = some (.slice none 0 0) := by rw [hW2, ← hs0]; go_cell
  have c0f : W2.frozen? ⟨s + 1, 0, none⟩ = false := by rw [hW2, ← hs0]; go_cell
  have c1f : W2.frozen? ⟨s + 1, 1, none⟩ = false := by rw [hW2, ← hs0]; go_cell
  have HW2 := Lib.hid hW2; have HS := Lib.hid hs0; have HB2 := Lib.hid hB2
  clear hW2 hs0 hB2
  go_enter Try.func66, Try.ntmps66
  go_upto_region 2 with fail
  rw [← HW2.out]
  simp only [HS.out, Nat.add_assoc, Nat.reduceAdd]
  go_wp2_with fail
  go_loopg [7] n (fun M s7 wr => ∃ (K : Nat) (v : Value), s7 = .int .i64 K ∧ K ≤ n ∧ M = n - K ∧ wr.cell? ⟨s + 1, 0, none⟩ = some (.int .i64 2) ∧ wr.cell? ⟨s + 1, 1, none⟩ = some v ∧ wr.frozen? ⟨s + 1, 0, none⟩ = false ∧ wr.frozen? ⟨s + 1, 1, none⟩ = false ∧ OwnR wr (s + 2) v (idl n K) ∧ KeepX [s + 1] W2 wr)
  case atStart => exact ⟨0, _, rfl, by omega, rfl, c0, c1, c0f, c1f, World.ownsRow_nil _ _ _ _, KeepX.refl _ _⟩
  case round =>
    clear c0 c1 c0f c1f
    obtain ⟨K, v, rfl, hK, hM, c0, c1, c0f, c1f, hown, hkx⟩ := hrel
    have HM := Lib.hid hM; have HO := Lib.hid hown
    have hsz := hkx.size
    clear hM hown
    by_cases hlt : K < n
    case pos =>
      have hlt1 : (K : Int) < (n : Int) := by omega
      obtain ⟨z, hz⟩ : ∃ z : Nat, K * n = z := ⟨_, rfl⟩
      have hz1' : z ≤ 144 := by rw [← hz]; exact Nat.mul_le_mul (show K ≤ 12 by omega) hn
      have hm : (K : Int) * (n : Int) = (z : Int) := by rw [← hz]; simp
      have hwz : IntKind.i64.wrap ((K : Int) * (n : Int)) = (z : Int) := by rw [hm, IntWalk.i64_in]; omega
      obtain ⟨y, hy⟩ : ∃ y : Nat, z + K = y := ⟨_, rfl⟩
      have hy1 : (z : Int) + (K : Int) = (y : Int) := by omega
      have hwy : IntKind.i64.wrap ((z : Int) + (K : Int)) = (y : Int) := by rw [hy1, IntWalk.i64_in]; omega
      have HNX := Lib.hid (show idl n (K + 1) = idl n K ++ [(y : Int)] by rw [idl_snoc, hz, hy])
      have hsb : s + 1 < wr.heap.size := by omega
      have hlen := idl_len n K
      clear hz hm hy hy1
      go_wp2_with (first | (at_builtin; go_must (refine wpList_app2 (enc := iEnc) rfl _ _ _ rfl (s + 2) 3 i0 _ 8 Try.underlying42 hi0 hz0 hz1 hz2 rfl (by omega) v (idl n K) rfl (World.ownsRow.alloc HO.out _) (some ⟨wr.heap.size, 0, none⟩) [(y : Int)] 1 rfl (fun h => by cases h) (SlAt.int1 (by go_cell)) iEnc_one (by simp [maxLen, hlen]; omega) (by simp [hlen]; omega) (by simp; omega) ?_); intro v2 w3 hown2 hgr2 hbl2 hat2; obtain ⟨q2, cq2, rfl, o1, o2, o3, o4⟩ := owns_val (by decide) hown2; clear o1 o2 o3 o4; have d0 := oldcell hbl2 (keep_alloc c0) (by simp); have d1 := oldcell hbl2 (keep_alloc c1) (by simp); have d0f := oldfree hbl2 (free_alloc c0f hsb) (by simp); have d1f := oldfree hbl2 (free_alloc c1f hsb) (by simp); have HOW2 := Lib.hid hown2; have HGR2 := Lib.hid hgr2; clear hown2 hgr2 hat2))
      have hk3 : KeepX (rowOf v) wr w3 := (KeepX.of_below (Below.alloc (Below.refl _ _) (Nat.le_refl _) _)).trans (KeepX.of_grown HGR2.out fun g hg => mem_rowOf hg)
      obtain ⟨W9, hW9⟩ : ∃ W9, W9 = w3.setCell ⟨s + 1, 1, none⟩ (.slice q2 (idl n K ++ [(y : Int)]).length cq2) := ⟨_, rfl⟩
      have e0 : W9.cell? ⟨s + 1, 0, none⟩ = some (.int .i64 2) := by rw [hW9]; go_cell
      have e1 : W9.cell? ⟨s + 1, 1, none⟩ = some (.slice q2 (idl n K ++ [(y : Int)]).length cq2) := by rw [hW9]; go_cell
      have e0f : W9.frozen? ⟨s + 1, 0, none⟩ = false := by rw [hW9, World.frozen?_setCell]; exact d0f
      have e1f : W9.frozen? ⟨s + 1, 1, none⟩ = false := by rw [hW9, World.frozen?_setCell]; exact d1f
      have ho9 : OwnR W9 (s + 2) (.slice q2 (idl n K ++ [(y : Int)]).length cq2) (idl n K ++ [(y : Int)]) := by
        rw [hW9]
        exact OwnR.keep (X := [s + 1]) (w := w3) HOW2.out ((KeepX.refl [s + 1] w3).setCell (by simp) _) (fun k hk hm => by have := (World.ownsRow.lt HOW2.out k hk).1; rw [List.mem_singleton.1 hm] at this; omega)
      have hk9 : KeepX [s + 1] W2 W9 := by
        rw [hW9]
        refine (((hkx.sub (Y := (s + 1) :: rowOf v) (by simp)).trans (hk3.sub fun k hk => List.mem_cons_of_mem _ hk)).setCell (by simp) _).fresh fun k hk => ?_
        rcases List.mem_cons.1 hk with e | e
        · exact .inl (by rw [e]; simp)
        · exact .inr (by rw [z2]; exact (HO.out.lt k (rowOf_mem e)).1)
      have hl9 : (idl n K ++ [(y : Int)]).length = K + 1 := by simp [hlen]
      rw [hl9] at hW9 e1 ho9
      rw [← hW9]
      clear hW9 hk3 d0 d1 d0f d1f
      go_roundg (n - (K + 1))
      case measure => (have := HM.out; omega)
      case rel => exact ⟨K + 1, _, by go_num, by omega, rfl, e0, e1, e0f, e1f, by rw [HNX.out]; exact ho9, hk9⟩
    case neg =>
      obtain rfl : K = n := by omega
      obtain ⟨q2, cq2, rfl, o1, o2, o3, o4⟩ := owns_val (by decide) HO.out
      have s0 := hkx.cell r0 (by simp); have s1 := hkx.cell r1 (by simp); have s0f := hkx.free r0f (by omega) (by simp); have s1f := hkx.free r1f (by omega) (by simp)
      have hR : SI wr q2 cq2 (idl K K) := ⟨o1, o2, o3, o4, fun a h => (HO.out.lt a.block (by rw [h]; rfl)).2⟩
      have hq2 : ∀ ad, q2 = some ad → s ≠ ad.block := fun ad h e => by have := (HO.out.lt ad.block (by rw [h]; rfl)).1; omega
      have HR := Lib.hid hR
      clear o1 o2 o3 o4 r0 r1 r0f r1f hR
      go_wp2_with fail
      obtain ⟨W9, hW9⟩ : ∃ W9, W9 = (wr.setCell ⟨s, 0, none⟩ (.int .i64 2)).setCell ⟨s, 1, none⟩ (.slice q2 (idl K K).length cq2) := ⟨_, rfl⟩
      rw [← hW9]
      have e0 : W9.cell? ⟨s, 0, none⟩ = some (.int .i64 2) := by rw [hW9]; go_cell
      have e1 : W9.cell? ⟨s, 1, none⟩ = some (.slice q2 (idl K K).length cq2) := by rw [hW9]; go_cell
      have hR9 : SI W9 q2 cq2 (idl K K) := by rw [hW9]; exact (HR.out.set hq2 _).set hq2 _
      have hb9 : Below w.heap.size w W9 := by
        rw [hW9]
        exact Below.setCell (Below.setCell (KeepX.below' HB2.out hkx HB2.out.size (by have := HS.out; simp; omega)) (by have h := HS.out; (try dsimp only); omega) _) (by have h := HS.out; (try dsimp only); omega) _
      clear hW9
      refine bodyPost_ret (by simp [results, Try.results66, go_sem, e0, e1]; try rfl) rfl ?_
      exact ⟨_, _, rfl, hR9, hb9⟩
end Go.Proofs.Ytadilppdlbhjnaa

namespace Go.Proofs.Ytadilppdlbhjnaa
set_option linter.unusedSimpArgs false
set_option linter.unusedVariables false
open Go.RowKit Go.Maps

/-- the row after K rounds -/
def trRow (n : Int) (a : List Int) (K : Nat) : List Int := (a.take K).map (trF n) ++ List.replicate (a.length - K) 0
theorem trRow_at {n : Int} {a : List Int} {K : Nat} (h : K < a.length) : (trRow n a K)[K]? = some 0 := by
  unfold trRow
  rw [List.getElem?_append_right (by simp; omega), List.length_map, List.length_take, Nat.min_eq_left (by omega), Nat.sub_self, List.getElem?_replicate, if_pos (by omega)]
theorem trRow_set {n : Int} {a : List Int} {K : Nat} {t : Int} (h : a[K]? = some t) : (trRow n a K).set K (trF n t) = trRow n a (K + 1) := by
  obtain ⟨h1, h2⟩ := List.getElem?_eq_some_iff.1 h
  unfold trRow
  rw [List.set_append_right _ _ (by simp; omega), List.length_map, List.length_take, Nat.min_eq_left (by omega), Nat.sub_self, List.take_succ_eq_append_getElem h1, h2, List.map_append, List.append_assoc]
  congr 1
  obtain ⟨d, hd⟩ : ∃ d, a.length - K = d + 1 := ⟨a.length - K - 1, by omega⟩
  rw [hd, show a.length - (K + 1) = d by omega, List.replicate_succ]
  rfl
theorem trRow_all {n : Int} {a : List Int} : trRow n a a.length = a.map (trF n) := by unfold trRow; simp
theorem trRow_len {n : Int} {a : List Int} {K : Nat} (h : K ≤ a.length) : (trRow n a K).length = a.length := by unfold trRow; simp; omega

set_option maxRecDepth 100000 in
set_option maxHeartbeats 4000000 in
theorem reltrans_any (n : Nat) (a : List Int) (ar : Int) (pa : Option Addr) (ca : Nat) (w : World) (hA : SI w pa ca a) (hla : a.length ≤ 100) (hra : ∀ x ∈ a, 0 ≤ x ∧ x < 2000) (hn0 : 0 < n) (hn : n ≤ 12) :
    Calls Try.prog 74 #[.int .i64 n, .agg #[.int .i64 ar, .slice pa a.length ca]] w (RetRF w 2 (rTr n a)) := by
  obtain ⟨i0, hi0, hz0, hz1, hz2⟩ := info_parts int_info
  obtain ⟨s, hs0⟩ : ∃ s, w.heap.size = s := ⟨_, rfl⟩
  obtain ⟨W2, hW2⟩ : ∃ x, x = (w.alloc (.cells #[.int .i64 ar, .slice pa a.length ca] 44)).alloc (.cells #[.int .i64 0, .slice none 0 0] 44) := ⟨_, rfl⟩
  have hB2 : Below w.heap.size w W2 := by rw [hW2]; go_grown
  have z2 : W2.heap.size = s + 2 := by rw [hW2, ← hs0]; simp
  have y1 : W2.cell? ⟨s, 1, none⟩ = some (.slice pa a.length ca) := by rw [hW2, ← hs0]; go_cell
  have r0 : W2.cell? ⟨s + 1, 0, none⟩ = some (.int .i64 0) := by rw [hW2, ← hs0]; go_cell
  have r1 : W2.cell? ⟨s + 1, 1, none⟩ = some (.slice none 0 0) := by rw [hW2, ← hs0]; go_cell
  have r0f : W2.frozen? ⟨s + 1, 0, none⟩ = false := by rw [hW2, ← hs0]; go_cell
  have r1f : W2.frozen? ⟨s + 1, 1, none⟩ = false := by rw [hW2, ← hs0]; go_cell
  have HA := Lib.hid hA; have HW2 := Lib.hid hW2; have HS := Lib.hid hs0; have HB2 := Lib.hid hB2; have HRA := Lib.hid hra
  clear hA hW2 hs0 hB2 hra
  go_enter Try.func74, Try.ntmps74
  go_upto_region 1 with fail
  rw [← HW2.out]
  simp only [HS.out, Nat.add_assoc, Nat.reduceAdd]
  go_wp2_with fail
  have hr := run_make_full (P := Try.prog) W2 W2.heap.size 42 3 i0 (.int .i64 0) 1 Try.underlying42 hi0 hz0 hz1 .i64 .i64 a.length (by rw [hz2]; omega) (by simp [maxLen]; omega) (by simp)
  obtain ⟨w5, hrun, hown, hgr⟩ := hr
  rw [hrun]
  rw [z2] at hown ⊢
  have HO0 := Lib.hid (show OwnI w5 (s + 2) (s + 2) a.length a.length (trRow n a 0) from ⟨trRow_len (Nat.zero_le _), by
    unfold trRow
    rw [List.take_zero, List.map_nil, List.nil_append, Nat.sub_zero, flat1, List.map_replicate]
    have e := toList_madeCells_one (.int .i64 0) a.length
    rw [show (Value.int IntKind.i64 0).cells = #[.int .i64 0] from rfl, Nat.mul_one, e] at hown
    exact hown⟩)
  have hbl : Below W2.heap.size W2 w5 := Below.grown (Below.refl _ _) hgr (by simp) (fun k hk => by cases hk)
  have z5 : s + 2 < w5.heap.size := HO0.out.lt.2
  replace y1 := oldcell hbl y1 (by omega); replace r0 := oldcell hbl r0 (by omega); replace r1 := oldcell hbl r1 (by omega); replace r0f := oldfree hbl r0f (by omega); replace r1f := oldfree hbl r1f (by omega)
  have HB5 := Lib.hid (btr HB2.out hbl)
  clear hrun hown hgr hbl
  go_wp2_with fail
  go_loopg [15] a.length (fun M s15 wr => ∃ K : Nat, s15 = .int .i64 K ∧ K ≤ a.length ∧ M = a.length - K ∧ OwnI wr (s + 2) (s + 2) a.length a.length (trRow n a K) ∧ KeepX [s + 2] w5 wr)
  case atStart => exact ⟨0, rfl, by omega, rfl, HO0.out, KeepX.refl _ _⟩
  case round =>
    clear HO0
    obtain ⟨K, rfl, hK, hM, hO, hkx⟩ := hrel
    have HM := Lib.hid hM; have HO := Lib.hid hO
    have hsz := hkx.size
    clear hM hO
    have hbr : Below w.heap.size w wr := KeepX.below' HB5.out hkx HB5.out.size (by have := HS.out; simp; omega)
    by_cases hlt : K < a.length
    case pos =>
      have hlt0 : (0 : Int) ≤ (K : Int) := by omega
      have hlt1 : (K : Int) < (a.length : Int) := by omega
      obtain ⟨t, ht⟩ : ∃ t, a[K]? = some t := ⟨_, List.getElem?_eq_getElem hlt⟩
      obtain ⟨bx, off, rfl, hbx, h0⟩ := int_cell HA.out.at' ht
      replace h0 := oldcell hbr h0 hbx
      have hrt := HRA.out t (List.mem_of_getElem? ht)
      obtain ⟨a1, a2, a3, a4, a5, a6, a7⟩ := quo_rem (x := t) (n := n) hrt.1 (by omega) hn0
      obtain ⟨qq, hqq⟩ : ∃ z, t / (n : Int) = z := ⟨_, rfl⟩
      obtain ⟨rr, hrr⟩ : ∃ z, t % (n : Int) = z := ⟨_, rfl⟩
      rw [hqq] at a1 a4 a5; rw [hrr] at a2 a3 a6 a7
      have hm1 : 0 ≤ rr * (n : Int) := Int.mul_nonneg a6 (by omega)
      have hm2 : rr * (n : Int) ≤ 2000 * 12 := Int.mul_le_mul (by omega) (by omega) (by omega) (by omega)
      obtain ⟨mq, hmq⟩ : ∃ z, rr * (n : Int) = z := ⟨_, rfl⟩
      rw [hmq] at hm1 hm2
      have hwm : IntKind.i64.wrap (rr * (n : Int)) = mq := by rw [hmq, IntWalk.i64_in]; omega
      obtain ⟨v, hv⟩ : ∃ z, mq + qq = z := ⟨_, rfl⟩
      have hwv : IntKind.i64.wrap (mq + qq) = v := by rw [hv, IntWalk.i64_in]; omega
      have HV := Lib.hid (show trF n t = v by unfold trF; rw [hqq, hrr, hmq, hv])
      have HT := Lib.hid ht
      have hn00 : ¬ n = 0 := by omega
      have jr : wr.cell? ⟨s + 2, K, none⟩ = some (.int .i64 0) := HO.out.get (trRow_at hlt)
      have jf := HO.out.free K
      clear ht hbx hqq hrr hmq hv
      go_wp2_with fail
      go_region
      go_wp2_with fail
      have HO2 := Lib.hid (show OwnI (wr.setCell ⟨s + 2, K, none⟩ (.int .i64 v)) (s + 2) (s + 2) a.length a.length (trRow n a (K + 1)) by rw [← trRow_set HT.out, HV.out]; exact HO.out.put K v)
      have hd : Below (wr.setCell ⟨s + 2, K, none⟩ (.int .i64 v)).heap.size (wr.setCell ⟨s + 2, K, none⟩ (.int .i64 v)) (wr.setCell ⟨s + 2, K, none⟩ (.int .i64 v)).drew := Below.drew (Below.refl _ _)
      go_roundg (a.length - (K + 1))
      case measure => (have := HM.out; omega)
      case rel => exact ⟨K + 1, by go_num, by omega, rfl, HO2.out.up hd, (hkx.setCell (by simp) _).upB hd⟩
    case neg =>
      obtain rfl : K = a.length := by omega
      have hown : OwnR wr (s + 2) (.slice (some ⟨s + 2, 0, none⟩) (a.map (trF n)).length a.length) (a.map (trF n)) := by
        have h := HO.out.2
        rw [trRow_all] at h
        unfold OwnR
        rw [List.length_map]; exact h
      rw [List.length_map] at hown
      have HW := Lib.hid hown
      have s0 := hkx.cell r0 (by simp); have s1 := hkx.cell r1 (by simp); have s0f := hkx.free r0f (by omega) (by simp); have s1f := hkx.free r1f (by omega) (by simp)
      have hrow : rowOf (Value.slice (some ⟨s + 2, 0, none⟩) a.length a.length) = [s + 2] := rfl
      clear hown r0 r1 r0f r1f
      go_wp2_with (first | (go_at_call 113; refine (sorted_any (a.map (trF n)) 2 _ (s + 2) wr HW.out (by simp; omega)).mono ?_; rintro e w5 ⟨q, cq, rfl, hR, hqv, hkx2⟩; rw [hrow] at hkx2; have t0 := hkx2.cell s0 (by simp); have t1 := hkx2.cell s1 (by simp); have t0f := hkx2.free s0f (by omega) (by simp); have t1f := hkx2.free s1f (by omega) (by simp); clear s0 s1 s0f s1f; have HR := Lib.hid hR; have HQV := Lib.hid hqv; have HKX := Lib.hid hkx2; clear hR hqv hkx2))
      obtain ⟨W9, hW9⟩ : ∃ W9, W9 = (w5.setCell ⟨s + 1, 0, none⟩ (.int .i64 2)).setCell ⟨s + 1, 1, none⟩ (.slice q (nrm (a.map (trF n))).length cq) := ⟨_, rfl⟩
      rw [← hW9]
      have e0 : W9.cell? ⟨s + 1, 0, none⟩ = some (.int .i64 2) := by rw [hW9]; go_cell
      have e1 : W9.cell? ⟨s + 1, 1, none⟩ = some (.slice q (nrm (a.map (trF n))).length cq) := by rw [hW9]; go_cell
      have hqb : ∀ ad, q = some ad → ad.block = s + 2 := fun ad h => by have := HQV.out ad h; simp [Value.ownBlock] at this; exact this.symm
      have hR9 : SI W9 q cq (nrm (a.map (trF n))) := by rw [hW9]; exact (HR.out.set (fun ad h e => by have := hqb ad h; omega) _).set (fun ad h e => by have := hqb ad h; omega) _
      have hb9 : Below w.heap.size w W9 := by
        rw [hW9]
        exact Below.setCell (Below.setCell (KeepX.below' hbr HKX.out hbr.size (by have := HS.out; simp; omega)) (by have h := HS.out; (try dsimp only); omega) _) (by have h := HS.out; (try dsimp only); omega) _
      clear hW9
      refine bodyPost_ret (by simp [results, Try.results74, go_sem, e0, e1]; try rfl) rfl ?_
      exact ⟨q, cq, rfl, hR9, fun ad h => by have h1 := hqb ad h; have h2 := HS.out; omega, hb9⟩
end Go.Proofs.Ytadilppdlbhjnaa

namespace Go.Proofs.Ytadilppdlbhjnaa
set_option linter.unusedSimpArgs false
set_option linter.unusedVariables false
open Go.RowKit Go.Sort Go.Lib

/-- a cell with a modest rank -/
abbrev BCell := { x : Cell // 0 ≤ x.rank ∧ x.rank < 1000000 }
instance : Inhabited BCell := ⟨⟨⟨0, 0⟩, by decide⟩⟩
def bEncL (x : BCell) : List Value := [.int .i64 x.1.rank, .int .i64 x.1.ref]
def bCmp (x y : BCell) : Int := x.1.rank - y.1.rank

set_option maxHeartbeats 1000000 in
theorem tcmp_any (x y : BCell) (W : World) : Calls Try.prog 124 #[.agg #[.int .i64 x.1.rank, .int .i64 x.1.ref], .agg #[.int .i64 y.1.rank, .int .i64 y.1.ref]] W fun e w' => e = .returned (.int .i64 (bCmp x y)) ∧ ∃ q os', w' = grow (W.drewN q) os' := by
  obtain ⟨⟨xr, xf⟩, x0, x1⟩ := x
  obtain ⟨⟨yr, yf⟩, y0, y1⟩ := y
  dsimp only at x0 x1 y0 y1
  have hw : IntKind.i64.wrap (xr - yr) = xr - yr := by rw [IntWalk.i64_in]; omega
  have hw2 : wrap64 (xr - yr) = xr - yr := by unfold wrap64; omega
  show Calls _ _ #[.agg #[.int .i64 xr, .int .i64 xf], .agg #[.int .i64 yr, .int .i64 yf]] W fun e w' => e = .returned (.int .i64 (xr - yr)) ∧ _
  obtain ⟨z, hz⟩ : ∃ z, xr - yr = z := ⟨_, rfl⟩
  rw [hz] at hw hw2 ⊢
  rw [← hz] at hw hw2
  go_enter Try.func124, Try.ntmps124
  go_wp2_with fail
  go_ret
  exact ⟨rfl, 0, _, by rw [alloc_eq_grow, alloc_eq_grow, grow_grow]; rfl⟩
theorem tcmp_lays (blk off size : Nat) (w : World) : CmpLays Try.prog 124 #[] bEncL 2 bCmp blk off size w :=
  fun _ _ _ _ x y => tcmp_any x y _
theorem tlen_any (n : Nat) (W : World) (h : n ≤ 12) : Calls Try.prog 139 #[.int .u64 n] W fun e w' => (∃ l : Int, e = .returned (.int .i64 l)) ∧ w' = W :=
  (Try.bits_Len n W (by omega) (by omega)).mono fun _ _ ⟨he, hw⟩ => ⟨⟨_, he⟩, hw⟩
theorem bCmp_swo : SWO (ltOf bCmp) := by
  refine ⟨fun x => ?_, fun x y z h1 h2 => ?_, fun x y z h1 h2 => ?_⟩
  · unfold ltOf bCmp; simp
  · unfold ltOf bCmp at *; simp at *; omega
  · unfold ltOf bCmp at *; simp at *; omega
theorem tsort_any (blk off cap : Nat) (d : Array BCell) (w : World) (hH : HoldsK bEncL 2 w blk off d) (hblk : blk < w.heap.size) (h12 : d.size ≤ 12) :
    Calls Try.prog 123 #[.slice (some ⟨blk, off, none⟩) d.size cap, .func (.func 124) #[] #[]] w fun e w' => e = .returned (.tuple #[]) ∧ ∃ d' n os, PermIn 0 d.size d d' ∧ SortedIn (ltOf bCmp) 0 d.size d' ∧ w' = sortWorldK bEncL 2 w blk off n d' os := by
  have eg : ∀ args w, (callFunc 124 args).run Try.prog w = .ok (.enter 124 args) w := enters_of Try.func124 (by kernel_rfl) rfl
  exact AnyQ.slices_SortFunc_small_sorted Try.sortCells 2 Try.isAgg76 Try.sizeOf76 bEncL (fun _ => rfl) (fun x v hv => by simp [bEncL] at hv; rcases hv with rfl | rfl <;> rfl) bCmp 124 #[] bCmp_swo blk off cap d w eg (tcmp_lays blk off d.size w) hH hblk h12 tlen_any
end Go.Proofs.Ytadilppdlbhjnaa

namespace Go.Proofs.Ytadilppdlbhjnaa
set_option linter.unusedSimpArgs false
set_option linter.unusedVariables false
open Go.RowKit

set_option maxRecDepth 100000 in
set_option maxHeartbeats 1000000 in
theorem insert_nil (fv : Value) (w : World) : Calls Try.prog 157 #[.slice none 0 0, .int .i64 0, .int .i64 0, fv] w fun e w' => e = .returned (.tuple #[]) ∧ w' = w := by
  go_enter Try.func157, Try.ntmps157
  go_wp2_with fail
  go_loopg [8] 1 (fun M s8 wr => s8 = .int .i64 1 ∧ M = 1 ∧ wr = w)
  case atStart => exact ⟨rfl, rfl, rfl⟩
  case round =>
    obtain ⟨rfl, rfl, hw⟩ := hrel
    replace hw := hw.symm
    subst hw
    go_wp2_with fail
    go_end0
    exact ⟨rfl, rfl⟩
set_option maxRecDepth 100000 in
set_option maxHeartbeats 1000000 in
theorem pdq_nil (l : Int) (fv : Value) (w : World) : Calls Try.prog 143 #[.slice none 0 0, .int .i64 0, .int .i64 0, .int .i64 l, fv] w fun e w' => e = .returned (.tuple #[]) ∧ w' = w := by
  go_enter Try.func143, Try.ntmps143
  go_wp2_with fail
  go_loopg [10, 11, 1, 2, 3] 1 (fun M s10 s11 s1 s2 s3 wr => s10 = .bool true ∧ s11 = .bool true ∧ s1 = .int .i64 0 ∧ s2 = .int .i64 0 ∧ s3 = .int .i64 l ∧ M = 1 ∧ wr = w)
  case atStart => exact ⟨rfl, rfl, rfl, rfl, rfl, rfl, rfl⟩
  case round =>
    obtain ⟨rfl, rfl, rfl, rfl, rfl, rfl, hw⟩ := hrel
    replace hw := hw.symm
    subst hw
    go_wp2_with (first | (go_at_call 157; refine (insert_nil fv _).mono ?_; rintro e w' ⟨rfl, hw⟩; replace hw := hw.symm; subst hw))
    refine bodyPost_ret (results_none rfl _ _ _) rfl ?_
    exact ⟨rfl, rfl⟩
set_option maxRecDepth 100000 in
set_option maxHeartbeats 1000000 in
theorem sortf_nil (fv : Value) (w : World) : Calls Try.prog 123 #[.slice none 0 0, fv] w fun e w' => e = .returned (.tuple #[]) ∧ w' = w := by
  have hl := fun W => tlen_any 0 W (by omega)
  go_enter Try.func123, Try.ntmps123
  go_wp2_with (first | (go_at_call 139; refine (hl _).mono ?_; rintro e w' ⟨⟨l, rfl⟩, hw⟩; replace hw := hw.symm; subst hw) | (go_at_call 143; refine (pdq_nil _ fv _).mono ?_; rintro e w' ⟨rfl, hw⟩; replace hw := hw.symm; subst hw))
  go_end0
  exact ⟨rfl, rfl⟩
/-- slices.SortFunc at a row of cells of the call's own. -/
theorem sortf_own {P0 : List Cell} {B : Nat} {v : Value} {w : World} (h : w.ownsRow B 76 2 v P0.length (flat 2 cEnc P0)) (hr : ∀ x ∈ P0, 0 ≤ x.rank ∧ x.rank < 1000000) (hl : P0.length ≤ 12) :
    Calls Try.prog 123 #[v, .func (.func 124) #[] #[]] w
      fun e w' => e = .returned (.tuple #[]) ∧ ∃ L q cq, L.Perm P0 ∧ L.Pairwise (fun x y => x.rank ≤ y.rank) ∧ v = .slice q L.length cq ∧ MxAt w' q cq L ∧ (∀ ad, q = some ad → v.ownBlock = some ad.block) ∧ KeepX (rowOf v) w w' := by
  obtain ⟨q0, cq0, hv0, o1, o2, o3, o4⟩ := owns_val (by decide) h
  rcases h.2 with ⟨hv, h0⟩ | ⟨g, cap, cur, hv, hg, hb, h1, h2, h3, h4⟩
  · obtain rfl := List.length_eq_zero_iff.1 h0
    subst hv
    refine (sortf_nil _ w).mono ?_
    rintro e w' ⟨rfl, rfl⟩
    exact ⟨rfl, [], none, 0, List.Perm.refl _, List.Pairwise.nil, rfl, MxAt.nil _, (fun _ h => by cases h), KeepX.refl _ _⟩
  · subst hv
    obtain ⟨rfl, -, rfl⟩ : some (⟨g, 0, none⟩ : Addr) = q0 ∧ True ∧ cap = cq0 := by simpa using hv0
    obtain ⟨d, hd⟩ : ∃ d : List BCell, d.map Subtype.val = P0 := ⟨P0.attach.map fun x => ⟨x.1, hr x.1 x.2⟩, by rw [List.map_map]; exact List.attach_map_subtype_val P0⟩
    have hdl : d.length = P0.length := by rw [← hd, List.length_map]
    have hgl := (Array.getElem?_eq_some_iff.1 hb).1
    have hH : Sort.HoldsK bEncL 2 w g 0 d.toArray := fun t ht => by
      have ht2 : t < d.length * 2 := by rw [Sort.size_flatK] at ht; simpa using ht
      have hi : t / 2 < d.length := by omega
      have hP : P0[t / 2]? = some d[t / 2].1 := by rw [← hd, List.getElem?_map, List.getElem?_eq_getElem hi]; rfl
      obtain ⟨b', off, e, -, c0, c1⟩ := cell_cells o4 hP
      cases e
      rw [Sort.get_flatK _ _ _ _ (by simpa using ht2)]
      have he : d.toArray[t / 2]! = d[t / 2] := by simp [getElem!_pos, hi]
      rw [he]
      refine ⟨?_, by simp [World.frozen?, hb]⟩
      rcases Nat.mod_two_eq_zero_or_one t with hm | hm
      · rw [show 0 + t = 0 + t / 2 * 2 by omega, c0, hm]; rfl
      · rw [show 0 + t = 0 + t / 2 * 2 + 1 by omega, c1, hm]; rfl
    have hs := tsort_any g 0 cap d.toArray w hH hgl (by simp; omega)
    rw [show d.toArray.size = P0.length by simpa using hdl] at hs
    refine hs.mono ?_
    rintro e w' ⟨rfl, d', n, os, hp, hso, rfl⟩
    have hsz : d'.size = P0.length := by have := hp.1; simp at this; omega
    have hperm : d'.toList.Perm d := by
      have := hp.2.2
      rw [show P0.length = d'.size from hsz.symm] at this
      have e1 : d'.extract 0 d'.size = d' := by simp
      have e2 : d.toArray.extract 0 d'.size = d.toArray := by rw [hsz, ← hdl]; simp
      rw [e1, e2] at this
      simpa using this
    obtain ⟨L, hL⟩ : ∃ L, d'.toList.map Subtype.val = L := ⟨_, rfl⟩
    have hLl : L.length = P0.length := by rw [← hL, List.length_map, Array.length_toList, hsz]
    have hHw : Sort.HoldsK bEncL 2 (sortWorldK bEncL 2 w g 0 n d' os) g 0 d' :=
      Sort.holdsK_grow _ _ _ _ _ _ _ (by rw [Sort.size_putRowK]; exact hgl) (Sort.holdsK_putRowK _ _ _ _ _ _ _ (Sort.holdsK_ahead _ _ _ _ _ _ _ hH) (by simp; omega))
    have hsw : (sortWorldK bEncL 2 w g 0 n d' os).heap.size = w.heap.size + os.size := by
      unfold sortWorldK
      rw [Sort.size_grow, Sort.size_putRowK]; rfl
    have hgl2 : g < (sortWorldK bEncL 2 w g 0 n d' os).heap.size := by omega
    refine ⟨rfl, L, some ⟨g, 0, none⟩, cap, ?_, ?_, by rw [hLl], ⟨by omega, h2, (fun h => by cases h), .inr ⟨g, 0, rfl, hgl2, fun i x hx j hj => ?_⟩, fun ad h => by cases h; exact hgl2⟩, (fun ad h => by cases h; rfl), ?_⟩
    · rw [← hL, ← hd]; exact hperm.map _
    · rw [← hL, List.pairwise_map, List.pairwise_iff_getElem]
      intro i j hi hj hij
      have h5 := hso i j (Nat.zero_le _) hij (by simp at hj; omega)
      have hi' : i < d'.size := by simpa using hi
      have hj' : j < d'.size := by simpa using hj
      unfold ltOf bCmp at h5
      simp only [getElem!_pos d' i hi', getElem!_pos d' j hj', decide_eq_false_iff_not] at h5
      simp only [Array.getElem_toList]
      omega
    · rw [← hL, List.getElem?_map] at hx
      obtain ⟨y, hy, rfl⟩ := Option.map_eq_some_iff.1 hx
      have hi : i < d'.size := by have := (List.getElem?_eq_some_iff.1 hy).1; simpa using this
      have hyi : d'[i]! = y := by
        rw [getElem!_pos d' i hi]
        have := (List.getElem?_eq_some_iff.1 hy).2
        simpa using this
      have h5 := (Sort.HoldsK.cell hHw hi hj).1
      rw [hyi] at h5
      rw [h5]
      match j, hj with
      | 0, _ => rfl
      | 1, _ => rfl
    · refine ⟨rfl, rfl, rfl, by omega, fun k hk hx => ?_⟩
      have hne : g ≠ k := fun e => hx (by rw [← e]; simp [rowOf, Value.ownBlock])
      unfold sortWorldK
      rw [Sort.heap_grow_old _ _ (by rw [Sort.size_putRowK]; exact hk)]
      simp [Sort.putRowK, Sort.putRow, Sort.mapBlock, Sort.ahead, Array.getElem?_modify, hne]

/-- A matrix is returned, in new memory. -/
def RetMN (w : World) (ar : Int) (m : List Cell) (e : Ending) (w' : World) : Prop := ∃ q cq, e = .returned (.agg #[.int .i64 ar, .slice q m.length cq]) ∧ MxAt w' q cq m ∧ (∀ ad, q = some ad → w.heap.size ≤ ad.block) ∧ Below w.heap.size w w'
theorem tcells_snoc {n : Int} {a : List Cell} {K : Nat} {x : Cell} (h : a[K]? = some x) (hx : x.ref ≠ 1) : put ((a.take K).map (tcell n)) (trF n x.rank) x.ref = (a.take (K + 1)).map (tcell n) := by
  obtain ⟨h1, h2⟩ := List.getElem?_eq_some_iff.1 h
  rw [List.take_succ_eq_append_getElem h1, h2, List.map_append]
  unfold put
  rw [if_neg hx]; rfl
set_option maxRecDepth 100000 in
set_option maxHeartbeats 4000000 in
theorem mtranspose_any (n : Nat) (c : List Gate) (a : List Cell) (ar : Int) (pa : Option Addr) (ca : Nat) (w : World) (hA : MxAt w pa ca a) (ha : MOk c ((n * n : Nat) : Int) a) (hn0 : 0 < n) (hn : n ≤ 3) :
    Calls Try.prog 72 #[.int .i64 n, .agg #[.int .i64 ar, .slice pa a.length ca]] w (RetMN w ar (mTranspose n a)) := by
  have hnn : n * n ≤ 9 := Nat.mul_le_mul hn hn
  have hal : a.length ≤ 9 := Nat.le_trans ha.len hnn
  obtain ⟨s, hs0⟩ : ∃ s, w.heap.size = s := ⟨_, rfl⟩
  obtain ⟨W2, hW2⟩ : ∃ x, x = ((w.alloc (.cells #[.int .i64 ar, .slice pa a.length ca] 30)).alloc (.cells #[.int .i64 0, .slice none 0 0] 30)).alloc (.cells #[.int .i64 ar, .slice none 0 0] 30) := ⟨_, rfl⟩
  have hB2 : Below w.heap.size w W2 := by rw [hW2]; go_grown
  have z2 : W2.heap.size = s + 3 := by rw [hW2, ← hs0]; simp
  have y1 : W2.cell? ⟨s, 1, none⟩ = some (.slice pa a.length ca) := by rw [hW2, ← hs0]; go_cell
  have r0 : W2.cell? ⟨s + 1, 0, none⟩ = some (.int .i64 0) := by rw [hW2, ← hs0]; go_cell
  have r1 : W2.cell? ⟨s + 1, 1, none⟩ = some (.slice none 0 0) := by rw [hW2, ← hs0]; go_cell
  have r0f : W2.frozen? ⟨s + 1, 0, none⟩ = false := by rw [hW2, ← hs0]; go_cell
  have r1f : W2.frozen? ⟨s + 1, 1, none⟩ = false := by rw [hW2, ← hs0]; go_cell
  have HG0 := Lib.hid (show GMx W2 (s + 3) (s + 2) ar ((a.take 0).map (tcell n)) (.slice none 0 0) from ⟨by rw [hW2, ← hs0]; go_cell, by rw [hW2, ← hs0]; go_cell, by rw [hW2, ← hs0]; go_cell, by rw [hW2, ← hs0]; go_cell, World.ownsRow_nil _ _ _ _, by omega, by omega⟩)
  have HA := Lib.hid hA; have HMA := Lib.hid ha; have HW2 := Lib.hid hW2; have HS := Lib.hid hs0; have HB2 := Lib.hid hB2
  clear hA ha hW2 hs0 hB2
  go_enter Try.func72, Try.ntmps72
  go_upto_region 2 with fail
  rw [← HW2.out]
  simp only [HS.out, Nat.add_assoc, Nat.reduceAdd]
  go_wp2_with fail
  go_loopg [14] a.length (fun M s14 wr => ∃ (K : Nat) (v : Value), s14 = .int .i64 K ∧ K ≤ a.length ∧ M = a.length - K ∧ GMx wr (s + 3) (s + 2) ar ((a.take K).map (tcell n)) v ∧ KeepX [s + 2] W2 wr)
  case atStart => exact ⟨0, _, rfl, by omega, rfl, HG0.out, KeepX.refl _ _⟩
  case round =>
    clear HG0
    obtain ⟨K, v, rfl, hK, hM, hg, hkx⟩ := hrel
    have HM := Lib.hid hM; have HG := Lib.hid hg
    have hsz := hkx.size
    clear hM hg
    have hbr : Below w.heap.size w wr := KeepX.below' HB2.out hkx HB2.out.size (by have := HS.out; simp; omega)
    by_cases hlt : K < a.length
    case pos =>
      have hlt0 : (0 : Int) ≤ (K : Int) := by omega
      have hlt1 : (K : Int) < (a.length : Int) := by omega
      obtain ⟨x, hx⟩ : ∃ x, a[K]? = some x := ⟨_, List.getElem?_eq_getElem hlt⟩
      obtain ⟨bx, ox, rfl, hbx, j0, j1⟩ := cell_cells HA.out.at' hx
      replace j0 := oldcell hbr j0 hbx; replace j1 := oldcell hbr j1 hbx
      have hxr := HMA.out.ranks x (List.mem_of_getElem? hx)
      have hxf := HMA.out.refs x (List.mem_of_getElem? hx)
      have HNX := Lib.hid (tcells_snoc (n := n) hx hxf.2.2)
      obtain ⟨xr, hxe⟩ : ∃ z, x.rank = z := ⟨_, rfl⟩
      obtain ⟨xf, hxg⟩ : ∃ z, x.ref = z := ⟨_, rfl⟩
      rw [hxe] at j0 hxr; rw [hxg] at j1
      have hx0 := hxr.1
      have hx1 : xr < 9 := by have := hxr.2; omega
      obtain ⟨a1, a2, a3, a4, a5, a6, a7⟩ := quo_rem (x := xr) (n := n) hx0 (by omega) hn0
      obtain ⟨qq, hqq⟩ : ∃ z, xr / (n : Int) = z := ⟨_, rfl⟩
      obtain ⟨rr, hrr⟩ : ∃ z, xr % (n : Int) = z := ⟨_, rfl⟩
      rw [hqq] at a1 a4 a5; rw [hrr] at a2 a3 a6 a7
      have hm1 : 0 ≤ rr * (n : Int) := Int.mul_nonneg a6 (by omega)
      have hm2 : rr * (n : Int) ≤ 9 * 3 := Int.mul_le_mul (by omega) (by omega) (by omega) (by omega)
      obtain ⟨mq, hmq⟩ : ∃ z, rr * (n : Int) = z := ⟨_, rfl⟩
      rw [hmq] at hm1 hm2
      have hwm : IntKind.i64.wrap (rr * (n : Int)) = mq := by rw [hmq, IntWalk.i64_in]; omega
      obtain ⟨y, hy⟩ : ∃ z, mq + qq = z := ⟨_, rfl⟩
      have hwv : IntKind.i64.wrap (mq + qq) = y := by rw [hy, IntWalk.i64_in]; omega
      have HPT := Lib.hid (show put ((a.take K).map (tcell n)) y xf = (a.take (K + 1)).map (tcell n) by rw [← HNX.out, hxe, hxg]; unfold trF; rw [hqq, hrr, hmq, hy])
      have hn00 : ¬ n = 0 := by omega
      have hpl : ((a.take K).map (tcell n)).length ≤ 100000 := by rw [List.length_map, List.length_take]; omega
      clear hx hbx hqq hrr hmq hy hxe hxg hxr hxf HNX
      go_upto_region 5 with fail
      obtain ⟨b7, hb7⟩ : ∃ b, b = wr.heap.size := ⟨_, rfl⟩
      obtain ⟨wx, hwx⟩ : ∃ z, z = wr.alloc (.cells #[.int .i64 xr, .int .i64 xf] 76) := ⟨_, rfl⟩
      rw [← hwx, ← hb7]
      have hBx : Below wr.heap.size wr wx := by rw [hwx]; go_grown
      have z0 : wx.cell? ⟨b7, 0, none⟩ = some (.int .i64 xr) := by rw [hwx, hb7]; go_cell
      have z1 : wx.cell? ⟨b7, 1, none⟩ = some (.int .i64 xf) := by rw [hwx, hb7]; go_cell
      have HGX := Lib.hid (HG.out.keep (X := []) (KeepX.of_below hBx) (by simp) (by simp))
      have hkx2 := hkx.upB hBx
      clear hwx hBx hb7 HG j0 j1
      refine wp_region_seqE (fun x => Below wx.heap.size wx x) (.one 0 1 (.one 1 0 (.one 2 1 (.one 3 1 (.one 4 1 (.one 5 1 (.one 6 1 (.one 7 0 (.one 8 1 (.one 9 1 (.one 10 1 (.one 11 1 (.one 12 0 (.alt 13 3 .nil .stop)))))))))))))) (by kernel_rfl) (by kernel_rfl) (by kernel_rfl) (Below.drew (Below.refl _ _)) ?_
      iterate 13 (first | (refine seqE_free (v := ?_) rfl (by rfl) ?_ ?_; rotate_left; (focus (intro w; go_simp; try with_reducible rfl)); (try simp only [Act.put, List.setIfInBounds_toArray, List.set_cons_zero, List.set_cons_succ])) | (refine seqE_pure (v := ?_) rfl (by rfl) ?_ ?_; rotate_left; (focus (intro w hS; have e5 := oldcell hS z0 (World.block_lt_of_cell? _ _ z0); have e6 := oldcell hS z1 (World.block_lt_of_cell? _ _ z1); go_simp; try with_reducible rfl)); (try simp only [Act.put, List.setIfInBounds_toArray, List.set_cons_zero, List.set_cons_succ])))
      refine seqE_callB (f := ?_) (args := ?_) rfl (by rfl) ?_ ?_ seqE_stop
      rotate_left 2
      focus (intro w hS; go_simp; first | done | with_reducible rfl | (refine ⟨?_, ?_⟩ <;> with_reducible rfl))
      intro w1 hS
      refine (put_is (HGX.out.keep (X := []) (KeepX.of_below hS) (by simp) (by simp)) hpl HPT.out).mono ?_
      rintro e v1 ⟨rfl, v', hg', hrow, hkp⟩
      refine ⟨_, rfl, fun x => Below v1.heap.size v1 x, Below.refl _ _, ?_⟩
      have hrg : ∀ g, v.ownBlock = some g → s + 3 ≤ g := fun g hg => (HGX.out.own.lt g hg).1
      have hk9 : KeepX [s + 2] W2 v1 := by
        have h1 := hkp ((s + 2) :: rowOf v) (by simp) (fun g hg => List.mem_cons_of_mem _ (mem_rowOf hg))
        have h2 : KeepX ((s + 2) :: rowOf v) W2 v1 := ((hkx2.sub (by simp)).upB hS).trans h1
        exact h2.fresh fun k hk => by
          rcases List.mem_cons.1 hk with e | e
          · exact .inl (by rw [e]; simp)
          · exact .inr (by rw [z2]; exact hrg k (rowOf_mem e))
      clear hS hrow hkp
      (try simp only [Act.put, List.setIfInBounds_toArray, List.set_cons_zero, List.set_cons_succ])
      refine seqE_nil ?_
      intro wz hS
      have hgz := hg'.keep (X := []) (KeepX.of_below hS) (by simp) (by simp)
      have hkz := hk9.upB hS
      clear hS hg' hk9 hkx2 HGX z0 z1
      go_wp2_with fail
      go_roundg (a.length - (K + 1))
      case measure => (have := HM.out; omega)
      case rel => exact ⟨K + 1, _, by go_num, by omega, rfl, hgz, hkz⟩
    case neg =>
      obtain rfl : K = a.length := by omega
      have hg := HG.out
      rw [List.take_length] at hg
      have hrk : ∀ x ∈ a.map (tcell n), 0 ≤ x.rank ∧ x.rank < 1000000 := fun x hx => by
        obtain ⟨y, hy, rfl⟩ := List.mem_map.1 hx
        have h1 := HMA.out.ranks y hy
        have := trF_ok h1.1 h1.2
        show 0 ≤ trF n y.rank ∧ trF n y.rank < 1000000
        omega
      have hl12 : (a.map (tcell n)).length ≤ 12 := by rw [List.length_map]; omega
      obtain ⟨P, hP⟩ : ∃ P, a.map (tcell n) = P := ⟨_, rfl⟩
      rw [hP] at hg hrk hl12
      have HPP := Lib.hid hP
      have g0 := hg.c0; have g1 := hg.c1; have hgo := hg.own; have g0f := hg.fr; have g1f := hg.fr1
      obtain ⟨qv, cqv, rfl, -⟩ := owns_val (by decide) hgo
      obtain ⟨R, hR⟩ : ∃ R, rowOf (.slice qv P.length cqv) = R := ⟨_, rfl⟩
      have hRR : ∀ k ∈ R, s + 3 ≤ k := fun k hk => by rw [← hR] at hk; exact (hgo.lt k (rowOf_mem hk)).1
      have s0 := hkx.cell r0 (by simp); have s1 := hkx.cell r1 (by simp); have s0f := hkx.free r0f (by omega) (by simp); have s1f := hkx.free r1f (by omega) (by simp)
      have HO := Lib.hid hgo; have HRK := Lib.hid hrk; have HR := Lib.hid hR; have HRR := Lib.hid hRR
      have n1 : s + 1 ∉ R := fun hm => by have := hRR _ hm; omega
      have n2 : s + 2 ∉ R := fun hm => by have := hRR _ hm; omega
      clear hP hg hgo hrk hR hRR r0 r1 r0f r1f HG
      go_upto_region 8 with (first | (go_at_call 123; refine (sortf_own HO.out HRK.out hl12).mono ?_; rintro e w5 ⟨rfl, L, q5, cq5, hp, hle, hv, hM5, hq5, hk5⟩; rw [HR.out] at hk5; have HV := Lib.hid hv; have HP := Lib.hid hp; have HLE := Lib.hid hle; have HM5 := Lib.hid hM5; have HQ5 := Lib.hid hq5; have g0 := hk5.cell g0 n2; have g1 := hk5.cell g1 n2; have s0 := hk5.cell s0 n1; have s1 := hk5.cell s1 n1; have s0f := hk5.free s0f (by omega) n1; have s1f := hk5.free s1f (by omega) n1; have HK5 := Lib.hid hk5; clear hv hp hle hM5 hq5 hk5))
      have hv := HV.out
      simp only [Value.slice.injEq] at hv
      obtain ⟨rfl, hLl, rfl⟩ := hv
      have hL : L = mTranspose n a := transpose_eq HMA.out (by rw [HPP.out]; exact HP.out) (sorted_of HP.out (by rw [← HPP.out]; exact tcell_nodup HMA.out) HLE.out)
      have HLL := Lib.hid hLl; have HL := Lib.hid hL
      clear hLl hL HV
      go_wp2_with fail
      obtain ⟨W9, hW9⟩ : ∃ W9, W9 = (w5.setCell ⟨s + 1, 0, none⟩ (.int .i64 ar)).setCell ⟨s + 1, 1, none⟩ (.slice qv P.length cqv) := ⟨_, rfl⟩
      rw [← hW9]
      have e0 : W9.cell? ⟨s + 1, 0, none⟩ = some (.int .i64 ar) := by rw [hW9]; go_cell
      have e1 : W9.cell? ⟨s + 1, 1, none⟩ = some (.slice qv P.length cqv) := by rw [hW9]; go_cell
      have hqs : ∀ ad, qv = some ad → s + 3 ≤ ad.block := fun ad h => HRR.out _ (by rw [← HR.out]; exact mem_rowOf (HQ5.out ad h))
      have hM9 : MxAt W9 qv cqv L := by rw [hW9]; exact (HM5.out.set (fun ad h e => by have := hqs ad h; omega) _).set (fun ad h e => by have := hqs ad h; omega) _
      have hb9 : Below w.heap.size w W9 := by
        rw [hW9]
        exact Below.setCell (Below.setCell (KeepX.below' hbr HK5.out hbr.size (fun k hk => by have h1 := HRR.out k hk; have h2 := HS.out; omega)) (by have h := HS.out; (try dsimp only); omega) _) (by have h := HS.out; (try dsimp only); omega) _
      clear hW9
      refine bodyPost_ret (by simp [results, Try.results72, go_sem, e0, e1]; try rfl) rfl ?_
      rw [← HL.out]
      exact ⟨qv, cqv, by rw [HLL.out], hM9, fun ad h => by have h1 := hqs ad h; have h2 := HS.out; omega, hb9⟩
end Go.Proofs.Ytadilppdlbhjnaa
