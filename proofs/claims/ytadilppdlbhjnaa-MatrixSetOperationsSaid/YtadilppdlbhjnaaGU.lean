/- Texts R9, R10 in one. -/
import Derived.Test.YtadilppdlbhjnaaGT
import Derived.Test.YtadilppdlbhjnaaGR
namespace Go.Proofs.Ytadilppdlbhjnaa
set_option linter.unusedSimpArgs false
set_option linter.unusedVariables false
open Go.RowKit Go.Maps

/-- the numbers of a that are among those of b -/
def rInter (a b : List Int) : List Int := a.filter fun x => decide (0 < b.count x)
theorem rInter_snoc {a b : List Int} {K : Nat} {t : Int} (h : a[K]? = some t) : rInter (a.take (K + 1)) b = if decide (0 < b.count t) = true then rInter (a.take K) b ++ [t] else rInter (a.take K) b := by
  obtain ⟨hk, he⟩ := List.getElem?_eq_some_iff.1 h
  unfold rInter
  rw [List.take_succ_eq_append_getElem hk, he, List.filter_append]
  split
  · rename_i h1; rw [show List.filter (fun x => decide (0 < b.count x)) [t] = [t] from List.filter_cons_of_pos (p := fun x => decide (0 < b.count x)) h1]
  · rename_i h1; rw [show List.filter (fun x => decide (0 < b.count x)) [t] = [] from List.filter_cons_of_neg (p := fun x => decide (0 < b.count x)) h1, List.append_nil]
theorem rInter_len (a b : List Int) : (rInter a b).length ≤ a.length := List.length_filter_le _ _
set_option maxRecDepth 100000 in
theorem inter1_any (t : Int) (bv bm n : Nat) (D : DM) (b : List Int) (w : World) (hv : w.cell? ⟨bv, 0, none⟩ = some (.map (some bm))) (hm : MapAt w bm n D) (hc : CMap D b) (h0 : 0 ≤ t) (h1 : t < 100000) :
    Calls Try.prog 119 #[.int .i64 t, .pointer (some ⟨bv, 0, none⟩)] w fun e w' => e = .returned (.bool (decide (0 < b.count t))) ∧ w' = w := by
  have HKEY := Lib.hid (int_key h0 h1)
  obtain ⟨z, hz⟩ : ∃ z : Nat, b.count t = z := ⟨_, rfl⟩
  have HZ := Lib.hid hz; have HC := Lib.hid hc
  clear hz hc
  go_enter Try.func119, Try.ntmps119
  go_wp2_with (first | (at_lookup; refine wpList_lookup_own_int _ rfl _ _ 105 rfl 3 3 .i64 int_keyed' Try.underlying105 Try.underlying3 (Try.zeroValue3 _) bm n D rfl hm _ _ rfl HKEY.out ?_; intro cc hat hwc; obtain rfl : cc = (z : Int) := by (rw [HC.out.read hat, HZ.out])))
  go_ret
  rw [HZ.out]
  refine ⟨?_, rfl⟩
  have e : decide ((0 : Int) < ((z : Nat) : Int)) = decide (0 < z) := decide_eq_decide.2 (by omega)
  first | rw [← e]; rfl | rfl | simp [e]


set_option maxRecDepth 100000 in
set_option maxHeartbeats 2000000 in
theorem keepi_any (a b : List Int) (pa : Option Addr) (ca bv bm n : Nat) (D : DM) (w : World) (hA : SI w pa ca a) (hl : a.length ≤ 20000) (hr : ∀ x ∈ a, 0 ≤ x ∧ x < 100000) (hv : w.cell? ⟨bv, 0, none⟩ = some (.map (some bm))) (hm : MapAt w bm n D) (hc : CMap D b) :
    Calls Try.prog 118 #[.slice pa a.length ca, .func (.func 119) #[] #[.pointer (some ⟨bv, 0, none⟩)]] w
      fun e w' => ∃ q cq, e = .returned (.slice q (rInter a b).length cq) ∧ SI w' q cq (rInter a b) ∧ (∀ ad, q = some ad → w.heap.size ≤ ad.block) ∧ Below w.heap.size w w' := by
  obtain ⟨i0, hi0, hz0, hz1, hz2⟩ := info_parts int_info
  have HA := Lib.hid hA; have HR := Lib.hid hr; have HC := Lib.hid hc
  have hbv := World.block_lt_of_cell? _ _ hv
  clear hA hr hc
  obtain ⟨B, hBe⟩ : ∃ B, w.heap.size = B := ⟨_, rfl⟩
  have HBE := Lib.hid hBe
  clear hBe
  go_enter Try.func118, Try.ntmps118
  go_wp2_with fail
  go_loopg [10, 5] a.length (fun M s10 s5 wr => ∃ (K : Nat) (v : Value) (o : List Int), s10 = .int .i64 K ∧ s5 = v ∧ K ≤ a.length ∧ M = a.length - K ∧ rInter (a.take K) b = o ∧ wr.ownsRow B 3 1 v o.length (flat 1 iEnc o) ∧ Below B w wr)
  case atStart => exact ⟨0, _, [], rfl, rfl, by omega, rfl, rfl, World.ownsRow_nil _ _ _ _, Below.refl _ _⟩
  case round =>
    obtain ⟨K, v, o, rfl, hsv, hK, hM, ho, hown, hb⟩ := hrel
    have HM := Lib.hid hM; have HO := Lib.hid hown; have HOO := Lib.hid ho
    have hol : o.length ≤ 20000 := by rw [← ho]; exact Nat.le_trans (rInter_len _ _) (by rw [List.length_take]; omega)
    have hBR : Below w.heap.size w wr := by rw [HBE.out]; exact hb
    have zb := hb.size
    clear hM hown ho
    subst hsv
    by_cases hlt : K < a.length
    case pos =>
      have hlt0 : (0 : Int) ≤ (K : Int) := by omega
      have hlt1 : (K : Int) < (a.length : Int) := by omega
      obtain ⟨t, ht⟩ : ∃ t, a[K]? = some t := ⟨_, List.getElem?_eq_getElem hlt⟩
      obtain ⟨bx, off, rfl, hb1, h0⟩ := int_cell HA.out.at' ht
      replace h0 := oldcell hBR h0 hb1
      have hrt := HR.out t (List.mem_of_getElem? ht)
      have HNX := Lib.hid (rInter_snoc (b := b) ht)
      have hv1 := oldcell hBR hv hbv
      have hm1 := hm.up hBR
      obtain ⟨z, hz⟩ : ∃ z : Bool, (decide (0 < b.count t)) = z := ⟨_, rfl⟩
      have HZ := Lib.hid hz
      clear ht hb1 hz
      cases z
      case false =>
        go_wp2_with (first | (go_at_call 119; refine (inter1_any t bv bm n D b _ hv1 hm1 HC.out hrt.1 hrt.2).mono ?_; rw [HZ.out]; rintro e w' ⟨rfl, hw⟩; replace hw := hw.symm; subst hw))
        go_roundg (a.length - (K + 1))
        case measure => (have := HM.out; omega)
        case rel => exact ⟨K + 1, _, o, by go_num, rfl, by omega, rfl, by rw [HNX.out, HZ.out]; exact HOO.out, HO.out, hb⟩
      case true =>
        go_wp2_with (first | (go_at_call 119; refine (inter1_any t bv bm n D b _ hv1 hm1 HC.out hrt.1 hrt.2).mono ?_; rw [HZ.out]; rintro e w' ⟨rfl, hw⟩; replace hw := hw.symm; subst hw) | (at_builtin; go_must (refine wpList_app2 (enc := iEnc) rfl _ _ _ rfl B 3 i0 _ 8 Try.underlying42 hi0 hz0 hz1 hz2 rfl (by omega) _ o rfl ((HO.out).alloc _) (some ⟨wr.heap.size, 0, none⟩) [t] 1 rfl (fun h => by cases h) (SlAt.int1 (by go_cell)) iEnc_one (by simp [maxLen]; omega) (by simp; omega) (by simp; have := HBE.out; omega) ?_); intro v2 w3 hown2 hgr2 hbl2 hat2; have HOW2 := Lib.hid hown2; have HBL3 := Lib.hid (show Below B wr w3 from (Below.alloc (Below.refl _ _) (by have := HBE.out; omega) _).trans hbl2); clear hown2 hgr2 hbl2 hat2))
        go_roundg (a.length - (K + 1))
        case measure => (have := HM.out; omega)
        case rel => exact ⟨K + 1, _, o ++ [t], by go_num, rfl, by omega, rfl, by rw [HNX.out, HZ.out, if_pos rfl, HOO.out], HOW2.out, hb.trans HBL3.out⟩
    case neg =>
      obtain rfl : K = a.length := by omega
      have ho := HOO.out
      rw [List.take_length] at ho
      obtain ⟨q, cq, hvq, o1, o2, o3, o4⟩ := owns_val (by decide) HO.out
      subst hvq
      have hlt2 := HO.out.lt
      have HOF := Lib.hid ho; have O3 := Lib.hid o3; have O4 := Lib.hid o4; have HLT := Lib.hid hlt2
      clear ho o3 o4 hlt2
      go_wp2_with fail
      go_ret
      rw [HOF.out]
      exact ⟨q, cq, rfl, ⟨o1, o2, O3.out, O4.out, fun ad h => (HLT.out ad.block (by rw [h]; rfl)).2⟩, fun ad h => by rw [HBE.out]; exact (HLT.out ad.block (by rw [h]; rfl)).1, hBR⟩

set_option maxRecDepth 100000 in
set_option maxHeartbeats 4000000 in
theorem relinter_any (a b : List Int) (ar1 ar2 : Int) (pa pb : Option Addr) (ca cb : Nat) (w : World) (hA : SI w pa ca a) (hD : SI w pb cb b) (hla : a.length ≤ 20000) (hlb : b.length ≤ 20000) (ha : ∀ x ∈ a, 0 ≤ x ∧ x < 100000) (hb : ∀ x ∈ b, 0 ≤ x ∧ x < 100000) :
    Calls Try.prog 65 #[.agg #[.int .i64 ar1, .slice pa a.length ca], .agg #[.int .i64 ar2, .slice pb b.length cb]] w (RetR w ar1 (rInter a b)) := by
 obtain ⟨s, hs0⟩ : ∃ s, w.heap.size = s := ⟨_, rfl⟩
 obtain ⟨W2, hW2⟩ : ∃ W2, W2 = (((w.alloc (.cells #[.int .i64 ar1, .slice pa a.length ca] 44)).alloc (.cells #[.int .i64 ar2, .slice pb b.length cb] 44)).alloc (.cells #[.int .i64 0, .slice none 0 0] 44)) := ⟨_, rfl⟩
 have hbw : Below w.heap.size w W2 := by rw [hW2]; go_grown
 have zz : s + 3 ≤ W2.heap.size := by rw [hW2, ← hs0]; simp
 have hs : Cells W2 [(s + 2, 0, .int .i64 0), (s + 2, 1, .slice none 0 0)] := by rw [hW2, ← hs0]; exact ⟨⟨by go_cell, by go_cell⟩, ⟨by go_cell, by go_cell⟩, trivial⟩
 have hk : Cells W2 [(s, 0, .int .i64 ar1), (s, 1, .slice pa a.length ca), (s + 1, 0, .int .i64 ar2), (s + 1, 1, .slice pb b.length cb)] := by rw [hW2, ← hs0]; exact ⟨⟨by go_cell, by go_cell⟩, ⟨by go_cell, by go_cell⟩, ⟨by go_cell, by go_cell⟩, ⟨by go_cell, by go_cell⟩, trivial⟩
 have HW2 := Lib.hid hW2; have HS := Lib.hid hs0
 clear hW2 hs0
 have HA := Lib.hid hA; have HD := Lib.hid hD; have HRA := Lib.hid ha; have HRB := Lib.hid hb
 clear hA hD ha hb
 go_enter Try.func65, Try.ntmps65
 go_upto_region 1 with fail
 rw [← HW2.out]
 simp only [HS.out, Nat.add_assoc, Nat.reduceAdd]
 obtain ⟨⟨y20, y20f⟩, ⟨y21, y21f⟩, -⟩ := id hs
 obtain ⟨⟨y00, y00f⟩, ⟨y01, y01f⟩, ⟨y10, y10f⟩, ⟨y11, y11f⟩, -⟩ := id hk
 go_upto_region 2 with (first | (go_at_call 116; refine (set_any b ar2 pb cb W2 (HD.out.up hbw) hlb HRB.out).mono ?_; rintro e w3 ⟨bm, D, nn, rfl, hmp, hcm, hbm, hb3⟩))
 obtain ⟨bv, hbv⟩ : ∃ x, x = w3.heap.size := ⟨_, rfl⟩
 obtain ⟨w4, hw4⟩ : ∃ x, x = w3.alloc (.cells #[.map (some bm)] 105) := ⟨_, rfl⟩
 rw [← hw4, ← hbv]
 have hb4 : Below W2.heap.size W2 w4 := by rw [hw4]; exact bal hb3 _
 have v0 : w4.cell? ⟨bv, 0, none⟩ = some (.map (some bm)) := by rw [hw4, hbv]; go_cell
 replace hmp : MapAt w4 bm nn D := by rw [hw4]; exact World.ownsMap.alloc hmp _
 have HCM := Lib.hid hcm
 clear hw4 hbv hcm hbm hb3
 replace hs := hs.up hb4; replace hk := hk.up hb4; replace hbw := btr hbw hb4; replace zz := Nat.le_trans zz (Below.size hb4); clear hb4
 clear y20 y20f y21 y21f y00 y00f y01 y01f y10 y10f y11 y11f
 replace hmp : MapAt w4 bm nn D := hmp
 refine wp_region_seqE (fun x => Below w4.heap.size w4 x) (.one 0 1 (.one 1 0 (.one 2 1 (.one 3 0 (.one 4 1 (.alt 5 2 (.one 6 1 (.alt 7 3 .nil .stop)) .stop)))))) (by kernel_rfl) (by kernel_rfl) (by kernel_rfl) (Below.drew (Below.refl _ _)) ?_
 iterate 5 (first | (refine seqE_free (v := ?_) rfl (by rfl) ?_ ?_; rotate_left; (focus (intro w; go_simp; try with_reducible rfl)); (try simp only [Act.put, List.setIfInBounds_toArray, List.set_cons_zero, List.set_cons_succ])) | (refine seqE_pure (v := ?_) rfl (by rfl) ?_ ?_; rotate_left; (focus (intro w hS; obtain ⟨⟨y00, -⟩, ⟨y01, -⟩, -⟩ := hk.up hS; go_simp; try with_reducible rfl)); (try simp only [Act.put, List.setIfInBounds_toArray, List.set_cons_zero, List.set_cons_succ])))
 refine seqE_call (f := ?_) (args := ?_) rfl (by rfl) ?_ ?_ seqE_stop
 rotate_left 2
 focus (intro w hS; go_simp; first | done | with_reducible rfl | (refine ⟨?_, ?_⟩ <;> with_reducible rfl))
 intro w1 hS
 refine (keepi_any a b pa ca bv bm nn D w1 (HA.out.up (btr hbw hS)) hla HRA.out (oldcell hS v0 (World.block_lt_of_cell? _ _ v0)) (hmp.up hS) HCM.out).mono ?_
 rintro e v1 ⟨q, cq, rfl, hR, hqn, hbl⟩
 refine ⟨_, rfl, (fun x => Below v1.heap.size v1 x), Below.refl _ _, fun x hx => btr (btr hS hbl) hx, ?_⟩
 have hXw := Nat.le_trans zz hS.size
 have hX := btr hS hbl
 replace hs := hs.up hX; replace hk := hk.up hX; replace hbw := btr hbw hX; replace zz := Nat.le_trans zz (Below.size hX)
 have oR : ∀ ad, q = some ad → s + 2 ≠ ad.block := fun ad h e => by have h1 := hqn ad h; have h2 := hXw; omega
 clear hqn
 clear hX hS hbl hXw
 (try simp only [Act.put, List.setIfInBounds_toArray, List.set_cons_zero, List.set_cons_succ])
 iterate 1 (refine seqE_free (v := ?_) rfl (by rfl) ?_ ?_; rotate_left; (focus (intro w; go_simp; try with_reducible rfl)); (try simp only [Act.put, List.setIfInBounds_toArray, List.set_cons_zero, List.set_cons_succ]))
 refine seqE_storeB rfl (by rfl) ?_ seqE_stop
 intro w2 hS
 replace hs := hs.up hS; replace hk := hk.up hS; replace hR := hR.up hS; replace hbw := btr hbw hS; replace zz := Nat.le_trans zz (Below.size hS)
 obtain ⟨⟨y20, y20f⟩, ⟨y21, y21f⟩, -⟩ := id hs
 obtain ⟨⟨y00, y00f⟩, ⟨y01, y01f⟩, ⟨y10, y10f⟩, ⟨y11, y11f⟩, -⟩ := id hk
 refine ⟨((w2.setCell ⟨s + 2, 0, none⟩ (.int .i64 ar1)).setCell ⟨s + 2, 1, none⟩ (.slice q (rInter a b).length cq)), (by go_simp; try with_reducible rfl), (fun x => Below (((w2.setCell ⟨s + 2, 0, none⟩ (.int .i64 ar1)).setCell ⟨s + 2, 1, none⟩ (.slice q (rInter a b).length cq))).heap.size (((w2.setCell ⟨s + 2, 0, none⟩ (.int .i64 ar1)).setCell ⟨s + 2, 1, none⟩ (.slice q (rInter a b).length cq))) x), Below.refl _ _, ?_⟩
 obtain ⟨v2, hw⟩ : ∃ zW, zW = ((w2.setCell ⟨s + 2, 0, none⟩ (.int .i64 ar1)).setCell ⟨s + 2, 1, none⟩ (.slice q (rInter a b).length cq)) := ⟨_, rfl⟩
 rw [← hw]
 replace hs : Cells v2 [(s + 2, 0, .int .i64 ar1), (s + 2, 1, .slice q (rInter a b).length cq)] := by rw [hw]; exact ⟨⟨by go_cell, (fz (fz y20f))⟩, ⟨by go_cell, (fz (fz y21f))⟩, trivial⟩
 replace hk : Cells v2 [(s, 0, .int .i64 ar1), (s, 1, .slice pa a.length ca), (s + 1, 0, .int .i64 ar2), (s + 1, 1, .slice pb b.length cb)] := by rw [hw]; exact ((hk.far (by simp <;> omega)).far (by simp <;> omega))
 replace hR : SI v2 q cq (rInter a b) := by rw [hw]; exact ((hR.set (oR) _).set (oR) _)
 replace hbw : Below w.heap.size w v2 := by rw [hw]; exact (Below.setCell (Below.setCell hbw (by have h := HS.out; (try dsimp only); omega) _) (by have h := HS.out; (try dsimp only); omega) _)
 replace zz : s + 3 ≤ v2.heap.size := by rw [hw]; simpa using zz
 clear hw
 clear y20 y20f y21 y21f y00 y00f y01 y01f y10 y10f y11 y11f
 clear hS
 (try simp only [Act.put, List.setIfInBounds_toArray, List.set_cons_zero, List.set_cons_succ])
 refine seqE_nil ?_
 intro wz hS
 replace hs := hs.up hS; replace hk := hk.up hS; replace hR := hR.up hS; replace hbw := btr hbw hS; replace zz := Nat.le_trans zz (Below.size hS); clear hS
 obtain ⟨⟨y20, y20f⟩, ⟨y21, y21f⟩, -⟩ := id hs
 obtain ⟨⟨y00, y00f⟩, ⟨y01, y01f⟩, ⟨y10, y10f⟩, ⟨y11, y11f⟩, -⟩ := id hk
 go_wp2_with fail
 refine bodyPost_ret (by simp [results, Try.results65, go_sem, y20, y21]; try rfl) rfl ?_
 exact ⟨_, _, rfl, hR, hbw⟩

end Go.Proofs.Ytadilppdlbhjnaa

namespace Go.Proofs.Ytadilppdlbhjnaa
set_option linter.unusedSimpArgs false
set_option linter.unusedVariables false
open Go.RowKit Go.Maps

end Go.Proofs.Ytadilppdlbhjnaa
