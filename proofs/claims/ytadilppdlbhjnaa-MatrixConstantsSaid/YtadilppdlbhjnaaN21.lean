/- Walks of layer 6: same, set, keep at Diff, Diff, In. -/
import Derived.Test.YtadilppdlbhjnaaJ1
import Derived.Test.YtadilppdlbhjnaaGF
namespace Go.Proofs.Ytadilppdlbhjnaa
set_option linter.unusedSimpArgs false
set_option linter.unusedVariables false
open Go.RowKit


/-- The map counts the numbers of l. -/
def CMap (D : DM) (l : List Int) : Prop := Maps.IsMap D ∧ ∀ r : Int, D.atKey (keyI r) (numI 0) = numI ((l.count r : Nat) : Int)
theorem CMap.start : CMap (.map []) [] := ⟨⟨_, rfl⟩, fun r => rfl⟩
theorem CMap.put {D : DM} {l : List Int} (h : CMap D l) (t : Int) {c : Int} (hc : c = ((l.count t : Nat) : Int) + 1) : CMap (D.put (keyI t) (numI c)) (l ++ [t]) := by
  refine ⟨Maps.IsMap.put h.1 _ _, fun r => ?_⟩
  by_cases e : r = t
  · subst e
    rw [Maps.atKey_put_same h.1 (keyI_key _), hc, List.count_append]
    simp
  · rw [Maps.atKey_put_other (keyI_ne e), h.2 r, List.count_append, List.count_singleton]
    have : (t == r) = false := by simp; exact fun h => e h.symm
    rw [this]; simp
theorem CMap.read {D : DM} {l : List Int} (h : CMap D l) {t c : Int} (hat : D.atKey (keyI t) (numI 0) = numI c) : c = ((l.count t : Nat) : Int) := by
  rw [h.2 t] at hat; simpa [numI] using hat.symm
/-- the numbers of a that are not among those of b -/
def rDiff (a b : List Int) : List Int := a.filter fun x => b.count x == 0
theorem rDiff_snoc {a b : List Int} {K : Nat} {t : Int} (h : a[K]? = some t) : rDiff (a.take (K + 1)) b = if (b.count t == 0) = true then rDiff (a.take K) b ++ [t] else rDiff (a.take K) b := by
  obtain ⟨hk, he⟩ := List.getElem?_eq_some_iff.1 h
  unfold rDiff
  rw [List.take_succ_eq_append_getElem hk, he, List.filter_append]
  split
  · rename_i h1; simp [h1]
  · rename_i h1; simp [h1]
theorem rDiff_len (a b : List Int) : (rDiff a b).length ≤ a.length := List.length_filter_le _ _
theorem rDiff_none {a b : List Int} : (rDiff a b).length = 0 ↔ ∀ x ∈ a, x ∈ b := by
  unfold rDiff
  rw [List.length_eq_zero_iff, List.filter_eq_nil_iff]
  constructor
  · intro h x hx
    have := h x hx
    simp only [beq_iff_eq] at this
    exact List.count_pos_iff.1 (by omega)
  · intro h x hx
    have := List.count_pos_iff.2 (h x hx)
    simp only [beq_iff_eq]; omega
set_option maxRecDepth 100000 in
theorem same_any6 (t : Int) (w : World) : Calls Try.prog 117 #[.int .i64 t] w fun e w' => e = .returned (.int .i64 t) ∧ w' = w := by
  go_enter Try.func117, Try.ntmps117
  go_wp2_with fail
  go_ret
  exact ⟨rfl, rfl⟩

set_option maxRecDepth 100000 in
set_option maxHeartbeats 2000000 in
theorem set_any (l : List Int) (ar : Int) (p : Option Addr) (cap : Nat) (w : World) (hA : SI w p cap l) (hl : l.length ≤ 20000) (hr : ∀ x ∈ l, 0 ≤ x ∧ x < 100000) :
    Calls Try.prog 116 #[.agg #[.int .i64 ar, .slice p l.length cap], .func (.func 117) #[] #[]] w
      fun e w' => ∃ b D n, e = .returned (.map (some b)) ∧ MapAt w' b n D ∧ CMap D l ∧ w.heap.size ≤ b ∧ Below w.heap.size w w' := by
  have HA := Lib.hid hA; have HR := Lib.hid hr
  clear hA hr
  obtain ⟨W2, hW2⟩ : ∃ W2, W2 = w.alloc (.cells #[.int .i64 ar, .slice p l.length cap] 44) := ⟨_, rfl⟩
  have hB : Below w.heap.size w W2 := by rw [hW2]; go_grown
  obtain ⟨s, hs⟩ : ∃ s, w.heap.size = s := ⟨_, rfl⟩
  have y1 : W2.cell? ⟨s, 1, none⟩ = some (.slice p l.length cap) := by rw [hW2, ← hs]; go_cell
  have HW2 := Lib.hid hW2; have HS := Lib.hid hs
  clear hW2 hs
  go_enter Try.func116, Try.ntmps116
  go_upto_region 1 with fail
  rw [← HW2.out]
  simp only [HS.out]
  have hmk := run_makeMap (P := Try.prog) 105 W2
  go_upto_region 2 with fail
  obtain ⟨bm, hbm⟩ : ∃ b, b = W2.heap.size := ⟨_, rfl⟩
  obtain ⟨w3, hw3⟩ : ∃ x, x = W2.alloc (.map #[] 0) := ⟨_, rfl⟩
  rw [← hw3, ← hbm]
  have hB3 : Below W2.heap.size W2 w3 := by rw [hw3]; go_grown
  have hown : MapAt w3 bm 0 (.map []) := by rw [hw3, hbm]; exact World.ownsMap_made _ _ _ _
  have hsb : s < bm := by rw [hbm]; exact World.block_lt_of_cell? _ _ y1
  have y1 := oldcell hB3 y1 (World.block_lt_of_cell? _ _ y1)
  have HB3 := Lib.hid (btr hB hB3)
  have hbs : w.heap.size ≤ bm := by rw [HS.out]; omega
  clear hw3 hbm hmk hB hB3
  go_wp2_with fail
  go_loopg [12] l.length (fun M s12 wr => ∃ (K : Nat) (D : DM) (nn : Nat), s12 = .int .i64 K ∧ K ≤ l.length ∧ M = l.length - K ∧ nn ≤ K ∧ MapAt wr bm nn D ∧ CMap D (l.take K) ∧ KeepX [bm] w3 wr)
  case atStart => exact ⟨0, _, 0, rfl, by omega, rfl, by omega, hown, CMap.start, KeepX.refl _ _⟩
  case round =>
    clear hown
    obtain ⟨K, D, nn, rfl, hK, hM, hnn, hmp, hcm, hkx⟩ := hrel
    have HM := Lib.hid hM; have HC := Lib.hid hcm; clear hM hcm
    have hBR : Below w.heap.size w wr := KeepX.below' HB3.out hkx HB3.out.size (by simp; omega)
    by_cases hlt : K < l.length
    case pos =>
      have hlt0 : (0 : Int) ≤ (K : Int) := by omega
      have hlt1 : (K : Int) < (l.length : Int) := by omega
      obtain ⟨t, ht⟩ : ∃ t, l[K]? = some t := ⟨_, List.getElem?_eq_getElem hlt⟩
      obtain ⟨b, off, rfl, hb1, h0⟩ := int_cell HA.out.at' ht
      replace h0 := oldcell hBR h0 hb1
      have hrt := HR.out t (List.mem_of_getElem? ht)
      have HNX := Lib.hid (show l.take (K + 1) = l.take K ++ [t] by obtain ⟨h1, h2⟩ := List.getElem?_eq_some_iff.1 ht; rw [List.take_succ_eq_append_getElem h1, h2])
      have HKEY := Lib.hid (int_key hrt.1 hrt.2)
      obtain ⟨z, hz⟩ : ∃ z : Nat, (l.take K).count t = z := ⟨_, rfl⟩
      have hzl : z ≤ 20000 := by rw [← hz]; exact Nat.le_trans List.count_le_length (by rw [List.length_take]; omega)
      have HZ := Lib.hid hz
      have hwz : IntKind.i64.wrap ((z : Int) + 1) = (z : Int) + 1 := by rw [IntWalk.i64_in]; omega
      clear ht hb1 hz
      go_wp2_with (first | (go_at_call 117; refine (same_any6 t _).mono ?_; rintro e w' ⟨rfl, hw⟩; replace hw := hw.symm; subst hw) | (at_lookup; refine wpList_lookup_own_int _ rfl _ _ 105 rfl 3 3 .i64 int_keyed' Try.underlying105 Try.underlying3 (Try.zeroValue3 _) bm nn D rfl hmp _ _ rfl HKEY.out ?_; intro cc hat hwc; obtain rfl : cc = (z : Int) := by (rw [HC.out.read hat, HZ.out])) | (at_mapUpdate; refine wpList_mapUpdate_own _ rfl _ _ _ 105 rfl 3 3 int_keyed' Try.underlying105 _ bm nn D rfl hmp (by simp [maxLen]; omega) _ _ (keyI t) rfl rfl HKEY.out (numI ((z : Int) + 1)) [] (plainElem_int Try.underlying3 (wf_int (by omega) (by omega))) ?_; intro w4 hown4 hgr4))
      go_roundg (l.length - (K + 1))
      case measure => (have := HM.out; omega)
      case rel => exact ⟨K + 1, _, _, by go_num, by omega, rfl, by omega, hown4, by rw [HNX.out]; exact HC.out.put t (by rw [HZ.out]), hkx.trans (KeepX.of_grown hgr4 (by simp))⟩
    case neg =>
      obtain rfl : K = l.length := by omega
      have hcm := HC.out
      rw [List.take_length] at hcm
      have HCM := Lib.hid hcm
      clear hcm
      go_wp2_with fail
      go_ret
      exact ⟨bm, D, nn, rfl, hmp, HCM.out, hbs, hBR⟩

set_option maxRecDepth 100000 in
theorem diff1_any (t : Int) (bv bm n : Nat) (D : DM) (b : List Int) (w : World) (hv : w.cell? ⟨bv, 0, none⟩ = some (.map (some bm))) (hm : MapAt w bm n D) (hc : CMap D b) (h0 : 0 ≤ t) (h1 : t < 100000) :
    Calls Try.prog 120 #[.int .i64 t, .pointer (some ⟨bv, 0, none⟩)] w fun e w' => e = .returned (.bool (b.count t == 0)) ∧ w' = w := by
  have HKEY := Lib.hid (int_key h0 h1)
  obtain ⟨z, hz⟩ : ∃ z : Nat, b.count t = z := ⟨_, rfl⟩
  have HZ := Lib.hid hz; have HC := Lib.hid hc
  clear hz hc
  go_enter Try.func120, Try.ntmps120
  go_wp2_with (first | (at_lookup; refine wpList_lookup_own_int _ rfl _ _ 105 rfl 3 3 .i64 int_keyed' Try.underlying105 Try.underlying3 (Try.zeroValue3 _) bm n D rfl hm _ _ rfl HKEY.out ?_; intro cc hat hwc; obtain rfl : cc = (z : Int) := by (rw [HC.out.read hat, HZ.out])))
  go_ret
  rw [HZ.out]
  refine ⟨?_, rfl⟩
  have e : (((z : Nat) : Int) == 0) = (z == 0) := by rw [Bool.eq_iff_iff]; simp
  first | rw [← e]; rfl | rfl | simp [e]


set_option maxRecDepth 100000 in
set_option maxHeartbeats 2000000 in
theorem keep_any (a b : List Int) (pa : Option Addr) (ca bv bm n : Nat) (D : DM) (w : World) (hA : SI w pa ca a) (hl : a.length ≤ 20000) (hr : ∀ x ∈ a, 0 ≤ x ∧ x < 100000) (hv : w.cell? ⟨bv, 0, none⟩ = some (.map (some bm))) (hm : MapAt w bm n D) (hc : CMap D b) :
    Calls Try.prog 118 #[.slice pa a.length ca, .func (.func 120) #[] #[.pointer (some ⟨bv, 0, none⟩)]] w
      fun e w' => ∃ q cq, e = .returned (.slice q (rDiff a b).length cq) ∧ SI w' q cq (rDiff a b) ∧ (∀ ad, q = some ad → w.heap.size ≤ ad.block) ∧ Below w.heap.size w w' := by
  obtain ⟨i0, hi0, hz0, hz1, hz2⟩ := info_parts int_info
  have HA := Lib.hid hA; have HR := Lib.hid hr; have HC := Lib.hid hc
  have hbv := World.block_lt_of_cell? _ _ hv
  clear hA hr hc
  obtain ⟨B, hBe⟩ : ∃ B, w.heap.size = B := ⟨_, rfl⟩
  have HBE := Lib.hid hBe
  clear hBe
  go_enter Try.func118, Try.ntmps118
  go_wp2_with fail
  go_loopg [10, 5] a.length (fun M s10 s5 wr => ∃ (K : Nat) (v : Value) (o : List Int), s10 = .int .i64 K ∧ s5 = v ∧ K ≤ a.length ∧ M = a.length - K ∧ rDiff (a.take K) b = o ∧ wr.ownsRow B 3 1 v o.length (flat 1 iEnc o) ∧ Below B w wr)
  case atStart => exact ⟨0, _, [], rfl, rfl, by omega, rfl, rfl, World.ownsRow_nil _ _ _ _, Below.refl _ _⟩
  case round =>
    obtain ⟨K, v, o, rfl, hsv, hK, hM, ho, hown, hb⟩ := hrel
    have HM := Lib.hid hM; have HO := Lib.hid hown; have HOO := Lib.hid ho
    have hol : o.length ≤ 20000 := by rw [← ho]; exact Nat.le_trans (rDiff_len _ _) (by rw [List.length_take]; omega)
    have hBR : Below w.heap.size w wr := by rw [HBE.out]; exact hb
    have zb := hb.size
    clear hM hown ho
    subst hsv
    by_cases hlt : K < a.length
    case pos =>
      have hlt0 : (0 : Int) ≤ (K : Int) := by omega
      have hlt1 : (K : Int) < (a.length : Int) := by omega
      obtain ⟨t, ht⟩ : ∃ t, a[K]? = some t := ⟨_, List.getElem?_eq_getElem hlt⟩
      obtain ⟨bx, off, rfl, hb1, h0⟩ := int_cell HA.out.at' ht
      replace h0 := oldcell hBR h0 hb1
      have hrt := HR.out t (List.mem_of_getElem? ht)
      have HNX := Lib.hid (rDiff_snoc (b := b) ht)
      have hv1 := oldcell hBR hv hbv
      have hm1 := hm.up hBR
      obtain ⟨z, hz⟩ : ∃ z : Bool, (b.count t == 0) = z := ⟨_, rfl⟩
      have HZ := Lib.hid hz
      clear ht hb1 hz
      cases z
      case false =>
        go_wp2_with (first | (go_at_call 120; refine (diff1_any t bv bm n D b _ hv1 hm1 HC.out hrt.1 hrt.2).mono ?_; rw [HZ.out]; rintro e w' ⟨rfl, hw⟩; replace hw := hw.symm; subst hw))
        go_roundg (a.length - (K + 1))
        case measure => (have := HM.out; omega)
        case rel => exact ⟨K + 1, _, o, by go_num, rfl, by omega, rfl, by rw [HNX.out, HZ.out]; exact HOO.out, HO.out, hb⟩
      case true =>
        go_wp2_with (first | (go_at_call 120; refine (diff1_any t bv bm n D b _ hv1 hm1 HC.out hrt.1 hrt.2).mono ?_; rw [HZ.out]; rintro e w' ⟨rfl, hw⟩; replace hw := hw.symm; subst hw) | (at_builtin; go_must (refine wpList_app2 (enc := iEnc) rfl _ _ _ rfl B 3 i0 _ 8 Try.underlying42 hi0 hz0 hz1 hz2 rfl (by omega) _ o rfl ((HO.out).alloc _) (some ⟨wr.heap.size, 0, none⟩) [t] 1 rfl (fun h => by cases h) (SlAt.int1 (by go_cell)) iEnc_one (by simp [maxLen]; omega) (by simp; omega) (by simp; have := HBE.out; omega) ?_); intro v2 w3 hown2 hgr2 hbl2 hat2; have HOW2 := Lib.hid hown2; have HBL3 := Lib.hid (show Below B wr w3 from (Below.alloc (Below.refl _ _) (by have := HBE.out; omega) _).trans hbl2); clear hown2 hgr2 hbl2 hat2))
        go_roundg (a.length - (K + 1))
        case measure => (have := HM.out; omega)
        case rel => exact ⟨K + 1, _, o ++ [t], by go_num, rfl, by omega, rfl, by rw [HNX.out, HZ.out, if_pos rfl, HOO.out], HOW2.out, hb.trans HBL3.out⟩
    case neg =>
      obtain rfl : K = a.length := by omega
      have ho := HOO.out
      rw [List.take_length] at ho
      obtain ⟨q, cq, hvq, o1, o2, o3, o4⟩ := owns_val (by decide) HO.out
      subst hvq
      have hlt2 := HO.out.lt
      have HOF := Lib.hid ho; have O3 := Lib.hid o3; have O4 := Lib.hid o4; have HLT := Lib.hid hlt2
      clear ho o3 o4 hlt2
      go_wp2_with fail
      go_ret
      rw [HOF.out]
      exact ⟨q, cq, rfl, ⟨o1, o2, O3.out, O4.out, fun ad h => (HLT.out ad.block (by rw [h]; rfl)).2⟩, fun ad h => by rw [HBE.out]; exact (HLT.out ad.block (by rw [h]; rfl)).1, hBR⟩

set_option maxRecDepth 100000 in
set_option maxHeartbeats 4000000 in
theorem reldiff_any (a b : List Int) (ar1 ar2 : Int) (pa pb : Option Addr) (ca cb : Nat) (w : World) (hA : SI w pa ca a) (hD : SI w pb cb b) (hla : a.length ≤ 20000) (hlb : b.length ≤ 20000) (ha : ∀ x ∈ a, 0 ≤ x ∧ x < 100000) (hb : ∀ x ∈ b, 0 ≤ x ∧ x < 100000) :
    Calls Try.prog 67 #[.agg #[.int .i64 ar1, .slice pa a.length ca], .agg #[.int .i64 ar2, .slice pb b.length cb]] w (RetR w ar1 (rDiff a b)) := by
 obtain ⟨s, hs0⟩ : ∃ s, w.heap.size = s := ⟨_, rfl⟩
 obtain ⟨W2, hW2⟩ : ∃ W2, W2 = (((w.alloc (.cells #[.int .i64 ar1, .slice pa a.length ca] 44)).alloc (.cells #[.int .i64 ar2, .slice pb b.length cb] 44)).alloc (.cells #[.int .i64 0, .slice none 0 0] 44)) := ⟨_, rfl⟩
 have hbw : Below w.heap.size w W2 := by rw [hW2]; go_grown
 have zz : s + 3 ≤ W2.heap.size := by rw [hW2, ← hs0]; simp
 have hs : Cells W2 [(s + 2, 0, .int .i64 0), (s + 2, 1, .slice none 0 0)] := by rw [hW2, ← hs0]; exact ⟨⟨by go_cell, by go_cell⟩, ⟨by go_cell, by go_cell⟩, trivial⟩
 have hk : Cells W2 [(s, 0, .int .i64 ar1), (s, 1, .slice pa a.length ca), (s + 1, 0, .int .i64 ar2), (s + 1, 1, .slice pb b.length cb)] := by rw [hW2, ← hs0]; exact ⟨⟨by go_cell, by go_cell⟩, ⟨by go_cell, by go_cell⟩, ⟨by go_cell, by go_cell⟩, ⟨by go_cell, by go_cell⟩, trivial⟩
 have HW2 := Lib.hid hW2; have HS := Lib.hid hs0
 clear hW2 hs0
 have HA := Lib.hid hA; have HD := Lib.hid hD; have HRA := Lib.hid ha; have HRB := Lib.hid hb
 clear hA hD ha hb
 go_enter Try.func67, Try.ntmps67
 go_upto_region 1 with fail
 rw [← HW2.out]
 simp only [HS.out, Nat.add_assoc, Nat.reduceAdd]
 obtain ⟨⟨y20, y20f⟩, ⟨y21, y21f⟩, -⟩ := id hs
 obtain ⟨⟨y00, y00f⟩, ⟨y01, y01f⟩, ⟨y10, y10f⟩, ⟨y11, y11f⟩, -⟩ := id hk
 go_upto_region 2 with (first | (go_at_call 116; refine (set_any b ar2 pb cb W2 (HD.out.up hbw) hlb HRB.out).mono ?_; rintro e w3 ⟨bm, D, nn, rfl, hmp, hcm, hbm, hb3⟩))
 obtain ⟨bv, hbv⟩ : ∃ x, x = w3.heap.size := ⟨_, rfl⟩
 obtain ⟨w4, hw4⟩ : ∃ x, x = w3.alloc (.cells #[.map (some bm)] 105) := ⟨_, rfl⟩
 rw [← hw4, ← hbv]
 have hb4 : Below W2.heap.size W2 w4 := by rw [hw4]; exact bal hb3 _
 have v0 : w4.cell? ⟨bv, 0, none⟩ = some (.map (some bm)) := by rw [hw4, hbv]; go_cell
 replace hmp : MapAt w4 bm nn D := by rw [hw4]; exact World.ownsMap.alloc hmp _
 have HCM := Lib.hid hcm
 clear hw4 hbv hcm hbm hb3
 replace hs := hs.up hb4; replace hk := hk.up hb4; replace hbw := btr hbw hb4; replace zz := Nat.le_trans zz (Below.size hb4); clear hb4
 clear y20 y20f y21 y21f y00 y00f y01 y01f y10 y10f y11 y11f
 replace hmp : MapAt w4 bm nn D := hmp
 refine wp_region_seqE (fun x => Below w4.heap.size w4 x) (.one 0 1 (.one 1 0 (.one 2 1 (.one 3 0 (.one 4 1 (.alt 5 2 (.one 6 1 (.alt 7 3 .nil .stop)) .stop)))))) (by kernel_rfl) (by kernel_rfl) (by kernel_rfl) (Below.drew (Below.refl _ _)) ?_
 iterate 5 (first | (refine seqE_free (v := ?_) rfl (by rfl) ?_ ?_; rotate_left; (focus (intro w; go_simp; try with_reducible rfl)); (try simp only [Act.put, List.setIfInBounds_toArray, List.set_cons_zero, List.set_cons_succ])) | (refine seqE_pure (v := ?_) rfl (by rfl) ?_ ?_; rotate_left; (focus (intro w hS; obtain ⟨⟨y00, -⟩, ⟨y01, -⟩, -⟩ := hk.up hS; go_simp; try with_reducible rfl)); (try simp only [Act.put, List.setIfInBounds_toArray, List.set_cons_zero, List.set_cons_succ])))
 refine seqE_call (f := ?_) (args := ?_) rfl (by rfl) ?_ ?_ seqE_stop
 rotate_left 2
 focus (intro w hS; go_simp; first | done | with_reducible rfl | (refine ⟨?_, ?_⟩ <;> with_reducible rfl))
 intro w1 hS
 refine (keep_any a b pa ca bv bm nn D w1 (HA.out.up (btr hbw hS)) hla HRA.out (oldcell hS v0 (World.block_lt_of_cell? _ _ v0)) (hmp.up hS) HCM.out).mono ?_
 rintro e v1 ⟨q, cq, rfl, hR, hqn, hbl⟩
 refine ⟨_, rfl, (fun x => Below v1.heap.size v1 x), Below.refl _ _, fun x hx => btr (btr hS hbl) hx, ?_⟩
 have hXw := Nat.le_trans zz hS.size
 have hX := btr hS hbl
 replace hs := hs.up hX; replace hk := hk.up hX; replace hbw := btr hbw hX; replace zz := Nat.le_trans zz (Below.size hX)
 have oR : ∀ ad, q = some ad → s + 2 ≠ ad.block := fun ad h e => by have h1 := hqn ad h; have h2 := hXw; omega
 clear hqn
 clear hX hS hbl hXw
 (try simp only [Act.put, List.setIfInBounds_toArray, List.set_cons_zero, List.set_cons_succ])
 iterate 1 (refine seqE_free (v := ?_) rfl (by rfl) ?_ ?_; rotate_left; (focus (intro w; go_simp; try with_reducible rfl)); (try simp only [Act.put, List.setIfInBounds_toArray, List.set_cons_zero, List.set_cons_succ]))
 refine seqE_storeB rfl (by rfl) ?_ seqE_stop
 intro w2 hS
 replace hs := hs.up hS; replace hk := hk.up hS; replace hR := hR.up hS; replace hbw := btr hbw hS; replace zz := Nat.le_trans zz (Below.size hS)
 obtain ⟨⟨y20, y20f⟩, ⟨y21, y21f⟩, -⟩ := id hs
 obtain ⟨⟨y00, y00f⟩, ⟨y01, y01f⟩, ⟨y10, y10f⟩, ⟨y11, y11f⟩, -⟩ := id hk
 refine ⟨((w2.setCell ⟨s + 2, 0, none⟩ (.int .i64 ar1)).setCell ⟨s + 2, 1, none⟩ (.slice q (rDiff a b).length cq)), (by go_simp; try with_reducible rfl), (fun x => Below (((w2.setCell ⟨s + 2, 0, none⟩ (.int .i64 ar1)).setCell ⟨s + 2, 1, none⟩ (.slice q (rDiff a b).length cq))).heap.size (((w2.setCell ⟨s + 2, 0, none⟩ (.int .i64 ar1)).setCell ⟨s + 2, 1, none⟩ (.slice q (rDiff a b).length cq))) x), Below.refl _ _, ?_⟩
 obtain ⟨v2, hw⟩ : ∃ zW, zW = ((w2.setCell ⟨s + 2, 0, none⟩ (.int .i64 ar1)).setCell ⟨s + 2, 1, none⟩ (.slice q (rDiff a b).length cq)) := ⟨_, rfl⟩
 rw [← hw]
 replace hs : Cells v2 [(s + 2, 0, .int .i64 ar1), (s + 2, 1, .slice q (rDiff a b).length cq)] := by rw [hw]; exact ⟨⟨by go_cell, (fz (fz y20f))⟩, ⟨by go_cell, (fz (fz y21f))⟩, trivial⟩
 replace hk : Cells v2 [(s, 0, .int .i64 ar1), (s, 1, .slice pa a.length ca), (s + 1, 0, .int .i64 ar2), (s + 1, 1, .slice pb b.length cb)] := by rw [hw]; exact ((hk.far (by simp <;> omega)).far (by simp <;> omega))
 replace hR : SI v2 q cq (rDiff a b) := by rw [hw]; exact ((hR.set (oR) _).set (oR) _)
 replace hbw : Below w.heap.size w v2 := by rw [hw]; exact (Below.setCell (Below.setCell hbw (by have h := HS.out; (try dsimp only); omega) _) (by have h := HS.out; (try dsimp only); omega) _)
 replace zz : s + 3 ≤ v2.heap.size := by rw [hw]; simpa using zz
 clear hw
 clear y20 y20f y21 y21f y00 y00f y01 y01f y10 y10f y11 y11f
 clear hS
 (try simp only [Act.put, List.setIfInBounds_toArray, List.set_cons_zero, List.set_cons_succ])
 refine seqE_nil ?_
 intro wz hS
 replace hs := hs.up hS; replace hk := hk.up hS; replace hR := hR.up hS; replace hbw := btr hbw hS; replace zz := Nat.le_trans zz (Below.size hS); clear hS
 obtain ⟨⟨y20, y20f⟩, ⟨y21, y21f⟩, -⟩ := id hs
 obtain ⟨⟨y00, y00f⟩, ⟨y01, y01f⟩, ⟨y10, y10f⟩, ⟨y11, y11f⟩, -⟩ := id hk
 go_wp2_with fail
 refine bodyPost_ret (by simp [results, Try.results67, go_sem, y20, y21]; try rfl) rfl ?_
 exact ⟨_, _, rfl, hR, hbw⟩

set_option maxRecDepth 100000 in
set_option maxHeartbeats 4000000 in
theorem rin_any (a b : List Int) (ar1 ar2 : Int) (pa pb : Option Addr) (ca cb : Nat) (w : World) (hA : SI w pa ca a) (hD : SI w pb cb b) (hla : a.length ≤ 20000) (hlb : b.length ≤ 20000) (ha : ∀ x ∈ a, 0 ≤ x ∧ x < 100000) (hb : ∀ x ∈ b, 0 ≤ x ∧ x < 100000) :
    Calls Try.prog 41 #[.agg #[.int .i64 ar1, .slice pa a.length ca], .agg #[.int .i64 ar2, .slice pb b.length cb]] w (RetB w ((rDiff a b).length == 0)) := by
 obtain ⟨s, hs0⟩ : ∃ s, w.heap.size = s := ⟨_, rfl⟩
 obtain ⟨W2, hW2⟩ : ∃ W2, W2 = ((w.alloc (.cells #[.int .i64 ar1, .slice pa a.length ca] 44)).alloc (.cells #[.int .i64 ar2, .slice pb b.length cb] 44)) := ⟨_, rfl⟩
 have hbw : Below w.heap.size w W2 := by rw [hW2]; go_grown
 have zz : s + 2 ≤ W2.heap.size := by rw [hW2, ← hs0]; simp
 have hk : Cells W2 [(s, 0, .int .i64 ar1), (s, 1, .slice pa a.length ca), (s + 1, 0, .int .i64 ar2), (s + 1, 1, .slice pb b.length cb)] := by rw [hW2, ← hs0]; exact ⟨⟨by go_cell, by go_cell⟩, ⟨by go_cell, by go_cell⟩, ⟨by go_cell, by go_cell⟩, ⟨by go_cell, by go_cell⟩, trivial⟩
 have HW2 := Lib.hid hW2; have HS := Lib.hid hs0
 clear hW2 hs0
 have HA := Lib.hid hA; have HD := Lib.hid hD; have HRA := Lib.hid ha; have HRB := Lib.hid hb
 clear hA hD ha hb
 go_enter Try.func41, Try.ntmps41
 go_upto_region 1 with fail
 rw [← HW2.out]
 simp only [HS.out, Nat.add_assoc, Nat.reduceAdd]
 obtain ⟨⟨y00, y00f⟩, ⟨y01, y01f⟩, ⟨y10, y10f⟩, ⟨y11, y11f⟩, -⟩ := id hk
 have hfd : ∀ (q : Option Addr) (n cq : Nat) (w : World), (Instr.field 44 (.agg #[.int .i64 ar1, .slice q n cq]) 1).run Try.prog w = .ok (.slice q n cq) w := fun _ _ _ _ => by kernel_rfl
 go_wp2_with (first | (go_at_call 67; refine (reldiff_any a b ar1 ar2 pa pb ca cb W2 (HA.out.up hbw) (HD.out.up hbw) hla hlb HRA.out HRB.out).mono ?_; rintro e w3 ⟨q, cq, rfl, hR, hb3⟩))
 refine bodyPost_ret (by simp [results, Try.results41, go_sem]; try rfl) rfl ?_
 refine ⟨?_, btr hbw hb3⟩
 have e : ((((rDiff a b).length : Nat) : Int) == 0) = ((rDiff a b).length == 0) := by rw [Bool.eq_iff_iff]; simp
 first | rfl | (rw [← e]; rfl) | simp [e]
end Go.Proofs.Ytadilppdlbhjnaa
