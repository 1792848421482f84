/- Walk of the law SolverCores. -/
import Derived.Test.YtdibfjcmgbpnpaaLL
namespace Go.Proofs.Ytdibfjcmgbpnpaa
set_option linter.unusedSimpArgs false
set_option linter.unusedVariables false
open Go.RowKit

/-- a slice of ints in a block that the solver does not hold -/
structure SIo (w : World) (o : Nat → Option Role) (q : Option Addr) (cq : Nat) (l : List Int) : Prop where
  si : SI w q cq l
  un : l ≠ [] → ∀ a, q = some a → o a.block = none
theorem SIo.up {w w' : World} {o : Nat → Option Role} {q : Option Addr} {cq : Nat} {l : List Int} (h : SIo w o q cq l) (hB : Below w.heap.size w w') : SIo w' o q cq l := ⟨h.si.up hB, h.un⟩
theorem SIo.ext {w w' : World} {o o' : Nat → Option Role} {q : Option Addr} {cq : Nat} {l : List Int} (h : SIo w o q cq l) (hx : Ext NoX w o w' o') : SIo w' o' q cq l :=
  ⟨h.si.keep' hx.size fun h0 a ha => hx.block _ (h.si.lt h0 a ha) (h.un h0 a ha) fun r => r, fun h0 a ha => by rw [hx.tag _ (h.si.lt h0 a ha) fun r => r]; exact h.un h0 a ha⟩
theorem SIo.own {w : World} {o : Nat → Option Role} {B : Nat} {q : Option Addr} {cq : Nat} {l : List Int} (h : w.ownsRow B 3 1 (.slice q l.length cq) l.length (iV l)) (hB : ∀ g, o g ≠ none → g < B) : SIo w o q cq l := by
  refine ⟨SI.of_owns h, fun h0 a ha => ?_⟩
  have h' : OwnG 1 iEnc 3 w B (.slice q l.length cq) l := by unfold OwnG; rw [flat_iV]; exact h
  obtain ⟨q2, cq2, e, h1, h2, h3, h4, h5⟩ := h'.val (by decide)
  simp only [Value.slice.injEq] at e
  obtain ⟨rfl, -, rfl⟩ := e
  have hb := (h5 a ha).1
  cases ho : o a.block with
  | none => rfl
  | some r => have := hB a.block (by rw [ho]; intro q; cases q); omega
theorem nodup_take {K : List Int} (h : K.Nodup) {i : Nat} {y : Int} (hi : K[i]? = some y) : y ∉ K.take i := by
  intro hy
  obtain ⟨j, hj⟩ := List.mem_iff_getElem?.1 hy
  rw [List.getElem?_take] at hj
  split at hj
  · rename_i hji
    obtain ⟨h1, e1⟩ := List.getElem?_eq_some_iff.1 hj
    obtain ⟨h2, e2⟩ := List.getElem?_eq_some_iff.1 hi
    exact List.pairwise_iff_getElem.1 h j i h1 h2 hji (by rw [e1, e2])
  · cases hj
set_option maxRecDepth 100000 in
set_option maxHeartbeats 8000000 in
theorem cores_any {w : World} {x : Nat} (hx : x < 256) {p : Option Addr} {ca : Nat} {l : List SAct} (ha : AcAt w p ca l) {q : Option Addr} {cb : Nat} {am : List Int} (hq : SI w q cb am) {q2 : Option Addr} {cb2 : Nat} {am2 : List Int} (hq2 : SI w q2 cb2 am2) :
    Calls Try.prog 5 #[.int .u8 x, .slice p l.length ca, .slice q am.length cb, .slice q2 am2.length cb2] w fun e w' => e = .returned (.bool true) ∧ Below w.heap.size w w' := by
 have hhead := head_any (w := w)
 have hla := ha.le; have hma := ha.cm
 simp only [maxLen] at hma
 have HA := Lib.hid ha; have HH := Lib.hid hhead
 obtain ⟨N, hN⟩ : ∃ z, l.length = z := ⟨_, rfl⟩
 rw [hN] at hla ⊢
 have hlb := hq.le; have hmb := hq.cm
 simp only [maxLen] at hmb
 have HQ := Lib.hid hq
 obtain ⟨M, hM⟩ : ∃ z, am.length = z := ⟨_, rfl⟩
 rw [hM] at hlb ⊢
 have HM := Lib.hid hM
 clear hq hM
 have hlb2 := hq2.le; have hmb2 := hq2.cm
 simp only [maxLen] at hmb2
 have HQ2 := Lib.hid hq2
 obtain ⟨M2, hM2⟩ : ∃ z, am2.length = z := ⟨_, rfl⟩
 rw [hM2] at hlb2 ⊢
 have HM2 := Lib.hid hM2
 clear hq2 hM2
 obtain ⟨t, ht⟩ : ∃ z, agreat l = z := ⟨_, rfl⟩
 have HN := Lib.hid hN; have HT := Lib.hid ht
 clear ha hhead hN ht
 go_enter Try.func5, Try.ntmps5
 go_upto_region 2 with (first | (go_at_call 10; refine HH.out.mono ?_; rintro e w1 ⟨rfl, hb⟩; have B1 := Lib.hid hb; clear hb))
 have hgr := great_any (HA.out.up B1.out)
 rw [HN.out, HT.out] at hgr
 have HGR := Lib.hid hgr; clear hgr
 cases t with
 | true =>
   go_wp2_with (first | (go_at_call 11; refine HGR.out.mono ?_; rintro e w2 ⟨rfl, hw⟩; replace hw := hw.symm; subst hw))
   go_ret
   exact ⟨rfl, B1.out⟩
 | false =>
   go_upto_region 4 with (first | (go_at_call 11; refine HGR.out.mono ?_; rintro e w2 ⟨rfl, hw⟩; replace hw := hw.symm; subst hw))
   have hsm : l.length ≤ 60 ∧ ∀ a ∈ l, a.lits.length ≤ 12 := by
     have h := HT.out
     unfold agreat at h
     rw [Bool.or_eq_false_iff, List.any_eq_false] at h
     refine ⟨by have := h.1; simpa using this, fun a ha => ?_⟩
     have := h.2 a ha
     simpa using this
   obtain ⟨n, hn⟩ : ∃ z, x % 9 = z := ⟨_, rfl⟩
   have hn8 : n ≤ 8 := by omega
   have hvr : ∀ w, Calls Try.prog 12 #[.int .u8 x] w fun e w' => e = .returned (.int .i64 (n : Nat)) ∧ w' = w := fun w => by rw [← hn]; exact vars_any hx
   have hmd := fun (wx : World) (hb : Below w.heap.size w wx) => made_any hn8 (HA.out.up hb) hsm.1 hsm.2
   rw [HN.out] at hmd
   have hrl := rcl_le n l
   rw [HN.out] at hrl
   have HSM := Lib.hid hsm; have HVR := Lib.hid hvr; have HMD := Lib.hid hmd
   have hN60 : N ≤ 60 := by rw [← HN.out]; exact hsm.1
   clear hsm hvr hmd hn HGR
   go_upto_region 5 with (first | (go_at_call 12; refine (HVR.out _).mono ?_; rintro e w2 ⟨rfl, hw⟩; replace hw := hw.symm; subst hw))
   go_upto_region 6 with (first | (go_at_call 22; refine (HMD.out _ B1.out).mono ?_; rintro e w4 ⟨b1, o1, rfl, hso, hb⟩; have HS1 := Lib.hid hso; have W1 := Lib.hid hb; have B2 := Lib.hid (B1.out.trans (hb.mono B1.out.size)); clear hso hb))
   have HLO := Lib.hid (show am ≠ [] → ∀ a, q = some a → a.block < w1.heap.size from fun h0 a ha => Nat.lt_of_lt_of_le (HQ.out.lt h0 a ha) B1.out.size)
   have hok := HS1.out.gd.sv.ok
   have HOKA := Lib.hid hok; clear hok
   have HLO2 := Lib.hid (show am2 ≠ [] → ∀ a, q2 = some a → a.block < w1.heap.size from fun h0 a ha => Nat.lt_of_lt_of_le (HQ2.out.lt h0 a ha) B1.out.size)
   by_cases h12 : 12 < M
   case pos =>
     have h12i : (12 : Int) < (M : Int) := by omega
     go_wp2_with fail
     go_ret
     exact ⟨rfl, B2.out⟩
   case neg =>
   have h12i : ¬ (12 : Int) < (M : Int) := by omega
   by_cases h122 : 12 < M2
   case pos =>
     have h12i2 : (12 : Int) < (M2 : Int) := by omega
     go_wp2_with fail
     go_ret
     exact ⟨rfl, B2.out⟩
   case neg =>
   have h12i2 : ¬ (12 : Int) < (M2 : Int) := by omega
   have hval := rvalid21_any (HQ.out.up B2.out) (by rw [HM.out]; omega) n (by omega)
   rw [vlit_badl, HM.out] at hval
   have hval2 := rvalid21_any (HQ2.out.up B2.out) (by rw [HM2.out]; omega) n (by omega)
   rw [vlit_badl, HM2.out] at hval2
   obtain ⟨t, ht⟩ : ∃ z, vlit n am = z := ⟨_, rfl⟩
   obtain ⟨t2, ht2⟩ : ∃ z, vlit n am2 = z := ⟨_, rfl⟩
   rw [ht] at hval
   rw [ht2] at hval2
   have HVAL := Lib.hid hval; have HVT := Lib.hid ht; have HVAL2 := Lib.hid hval2; have HVT2 := Lib.hid ht2
   clear hval ht hval2 ht2
   cases t with
   | false =>
     go_wp2_with (first | (go_at_call 14; first | ((with_reducible refine HVAL.out.mono ?_); rintro e wv ⟨rfl, hw⟩; replace hw := hw.symm; subst hw) | ((with_reducible refine HVAL2.out.mono ?_); rintro e wv ⟨rfl, hw⟩; replace hw := hw.symm; subst hw)))
     go_ret
     exact ⟨rfl, B2.out⟩
   | true =>
   cases t2 with
   | false =>
     go_wp2_with (first | (go_at_call 14; first | ((with_reducible refine HVAL.out.mono ?_); rintro e wv ⟨rfl, hw⟩; replace hw := hw.symm; subst hw) | ((with_reducible refine HVAL2.out.mono ?_); rintro e wv ⟨rfl, hw⟩; replace hw := hw.symm; subst hw)))
     go_ret
     exact ⟨rfl, B2.out⟩
   | true =>
   go_upto_region 8 with (first | (go_at_call 14; first | ((with_reducible refine HVAL.out.mono ?_); rintro e wv ⟨rfl, hw⟩; replace hw := hw.symm; subst hw) | ((with_reducible refine HVAL2.out.mono ?_); rintro e wv ⟨rfl, hw⟩; replace hw := hw.symm; subst hw)))
   have hvo := vlit_iff.1 HVT.out; have hvo2 := vlit_iff.1 HVT2.out
   have HVO := Lib.hid hvo; have HVO2 := Lib.hid hvo2
   clear hvo hvo2 HVT HVT2 HVAL HVAL2
   obtain ⟨S0, hS0⟩ : ∃ z, smade n l = z := ⟨_, rfl⟩
   have hso := HS1.out
   rw [hS0] at hso
   have hful := full_any hso (by omega)
   by_cases hf : 10000 ≤ S0.proof.length
   case pos =>
     rw [decide_eq_true hf] at hful
     have HF := Lib.hid hful; clear hful hf
     go_wp2_with (first | (go_at_call 16; refine HF.out.mono ?_; rintro e w5 ⟨rfl, hb⟩; have B3 := Lib.hid (btr B2.out hb); clear hb))
     go_ret
     exact ⟨rfl, B3.out⟩
   case neg =>
   rw [decide_eq_false hf] at hful
   have hdn := gd_done hso.gd am 6561
   have hsv := fun (wx : World) (hb : Below w4.heap.size w4 wx) => (hso.up hb).solve_any (by omega) (by omega) (HQ.out.up (btr B2.out hb)) (by rw [HM.out]; omega) (fun h0 a ha => .inl (HLO.out h0 a ha)) 6561 (Nat.le_trans W1.out.size hb.size)
   have hcl := solve_core hso.gd.sv hso.gd.nomk hso.sb am 6561
   obtain ⟨⟨S1, oc⟩, hS1⟩ : ∃ z, solve S0 am 6561 = z := ⟨_, rfl⟩
   rw [hS1] at hdn hsv hcl
   dsimp only at hsv hcl
   rw [HM.out] at hsv
   have HS1 := Lib.hid hso; have HF := Lib.hid hful; have HSV := Lib.hid hsv; have HDN := Lib.hid hdn; have HCL := Lib.hid hcl
   clear hso hful hf hsv hdn hcl hS0 hS1 HMD HVR
   have FULL := trivial
   by_cases hoc : oc = 2
   case neg =>
     have hocb : (oc == 2) = false := (beq_eq_false_iff_ne (α := Int)).2 hoc
     clear hoc
     go_wp2_with (first | (go_at_call 16; refine HF.out.mono ?_; rintro e w5 ⟨rfl, hb⟩; have HB5 := Lib.hid hb; clear hb) | (go_at_call 17; refine (HSV.out _ HB5.out).mono ?_; rintro e w6 ⟨rfl, o6, hso, hx6⟩; have B3 := Lib.hid ((btr B2.out HB5.out).trans ((hx6.low HS1.out.tag (Nat.le_trans W1.out.size HB5.out.size)).1.mono B1.out.size)); clear hso hx6))
     go_ret
     exact ⟨rfl, B3.out⟩
   case pos =>
   subst hoc
   go_upto_region 10 with (first | (go_at_call 16; refine HF.out.mono ?_; rintro e w5 ⟨rfl, hb⟩; have HB5 := Lib.hid hb; clear hb) | (go_at_call 17; refine (HSV.out _ HB5.out).mono ?_; rintro e w6 ⟨rfl, o6, hso, hx6⟩; have hlw := (hx6.low HS1.out.tag (Nat.le_trans W1.out.size HB5.out.size)).1; have B3 := Lib.hid ((btr B2.out HB5.out).trans (hlw.mono B1.out.size)); have HS6 := Lib.hid hso; have Z6 := Lib.hid (Nat.le_trans (Nat.le_trans W1.out.size HB5.out.size) hlw.size); clear hso hx6 hlw))
   clear HF HSV HB5 W1 FULL
   obtain ⟨-, hnd, hsb⟩ := HDN.out.no rfl
   have hun := HDN.out.unsat rfl HVO.out
   obtain ⟨K, hK⟩ : ∃ z, S1.core = z := ⟨_, rfl⟩
   have hcl := HCL.out
   dsimp only at hnd hsb hun
   rw [hK] at hnd hsb hun hcl
   have hKo : ∀ y ∈ K, LOk n y := fun y hy => HVO.out y (hsb y hy)
   have hout2 : routcome n (rcl n l) K = 2 := by
     unfold routcome
     rw [hun.rleast (fun c hc x hx => (HOKA.out c hc x hx).1) fun x hx => (hKo x hx).1]; rfl
   have hout3 : routcome n (rcl n l) (am2 ++ K) = 2 := by
     unfold routcome
     rw [(hun.mono (a' := am2 ++ K) (fun _ h => h) fun x hx => List.mem_append_right _ hx).rleast (fun c hc x hx => (HOKA.out c hc x hx).1) fun x hx => (List.mem_append.1 hx).elim (fun h => (HVO2.out x h).1) fun h => (hKo x h).1]; rfl
   obtain ⟨KL, hKL⟩ : ∃ z, K.length = z := ⟨_, rfl⟩
   have hcr := fun (wx : World) (hb : Below w6.heap.size w6 wx) => core_any (HS6.out.up hb).sol (by rw [hK, hKL]; omega)
   rw [hK, hKL] at hcr
   rw [hKL] at hcl
   have HCR := Lib.hid hcr; have HND := Lib.hid hnd; have HSUB := Lib.hid hsb; have HKO := Lib.hid hKo; have HO2 := Lib.hid hout2; have HO3 := Lib.hid hout3; have HKL := Lib.hid hKL
   clear hcr hnd hsb hun hKo hout2 hout3 hK hKL HDN HCL
   obtain ⟨i0, hi0, hz0, hz1, hz2⟩ := info_parts int_info
   obtain ⟨w7, hw7⟩ : ∃ z, z = w6.alloc (.cells #[] 3) := ⟨_, rfl⟩

   have hb7 : Below w6.heap.size w6 w7 := by rw [hw7]; go_grown
   have own7 : w7.ownsRow w6.heap.size 3 1 (.slice (some ⟨w6.heap.size, 0, none⟩) 0 0) ([] : List Int).length (flat 1 iEnc []) := by rw [hw7]; exact World.ownsRow_made w6 #[] 0 (Nat.le_refl _) (Nat.zero_le _) rfl
   have HW7 := Lib.hid hw7
   clear hw7
   go_upto_region 11 with (first | (go_at_call 19; rw [← HW7.out]; refine (HCR.out _ hb7).mono ?_; rintro e w8 ⟨qk, ck, rfl, how, hb⟩; have hsi := SI.of_owns (l := K) (by rw [HKL.out]; exact how); have HSI := Lib.hid hsi; have own8 := own_up own7 hb; have hb8 := btr hb7 hb; clear how hb hsi) | (at_builtin; go_must (refine wpList_app2 rfl _ _ _ rfl w6.heap.size 3 i0 _ 8 Try.underlying29 hi0 hz0 hz1 hz2 rfl (by decide) _ [] rfl own8 qk K ck (by rw [HKL.out]; rfl) HSI.out.q0 HSI.out.at' (fun _ _ => rfl) (by rw [HKL.out]; simp only [maxLen]; simp; omega) (by rw [HKL.out]; simp; omega) hb8.size ?_; intro v2 w9 ho2 _ hb9 _)))
   rw [List.nil_append, flat_iV, HKL.out] at ho2
   obtain ⟨qc, cc, rfl⟩ : ∃ q2 c2, v2 = .slice q2 KL c2 := by
     rcases ho2.2 with ⟨e, h0⟩ | ⟨g, c, cur, e, -⟩
     · exact ⟨none, 0, by rw [h0]; exact e⟩
     · exact ⟨_, c, e⟩
   have hb69 : Below w6.heap.size w6 w9 := hb8.trans hb9
   have hsc : SIo w9 o6 qc cc K := SIo.own (by rw [HKL.out]; exact ho2) (fun g hg => HS6.out.sol.lt g hg)
   have HSC := Lib.hid hsc; have B4 := Lib.hid (btr B3.out hb69); have HS9 := Lib.hid (HS6.out.up hb69); have Z9 := Lib.hid (Nat.le_trans Z6.out hb69.size)
   clear ho2 hsc hb69 hb9 hb8 own8 own7 HW7 HSI HCR B3 HS6 Z6 hb7
   have hb0 := Below.refl w9.heap.size w9
   have HB0 := Lib.hid hb0; clear hb0
   go_wp2_with fail
   go_loopg [13] KL (fun G s13 wr => ∃ i : Nat, s13 = .int .i64 i ∧ i ≤ KL ∧ G = KL - i ∧ Below w9.heap.size w9 wr)
   case atStart => exact ⟨0, rfl, by omega, rfl, HB0.out⟩
   case round =>
    obtain ⟨i, rfl, hi, hG, hbw⟩ := hrel
    have HG := Lib.hid hG; have HBW := Lib.hid hbw; clear hG hbw HB0
    obtain ⟨w10, hw10⟩ : ∃ z, z = wr := ⟨_, rfl⟩
    subst hw10
    by_cases hlt : i < KL
    case pos =>
     obtain ⟨y, hy⟩ : ∃ x, K[i]? = some x := ⟨_, List.getElem?_eq_getElem (by rw [HKL.out]; exact hlt)⟩
     obtain ⟨bk, ok, rfl, hbk, d0⟩ := int_cell' (HSC.out.si.up HBW.out).at' hy
     have hil : (i : Int) < (KL : Int) := by omega
     have HY := Lib.hid hy
     have hb1 := Below.refl w10.heap.size w10
     have HB1 := Lib.hid hb1
     clear hy hbk hb1
     go_wp2_with fail
     go_loopg [14, 15] M (fun G s14 s15 wr => ∃ k : Nat, s15 = .int .i64 k ∧ k ≤ M ∧ G = M - k ∧ Below w10.heap.size w10 wr ∧ s14 = .bool ((am.take k).any (fun z => decide (z = y))))
     case atStart => exact ⟨0, rfl, by omega, rfl, HB1.out, rfl⟩
     case round =>
      obtain ⟨k, rfl, hk, hG, hbw, rfl⟩ := hrel
      have HG2 := Lib.hid hG; have HBK := Lib.hid hbw; clear hG hbw HB1
      obtain ⟨w11, hw11⟩ : ∃ z, z = wr := ⟨_, rfl⟩
      subst hw11
      obtain ⟨u, hu⟩ : ∃ z, (am.take k).any (fun z => decide (z = y)) = z := ⟨_, rfl⟩
      rw [hu]
      have HU := Lib.hid hu; clear hu
      replace d0 := oldcell HBK.out d0 (World.block_lt_of_cell? _ _ d0)
      by_cases hkM : k < M
      case pos =>
       obtain ⟨z, hz⟩ : ∃ x, am[k]? = some x := ⟨_, List.getElem?_eq_getElem (by rw [HM.out]; exact hkM)⟩
       obtain ⟨ba, oa, rfl, hba, c0⟩ := int_cell' (HQ.out.up (btr B4.out (btr HBW.out HBK.out))).at' hz
       have hkl : (k : Int) < (M : Int) := by omega
       have hst := any_take_succ (f := fun z => decide (z = y)) hz
       rw [HU.out] at hst
       have HST := Lib.hid hst; clear hst hz hba
       go_upto_region 18 with fail
       cases u with
       | true =>

         refine wp_region_seqE (fun x => Below w11.heap.size w11 x) (.one 0 1 (.one 1 1 (.one 2 1 (.one 3 1 (.one 4 1 (.one 5 1 (.one 6 1 (.one 7 1 (.one 8 1 (.one 9 1 (.one 10 1 (.one 11 1 (.one 12 1 .nil))))))))))))) (by kernel_rfl) (by kernel_rfl) (by kernel_rfl) (Below.drew (Below.refl _ _)) ?_
         iterate 2 (refine seqE_free (v := ?_) rfl (by rfl) ?_ ?_; rotate_left; (focus (intro w; go_simp; try with_reducible rfl)); (try simp only [Act.put, List.setIfInBounds_toArray, List.set_cons_zero, List.set_cons_succ]))
         refine seqE_off rfl (by rfl) ?_
         (try simp only [Act.put, List.setIfInBounds_toArray, List.set_cons_zero, List.set_cons_succ])
         refine seqE_off rfl (by rfl) ?_
         (try simp only [Act.put, List.setIfInBounds_toArray, List.set_cons_zero, List.set_cons_succ])
         refine seqE_off rfl (by rfl) ?_
         (try simp only [Act.put, List.setIfInBounds_toArray, List.set_cons_zero, List.set_cons_succ])
         refine seqE_off rfl (by rfl) ?_
         (try simp only [Act.put, List.setIfInBounds_toArray, List.set_cons_zero, List.set_cons_succ])
         refine seqE_off rfl (by rfl) ?_
         (try simp only [Act.put, List.setIfInBounds_toArray, List.set_cons_zero, List.set_cons_succ])
         refine seqE_off rfl (by rfl) ?_
         (try simp only [Act.put, List.setIfInBounds_toArray, List.set_cons_zero, List.set_cons_succ])
         refine seqE_off rfl (by rfl) ?_
         (try simp only [Act.put, List.setIfInBounds_toArray, List.set_cons_zero, List.set_cons_succ])
         refine seqE_off rfl (by rfl) ?_
         (try simp only [Act.put, List.setIfInBounds_toArray, List.set_cons_zero, List.set_cons_succ])
         refine seqE_off rfl (by rfl) ?_
         (try simp only [Act.put, List.setIfInBounds_toArray, List.set_cons_zero, List.set_cons_succ])
         iterate 2 (refine seqE_free (v := ?_) rfl (by rfl) ?_ ?_; rotate_left; (focus (intro w; go_simp; try with_reducible rfl)); (try simp only [Act.put, List.setIfInBounds_toArray, List.set_cons_zero, List.set_cons_succ]))
         refine seqE_nil ?_
         intro w12 hS
         have HB12 := Lib.hid (btr HBK.out hS)
         clear hS
         go_wp2_with fail
         go_roundg (M - (k + 1))
         case measure => (have := HG2.out; omega)
         case rel => exact ⟨k + 1, by go_num, by omega, rfl, HB12.out, by rw [HST.out]; rfl⟩
       | false =>
         by_cases hzy : z = y
         · have hzb : (z == y) = true := by simpa using hzy
           refine wp_region_seqE (fun x => Below w11.heap.size w11 x) (.one 0 1 (.one 1 1 (.one 2 1 (.one 3 1 (.one 4 1 (.one 5 0 (.one 6 1 (.one 7 1 (.one 8 1 (.one 9 0 (.one 10 1 (.one 11 1 (.one 12 1 .nil))))))))))))) (by kernel_rfl) (by kernel_rfl) (by kernel_rfl) (Below.drew (Below.refl _ _)) ?_
           iterate 13 (first | (refine seqE_free (v := ?_) rfl (by rfl) ?_ ?_; rotate_left; (focus (intro w; go_simp; try with_reducible rfl)); (try simp only [Act.put, List.setIfInBounds_toArray, List.set_cons_zero, List.set_cons_succ])) | (refine seqE_pure (v := ?_) rfl (by rfl) ?_ ?_; rotate_left; (focus (intro w hS; have c0 := oldcell hS c0 (World.block_lt_of_cell? _ _ c0); have d0 := oldcell hS d0 (World.block_lt_of_cell? _ _ d0); go_simp; try with_reducible rfl)); (try simp only [Act.put, List.setIfInBounds_toArray, List.set_cons_zero, List.set_cons_succ])))
           refine seqE_nil ?_
           intro w12 hS
           have HB12 := Lib.hid (btr HBK.out hS)
           clear hS
           go_wp2_with fail
           go_roundg (M - (k + 1))
           case measure => (have := HG2.out; omega)
           case rel => exact ⟨k + 1, by go_num, by omega, rfl, HB12.out, by rw [HST.out]; rw [decide_eq_true hzy]; rfl⟩
         · have hzb : (z == y) = false := (beq_eq_false_iff_ne (α := Int)).2 hzy
           refine wp_region_seqE (fun x => Below w11.heap.size w11 x) (.one 0 1 (.one 1 1 (.one 2 1 (.one 3 1 (.one 4 1 (.one 5 0 (.one 6 1 (.one 7 1 (.one 8 1 (.one 9 0 (.one 10 1 (.one 11 1 (.one 12 1 .nil))))))))))))) (by kernel_rfl) (by kernel_rfl) (by kernel_rfl) (Below.drew (Below.refl _ _)) ?_
           iterate 13 (first | (refine seqE_free (v := ?_) rfl (by rfl) ?_ ?_; rotate_left; (focus (intro w; go_simp; try with_reducible rfl)); (try simp only [Act.put, List.setIfInBounds_toArray, List.set_cons_zero, List.set_cons_succ])) | (refine seqE_pure (v := ?_) rfl (by rfl) ?_ ?_; rotate_left; (focus (intro w hS; have c0 := oldcell hS c0 (World.block_lt_of_cell? _ _ c0); have d0 := oldcell hS d0 (World.block_lt_of_cell? _ _ d0); go_simp; try with_reducible rfl)); (try simp only [Act.put, List.setIfInBounds_toArray, List.set_cons_zero, List.set_cons_succ])))
           refine seqE_nil ?_
           intro w12 hS
           have HB12 := Lib.hid (btr HBK.out hS)
           clear hS
           go_wp2_with fail
           go_roundg (M - (k + 1))
           case measure => (have := HG2.out; omega)
           case rel => exact ⟨k + 1, by go_num, by omega, rfl, HB12.out, by rw [HST.out]; rw [decide_eq_false hzy]; rfl⟩
      case neg =>
       obtain rfl : k = M := by omega
       have hmet : u = true := by
         have h := HU.out
         rw [← HM.out, List.take_length] at h
         rw [← h]
         exact List.any_eq_true.2 ⟨y, HSUB.out y (List.mem_of_getElem? HY.out), by simp⟩
       subst hmet
       have hb1 := Below.refl w11.heap.size w11
       have HB1 := Lib.hid hb1
       clear hb1 HU
       go_wp2_with fail
       go_loopg [14, 16] i (fun G s14 s16 wr => ∃ k : Nat, s16 = .int .i64 k ∧ k ≤ i ∧ G = i - k ∧ Below w11.heap.size w11 wr ∧ s14 = .bool true)
       case atStart => exact ⟨0, rfl, by omega, rfl, HB1.out, rfl⟩
       case round =>
        obtain ⟨k2, rfl, hk2, hG, hbw, rfl⟩ := hrel
        have HG3 := Lib.hid hG; have HBK2 := Lib.hid hbw; clear hG hbw HB1
        obtain ⟨w12, hw12⟩ : ∃ z, z = wr := ⟨_, rfl⟩
        subst hw12
        replace d0 := oldcell HBK2.out d0 (World.block_lt_of_cell? _ _ d0)
        by_cases hki : k2 < i
        case neg =>
         obtain rfl : k2 = i := by omega
         go_wp2_with fail
         go_roundg (KL - (k2 + 1))
         case measure => (have := HG.out; omega)
         case rel => exact ⟨k2 + 1, by go_num, by omega, rfl, btr HBW.out (btr HBK.out HBK2.out)⟩
        case pos =>
         obtain ⟨z, hz⟩ : ∃ x, K[k2]? = some x := ⟨_, List.getElem?_eq_getElem (by rw [HKL.out]; omega)⟩
         obtain ⟨ba, oa, hqq, hba, c0⟩ := int_cell' (HSC.out.si.up (btr HBW.out (btr HBK.out HBK2.out))).at' hz
         obtain ⟨rfl, rfl⟩ : bk = ba ∧ ok = oa := by simpa using hqq
         have hkl : (k2 : Int) < (i : Int) := by omega
         have hkl2 : (k2 : Int) < (KL : Int) := by omega
         have hzy : z ≠ y := fun e => nodup_take HND.out HY.out (by
           rw [← e]
           exact List.mem_of_getElem? (i := k2) (by rw [List.getElem?_take, if_pos hki]; exact hz))
         have hzb : (z == y) = false := (beq_eq_false_iff_ne (α := Int)).2 hzy
         have hzn : (z != y) = true := by simpa using hzy
         clear hqq hba hz hzy
         go_upto_region 22 with fail
         refine wp_region_seqE (fun x => Below w12.heap.size w12 x) (.one 0 1 (.one 1 1 (.one 2 1 (.one 3 1 (.one 4 1 (.one 5 0 (.one 6 1 (.one 7 1 (.one 8 1 (.one 9 0 (.one 10 1 (.one 11 1 (.one 12 1 .nil))))))))))))) (by kernel_rfl) (by kernel_rfl) (by kernel_rfl) (Below.drew (Below.refl _ _)) ?_
         iterate 13 (first | (refine seqE_free (v := ?_) rfl (by rfl) ?_ ?_; rotate_left; (focus (intro w; go_simp; try with_reducible rfl)); (try simp only [Act.put, List.setIfInBounds_toArray, List.set_cons_zero, List.set_cons_succ])) | (refine seqE_pure (v := ?_) rfl (by rfl) ?_ ?_; rotate_left; (focus (intro w hS; have c0 := oldcell hS c0 (World.block_lt_of_cell? _ _ c0); have d0 := oldcell hS d0 (World.block_lt_of_cell? _ _ d0); go_simp; try with_reducible rfl)); (try simp only [Act.put, List.setIfInBounds_toArray, List.set_cons_zero, List.set_cons_succ])))
         refine seqE_nil ?_
         intro w13 hS
         have HB13 := Lib.hid (btr HBK2.out hS)
         clear hS
         go_wp2_with fail
         go_roundg (i - (k2 + 1))
         case measure => (have := HG3.out; omega)
         case rel => exact ⟨k2 + 1, by go_num, by omega, rfl, HB13.out, rfl⟩
    case neg =>
     obtain rfl : KL = i := by omega
     clear HG hlt hi
     have hb9_10 := HBW.out
     have hcl := clauses_any HA.out (btr B4.out HBW.out) (n := n) (by omega) HSM.out.1 HSM.out.2
     rw [HN.out] at hcl
     have hou := fun (wx : World) (hb : Below w10.heap.size w10 wx) (q3 : Option Addr) (c3 : Nat) (hc : CsAt (fun g => g < w.heap.size ∨ w10.heap.size ≤ g) wx q3 c3 (rcl n l)) => outcome_any (n := n) (by omega) hc HOKA.out (HSC.out.si.up (btr HBW.out hb)) HKO.out
     rw [HO2.out, HKL.out] at hou
     have HCL := Lib.hid hcl; have HOU := Lib.hid hou
     clear hcl hou hb9_10
     go_upto_region 27 with (first | (go_at_call 21; refine HCL.out.mono ?_; rintro e w11 ⟨q3, c3, rfl, hcs, hb⟩; have hou := HOU.out _ hb _ _ hcs; have HOU1 := Lib.hid hou; have HB11 := Lib.hid hb; clear hcs hb hou) | (go_at_call 25; refine HOU1.out.mono ?_; rintro e w12 ⟨rfl, hb⟩; have HB12 := Lib.hid (btr HBW.out (btr HB11.out hb)); clear hb))
     clear HCL HOU HOU1 HB11 HBW
     obtain ⟨w13, hw13⟩ : ∃ z, z = w12.alloc (.cells #[] 3) := ⟨_, rfl⟩
     have hb13 : Below w12.heap.size w12 w13 := by rw [hw13]; go_grown
     have own13 : w13.ownsRow w12.heap.size 3 1 (.slice (some ⟨w12.heap.size, 0, none⟩) 0 0) ([] : List Int).length (flat 1 iEnc []) := by rw [hw13]; exact World.ownsRow_made w12 #[] 0 (Nat.le_refl _) (Nat.zero_le _) rfl
     have hq13 := HQ2.out.up (btr B4.out (btr HB12.out hb13))
     have HW13 := Lib.hid hw13
     clear hw13
     go_upto_region 28 with (first | (at_builtin; rw [← HW13.out]; go_must (refine wpList_app2 rfl _ _ _ rfl w12.heap.size 3 i0 _ 8 Try.underlying29 hi0 hz0 hz1 hz2 rfl (by decide) _ [] rfl own13 q2 am2 cb2 (by rw [HM2.out]; rfl) hq13.q0 hq13.at' (fun _ _ => rfl) (by rw [HM2.out]; simp only [maxLen]; simp; omega) (by rw [HM2.out]; simp; omega) hb13.size ?_; intro v2 w14 ho2 _ hb14 _)))
     rw [List.nil_append] at ho2
     have hb1214 : Below w12.heap.size w12 w14 := hb13.trans hb14
     have hq14 := HSC.out.up (btr HB12.out hb1214)
     go_upto_region 29 with (first | (at_builtin; go_must (refine wpList_app2 rfl _ _ _ rfl w12.heap.size 3 i0 _ 8 Try.underlying29 hi0 hz0 hz1 hz2 rfl (by decide) _ am2 rfl ho2 qc K cc (by rw [HKL.out]; rfl) hq14.si.q0 hq14.si.at' (fun _ _ => rfl) (by rw [HM2.out, HKL.out]; simp only [maxLen]; omega) (by rw [HM2.out, HKL.out]; omega) hb1214.size ?_; intro v3 w15 ho3 _ hb15 _)))
     have hb1215 : Below w12.heap.size w12 w15 := hb1214.trans hb15
     have hb915 : Below w9.heap.size w9 w15 := btr HB12.out hb1215
     obtain ⟨KA, hKA⟩ : ∃ z, (am2 ++ K).length = z := ⟨_, rfl⟩
     have hKA2 : KA ≤ 100 := by rw [← hKA, List.length_append, HM2.out, HKL.out]; omega
     rw [flat_iV, hKA] at ho3
     obtain ⟨qa, ca', rfl⟩ : ∃ q2 c2, v3 = .slice q2 KA c2 := by
       rcases ho3.2 with ⟨e, h0⟩ | ⟨g, c, cur, e, -⟩
       · exact ⟨none, 0, by rw [h0]; exact e⟩
       · exact ⟨_, c, e⟩
     have hsa : SIo w15 o6 qa ca' (am2 ++ K) := SIo.own (by rw [hKA]; exact ho3) (fun g hg => Nat.lt_of_lt_of_le (HS9.out.sol.lt g hg) HB12.out.size)
     have hsc := HSC.out.up hb915
     have HSA := Lib.hid hsa; have HSC := Lib.hid hsc; have B5 := Lib.hid (btr B4.out hb915); have HS := Lib.hid (HS9.out.up hb915); have ZZ := Lib.hid (Nat.le_trans Z9.out hb915.size); have HKA := Lib.hid hKA
     clear ho2 ho3 hsa hsc hb13 hb14 hb15 hb1214 hb1215 hb915 own13 HW13 hq13 hq14 HS9 Z9 B4 HB12 hKA
     have hKO3 : ∀ y ∈ am2 ++ K, LOk n y := fun y hy => (List.mem_append.1 hy).elim (HVO2.out y) (HKO.out y)
     have HKO3 := Lib.hid hKO3; clear hKO3
     have hful := full_any HS.out (by omega)
     by_cases hf1 : 10000 ≤ S1.proof.length
     case pos =>
      have hfz := fun (wx : World) (hb : Below w15.heap.size w15 wx) => full_any (HS.out.up hb) (by omega)
      rw [decide_eq_true hf1] at hfz
      have HF := Lib.hid hfz; clear hfz hful hf1
      have hb0 := Below.refl w15.heap.size w15
      have HB0 := Lib.hid hb0; clear hb0
      go_upto_region 31 with (first | (go_at_call 16; first | (refine (HF.out _ HB1.out).mono ?_; rintro e w17 ⟨rfl, hb⟩; have HB2 := Lib.hid (btr HB1.out hb); clear hb) | (refine (HF.out _ HB0.out).mono ?_; rintro e w16 ⟨rfl, hb⟩; have HB1 := Lib.hid (btr HB0.out hb); clear hb)))
      go_wp2_with (first | (go_at_call 16; refine (HF.out _ HB2.out).mono ?_; rintro e w18 ⟨rfl, hb⟩; have B6 := Lib.hid (btr B5.out (btr HB2.out hb)); clear hb))
      go_ret
      exact ⟨rfl, B6.out⟩
     case neg =>
     rw [decide_eq_false hf1] at hful
     have hsur := gd_sure HS.out.gd hn8 (by omega) HKO.out
     rw [HO2.out] at hsur
     have hsv := fun (wx : World) (hb : Below w15.heap.size w15 wx) => (HS.out.up hb).solve_any (by omega) (by omega) (HSC.out.si.up hb) (by rw [HKL.out]; omega) (fun h0 a ha => .inr (HSC.out.un h0 a ha)) 6561 (Nat.le_trans ZZ.out hb.size)
     obtain ⟨⟨S2, oc2⟩, hS2⟩ : ∃ z, solve S1 K 6561 = z := ⟨_, rfl⟩
     rw [hS2] at hsur hsv
     dsimp only at hsur hsv
     subst hsur
     rw [HKL.out] at hsv
     have HF := Lib.hid hful; have HSV := Lib.hid hsv
     clear hful hsv hf1
     have hgd2 : Gd n (rcl n l) S2 := by have h := HS.out.gd.solve K 6561; rw [hS2] at h; exact h
     clear hS2
     have hF2 : ∀ (wx : World) (o' : Nat → Option Role), So w1.heap.size wx o' b1 n (rcl n l) S2 → Calls Try.prog 16 #[.pointer (some ⟨b1, 0, none⟩)] wx fun e w' => e = .returned (.bool (decide (10000 ≤ S2.proof.length))) ∧ Below wx.heap.size wx w' := fun wx o' h => full_any h (by omega)
     by_cases hf2 : 10000 ≤ S2.proof.length
     case pos =>
      rw [decide_eq_true hf2] at hF2
      have HF2 := Lib.hid hF2; clear hF2 hf2 hgd2
      go_upto_region 31 with (first | (go_at_call 16; first | (refine (HF2.out _ _ HS17.out).mono ?_; rintro e w18 ⟨rfl, hb⟩; have HS18 := Lib.hid (HS17.out.up hb); have B7 := Lib.hid (btr B6.out hb); clear hb) | (refine HF.out.mono ?_; rintro e w16 ⟨rfl, hb⟩; have HB16 := Lib.hid hb; clear hb)) | (go_at_call 17; refine (HSV.out _ HB16.out).mono ?_; rintro e w17 ⟨rfl, o17, hso, hx⟩; have HS17 := Lib.hid hso; have B6 := Lib.hid ((btr B5.out HB16.out).trans ((hx.low HS.out.tag (Nat.le_trans ZZ.out HB16.out.size)).1.mono B1.out.size)); clear hso hx))
      go_wp2_with (first | (go_at_call 16; refine (HF2.out _ _ HS18.out).mono ?_; rintro e w19 ⟨rfl, hb⟩; have B8 := Lib.hid (btr B7.out hb); clear hb))
      go_ret
      exact ⟨rfl, B8.out⟩
     case neg =>
     rw [decide_eq_false hf2] at hF2
     have hsur := gd_sure hgd2 hn8 (by omega) HKO3.out
     rw [HO3.out] at hsur
     have hsv2 := fun (wx : World) (o' : Nat → Option Role) (h : So w1.heap.size wx o' b1 n (rcl n l) S2) (ha : SIo wx o' qa ca' (am2 ++ K)) (hz : w1.heap.size ≤ wx.heap.size) => h.solve_any (by omega) (by omega) ha.si (by rw [HKA.out]; omega) (fun h0 a hh => .inr (ha.un h0 a hh)) 6561 hz
     obtain ⟨⟨S3, oc3⟩, hS3⟩ : ∃ z, solve S2 (am2 ++ K) 6561 = z := ⟨_, rfl⟩
     have hgd3 : Gd n (rcl n l) S3 := by have h := hgd2.solve (am2 ++ K) 6561; rw [hS3] at h; exact h
     rw [hS3] at hsur hsv2
     dsimp only at hsur hsv2
     subst hsur
     rw [HKA.out] at hsv2
     have hF3 : ∀ (wx : World) (o' : Nat → Option Role), So w1.heap.size wx o' b1 n (rcl n l) S3 → Calls Try.prog 16 #[.pointer (some ⟨b1, 0, none⟩)] wx fun e w' => e = .returned (.bool (decide (10000 ≤ S3.proof.length))) ∧ Below wx.heap.size wx w' := fun wx o' h => full_any h (by omega)
     have HF2 := Lib.hid hF2; have HSV2 := Lib.hid hsv2
     clear hF2 hf2 hgd2 hS3 hsv2
     go_upto_region 31 with (first | (go_at_call 16; first | (refine (HF2.out _ _ HS17.out).mono ?_; rintro e w18 ⟨rfl, hb⟩; have HS18 := Lib.hid (HS17.out.up hb); have HSA18 := Lib.hid (HSA17.out.up hb); have Z18 := Lib.hid (Nat.le_trans Z17.out hb.size); have B7 := Lib.hid (btr B6.out hb); clear hb) | (refine HF.out.mono ?_; rintro e w16 ⟨rfl, hb⟩; have HB16 := Lib.hid hb; clear hb)) | (go_at_call 17; first | (refine (HSV2.out _ _ HS18.out HSA18.out Z18.out).mono ?_; rintro e w19 ⟨rfl, o19, hso, hx⟩; have HS19 := Lib.hid hso; have hlw := (hx.low HS18.out.tag Z18.out).1; have B8 := Lib.hid (B7.out.trans (hlw.mono B1.out.size)); have Z19 := Lib.hid (Nat.le_trans Z18.out hlw.size); clear hso hx hlw) | (refine (HSV.out _ HB16.out).mono ?_; rintro e w17 ⟨rfl, o17, hso, hx⟩; have HS17 := Lib.hid hso; have HSA17 := Lib.hid ((HSA.out.up HB16.out).ext hx); have hlw := (hx.low HS.out.tag (Nat.le_trans ZZ.out HB16.out.size)).1; have B6 := Lib.hid ((btr B5.out HB16.out).trans (hlw.mono B1.out.size)); have Z17 := Lib.hid (Nat.le_trans (Nat.le_trans ZZ.out HB16.out.size) hlw.size); clear hso hx hlw)))
     by_cases hf3 : 10000 ≤ S3.proof.length
     case pos =>
      rw [decide_eq_true hf3] at hF3
      have HF3 := Lib.hid hF3; clear hF3 hf3 hgd3
      go_wp2_with (first | (go_at_call 16; refine (HF3.out _ _ HS19.out).mono ?_; rintro e w20 ⟨rfl, hb⟩; have B9 := Lib.hid (btr B8.out hb); clear hb))
      go_ret
      exact ⟨rfl, B9.out⟩
     case neg =>
      rw [decide_eq_false hf3] at hF3
      have hk4 := gd_known hgd3 hn8 (by omega) (l := []) (fun y hy => by cases hy)
      have hsv3 := fun (wx : World) (h : So w1.heap.size wx o19 b1 n (rcl n l) S3) (hz : w1.heap.size ≤ wx.heap.size) => h.solve_any (by omega) (by omega) (p := none) (cap := 0) (l := []) ⟨Nat.le_refl _, Nat.zero_le _, fun _ => rfl, .inl rfl, (fun _ a ha => by cases ha)⟩ (by simp) (fun _ a ha => by cases ha) 6561 hz
      obtain ⟨⟨S4, oc4⟩, hS4⟩ : ∃ z, solve S3 [] 6561 = z := ⟨_, rfl⟩
      rw [hS4] at hk4 hsv3
      dsimp only at hk4 hsv3
      have hk4b : (oc4 == 0) = false := (beq_eq_false_iff_ne (α := Int)).2 hk4
      have hk4n : (oc4 != 0) = true := by rw [bne, hk4b]; rfl
      have HF3 := Lib.hid hF3; have HSV3 := Lib.hid hsv3
      clear hF3 hf3 hgd3 hsv3 hS4
      go_wp2_with (first | (go_at_call 16; refine (HF3.out _ _ HS19.out).mono ?_; rintro e w20 ⟨rfl, hb⟩; have HS20 := Lib.hid (HS19.out.up hb); have Z20 := Lib.hid (Nat.le_trans Z19.out hb.size); have B9 := Lib.hid (btr B8.out hb); clear hb) | (go_at_call 17; refine (HSV3.out _ HS20.out Z20.out).mono ?_; rintro e w21 ⟨rfl, o21, hso, hx⟩; have B10 := Lib.hid (B9.out.trans ((hx.low HS20.out.tag Z20.out).1.mono B1.out.size)); clear hso hx))
      go_ret
      exact ⟨rfl, B10.out⟩
theorem cores_row (x : Nat) (l : List SAct) (p : Option Addr) (ca : Nat) (am : List Int) (q : Option Addr) (cb : Nat) (am2 : List Int) (q2 : Option Addr) (cb2 : Nat) (w : World) (hx : x < 256) (ha : AcAt w p ca l) (hq : SI w q cb am) (hq2 : SI w q2 cb2 am2) :
    Calls Try.prog 5 #[.int .u8 x, .slice p l.length ca, .slice q am.length cb, .slice q2 am2.length cb2] w fun e w' => e = .returned (.bool true) ∧ Below w.heap.size w w' := cores_any hx ha hq hq2
end Go.Proofs.Ytdibfjcmgbpnpaa
