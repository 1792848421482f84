/- Walk of the law SolverModels. -/
import Derived.Test.YtdibfjcmgbpnpaaKW
import Derived.Test.YtdibfjcmgbpnpaaLL
namespace Go.Proofs.Ytdibfjcmgbpnpaa
set_option linter.unusedSimpArgs false
set_option linter.unusedVariables false
open Go.RowKit

theorem own_some {w : World} {B : Nat} {e : TypeId} {E n : Nat} {v : Value} {xs : List Value} (h : w.ownsRow B e E v n xs) (hn : 0 < n) : ∃ g c, v = .slice (some ⟨g, 0, none⟩) n c ∧ B ≤ g := by
  rcases h.2 with ⟨-, h0⟩ | ⟨g, c, cur, hv, hg, -⟩
  · have := h.1; omega
  · exact ⟨g, c, hv, hg⟩
set_option maxRecDepth 100000 in
set_option maxHeartbeats 8000000 in
theorem models_any {w : World} {x : Nat} (hx : x < 256) {p : Option Addr} {ca : Nat} {l : List SAct} (ha : AcAt w p ca l) {q : Option Addr} {cb : Nat} {am : List Int} (hq : SI w q cb am) {at8 : Nat} (hat8 : at8 < 256) {r : Option Addr} {cr : Nat} {later : List Bool} (hr1 : later.length ≤ cr) (hr2 : cr ≤ maxLen) (hr3 : BoolsAt w r later) :
    Calls Try.prog 4 #[.int .u8 x, .slice p l.length ca, .slice q am.length cb, .int .u8 at8, .slice r later.length cr] w fun e w' => e = .returned (.bool true) ∧ Below w.heap.size w w' := by
 have hhead := head_any (w := w)
 have hla := ha.le; have hma := ha.cm
 simp only [maxLen] at hma
 have HA := Lib.hid ha; have HH := Lib.hid hhead
 obtain ⟨N, hN⟩ : ∃ z, l.length = z := ⟨_, rfl⟩
 rw [hN] at hla ⊢
 have hlb := hq.le; have hmb := hq.cm
 simp only [maxLen] at hmb
 have HQ := Lib.hid hq
 obtain ⟨M, hM⟩ : ∃ z, am.length = z := ⟨_, rfl⟩
 rw [hM] at hlb ⊢
 have HM := Lib.hid hM
 clear hq hM
 simp only [maxLen] at hr2
 obtain ⟨H, hH⟩ : ∃ z, later.length = z := ⟨_, rfl⟩
 rw [hH] at hr1 ⊢
 have HH3 := Lib.hid hH; have HR3 := Lib.hid hr3
 clear hH hr3
 obtain ⟨t, ht⟩ : ∃ z, agreat l = z := ⟨_, rfl⟩
 have HN := Lib.hid hN; have HT := Lib.hid ht
 clear ha hhead hN ht
 go_enter Try.func4, Try.ntmps4
 go_upto_region 2 with (first | (go_at_call 10; refine HH.out.mono ?_; rintro e w1 ⟨rfl, hb⟩; have B1 := Lib.hid hb; clear hb))
 have hgr := great_any (HA.out.up B1.out)
 rw [HN.out, HT.out] at hgr
 have HGR := Lib.hid hgr; clear hgr
 cases t with
 | true =>
   go_wp2_with (first | (go_at_call 11; refine HGR.out.mono ?_; rintro e w2 ⟨rfl, hw⟩; replace hw := hw.symm; subst hw))
   go_ret
   exact ⟨rfl, B1.out⟩
 | false =>
   go_upto_region 4 with (first | (go_at_call 11; refine HGR.out.mono ?_; rintro e w2 ⟨rfl, hw⟩; replace hw := hw.symm; subst hw))
   have hsm : l.length ≤ 60 ∧ ∀ a ∈ l, a.lits.length ≤ 12 := by
     have h := HT.out
     unfold agreat at h
     rw [Bool.or_eq_false_iff, List.any_eq_false] at h
     refine ⟨by have := h.1; simpa using this, fun a ha => ?_⟩
     have := h.2 a ha
     simpa using this
   obtain ⟨n, hn⟩ : ∃ z, x % 9 = z := ⟨_, rfl⟩
   have hn8 : n ≤ 8 := by omega
   have hvr : ∀ w, Calls Try.prog 12 #[.int .u8 x] w fun e w' => e = .returned (.int .i64 (n : Nat)) ∧ w' = w := fun w => by rw [← hn]; exact vars_any hx
   have hmd := fun (wx : World) (hb : Below w.heap.size w wx) => made_any hn8 (HA.out.up hb) hsm.1 hsm.2
   rw [HN.out] at hmd
   have hrl := rcl_le n l
   rw [HN.out] at hrl
   have HSM := Lib.hid hsm; have HVR := Lib.hid hvr; have HMD := Lib.hid hmd
   have hN60 : N ≤ 60 := by rw [← HN.out]; exact hsm.1
   clear hsm hvr hmd hn HGR
   go_upto_region 5 with (first | (go_at_call 12; refine (HVR.out _).mono ?_; rintro e w2 ⟨rfl, hw⟩; replace hw := hw.symm; subst hw))
   go_upto_region 6 with (first | (go_at_call 22; refine (HMD.out _ B1.out).mono ?_; rintro e w4 ⟨b1, o1, rfl, hso, hb⟩; have HS1 := Lib.hid hso; have W1 := Lib.hid hb; have B2 := Lib.hid (B1.out.trans (hb.mono B1.out.size)); clear hso hb))
   have HLO := Lib.hid (show am ≠ [] → ∀ a, q = some a → a.block < w1.heap.size from fun h0 a ha => Nat.lt_of_lt_of_le (HQ.out.lt h0 a ha) B1.out.size)
   have hok := HS1.out.gd.sv.ok
   have HOKA := Lib.hid hok; clear hok
   by_cases h12 : 12 < M
   case pos =>
     have h12i : (12 : Int) < (M : Int) := by omega
     go_wp2_with fail
     go_ret
     exact ⟨rfl, B2.out⟩
   case neg =>
   have h12i : ¬ (12 : Int) < (M : Int) := by omega
   have hval := rvalid21_any (HQ.out.up B2.out) (by rw [HM.out]; omega) n (by omega)
   rw [vlit_badl, HM.out] at hval
   obtain ⟨t, ht⟩ : ∃ z, vlit n am = z := ⟨_, rfl⟩
   rw [ht] at hval
   have HVAL := Lib.hid hval; have HVT := Lib.hid ht
   clear hval ht
   cases t with
   | false =>
     go_wp2_with (first | (go_at_call 14; refine HVAL.out.mono ?_; rintro e wv ⟨rfl, hw⟩; replace hw := hw.symm; subst hw))
     go_ret
     exact ⟨rfl, B2.out⟩
   | true =>
     go_upto_region 8 with (first | (go_at_call 14; refine HVAL.out.mono ?_; rintro e wv ⟨rfl, hw⟩; replace hw := hw.symm; subst hw))
     have hful := full_any HS1.out (by omega)
     have hok := vlit_iff.1 HVT.out
     have HVO := Lib.hid hok
     clear hok HVT HVAL
     by_cases hf : 10000 ≤ (smade n l).proof.length
     case pos =>
       rw [decide_eq_true hf] at hful
       have HF := Lib.hid hful; clear hful hf
       go_wp2_with (first | (go_at_call 16; refine HF.out.mono ?_; rintro e w5 ⟨rfl, hb⟩; have B3 := Lib.hid (B2.out.trans (hb.mono B2.out.size)); clear hb))
       go_ret
       exact ⟨rfl, B3.out⟩
     case neg =>
     rw [decide_eq_false hf] at hful
     have hdn := solve_ok (fuel := 6561) HS1.out.gd.sv HS1.out.gd.nomk HVO.out (by omega)
     have hsv := fun (wx : World) (hb : Below w4.heap.size w4 wx) => (HS1.out.up hb).solve_any (by omega) (by omega) (HQ.out.up (btr B2.out hb)) (by rw [HM.out]; omega) (fun h0 a ha => .inl (HLO.out h0 a ha)) 6561 (Nat.le_trans W1.out.size hb.size)
     obtain ⟨⟨S, oc⟩, hS⟩ : ∃ z, solve (smade n l) am 6561 = z := ⟨_, rfl⟩
     rw [hS] at hdn
     rw [hS, HM.out] at hsv
     dsimp only at hdn hsv
     have HF := Lib.hid hful; have HDN := Lib.hid hdn.1; have HSV := Lib.hid hsv
     clear hful hf hdn hsv hS
     by_cases hoc : oc = 1
     case neg =>
       have hocb : (oc == 1) = false := by simpa using hoc
       clear hoc
       go_wp2_with (first | (go_at_call 16; refine HF.out.mono ?_; rintro e w5 ⟨rfl, hb⟩; have HB5 := Lib.hid hb; clear hb) | (go_at_call 17; refine (HSV.out _ HB5.out).mono ?_; rintro e w6 ⟨rfl, o6, hso, hx6⟩; have B3 := Lib.hid (B2.out.trans ((HB5.out.mono B2.out.size).trans ((hx6.low HS1.out.tag (Nat.le_trans W1.out.size HB5.out.size)).1.mono B1.out.size))); clear hso hx6))
       go_ret
       exact ⟨rfl, B3.out⟩
     case pos =>
     subst hoc
     go_upto_region 10 with (first | (go_at_call 16; refine HF.out.mono ?_; rintro e w5 ⟨rfl, hb⟩; have HB5 := Lib.hid hb; clear hb) | (go_at_call 17; refine (HSV.out _ HB5.out).mono ?_; rintro e w6 ⟨rfl, o6, hso, hx6⟩; have B3 := Lib.hid (B2.out.trans ((HB5.out.mono B2.out.size).trans ((hx6.low HS1.out.tag (Nat.le_trans W1.out.size HB5.out.size)).1.mono B1.out.size))); have HS6 := Lib.hid hso; clear hso hx6))
     have hbest := (HDN.out.yes rfl).2
     have hml := hbest.len
     have hcl := clauses_any HA.out B3.out (n := n) (by omega) HSM.out.1 HSM.out.2
     have hvs := fun (wx : World) (hb : Below w6.heap.size w6 wx) => values_any (HS6.out.up hb).sol (by omega) hml
     rw [HN.out] at hcl
     have HBE := Lib.hid hbest; have HCL := Lib.hid hcl; have HVS := Lib.hid hvs
     clear hbest hcl hvs HF HSV HMD HVR HDN HB5 hml
     go_upto_region 12 with (first | (go_at_call 21; refine HCL.out.mono ?_; rintro e w7 ⟨qc, cc, rfl, hcs, hb⟩; have HCS := Lib.hid hcs; have HB7 := Lib.hid hb; clear hcs hb) | (go_at_call 23; refine (HVS.out _ HB7.out).mono ?_; rintro e w8 ⟨qv, cv, rfl, hov, hb⟩; have HOV := Lib.hid hov; have HB8 := Lib.hid hb; clear hov hb))
     obtain ⟨vs, hvs⟩ : ∃ z, mvals n S.model = z := ⟨_, rfl⟩
     have hvl : vs.length = n := by rw [← hvs]; exact mvals_len _ _
     have hov := HOV.out
     rw [hvs] at hov
     have hsb : SB w8 qv cv vs := SB.of_owns (by rw [hvl]; exact hov)
     have B4 := Lib.hid (btr (btr B3.out HB7.out) HB8.out)
     have hcs8 := HCS.out.up HB8.out
     have hsat := fun (wx : World) (hb : Below w8.heap.size w8 wx) (qw : Option Addr) (cw : Nat) (W : List Bool) (hW : SB wx qw cw W) (hWl : W.length = n) => satisfies_any hW hWl (by omega) (hcs8.up hb) HOKA.out (HQ.out.up (btr B4.out hb)) HVO.out
     rw [HM.out] at hsat
     have hs1 := hsat w8 (Below.refl _ _) qv cv vs hsb hvl
     have hrs := HBE.out.rsat HOKA.out HVO.out
     rw [hvs] at hrs
     rw [hrs] at hs1
     have HSAT := Lib.hid hsat; have HSA1 := Lib.hid hs1; have HVSE := Lib.hid hvs; have HVL := Lib.hid hvl; have HSB := Lib.hid hsb
     clear hov hcs8 hsat hs1 hrs hvs hvl hsb HCL HVS
     by_cases hn0 : n = 0
     case pos =>
       subst hn0
       go_wp2_with (first | (go_at_call 24; refine HSA1.out.mono ?_; rintro e w9 ⟨rfl, hw⟩; replace hw := hw.symm; subst hw))
       go_ret
       exact ⟨rfl, B4.out⟩
     case neg =>
     have hn0i : ¬ (n : Int) = 0 := by omega
     have hn0b : ((n : Int) == 0) = false := (beq_eq_false_iff_ne (α := Int)).2 hn0i
     obtain ⟨k, hk⟩ : ∃ z, at8 % n = z := ⟨_, rfl⟩
     have hkn : k < n := by rw [← hk]; exact Nat.mod_lt _ (by omega)
     have hw1 : IntKind.i64.wrap (at8 : Int) = (at8 : Int) := wrapI (by omega) (by omega)
     have hw2 : (at8 : Int).tmod (n : Int) = (k : Int) := by rw [← hk]; rw [Int.tmod_eq_emod_of_nonneg (by omega)]; rfl
     have hkni : (k : Int) < (n : Int) := by omega
     obtain ⟨gv, ov, hqv, hbl, c0⟩ := bool_cell HSB.out.at' (i := k) (by rw [HVL.out]; exact hkn)
     obtain ⟨t, ht⟩ : ∃ z, vs.getD k false = z := ⟨_, rfl⟩
     rw [ht] at c0
     have HQV := Lib.hid hqv
     subst hqv
     have HTK := Lib.hid ht
     clear hk ht hbl
     cases t with
     | false =>
       go_wp2_with (first | (go_at_call 24; refine HSA1.out.mono ?_; rintro e w9 ⟨rfl, hw⟩; replace hw := hw.symm; subst hw))
       go_ret
       exact ⟨rfl, B4.out⟩
     | true =>
       obtain ⟨i0, hi0, hz0, hz1, hz2⟩ := info_parts bool_info'
       go_upto_region 19 with (first | (go_at_call 24; refine HSA1.out.mono ?_; rintro e w9 ⟨rfl, hw⟩; replace hw := hw.symm; subst hw))
       obtain ⟨w10, hw10⟩ : ∃ z, z = w8.alloc (.cells #[] 4) := ⟨_, rfl⟩
       have hb10 : Below w8.heap.size w8 w10 := by rw [hw10]; go_grown
       have own10 : w10.ownsRow w8.heap.size 4 1 (.slice (some ⟨w8.heap.size, 0, none⟩) 0 0) ([] : List Bool).length (flat 1 bEnc []) := by rw [hw10]; exact World.ownsRow_made w8 #[] 0 (Nat.le_refl _) (Nat.zero_le _) rfl
       have HW10 := Lib.hid hw10; clear hw10
       go_upto_region 20 with (first | (at_builtin; rw [← HW10.out]; go_must (refine wpList_app2 rfl _ _ _ rfl w8.heap.size 4 i0 _ 1 Try.underlying37 hi0 hz0 hz1 hz2 rfl (by decide) _ [] rfl own10 _ vs cv (by rw [HVL.out]; rfl) HSB.out.q0 (HSB.out.at'.mono hb10) (fun _ _ => rfl) (by rw [HVL.out]; simp only [maxLen]; simp; omega) (by rw [HVL.out]; simp; omega) hb10.size ?_; intro v2 w11 ho2 _ hb11 _)))
       have e0 : ([] ++ vs).length = n := HVL.out
       rw [e0, List.nil_append, flat_bV] at ho2
       obtain ⟨gq, cq, rfl, hgq⟩ := own_some ho2 (by omega)
       obtain ⟨d0, d0f⟩ := own_load ho2 (i := k) (bV_get (by rw [HVL.out]; exact hkn))
       have hb8 := hb10.trans hb11
       have hown12 := own_set ho2 k (.bool false)
       rw [bV_set] at hown12
       have hb12 : Below w8.heap.size w8 (w11.setCell ⟨gq, k, none⟩ (.bool false)) := Below.setCell hb8 hgq _
       have hH : (vs.set k false).length = n ∧ (vs.set k false).getD k false = false ∧ ∀ j, j < k → (vs.set k false).getD j false = vs.getD j false := by
         have hvl := HVL.out
         refine ⟨by rw [List.length_set]; exact hvl, ?_, fun j hj => ?_⟩
         · rw [List.getD_eq_getElem?_getD, List.getElem?_set_self (by omega)]; rfl
         · rw [List.getD_eq_getElem?_getD, List.getElem?_set_ne (by omega), ← List.getD_eq_getElem?_getD]
       obtain ⟨w12, hw12⟩ : ∃ z, z = w11.setCell ⟨gq, k, none⟩ (.bool false) := ⟨_, rfl⟩
       rw [← hw12] at hown12 hb12
       have HO12 := Lib.hid hown12; have HB12 := Lib.hid hb12; have HW12 := Lib.hid hw12; have HHH := Lib.hid hH
       clear hown12 hb12 hw12 hH hb8 ho2 own10 HW10 hb10 hb11 HCS HOV e0
       obtain ⟨k1, hk1⟩ : ∃ z, k + 1 = z := ⟨_, rfl⟩
       have hwk : IntKind.i64.wrap ((k : Int) + 1) = (k1 : Int) := by rw [wrapI (by omega) (by omega)]; omega
       go_upto_region 21 with fail
       rw [← HW12.out]
       go_wp2_with fail
       go_loopg [18] (n - k1) (fun G s18 wr => ∃ (i : Nat) (W : List Bool), s18 = .int .i64 i ∧ k1 ≤ i ∧ i ≤ n ∧ G = n - i ∧ wr.ownsRow w8.heap.size 4 1 (.slice (some ⟨gq, 0, none⟩) n cq) n (bV W) ∧ Below w8.heap.size w8 wr ∧ W.length = n ∧ W.getD k false = false ∧ ∀ j, j < k → W.getD j false = vs.getD j false)
       case atStart => exact ⟨k1, vs.set k false, rfl, by omega, by omega, rfl, HO12.out, HB12.out, HHH.out.1, HHH.out.2.1, HHH.out.2.2⟩
       case round =>
        obtain ⟨i, W, rfl, hi1, hi2, hG, hO, hbw, hWl, hWk, hWj⟩ := hrel
        obtain ⟨w13, hw13⟩ : ∃ z, z = wr := ⟨_, rfl⟩
        subst hw13
        obtain ⟨D, hD⟩ : ∃ z, i - k1 = z := ⟨_, rfl⟩
        have hws1 : IntKind.i64.wrap ((i : Int) - (k : Int)) = ((D + 1 : Nat) : Int) := by rw [wrapI (by omega) (by omega)]; omega
        have hws2 : IntKind.i64.wrap (((D + 1 : Nat) : Int) - 1) = (D : Int) := by rw [wrapI (by omega) (by omega)]; omega
        have HG := Lib.hid hG; have HO := Lib.hid hO; have HBW := Lib.hid hbw; have HWL := Lib.hid hWl; have HWK := Lib.hid hWk; have HWJ := Lib.hid hWj
        clear hG hO hbw hWl hWk hWj HO12 HB12 HHH
        have hend : ∃ z, z = rsat W (rcl n l) am ∧ z = false := by
          refine ⟨_, rfl, ?_⟩
          cases hr : rsat W (rcl n l) am with
          | false => rfl
          | true =>
            exfalso
            obtain ⟨b1, b2⟩ := (rsat_iff (fun c hc x hx => (HOKA.out c hc x hx).1) (fun x hx => (HVO.out x hx).1)).1 hr
            have hmk : 0 < S.model.getD (k + 1) 0 := by
              have h := HTK.out
              rw [← HVSE.out, mvals_get hkn] at h
              simpa using h
            have h := HBE.out.least (vw W) b1 b2 (k + 1) (by omega) (by omega) hmk fun u u1 u2 => by
              have h1 := HWJ.out (u - 1) (by omega)
              rw [← HVSE.out, mvals_get (by omega), show u - 1 + 1 = u by omega] at h1
              exact h1
            unfold vw at h
            rw [Nat.add_sub_cancel, HWK.out] at h
            cases h
        obtain ⟨z, hz1, hz2⟩ := hend
        have hfs := HSAT.out w13 HBW.out _ cq W (SB.of_owns (by rw [HWL.out]; exact HO.out)) HWL.out
        rw [← hz1, hz2] at hfs
        have HFS := Lib.hid hfs
        clear hfs hz1 hz2
        by_cases hin : i < n
        case neg =>
         have hini : ¬ (i : Int) < (n : Int) := by omega
         go_wp2_with (first | (go_at_call 24; refine HFS.out.mono ?_; rintro e w14 ⟨rfl, hw⟩; replace hw := hw.symm; subst hw))
         go_ret
         exact ⟨rfl, btr B4.out HBW.out⟩
        case pos =>
         have hini : (i : Int) < (n : Int) := by omega
         by_cases hDH : D < H
         case neg =>
          have hDi : ¬ (D : Int) < (H : Int) := by omega
          go_wp2_with (first | (go_at_call 24; refine HFS.out.mono ?_; rintro e w14 ⟨rfl, hw⟩; replace hw := hw.symm; subst hw))
          go_ret
          exact ⟨rfl, btr B4.out HBW.out⟩
         case pos =>
          have hDi : (D : Int) < (H : Int) := by omega
          obtain ⟨gl, ol, rfl, hgl, c1⟩ := bool_cell HR3.out (i := D) (by rw [HH3.out]; exact hDH)
          obtain ⟨y, hy⟩ : ∃ y, later.getD D false = y := ⟨_, rfl⟩
          rw [hy] at c1
          replace c1 := oldcell (btr B4.out HBW.out) c1 (World.block_lt_of_cell? _ _ c1)
          obtain ⟨e0, e0f⟩ := own_load HO.out (i := i) (bV_get (by rw [HWL.out]; exact hin))
          have hown := own_set HO.out i (.bool y)
          rw [bV_set] at hown
          have hb14 : Below w8.heap.size w8 (w13.setCell ⟨gq, i, none⟩ (.bool y)) := Below.setCell HBW.out hgq _
          have hWW : (W.set i y).length = n ∧ (W.set i y).getD k false = false ∧ ∀ j, j < k → (W.set i y).getD j false = vs.getD j false := by
            refine ⟨by rw [List.length_set]; exact HWL.out, ?_, fun j hj => ?_⟩
            · rw [List.getD_eq_getElem?_getD, List.getElem?_set_ne (by omega), ← List.getD_eq_getElem?_getD]; exact HWK.out
            · rw [List.getD_eq_getElem?_getD, List.getElem?_set_ne (by omega), ← List.getD_eq_getElem?_getD]; exact HWJ.out j hj
          have HWN := Lib.hid hown; have HB14 := Lib.hid hb14; have HWW := Lib.hid hWW
          clear hown hb14 hWW hy hgl
          go_wp2_with fail
          go_roundg (n - (i + 1))
          case measure => (have := HG.out; omega)
          case rel => exact ⟨i + 1, W.set i y, by go_num, by omega, by omega, rfl, HWN.out, HB14.out, HWW.out.1, HWW.out.2.1, HWW.out.2.2⟩
theorem models_row (x : Nat) (l : List SAct) (p : Option Addr) (ca : Nat) (am : List Int) (q : Option Addr) (cb : Nat) (at8 : Nat) (later : List Bool) (r : Option Addr) (cr : Nat) (w : World) (hx : x < 256) (ha : AcAt w p ca l) (hq : SI w q cb am) (hat8 : at8 < 256) (hr1 : later.length ≤ cr) (hr2 : cr ≤ maxLen) (hr3 : BoolsAt w r later) :
    Calls Try.prog 4 #[.int .u8 x, .slice p l.length ca, .slice q am.length cb, .int .u8 at8, .slice r later.length cr] w fun e w' => e = .returned (.bool true) ∧ Below w.heap.size w w' := models_any hx ha hq hat8 hr1 hr2 hr3
end Go.Proofs.Ytdibfjcmgbpnpaa
