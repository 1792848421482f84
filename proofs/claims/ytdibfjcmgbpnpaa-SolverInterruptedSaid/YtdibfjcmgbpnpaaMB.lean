/- Walk of the law SolverInterrupted. -/
import Derived.Test.YtdibfjcmgbpnpaaLL
namespace Go.Proofs.Ytdibfjcmgbpnpaa
set_option linter.unusedSimpArgs false
set_option linter.unusedVariables false
open Go.RowKit

set_option maxRecDepth 100000 in
set_option maxHeartbeats 8000000 in
theorem interrupted_any {w : World} {x : Nat} (hx : x < 256) {p : Option Addr} {ca : Nat} {l : List SAct} (ha : AcAt w p ca l) {q : Option Addr} {cb : Nat} {am : List Int} (hq : SI w q cb am) {fu : Int} (hfu1 : -128 ≤ fu) (hfu2 : fu ≤ 127) :
    Calls Try.prog 9 #[.int .u8 x, .slice p l.length ca, .slice q am.length cb, .int .i8 fu] w fun e w' => e = .returned (.bool true) ∧ Below w.heap.size w w' := by
 have hhead := head_any (w := w)
 have hla := ha.le; have hma := ha.cm
 simp only [maxLen] at hma
 have HA := Lib.hid ha; have HH := Lib.hid hhead
 obtain ⟨N, hN⟩ : ∃ z, l.length = z := ⟨_, rfl⟩
 rw [hN] at hla ⊢
 have hlb := hq.le; have hmb := hq.cm
 simp only [maxLen] at hmb
 have HQ := Lib.hid hq
 obtain ⟨M, hM⟩ : ∃ z, am.length = z := ⟨_, rfl⟩
 rw [hM] at hlb ⊢
 have HM := Lib.hid hM
 clear hq hM
 obtain ⟨t, ht⟩ : ∃ z, agreat l = z := ⟨_, rfl⟩
 have HN := Lib.hid hN; have HT := Lib.hid ht
 clear ha hhead hN ht
 go_enter Try.func9, Try.ntmps9
 go_upto_region 2 with (first | (go_at_call 10; refine HH.out.mono ?_; rintro e w1 ⟨rfl, hb⟩; have B1 := Lib.hid hb; clear hb))
 have hgr := great_any (HA.out.up B1.out)
 rw [HN.out, HT.out] at hgr
 have HGR := Lib.hid hgr; clear hgr
 cases t with
 | true =>
   go_wp2_with (first | (go_at_call 11; refine HGR.out.mono ?_; rintro e w2 ⟨rfl, hw⟩; replace hw := hw.symm; subst hw))
   go_ret
   exact ⟨rfl, B1.out⟩
 | false =>
   go_upto_region 4 with (first | (go_at_call 11; refine HGR.out.mono ?_; rintro e w2 ⟨rfl, hw⟩; replace hw := hw.symm; subst hw))
   have hsm : l.length ≤ 60 ∧ ∀ a ∈ l, a.lits.length ≤ 12 := by
     have h := HT.out
     unfold agreat at h
     rw [Bool.or_eq_false_iff, List.any_eq_false] at h
     refine ⟨by have := h.1; simpa using this, fun a ha => ?_⟩
     have := h.2 a ha
     simpa using this
   obtain ⟨n, hn⟩ : ∃ z, x % 9 = z := ⟨_, rfl⟩
   have hn8 : n ≤ 8 := by omega
   have hvr : ∀ w, Calls Try.prog 12 #[.int .u8 x] w fun e w' => e = .returned (.int .i64 (n : Nat)) ∧ w' = w := fun w => by rw [← hn]; exact vars_any hx
   have hmd := fun (wx : World) (hb : Below w.heap.size w wx) => made_any hn8 (HA.out.up hb) hsm.1 hsm.2
   rw [HN.out] at hmd
   have hrl := rcl_le n l
   rw [HN.out] at hrl
   have HSM := Lib.hid hsm; have HVR := Lib.hid hvr; have HMD := Lib.hid hmd
   have hN60 : N ≤ 60 := by rw [← HN.out]; exact hsm.1
   clear hsm hvr hmd hn HGR
   go_upto_region 5 with (first | (go_at_call 12; refine (HVR.out _).mono ?_; rintro e w2 ⟨rfl, hw⟩; replace hw := hw.symm; subst hw))
   go_upto_region 6 with (first | (go_at_call 22; refine (HMD.out _ B1.out).mono ?_; rintro e w4 ⟨b1, o1, rfl, hso, hb⟩; have HS1 := Lib.hid hso; have W1 := Lib.hid hb; have B2 := Lib.hid (B1.out.trans (hb.mono B1.out.size)); clear hso hb))
   have HLO := Lib.hid (show am ≠ [] → ∀ a, q = some a → a.block < w1.heap.size from fun h0 a ha => Nat.lt_of_lt_of_le (HQ.out.lt h0 a ha) B1.out.size)
   have hok := HS1.out.gd.sv.ok
   have HOKA := Lib.hid hok; clear hok
   by_cases h12 : 12 < M
   case pos =>
     have h12i : (12 : Int) < (M : Int) := by omega
     go_wp2_with fail
     go_ret
     exact ⟨rfl, B2.out⟩
   case neg =>
   have h12i : ¬ (12 : Int) < (M : Int) := by omega
   have hval := rvalid21_any (HQ.out.up B2.out) (by rw [HM.out]; omega) n (by omega)
   rw [vlit_badl, HM.out] at hval
   obtain ⟨t, ht⟩ : ∃ z, vlit n am = z := ⟨_, rfl⟩
   rw [ht] at hval
   have HVAL := Lib.hid hval; have HVT := Lib.hid ht
   clear hval ht
   cases t with
   | false =>
     go_wp2_with (first | (go_at_call 14; refine HVAL.out.mono ?_; rintro e wv ⟨rfl, hw⟩; replace hw := hw.symm; subst hw))
     go_ret
     exact ⟨rfl, B2.out⟩
   | true =>
     go_upto_region 8 with (first | (go_at_call 14; refine HVAL.out.mono ?_; rintro e wv ⟨rfl, hw⟩; replace hw := hw.symm; subst hw))
     have hvo := vlit_iff.1 HVT.out
     have HVO := Lib.hid hvo
     clear hvo HVT HVAL
     have hcl := clauses_any HA.out B2.out (n := n) (by omega) HSM.out.1 HSM.out.2
     rw [HN.out] at hcl
     have hout := fun (wx : World) (hb : Below w4.heap.size w4 wx) (qc : Option Addr) (cc : Nat) (hc : CsAt (fun g => g < w.heap.size ∨ w4.heap.size ≤ g) wx qc cc (rcl n l)) => outcome_any (n := n) (by omega) hc HOKA.out (HQ.out.up (btr B2.out hb)) HVO.out
     rw [HM.out] at hout
     obtain ⟨want, hwant⟩ : ∃ z, routcome n (rcl n l) am = z := ⟨_, rfl⟩
     rw [hwant] at hout
     have HCL := Lib.hid hcl; have HOUT := Lib.hid hout; have HWA := Lib.hid hwant
     clear hcl hout hwant
     go_upto_region 9 with (first | (go_at_call 21; refine HCL.out.mono ?_; rintro e w5 ⟨qc, cc, rfl, hcs, hb⟩; have hou := HOUT.out _ hb _ _ hcs; have HOU := Lib.hid hou; have HB5 := Lib.hid hb; clear hcs hb hou) | (go_at_call 25; refine HOU.out.mono ?_; rintro e w6 ⟨rfl, hb⟩; have HB6 := Lib.hid (btr HB5.out hb); clear hb))
     have HS6 := Lib.hid (HS1.out.up HB6.out)
     have B3 := Lib.hid (btr B2.out HB6.out)
     have Z6 := Lib.hid (Nat.le_trans W1.out.size HB6.out.size)
     clear HCL HOUT HB5 HOU
     have hful := full_any HS6.out (by omega)
     by_cases hf : 10000 ≤ (smade n l).proof.length
     case pos =>
       rw [decide_eq_true hf] at hful
       have HF := Lib.hid hful; clear hful hf
       go_wp2_with (first | (go_at_call 16; refine HF.out.mono ?_; rintro e w7 ⟨rfl, hb⟩; have B4 := Lib.hid (B3.out.trans (hb.mono B3.out.size)); clear hb))
       go_ret
       exact ⟨rfl, B4.out⟩
     case neg =>
     rw [decide_eq_false hf] at hful
     have hwf : IntKind.i64.wrap fu = fu := wrapI (by omega) (by omega)
     have hdn := gd_done HS6.out.gd am fu
     have hsv := fun (wx : World) (hb : Below w6.heap.size w6 wx) => (HS6.out.up hb).solve_any (by omega) (by omega) (HQ.out.up (btr B3.out hb)) (by rw [HM.out]; omega) (fun h0 a ha => .inl (HLO.out h0 a ha)) fu (Nat.le_trans Z6.out hb.size)
     have hf0 : fu ≤ 0 → (solve (smade n l) am fu).2 = 0 := solve_fuel0
     obtain ⟨⟨S, oc⟩, hS⟩ : ∃ z, solve (smade n l) am fu = z := ⟨_, rfl⟩
     rw [hS] at hdn hf0
     rw [hS, HM.out] at hsv
     dsimp only at hdn hsv hf0
     have hwn := hdn.want HOKA.out HVO.out
     have hun := hdn.unk
     dsimp only at hwn hun
     rw [HWA.out] at hwn
     have HF := Lib.hid hful; have HDN := Lib.hid hdn; have HSV := Lib.hid hsv; have HF0 := Lib.hid hf0; have HWN := Lib.hid hwn; have HUN := Lib.hid hun
     clear hful hf hdn hsv hS hf0 hwn hun
     go_upto_region 12 with (first | (go_at_call 16; refine HF.out.mono ?_; rintro e w7 ⟨rfl, hb⟩; have HB7 := Lib.hid hb; clear hb) | (go_at_call 17; refine (HSV.out _ HB7.out).mono ?_; rintro e w8 ⟨rfl, o8, hso, hx8⟩; have hlw := (hx8.low HS6.out.tag (Nat.le_trans Z6.out HB7.out.size)).1; have B4 := Lib.hid (B3.out.trans ((HB7.out.mono B3.out.size).trans (hlw.mono B1.out.size))); have HS8 := Lib.hid hso; have Z8 := Lib.hid (Nat.le_trans Z6.out (Nat.le_trans HB7.out.size hlw.size)); clear hso hx8 hlw))
     clear HF HSV HB7
     -- the last search
     have hful := fun (wx : World) (hb : Below w8.heap.size w8 wx) => full_any (HS8.out.up hb) (by omega)
     have hsv := fun (hp : S.proof.length < 10000) => gd_sure HS8.out.gd hn8 (by omega) HVO.out
     rw [HWA.out] at hsv
     have hso := fun (wx : World) (hb : Below w8.heap.size w8 wx) => (HS8.out.up hb).solve_any (by omega) (by omega) (HQ.out.up (btr B4.out hb)) (by rw [HM.out]; omega) (fun h0 a ha => .inl (HLO.out h0 a ha)) 6561 (Nat.le_trans Z8.out hb.size)
     rw [HM.out] at hso
     obtain ⟨t, ht⟩ : ∃ z, decide (10000 ≤ S.proof.length) = z := ⟨_, rfl⟩
     rw [ht] at hful
     have hsv2 : t = false → (solve S am 6561).2 = want := fun q => hsv (by have := of_decide_eq_false (ht.trans q); omega)
     obtain ⟨oc2, hoc2⟩ : ∃ z, (solve S am 6561).2 = z := ⟨_, rfl⟩
     rw [hoc2] at hsv2 hso
     have HF2 := Lib.hid hful; have HSV2 := Lib.hid hsv2; have HSO := Lib.hid hso
     clear hful hsv hso ht hsv2 hoc2
     by_cases h0 : oc = 0
     case neg =>
       have h0b : (oc == 0) = false := (beq_eq_false_iff_ne (α := Int)).2 h0
       have hwe := HWN.out h0
       subst hwe
       have hfp : ¬ fu ≤ 0 := fun q => h0 (HF0.out q)
       cases t with
       | true =>
         go_wp2_with (first | (go_at_call 16; refine (HF2.out _ (Below.refl _ _)).mono ?_; rintro e w9 ⟨rfl, hb⟩; have B5 := Lib.hid (btr B4.out hb); clear hb))
         go_ret
         exact ⟨rfl, B5.out⟩
       | false =>
         have h2 := HSV2.out (by simp)
         subst h2
         go_wp2_with (first | (go_at_call 16; refine (HF2.out _ (Below.refl _ _)).mono ?_; rintro e w9 ⟨rfl, hb⟩; have HB9 := Lib.hid hb; have B5 := Lib.hid (btr B4.out hb); clear hb) | (go_at_call 17; refine (HSO.out _ HB9.out).mono ?_; rintro e w10 ⟨rfl, o10, hso, hx10⟩; have B6 := Lib.hid (B5.out.trans ((hx10.low HS8.out.tag (Nat.le_trans Z8.out HB9.out.size)).1.mono B1.out.size)); clear hso hx10))
         go_ret
         exact ⟨rfl, B6.out⟩
     case pos =>
       subst h0
       obtain ⟨hco, hmo⟩ := HUN.out rfl
       have hva := fun (wx : World) (hb : Below w8.heap.size w8 wx) (v : Int) => value_any (HS8.out.up hb).sol v
       have hcr := core_any HS8.out.sol (by rw [hco]; simp)
       rw [hco] at hcr
       have HVA := Lib.hid hva; have HCR := Lib.hid hcr; have HMO := Lib.hid hmo
       clear hva hcr hmo hco
       have hvf : ∀ v : Nat, Calls Try.prog 18 #[.pointer (some ⟨b1, 0, none⟩), .int .i64 v] w8 fun e w' => e = .returned (.bool false) ∧ w' = w8 := fun v => by
         have h := HVA.out w8 (Below.refl _ _) (v : Int)
         rw [HMO.out] at h
         have e : (decide (0 < (v : Int)) && decide ((v : Int) < (([] : List Int).length : Int)) && decide (0 < ([] : List Int).getD (v : Int).toNat 0)) = false := by
           rw [decide_eq_false (show ¬ (v : Int) < (([] : List Int).length : Int) by simp), Bool.and_false]; rfl
         rw [e] at h
         exact h
       have HVF := Lib.hid hvf; clear hvf HVA
       by_cases hfz : fu ≤ 0
       case pos =>
         go_wp2_with fail
         go_loopg [14] n (fun G s14 wr => ∃ v : Nat, s14 = .int .i64 v ∧ 1 ≤ v ∧ v ≤ n + 1 ∧ G = n + 1 - v ∧ wr = w8)
         case atStart => exact ⟨1, rfl, by omega, by omega, by omega, rfl⟩
         case round =>
          obtain ⟨v, rfl, hv1, hv2, hG, hw⟩ := hrel
          replace hw := hw.symm; subst hw
          have HG := Lib.hid hG; clear hG
          by_cases hlt : v ≤ n
          case pos =>
           have hvi : (v : Int) ≤ (n : Int) := by omega
           have hv3 := HVF.out v
           have HV3 := Lib.hid hv3; clear hv3
           obtain ⟨v1, hv1e⟩ : ∃ z, v + 1 = z := ⟨_, rfl⟩
           have hwv : IntKind.i64.wrap ((v : Int) + 1) = (v1 : Int) := by rw [wrapI (by omega) (by omega)]; omega
           go_wp2_with (first | (go_at_call 18; refine HV3.out.mono ?_; rintro e w11 ⟨rfl, hw⟩; replace hw := hw.symm; subst hw))
           go_roundg (n + 1 - v1)
           case measure => (have := HG.out; omega)
           case rel => exact ⟨v1, rfl, by omega, by omega, rfl, rfl⟩
          case neg =>
           have hvi : ¬ (v : Int) ≤ (n : Int) := by omega
           go_upto_region 22 with (first | (go_at_call 19; refine HCR.out.mono ?_; rintro e w9 ⟨qk, ck, rfl, how, hb⟩; have HB9 := Lib.hid hb; clear how hb))
           cases t with
           | true =>
             go_wp2_with (first | (go_at_call 16; refine (HF2.out _ HB9.out).mono ?_; rintro e w10 ⟨rfl, hb⟩; have B5 := Lib.hid (btr (btr B4.out HB9.out) hb); clear hb))
             go_ret
             exact ⟨rfl, B5.out⟩
           | false =>
             have h2 := HSV2.out (by simp)
             subst h2
             go_wp2_with (first | (go_at_call 16; refine (HF2.out _ HB9.out).mono ?_; rintro e w10 ⟨rfl, hb⟩; have HB10 := Lib.hid (btr HB9.out hb); have B5 := Lib.hid (btr B4.out (btr HB9.out hb)); clear hb) | (go_at_call 17; refine (HSO.out _ HB10.out).mono ?_; rintro e w12 ⟨rfl, o12, hso, hx12⟩; have B6 := Lib.hid (B5.out.trans ((hx12.low HS8.out.tag (Nat.le_trans Z8.out HB10.out.size)).1.mono B1.out.size)); clear hso hx12))
             go_ret
             exact ⟨rfl, B6.out⟩
       case neg =>
         go_wp2_with fail
         go_loopg [14] n (fun G s14 wr => ∃ v : Nat, s14 = .int .i64 v ∧ 1 ≤ v ∧ v ≤ n + 1 ∧ G = n + 1 - v ∧ wr = w8)
         case atStart => exact ⟨1, rfl, by omega, by omega, by omega, rfl⟩
         case round =>
          obtain ⟨v, rfl, hv1, hv2, hG, hw⟩ := hrel
          replace hw := hw.symm; subst hw
          have HG := Lib.hid hG; clear hG
          by_cases hlt : v ≤ n
          case pos =>
           have hvi : (v : Int) ≤ (n : Int) := by omega
           have hv3 := HVF.out v
           have HV3 := Lib.hid hv3; clear hv3
           obtain ⟨v1, hv1e⟩ : ∃ z, v + 1 = z := ⟨_, rfl⟩
           have hwv : IntKind.i64.wrap ((v : Int) + 1) = (v1 : Int) := by rw [wrapI (by omega) (by omega)]; omega
           go_wp2_with (first | (go_at_call 18; refine HV3.out.mono ?_; rintro e w11 ⟨rfl, hw⟩; replace hw := hw.symm; subst hw))
           go_roundg (n + 1 - v1)
           case measure => (have := HG.out; omega)
           case rel => exact ⟨v1, rfl, by omega, by omega, rfl, rfl⟩
          case neg =>
           have hvi : ¬ (v : Int) ≤ (n : Int) := by omega
           go_upto_region 22 with (first | (go_at_call 19; refine HCR.out.mono ?_; rintro e w9 ⟨qk, ck, rfl, how, hb⟩; have HB9 := Lib.hid hb; clear how hb))
           cases t with
           | true =>
             go_wp2_with (first | (go_at_call 16; refine (HF2.out _ HB9.out).mono ?_; rintro e w10 ⟨rfl, hb⟩; have B5 := Lib.hid (btr (btr B4.out HB9.out) hb); clear hb))
             go_ret
             exact ⟨rfl, B5.out⟩
           | false =>
             have h2 := HSV2.out (by simp)
             subst h2
             go_wp2_with (first | (go_at_call 16; refine (HF2.out _ HB9.out).mono ?_; rintro e w10 ⟨rfl, hb⟩; have HB10 := Lib.hid (btr HB9.out hb); have B5 := Lib.hid (btr B4.out (btr HB9.out hb)); clear hb) | (go_at_call 17; refine (HSO.out _ HB10.out).mono ?_; rintro e w12 ⟨rfl, o12, hso, hx12⟩; have B6 := Lib.hid (B5.out.trans ((hx12.low HS8.out.tag (Nat.le_trans Z8.out HB10.out.size)).1.mono B1.out.size)); clear hso hx12))
             go_ret
             exact ⟨rfl, B6.out⟩
theorem interrupted_row (x : Nat) (l : List SAct) (p : Option Addr) (ca : Nat) (am : List Int) (q : Option Addr) (cb : Nat) (fu : Int) (w : World) (hx : x < 256) (ha : AcAt w p ca l) (hq : SI w q cb am) (hfu1 : -128 ≤ fu) (hfu2 : fu ≤ 127) :
    Calls Try.prog 9 #[.int .u8 x, .slice p l.length ca, .slice q am.length cb, .int .i8 fu] w fun e w' => e = .returned (.bool true) ∧ Below w.heap.size w w' := interrupted_any hx ha hq hfu1 hfu2
end Go.Proofs.Ytdibfjcmgbpnpaa
