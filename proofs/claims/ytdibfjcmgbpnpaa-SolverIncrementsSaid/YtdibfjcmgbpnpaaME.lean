/- Walk of the law SolverIncrements. -/
import Derived.Test.YtdibfjcmgbpnpaaLL
namespace Go.Proofs.Ytdibfjcmgbpnpaa
set_option linter.unusedSimpArgs false
set_option linter.unusedVariables false
open Go.RowKit

set_option maxRecDepth 100000 in
set_option maxHeartbeats 8000000 in
theorem increments_any {w : World} {x : Nat} (hx : x < 256) {p : Option Addr} {ca : Nat} {l : List SAct} (ha : AcAt w p ca l) {q : Option Addr} {cb : Nat} {am : List Int} (hq : SI w q cb am) {q2 : Option Addr} {cb2 : Nat} {am2 : List Int} (hq2 : SI w q2 cb2 am2) :
    Calls Try.prog 7 #[.int .u8 x, .slice p l.length ca, .slice q am.length cb, .slice q2 am2.length cb2] w fun e w' => e = .returned (.bool true) ∧ Below w.heap.size w w' := by
 have hhead := head_any (w := w)
 have hla := ha.le; have hma := ha.cm
 simp only [maxLen] at hma
 have HA := Lib.hid ha; have HH := Lib.hid hhead
 obtain ⟨N, hN⟩ : ∃ z, l.length = z := ⟨_, rfl⟩
 rw [hN] at hla ⊢
 have hlb := hq.le; have hmb := hq.cm
 simp only [maxLen] at hmb
 have HQ := Lib.hid hq
 obtain ⟨M, hM⟩ : ∃ z, am.length = z := ⟨_, rfl⟩
 rw [hM] at hlb ⊢
 have HM := Lib.hid hM
 clear hq hM
 have hlb2 := hq2.le; have hmb2 := hq2.cm
 simp only [maxLen] at hmb2
 have HQ2 := Lib.hid hq2
 obtain ⟨M2, hM2⟩ : ∃ z, am2.length = z := ⟨_, rfl⟩
 rw [hM2] at hlb2 ⊢
 have HM2 := Lib.hid hM2
 clear hq2 hM2
 obtain ⟨t, ht⟩ : ∃ z, agreat l = z := ⟨_, rfl⟩
 have HN := Lib.hid hN; have HT := Lib.hid ht
 clear ha hhead hN ht
 go_enter Try.func7, Try.ntmps7
 go_upto_region 2 with (first | (go_at_call 10; refine HH.out.mono ?_; rintro e w1 ⟨rfl, hb⟩; have B1 := Lib.hid hb; clear hb))
 have hgr := great_any (HA.out.up B1.out)
 rw [HN.out, HT.out] at hgr
 have HGR := Lib.hid hgr; clear hgr
 cases t with
 | true =>
   go_wp2_with (first | (go_at_call 11; refine HGR.out.mono ?_; rintro e w2 ⟨rfl, hw⟩; replace hw := hw.symm; subst hw))
   go_ret
   exact ⟨rfl, B1.out⟩
 | false =>
   go_upto_region 4 with (first | (go_at_call 11; refine HGR.out.mono ?_; rintro e w2 ⟨rfl, hw⟩; replace hw := hw.symm; subst hw))
   have hsm : l.length ≤ 60 ∧ ∀ a ∈ l, a.lits.length ≤ 12 := by
     have h := HT.out
     unfold agreat at h
     rw [Bool.or_eq_false_iff, List.any_eq_false] at h
     refine ⟨by have := h.1; simpa using this, fun a ha => ?_⟩
     have := h.2 a ha
     simpa using this
   obtain ⟨n, hn⟩ : ∃ z, x % 9 = z := ⟨_, rfl⟩
   have hn8 : n ≤ 8 := by omega
   have hvr : ∀ w, Calls Try.prog 12 #[.int .u8 x] w fun e w' => e = .returned (.int .i64 (n : Nat)) ∧ w' = w := fun w => by rw [← hn]; exact vars_any hx
   have hmd := fun (wx : World) (hb : Below w.heap.size w wx) => made_any hn8 (HA.out.up hb) hsm.1 hsm.2
   rw [HN.out] at hmd
   have hrl := rcl_le n l
   rw [HN.out] at hrl
   have HSM := Lib.hid hsm; have HVR := Lib.hid hvr; have HMD := Lib.hid hmd
   have hN60 : N ≤ 60 := by rw [← HN.out]; exact hsm.1
   clear hsm hvr hmd hn HGR
   go_upto_region 5 with (first | (go_at_call 12; refine (HVR.out _).mono ?_; rintro e w2 ⟨rfl, hw⟩; replace hw := hw.symm; subst hw))
   have hnew := fun (wx : World) => So.new_any (w := wx) (n := n) (by omega)
   have HNW := Lib.hid hnew; clear hnew
   have HLO := Lib.hid (show am ≠ [] → ∀ a, q = some a → a.block < w1.heap.size from fun h0 a ha => Nat.lt_of_lt_of_le (HQ.out.lt h0 a ha) B1.out.size)
   have HLO2 := Lib.hid (show am2 ≠ [] → ∀ a, q2 = some a → a.block < w1.heap.size from fun h0 a ha => Nat.lt_of_lt_of_le (HQ2.out.lt h0 a ha) B1.out.size)
   go_upto_region 6 with (first | (go_at_call 22; refine (HMD.out _ B1.out).mono ?_; rintro e w4 ⟨b1, o1, rfl, hso, hb⟩; have HS1 := Lib.hid hso; have W1 := Lib.hid hb; have B2 := Lib.hid (B1.out.trans (hb.mono B1.out.size)); clear hso hb))
   go_upto_region 7 with (first | (go_at_call 13; refine (HNW.out _).mono ?_; rintro e w5 ⟨b2, o2, rfl, hso, hb⟩; have HS2 := Lib.hid hso; have W2 := Lib.hid hb; have B3 := Lib.hid (B2.out.trans (hb.mono B2.out.size)); clear hso hb))
   have T0 := Lib.hid (Two.new HS1.out W1.out.size W2.out HS2.out)
   have Z5 := Lib.hid (Nat.le_trans W1.out.size W2.out.size)
   have hok := HS1.out.gd.sv.ok
   have HOKA := Lib.hid hok
   clear HS1 HS2 W1 W2 HMD HVR B2 HNW hok
   by_cases h12 : 12 < M
   case pos =>
     have h12i : (12 : Int) < (M : Int) := by omega
     go_wp2_with fail
     go_ret
     exact ⟨rfl, B3.out⟩
   case neg =>
   have h12i : ¬ (12 : Int) < (M : Int) := by omega
   by_cases h122 : 12 < M2
   case pos =>
     have h12i2 : (12 : Int) < (M2 : Int) := by omega
     go_wp2_with fail
     go_ret
     exact ⟨rfl, B3.out⟩
   case neg =>
   have h12i2 : ¬ (12 : Int) < (M2 : Int) := by omega
   have hval := rvalid21_any (HQ.out.up B3.out) (by rw [HM.out]; omega) n (by omega)
   rw [vlit_badl, HM.out] at hval
   obtain ⟨t, ht⟩ : ∃ z, vlit n am = z := ⟨_, rfl⟩
   rw [ht] at hval
   have HVAL := Lib.hid hval; have HVT := Lib.hid ht
   clear hval ht
   cases t with
   | false =>
     go_wp2_with (first | (go_at_call 14; refine HVAL.out.mono ?_; rintro e wv ⟨rfl, hw⟩; replace hw := hw.symm; subst hw))
     go_ret
     exact ⟨rfl, B3.out⟩
   | true =>
     go_upto_region 9 with (first | (go_at_call 14; refine HVAL.out.mono ?_; rintro e wv ⟨rfl, hw⟩; replace hw := hw.symm; subst hw))
     have hvo := vlit_iff.1 HVT.out
     have HVO := Lib.hid hvo
     clear hvo HVT HVAL
     have hcl := clauses_any HA.out B3.out (n := n) (by omega) HSM.out.1 HSM.out.2
     rw [HN.out] at hcl
     have hal : ∀ c ∈ rcl n l, ∃ a ∈ l, a.lits = c := fun c hc => by
       unfold rcl at hc
       obtain ⟨a, ha, rfl⟩ := List.mem_map.1 hc
       exact ⟨a, (List.mem_filter.1 ha).1, rfl⟩
     obtain ⟨A, hA⟩ : ∃ z, rcl n l = z := ⟨_, rfl⟩
     obtain ⟨S0, hS0⟩ : ∃ z, smade n l = z := ⟨_, rfl⟩
     have t0 := T0.out; have hoka := HOKA.out
     rw [hA] at hcl hoka hrl hal
     rw [hA, hS0] at t0
     obtain ⟨m, hm⟩ : ∃ z, A.length = z := ⟨_, rfl⟩
     rw [hm] at hcl hrl
     have T0 := Lib.hid t0; have HOKA := Lib.hid hoka; have HCL := Lib.hid hcl; have HMA := Lib.hid hm; have HAL := Lib.hid hal
     clear hal hcl hA hS0 t0 hoka hm
     go_upto_region 10 with (first | (go_at_call 21; refine HCL.out.mono ?_; rintro e w6 ⟨qc, cc, rfl, hcs, hb⟩; have hcu := hcs.imp (K' := fun g => g < w1.heap.size ∨ Un o1 o2 g) (fun g hg hl => hg.imp (fun q => Nat.lt_of_lt_of_le q B1.out.size) (fun q => T0.out.fresh q)); have HCS := Lib.hid hcu; have T1 := Lib.hid (T0.out.up hb); have B4 := Lib.hid (btr B3.out hb); have Z6 := Lib.hid (Nat.le_trans Z5.out hb.size); clear hcs hb hcu))
     clear HCL B3 T0
     have hwm : IntKind.i64.wrap ((m : Int) - 1) = (m : Int) - 1 := wrapI (by omega) (by omega)
     have HPR := Lib.hid (show (snew n).proof = [] from rfl)
     go_wp2_with fail
     go_loopg [14] m (fun G s14 wr => ∃ (k : Nat) (o : Nat → Option Role) (A2 : List (List Int)) (S2 : SS), s14 = .int .i64 ((k : Int) - 1) ∧ k ≤ m ∧ G = k ∧ Two w1.heap.size wr n o1 b1 A S0 o b2 A2 S2 ∧ CsAt (fun g => g < w1.heap.size ∨ Un o1 o g) wr qc cc A ∧ Below w.heap.size w wr ∧ w1.heap.size ≤ wr.heap.size ∧ A2.length + k ≤ m ∧ S2.proof = [] ∧ (∀ c ∈ A2, c ∈ A) ∧ ∀ j c, k ≤ j → A[j]? = some c → c ∈ A2)
     case atStart => exact ⟨m, o2, [], snew n, rfl, by omega, rfl, T1.out, HCS.out, B4.out, Z6.out, by simp, HPR.out, (fun c hc => by cases hc), fun j c h1 h2 => by have h3 := (List.getElem?_eq_some_iff.1 h2).1; have h4 := HMA.out; omega⟩
     case round =>
      obtain ⟨k, o, A2, S2, rfl, hk, hG, hT, hC, hB, hZ, hl2, hp2, hs1, hs2⟩ := hrel
      have HG := Lib.hid hG; have HT2 := Lib.hid hT; have HC := Lib.hid hC; have HBW := Lib.hid hB; have HZ := Lib.hid hZ; have HL2 := Lib.hid hl2; have HP2 := Lib.hid hp2; have HS1 := Lib.hid hs1; have HS2 := Lib.hid hs2
      clear hG hT hC hB hZ hl2 hp2 hs1 hs2 HCS T1 B4 Z6 HPR
      obtain ⟨w7, hw7⟩ : ∃ z, z = wr := ⟨_, rfl⟩
      subst hw7
      by_cases hk0 : k = 0
      case neg =>
       obtain ⟨k', rfl⟩ : ∃ k', k = k' + 1 := ⟨k - 1, by omega⟩
       obtain ⟨c, hc⟩ : ∃ c, A[k']? = some c := ⟨_, List.getElem?_eq_getElem (by rw [HMA.out]; omega)⟩
       have hcm := List.mem_of_getElem? hc
       obtain ⟨g1, of1, p1, c1, rfl, x0, hsi, hlow⟩ := HC.out.at' k' c hc
       have hvc : vlit n c = true := vlit_iff.2 (HOKA.out c hcm)
       have hcl : c.length ≤ 50000 := by
         obtain ⟨a, ha, rfl⟩ : ∃ a ∈ l, a.lits = c := HAL.out c hcm
         have := HSM.out.2 a ha; omega
       have hadd := HT2.out.symm.addS (by omega) (by have := HL2.out; omega) hsi rfl hcl (fun h0 a ha => (hlow h0 a ha).imp id fun q => ⟨q.2, q.1⟩)
       obtain ⟨X, hX⟩ : ∃ z, c.length = z := ⟨_, rfl⟩
       rw [if_pos hvc, if_pos hvc, hvc, hX] at hadd
       rw [hX] at x0
       have hke : ((k' + 1 : Nat) : Int) - 1 = (k' : Int) := by omega
       rw [hke]
       have hwk : IntKind.i64.wrap ((k' : Int) - 1) = (k' : Int) - 1 := wrapI (by omega) (by omega)
       have hkm : (k' : Int) < (m : Int) := by omega
       have hk0i : (0 : Int) ≤ (k' : Int) := by omega
       have HAD := Lib.hid hadd; have HCC := Lib.hid hc
       clear hadd hc hcm hsi hlow hvc hcl hX hke
       go_wp2_with (first | (go_at_call 15; refine HAD.out.mono ?_; rintro e w8 ⟨rfl, o8, ht8, hb8, hx8⟩; have HT8 := Lib.hid ht8.symm; have HC8 := Lib.hid (HC.out.swap.left hx8 hb8).swap; have HB8 := Lib.hid (HBW.out.trans (hb8.mono B1.out.size)); have HZ8 := Lib.hid (Nat.le_trans HZ.out hx8.size); clear ht8 hb8 hx8))
       go_roundg k'
       case measure => (have := HG.out; omega)
       case rel =>
         refine ⟨k', o8, A2 ++ [c], S2.add c, rfl, by omega, rfl, HT8.out, HC8.out, HB8.out, HZ8.out, by have := HL2.out; simp; omega, by rw [add_proof]; exact HP2.out, fun d hd => ?_, fun j d h1 h2 => ?_⟩
         · rcases List.mem_append.1 hd with h | h
           · exact HS1.out d h
           · rw [List.mem_singleton.1 h]; exact List.mem_of_getElem? HCC.out
         · rcases Nat.lt_or_ge k' j with h | h
           · exact List.mem_append_left _ (HS2.out j d (by omega) h2)
           · obtain rfl : j = k' := by omega
             rw [HCC.out] at h2
             rw [← Option.some.inj h2]; simp
      case pos =>
       subst hk0
       have hsame : ∀ c, c ∈ A ↔ c ∈ A2 := fun c => ⟨fun h => by
         obtain ⟨j, hj⟩ := List.mem_iff_getElem?.1 h
         exact HS2.out j c (Nat.zero_le _) hj, HS1.out c⟩
       have HSAME := Lib.hid hsame; clear hsame HC HS1 HS2
       have h0m : ¬ (0 : Int) ≤ ((0 : Nat) : Int) - 1 := by omega
       have hful := full_any HT2.out.l (by omega)
       by_cases hf : 10000 ≤ S0.proof.length
       case pos =>
         rw [decide_eq_true hf] at hful
         have HF := Lib.hid hful; clear hful hf
         go_wp2_with (first | (go_at_call 16; refine HF.out.mono ?_; rintro e w8 ⟨rfl, hb⟩; have B5 := Lib.hid (btr HBW.out hb); clear hb))
         go_ret
         exact ⟨rfl, B5.out⟩
       case neg =>
       rw [decide_eq_false hf] at hful
       have hd1 := gd_done HT2.out.l.gd am 6561
       have hd2 := gd_done HT2.out.r.gd am 6561
       have hk1 := gd_known HT2.out.l.gd hn8 (by omega) HVO.out
       have hk2 := gd_known HT2.out.r.gd hn8 (by rw [HP2.out]; simp) HVO.out
       have ho1 := hd1.want HOKA.out HVO.out hk1
       have ho2 := hd2.want (fun c hc => HOKA.out c ((HSAME.out c).2 hc)) HVO.out hk2
       have hl1 := hd1.least HOKA.out HVO.out
       have hl2 := hd2.least (fun c hc => HOKA.out c ((HSAME.out c).2 hc)) HVO.out
       rw [← routcome_same HSAME.out, ← ho1] at ho2
       rw [← rleast_same HSAME.out] at hl2
       have hsl := fun (wx : World) (hb : Below w7.heap.size w7 wx) => (HT2.out.up hb).solX (by omega) (by rw [HMA.out]; omega) (HQ.out.up (btr HBW.out hb)) HM.out (by omega) (fun h0 a ha => .inl (HLO.out h0 a ha)) 6561
       have hsl2 := fun (wx : World) (o' : Nat → Option Role) (S : SS) (hb : Below w.heap.size w wx) (ht : Two w1.heap.size wx n o b2 A2 S2 o' b1 A S) => ht.solX (by omega) (by have := HL2.out; omega) (HQ.out.up hb) HM.out (by omega) (fun h0 a ha => .inl (HLO.out h0 a ha)) 6561
       obtain ⟨⟨S1, a⟩, hS1⟩ : ∃ z, solve S0 am 6561 = z := ⟨_, rfl⟩
       obtain ⟨⟨U1, b⟩, hU1⟩ : ∃ z, solve S2 am 6561 = z := ⟨_, rfl⟩
       rw [hS1, hU1] at ho2
       rw [hS1] at hd1 hk1 hl1 hsl
       rw [hU1] at hd2 hk2 hl2 hsl2
       dsimp only at ho2 hk1 hk2 hl1 hl2 hsl hsl2
       subst ho2
       have hmv : ∀ v, (decide (b = 1) && (mvals n S1.model).getD v false) = (decide (b = 1) && (mvals n U1.model).getD v false) := fun v => by
         by_cases q : b = 1
         · have e := Option.some.inj ((hl1.1 q).symm.trans (hl2.1 q))
           rw [e]
         · rw [decide_eq_false q]; rfl
       have HF := Lib.hid hful; have HD1 := Lib.hid hd1; have HD2 := Lib.hid hd2; have HK := Lib.hid hk1; have HSL := Lib.hid hsl; have HSL2 := Lib.hid hsl2; have HMV := Lib.hid hmv
       have hkb : (b == 0) = false := (beq_eq_false_iff_ne (α := Int)).2 hk1
       clear hful hf hd1 hd2 hk1 hk2 ho1 hl1 hl2 hsl hsl2 hmv hS1 hU1 HSAME
       go_upto_region 19 with (first | (go_at_call 16; refine HF.out.mono ?_; rintro e w8 ⟨rfl, hb⟩; have hs1 := HSL.out _ hb; have HSL1 := Lib.hid hs1; have B5 := Lib.hid (btr HBW.out hb); clear hb hs1) | (go_at_call 17; first | ((with_reducible refine HSL1.out.mono ?_); rintro e w9 ⟨rfl, o9, tt, hb, hx⟩; have B6 := Lib.hid (B5.out.trans (hb.mono B1.out.size)); have hs2 := HSL2.out _ _ _ B6.out tt.symm; have HSL3 := Lib.hid hs2; clear tt hb hx hs2) | ((with_reducible refine HSL3.out.mono ?_); rintro e w10 ⟨rfl, o10, tt, hb, hx⟩; have T5 := Lib.hid tt.symm; have B7 := Lib.hid (B6.out.trans (hb.mono B1.out.size)); clear tt hb hx)))
       clear HF HSL HSL2 HSL1 HSL3 HBW HT2 B5 B6
       -- behind the values: a clause more
       have had := T5.out.addS (l := am2) (by omega) (by rw [HMA.out]; omega) (HQ2.out.up B7.out) HM2.out (by omega) (fun h0 a ha => .inl (HLO2.out h0 a ha))
       obtain ⟨A3, hA3⟩ : ∃ z, (if vlit n am2 = true then A ++ [am2] else A) = z := ⟨_, rfl⟩
       obtain ⟨S3, hS3⟩ : ∃ z, (if vlit n am2 = true then S1.add am2 else S1) = z := ⟨_, rfl⟩
       obtain ⟨t3, ht3⟩ : ∃ z, vlit n am2 = z := ⟨_, rfl⟩
       have hsub : ∀ c ∈ A, c ∈ A3 := fun c hc => by
         rw [← hA3]; split
         · exact List.mem_append_left _ hc
         · exact hc
       have hl3 : A3.length ≤ 61 := by
         rw [← hA3]; split
         · rw [List.length_append, HMA.out]; simp; omega
         · rw [HMA.out]; omega
       rw [hA3, hS3, ht3] at had
       have HADD := Lib.hid had; have HSUB := Lib.hid hsub; have HL3 := Lib.hid hl3
       clear had hA3 hS3 ht3 hsub hl3
       have hva := fun v : Int => value_any T5.out.l.sol v
       have hvb := fun v : Int => value_any T5.out.r.sol v
       have HVA := Lib.hid hva; have HVB := Lib.hid hvb
       clear hva hvb
       go_wp2_with fail
       go_loopg [17] n (fun G s17 wr => ∃ v : Nat, s17 = .int .i64 v ∧ 1 ≤ v ∧ v ≤ n + 1 ∧ G = n + 1 - v ∧ wr = w10)
       case atStart => exact ⟨1, rfl, by omega, by omega, by omega, rfl⟩
       case round =>
        obtain ⟨v, rfl, hv1, hv2, hG, hw⟩ := hrel
        replace hw := hw.symm; subst hw
        have HG2 := Lib.hid hG; clear hG
        by_cases hlt : v ≤ n
        case pos =>
         have hvi : (v : Int) ≤ (n : Int) := by omega
         have h3 := HVA.out (v : Int)
         have h4 := HVB.out (v : Int)
         rw [value_of HD1.out HK.out hv1 hlt] at h3
         rw [value_of HD2.out HK.out hv1 hlt, ← HMV.out] at h4
         obtain ⟨t, ht⟩ : ∃ z, (decide (b = 1) && (mvals n S1.model).getD (v - 1) false) = z := ⟨_, rfl⟩
         rw [ht] at h3 h4
         have H3 := Lib.hid h3; have H4 := Lib.hid h4
         clear h3 h4 ht
         obtain ⟨v1, hv1e⟩ : ∃ z, v + 1 = z := ⟨_, rfl⟩
         have hwv : IntKind.i64.wrap ((v : Int) + 1) = (v1 : Int) := by rw [wrapI (by omega) (by omega)]; omega
         cases t with
         | true =>
           go_wp2_with (first | (go_at_call 18; first | ((with_reducible refine H3.out.mono ?_); rintro e w11 ⟨rfl, hw⟩; replace hw := hw.symm; subst hw) | ((with_reducible refine H4.out.mono ?_); rintro e w11 ⟨rfl, hw⟩; replace hw := hw.symm; subst hw)))
           go_roundg (n + 1 - v1)
           case measure => (have := HG2.out; omega)
           case rel => exact ⟨v1, rfl, by omega, by omega, rfl, rfl⟩
         | false =>
           go_wp2_with (first | (go_at_call 18; first | ((with_reducible refine H3.out.mono ?_); rintro e w11 ⟨rfl, hw⟩; replace hw := hw.symm; subst hw) | ((with_reducible refine H4.out.mono ?_); rintro e w11 ⟨rfl, hw⟩; replace hw := hw.symm; subst hw)))
           go_roundg (n + 1 - v1)
           case measure => (have := HG2.out; omega)
           case rel => exact ⟨v1, rfl, by omega, by omega, rfl, rfl⟩
        case neg =>
         have hvi : ¬ (v : Int) ≤ (n : Int) := by omega
         clear HVA HVB HMV HD2
         go_upto_region 27 with (first | (go_at_call 15; refine HADD.out.mono ?_; rintro e w11 ⟨rfl, o11, tt, hb, hx⟩; have T6 := Lib.hid tt; have B8 := Lib.hid (B7.out.trans (hb.mono B1.out.size)); clear tt hb hx))
         have hful := full_any T6.out.l (by omega)
         by_cases hf : 10000 ≤ S3.proof.length
         case pos =>
           rw [decide_eq_true hf] at hful
           have HF := Lib.hid hful; clear hful hf
           go_wp2_with (first | (go_at_call 16; refine HF.out.mono ?_; rintro e w12 ⟨rfl, hb⟩; have B9 := Lib.hid (btr B8.out hb); clear hb))
           go_ret
           exact ⟨rfl, B9.out⟩
         case neg =>
         rw [decide_eq_false hf] at hful
         have hk3 := gd_known T6.out.l.gd hn8 (by omega) HVO.out
         have hd3 := gd_done T6.out.l.gd am 6561
         have hsl := fun (wx : World) (hb : Below w11.heap.size w11 wx) => (T6.out.up hb).solX (by omega) (by have := HL3.out; omega) (HQ.out.up (btr B8.out hb)) HM.out (by omega) (fun h0 a ha => .inl (HLO.out h0 a ha)) 6561
         obtain ⟨⟨S4, c⟩, hS4⟩ : ∃ z, solve S3 am 6561 = z := ⟨_, rfl⟩
         rw [hS4] at hk3 hd3 hsl
         dsimp only at hk3 hsl
         have hend : b ≠ 1 → c = 2 := fun hb1 => by
           have hoc := HD1.out.oc
           dsimp only at hoc
           have hb2 : b = 2 := (hoc.resolve_left HK.out).resolve_left hb1
           have hun := (HD1.out.unsat' hb2 HVO.out).mono HSUB.out (fun _ h => h)
           rcases hd3.oc with q | q | q
           · exact absurd q hk3
           · exact absurd hun (hd3.yes q).2.not_unsat
           · exact q
         have HF := Lib.hid hful; have HSL := Lib.hid hsl; have HEND := Lib.hid hend
         clear hful hf hk3 hd3 hsl hS4 hend HADD
         by_cases hb1 : b = 1
         case pos =>
           subst hb1
           go_wp2_with (first | (go_at_call 16; refine HF.out.mono ?_; rintro e w12 ⟨rfl, hb⟩; have hsl := HSL.out _ hb; have HSLX := Lib.hid hsl; have B9 := Lib.hid (btr B8.out hb); clear hb hsl) | (go_at_call 17; refine HSLX.out.mono ?_; rintro e w13 ⟨rfl, o13, tt, hb, hx⟩; have B10 := Lib.hid (B9.out.trans (hb.mono B1.out.size)); clear tt hb hx))
           go_ret
           exact ⟨rfl, B10.out⟩
         case neg =>
           have hc2 := HEND.out hb1
           have hb1b : (b == 1) = false := (beq_eq_false_iff_ne (α := Int)).2 hb1
           subst hc2
           go_wp2_with (first | (go_at_call 16; refine HF.out.mono ?_; rintro e w12 ⟨rfl, hb⟩; have hsl := HSL.out _ hb; have HSLX := Lib.hid hsl; have B9 := Lib.hid (btr B8.out hb); clear hb hsl) | (go_at_call 17; refine HSLX.out.mono ?_; rintro e w13 ⟨rfl, o13, tt, hb, hx⟩; have B10 := Lib.hid (B9.out.trans (hb.mono B1.out.size)); clear tt hb hx))
           go_ret
           exact ⟨rfl, B10.out⟩
theorem increments_row (x : Nat) (l : List SAct) (p : Option Addr) (ca : Nat) (am : List Int) (q : Option Addr) (cb : Nat) (am2 : List Int) (q2 : Option Addr) (cb2 : Nat) (w : World) (hx : x < 256) (ha : AcAt w p ca l) (hq : SI w q cb am) (hq2 : SI w q2 cb2 am2) :
    Calls Try.prog 7 #[.int .u8 x, .slice p l.length ca, .slice q am.length cb, .slice q2 am2.length cb2] w fun e w' => e = .returned (.bool true) ∧ Below w.heap.size w w' := increments_any hx ha hq hq2
end Go.Proofs.Ytdibfjcmgbpnpaa
