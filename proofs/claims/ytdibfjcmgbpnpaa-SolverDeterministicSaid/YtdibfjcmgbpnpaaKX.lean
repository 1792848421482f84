/- Walk of the law SolverDeterministic. -/
import Derived.Test.YtdibfjcmgbpnpaaKW
namespace Go.Proofs.Ytdibfjcmgbpnpaa
set_option linter.unusedSimpArgs false
set_option linter.unusedVariables false
open Go.RowKit

theorem Two.solS {B n b1 b2 : Nat} {w : World} {o1 o2 : Nat → Option Role} {A1 A2 : List (List Int)} {s1 s2 : SS} (h : Two B w n o1 b1 A1 s1 o2 b2 A2 s2) (hn : n ≤ 20000) (hA : A1.length ≤ 700000) {p : Option Addr} {cap k : Nat} {l : List Int} (hl : SI w p cap l) (hk : l.length = k) (hll : k ≤ 50000) (hlow : l ≠ [] → ∀ a, p = some a → a.block < B) (fuel : Int) :
    Calls Try.prog 17 #[.pointer (some ⟨b1, 0, none⟩), .slice p k cap, .int .i64 fuel] w fun e w' => e = .returned (.int .i64 (solve s1 l fuel).2) ∧ ∃ o', Two B w' n o' b1 A1 (solve s1 l fuel).1 o2 b2 A2 s2 ∧ Below B w w' ∧ Ext NoX w o1 w' o' := by
  subst hk
  refine (h.l.solve_any hn hA hl hll (fun h0 a ha => .inl (hlow h0 a ha)) fuel h.z).mono ?_
  rintro e w' ⟨h1, o', h3, h4⟩
  obtain ⟨h5, h6⟩ := h.left h3 h4
  exact ⟨h1, o', h5, h6, h4⟩
set_option maxRecDepth 100000 in
set_option maxHeartbeats 8000000 in
theorem deterministic_any {w : World} {x : Nat} (hx : x < 256) {p q : Option Addr} {ca cb : Nat} {l : List SAct} {am : List Int} (ha : AcAt w p ca l) (hq : SI w q cb am) :
    Calls Try.prog 8 #[.int .u8 x, .slice p l.length ca, .slice q am.length cb] w fun e w' => e = .returned (.bool true) ∧ Below w.heap.size w w' := by
 have hhead := head_any (w := w)
 have hla := ha.le; have hlb := hq.le; have hma := ha.cm; have hmb := hq.cm
 simp only [maxLen] at hma hmb
 have HA := Lib.hid ha; have HQ := Lib.hid hq; have HH := Lib.hid hhead
 obtain ⟨N, hN⟩ : ∃ z, l.length = z := ⟨_, rfl⟩
 obtain ⟨M, hM⟩ : ∃ z, am.length = z := ⟨_, rfl⟩
 rw [hN] at hla ⊢; rw [hM] at hlb ⊢
 obtain ⟨t, ht⟩ : ∃ z, agreat l = z := ⟨_, rfl⟩
 have HN := Lib.hid hN; have HM := Lib.hid hM; have HT := Lib.hid ht
 clear ha hq hhead hN hM ht
 go_enter Try.func8, Try.ntmps8
 go_upto_region 2 with (first | (go_at_call 10; refine HH.out.mono ?_; rintro e w1 ⟨rfl, hb⟩; have B1 := Lib.hid hb; clear hb))
 have hgr := great_any (HA.out.up B1.out)
 rw [HN.out, HT.out] at hgr
 have HGR := Lib.hid hgr; clear hgr
 cases t with
 | true =>
   go_wp2_with (first | (go_at_call 11; refine HGR.out.mono ?_; rintro e w2 ⟨rfl, hw⟩; replace hw := hw.symm; subst hw))
   go_ret
   exact ⟨rfl, B1.out⟩
 | false =>
   go_upto_region 4 with (first | (go_at_call 11; refine HGR.out.mono ?_; rintro e w2 ⟨rfl, hw⟩; replace hw := hw.symm; subst hw))
   have hsm : l.length ≤ 60 ∧ ∀ a ∈ l, a.lits.length ≤ 12 := by
     have h := HT.out
     unfold agreat at h
     rw [Bool.or_eq_false_iff, List.any_eq_false] at h
     refine ⟨by have := h.1; simpa using this, fun a ha => ?_⟩
     have := h.2 a ha
     simpa using this
   obtain ⟨n, hn⟩ : ∃ z, x % 9 = z := ⟨_, rfl⟩
   have hn8 : n ≤ 8 := by omega
   have hvr : ∀ w, Calls Try.prog 12 #[.int .u8 x] w fun e w' => e = .returned (.int .i64 (n : Nat)) ∧ w' = w := fun w => by rw [← hn]; exact vars_any hx
   have hmd := fun (wx : World) (hb : Below w.heap.size w wx) => made_any hn8 (HA.out.up hb) hsm.1 hsm.2
   rw [HN.out] at hmd
   have hrl := rcl_le n l
   rw [HN.out] at hrl
   have HSM := Lib.hid hsm; have HVR := Lib.hid hvr; have HMD := Lib.hid hmd
   have hN60 : N ≤ 60 := by rw [← HN.out]; exact hsm.1
   clear hsm hvr hmd hn HGR
   go_upto_region 5 with (first | (go_at_call 12; refine (HVR.out _).mono ?_; rintro e w2 ⟨rfl, hw⟩; replace hw := hw.symm; subst hw))
   go_upto_region 6 with (first | (go_at_call 22; refine (HMD.out _ B1.out).mono ?_; rintro e w4 ⟨b1, o1, rfl, hso, hb⟩; have HS1 := Lib.hid hso; have W1 := Lib.hid hb; have B2 := Lib.hid (B1.out.trans (hb.mono B1.out.size)); clear hso hb))
   go_upto_region 7 with (first | (go_at_call 22; refine (HMD.out _ B2.out).mono ?_; rintro e w5 ⟨b2, o2, rfl, hso, hb⟩; have HS2 := Lib.hid hso; have W2 := Lib.hid hb; have B3 := Lib.hid (B2.out.trans (hb.mono B2.out.size)); clear hso hb))
   have T0 := Lib.hid (Two.new HS1.out W1.out.size W2.out HS2.out)
   have HLO := Lib.hid (show am ≠ [] → ∀ a, q = some a → a.block < w1.heap.size from fun h0 a ha => Nat.lt_of_lt_of_le (HQ.out.lt h0 a ha) B1.out.size)
   clear HS1 HS2 W1 W2 HMD HVR B2
   by_cases h12 : 12 < M
   case pos =>
     have h12i : (12 : Int) < (M : Int) := by omega
     go_wp2_with fail
     go_ret
     exact ⟨rfl, B3.out⟩
   case neg =>
   have h12i : ¬ (12 : Int) < (M : Int) := by omega
   have h12b : decide ((12 : Int) < (M : Int)) = false := decide_eq_false h12i
   go_upto_region 9 with fail
   have hp1 := T0.out.proofL (by omega)
   have HP1 := Lib.hid hp1
   obtain ⟨PL, hPL⟩ : ∃ z, (smade n l).proof.length = z := ⟨_, rfl⟩
   rw [hPL] at hp1
   have HP1 := Lib.hid hp1; have HPL := Lib.hid hPL
   clear hp1 hPL h12b
   have R1 : ∀ s, (solve s am 6561).2 = (solve s am 6561).2 := fun _ => rfl
   clear R1
   go_upto_region 11 with (first | (go_at_call 26; first | ((with_reducible refine HP1.out.mono ?_); rintro e w6 ⟨q1, c1, rfl, hpf, hb⟩; have PF1 := Lib.hid hpf; have T1 := Lib.hid (T0.out.up hb).symm; have B4 := Lib.hid (B3.out.trans (hb.mono B3.out.size)); have hp2 := T1.out.proofL (by omega); rw [HPL.out] at hp2; have HP2 := Lib.hid hp2; clear hpf hb hp2) | ((with_reducible refine HP2.out.mono ?_); rintro e w7 ⟨q2, c2, rfl, hpf, hb⟩; have hss := samesteps_any (PF1.out.up hb) hpf; (rw [HPL.out, decide_eq_true rfl] at hss); have HSS := Lib.hid hss; have T2 := Lib.hid (T1.out.up hb).symm; have B5 := Lib.hid (B4.out.trans (hb.mono B4.out.size)); clear hpf hb hss)) | (go_at_call 27; refine HSS.out.mono ?_; rintro e w8 ⟨rfl, hb⟩; have T3 := Lib.hid (T2.out.up hb); have B6 := Lib.hid (B5.out.trans (hb.mono B5.out.size)); have hs1 := T3.out.solS (by omega) (by omega) (HQ.out.up B6.out) HM.out (by omega) HLO.out 6561; have HSL1 := Lib.hid hs1; clear hb hs1) | (go_at_call 17; first | ((with_reducible refine HSL1.out.mono ?_); rintro e w9 ⟨rfl, o9, tt, hb, hx⟩; have T4 := Lib.hid tt.symm; have B7 := Lib.hid (B6.out.trans (hb.mono B1.out.size)); have hs2 := tt.symm.solS (by omega) (by omega) (HQ.out.up B7.out) HM.out (by omega) HLO.out 6561; have HSL2 := Lib.hid hs2; clear tt hb hx hs2) | ((with_reducible refine HSL2.out.mono ?_); rintro e w10 ⟨rfl, o10, tt, hb, hx⟩; have T5 := Lib.hid tt.symm; have B8 := Lib.hid (B7.out.trans (hb.mono B1.out.size)); clear tt hb hx)))
   clear T1 T2 T3 T4 HSL1 HSL2 HSS HP1 HP2 PF1 B3 B4 B5 B6 B7
   have hcl := solve_core T0.out.l.gd.sv T0.out.l.gd.nomk T0.out.l.sb am 6561
   obtain ⟨S, hS⟩ : ∃ z, (solve (smade n l) am 6561).1 = z := ⟨_, rfl⟩
   have T6 := T5.out
   rw [hS] at T6 hcl
   have HT6 := Lib.hid T6
   clear T6 T5 T0 hS
   have HCL := Lib.hid hcl; clear hcl
   go_wp2_with fail
   go_loopg [11] n (fun G s11 wr => ∃ v : Nat, s11 = .int .i64 v ∧ 1 ≤ v ∧ v ≤ n + 1 ∧ G = n + 1 - v ∧ wr = w10)
   case atStart => exact ⟨1, rfl, by omega, by omega, by omega, rfl⟩
   case round =>
    obtain ⟨v, rfl, hv1, hv2, hG, hw⟩ := hrel
    replace hw := hw.symm; subst hw
    have HG := Lib.hid hG; clear hG
    by_cases hlt : v ≤ n
    case pos =>
     have hvi : (v : Int) ≤ (n : Int) := by omega
     have hva := value_any HT6.out.l.sol (v : Int)
     have hvb := value_any HT6.out.r.sol (v : Int)
     obtain ⟨t, ht⟩ : ∃ t, (decide (0 < (v : Int)) && decide ((v : Int) < (S.model.length : Int)) && decide (0 < S.model.getD (v : Int).toNat 0)) = t := ⟨_, rfl⟩
     rw [ht] at hva hvb
     have HVA := Lib.hid hva; have HVB := Lib.hid hvb
     clear hva hvb ht
     obtain ⟨v1, hv1e⟩ : ∃ z, v + 1 = z := ⟨_, rfl⟩
     have hwv : IntKind.i64.wrap ((v : Int) + 1) = (v1 : Int) := by rw [wrapI (by omega) (by omega)]; omega
     cases t with
     | true =>
       go_wp2_with (first | (go_at_call 18; first | ((with_reducible refine HVA.out.mono ?_); rintro e w11 ⟨rfl, hw⟩; replace hw := hw.symm; subst hw) | ((with_reducible refine HVB.out.mono ?_); rintro e w11 ⟨rfl, hw⟩; replace hw := hw.symm; subst hw)))
       go_roundg (n + 1 - v1)
       case measure => (have := HG.out; omega)
       case rel => exact ⟨v1, rfl, by omega, by omega, rfl, rfl⟩
     | false =>
       go_wp2_with (first | (go_at_call 18; first | ((with_reducible refine HVA.out.mono ?_); rintro e w11 ⟨rfl, hw⟩; replace hw := hw.symm; subst hw) | ((with_reducible refine HVB.out.mono ?_); rintro e w11 ⟨rfl, hw⟩; replace hw := hw.symm; subst hw)))
       go_roundg (n + 1 - v1)
       case measure => (have := HG.out; omega)
       case rel => exact ⟨v1, rfl, by omega, by omega, rfl, rfl⟩
    case neg =>
     have hvi : ¬ (v : Int) ≤ (n : Int) := by omega
     obtain ⟨K, hK⟩ : ∃ z, S.core.length = z := ⟨_, rfl⟩
     have hcl := HCL.out
     rw [hK] at hcl
     obtain ⟨PM, hPM⟩ : ∃ z, S.proof.length = z := ⟨_, rfl⟩
     have hcr := core_any HT6.out.l.sol (by rw [hK]; omega)
     rw [hK] at hcr
     have HCR1 := Lib.hid hcr; have HK := Lib.hid hK; have HPM := Lib.hid hPM
     clear hcr hK hPM
     go_wp2_with (first | (go_at_call 19; first | ((with_reducible refine HCR1.out.mono ?_); rintro e w11 ⟨q3, c3, rfl, how, hb⟩; have S1 := Lib.hid (SI.of_owns (l := S.core) (by rw [HK.out]; exact how)); have T7 := Lib.hid (HT6.out.up hb); have B9 := Lib.hid (B8.out.trans (hb.mono B8.out.size)); have hc2 := core_any T7.out.r.sol (by rw [HK.out]; omega); (rw [HK.out] at hc2); have HCR2 := Lib.hid hc2; clear how hb hc2) | ((with_reducible refine HCR2.out.mono ?_); rintro e w12 ⟨q4, c4, rfl, how, hb⟩; have hsa := same_any (S1.out.up hb) (SI.of_owns (l := S.core) (by rw [HK.out]; exact how)); (rw [HK.out, decide_eq_true rfl] at hsa); have HSA := Lib.hid hsa; have T8 := Lib.hid (T7.out.up hb); have B10 := Lib.hid (B9.out.trans (hb.mono B9.out.size)); clear how hb hsa)) | (go_at_call 29; refine HSA.out.mono ?_; rintro e w13 ⟨rfl, hb⟩; have T9 := Lib.hid (T8.out.up hb); have B11 := Lib.hid (B10.out.trans (hb.mono B10.out.size)); have hp3 := T9.out.proofL (by omega); (rw [HPM.out] at hp3); have HP3 := Lib.hid hp3; clear hb hp3) | (go_at_call 26; first | ((with_reducible refine HP3.out.mono ?_); rintro e w14 ⟨q5, c5, rfl, hpf, hb⟩; have PF3 := Lib.hid hpf; have T10 := Lib.hid (T9.out.up hb).symm; have B12 := Lib.hid (B11.out.trans (hb.mono B11.out.size)); have hp4 := T10.out.proofL (by omega); (rw [HPM.out] at hp4); have HP4 := Lib.hid hp4; clear hpf hb hp4) | ((with_reducible refine HP4.out.mono ?_); rintro e w15 ⟨q6, c6, rfl, hpf, hb⟩; have hss := samesteps_any (PF3.out.up hb) hpf; (rw [HPM.out, decide_eq_true rfl] at hss); have HSS2 := Lib.hid hss; have B13 := Lib.hid (B12.out.trans (hb.mono B12.out.size)); clear hpf hb hss)) | (go_at_call 27; refine HSS2.out.mono ?_; rintro e w16 ⟨rfl, hb⟩; have B14 := Lib.hid (B13.out.trans (hb.mono B13.out.size)); clear hb))
     go_ret
     exact ⟨rfl, B14.out⟩
theorem deterministic_row (x : Nat) (l : List SAct) (p : Option Addr) (ca : Nat) (am : List Int) (q : Option Addr) (cb : Nat) (w : World) (hx : x < 256) (ha : AcAt w p ca l) (hq : SI w q cb am) :
    Calls Try.prog 8 #[.int .u8 x, .slice p l.length ca, .slice q am.length cb] w fun e w' => e = .returned (.bool true) ∧ Below w.heap.size w w' := deterministic_any hx ha hq
end Go.Proofs.Ytdibfjcmgbpnpaa
