/- Walk of the law SolverProofs. -/
import Derived.Test.YtdibfjcmgbpnpaaLL
namespace Go.Proofs.Ytdibfjcmgbpnpaa
set_option linter.unusedSimpArgs false
set_option linter.unusedVariables false
open Go.RowKit

theorem PfAt.ext {K : Nat → Prop} {w w' : World} {o o' : Nat → Option Role} {q : Option Addr} {cq : Nat} {P : List (List Int)} (h : PfAt K w q cq P) (hx : Ext NoX w o w' o') (hK : ∀ g, K g → g < w.heap.size → o g = none) : PfAt K w' q cq P :=
  h.keep hx.size fun g hg hl => hx.block g hl (hK g hg hl) fun r => r
theorem PfAt.take {K : Nat → Prop} {w : World} {q : Option Addr} {cq : Nat} {P : List (List Int)} (h : PfAt K w q cq P) (i : Nat) : PfAt K w q cq (P.take i) :=
  ⟨by rw [List.length_take]; have := h.le; omega, h.cm, h.q0, h.lt, fun j x hj => by
    rw [List.getElem?_take] at hj
    split at hj
    · exact h.at' j x hj
    · cases hj⟩
set_option maxRecDepth 100000 in
set_option maxHeartbeats 8000000 in
theorem proofs_any {w : World} {x : Nat} (hx : x < 256) {p : Option Addr} {ca : Nat} {l : List SAct} (ha : AcAt w p ca l) {q : Option Addr} {cb : Nat} {am : List Int} (hq : SI w q cb am) {q2 : Option Addr} {cb2 : Nat} {am2 : List Int} (hq2 : SI w q2 cb2 am2) :
    Calls Try.prog 6 #[.int .u8 x, .slice p l.length ca, .slice q am.length cb, .slice q2 am2.length cb2] w fun e w' => e = .returned (.bool true) ∧ Below w.heap.size w w' := by
 have hhead := head_any (w := w)
 have hla := ha.le; have hma := ha.cm
 simp only [maxLen] at hma
 have HA := Lib.hid ha; have HH := Lib.hid hhead
 obtain ⟨N, hN⟩ : ∃ z, l.length = z := ⟨_, rfl⟩
 rw [hN] at hla ⊢
 have hlb := hq.le; have hmb := hq.cm
 simp only [maxLen] at hmb
 have HQ := Lib.hid hq
 obtain ⟨M, hM⟩ : ∃ z, am.length = z := ⟨_, rfl⟩
 rw [hM] at hlb ⊢
 have HM := Lib.hid hM
 clear hq hM
 have hlb2 := hq2.le; have hmb2 := hq2.cm
 simp only [maxLen] at hmb2
 have HQ2 := Lib.hid hq2
 obtain ⟨M2, hM2⟩ : ∃ z, am2.length = z := ⟨_, rfl⟩
 rw [hM2] at hlb2 ⊢
 have HM2 := Lib.hid hM2
 clear hq2 hM2
 obtain ⟨t, ht⟩ : ∃ z, agreat l = z := ⟨_, rfl⟩
 have HN := Lib.hid hN; have HT := Lib.hid ht
 clear ha hhead hN ht
 go_enter Try.func6, Try.ntmps6
 go_upto_region 2 with (first | (go_at_call 10; refine HH.out.mono ?_; rintro e w1 ⟨rfl, hb⟩; have B1 := Lib.hid hb; clear hb))
 have hgr := great_any (HA.out.up B1.out)
 rw [HN.out, HT.out] at hgr
 have HGR := Lib.hid hgr; clear hgr
 cases t with
 | true =>
   go_wp2_with (first | (go_at_call 11; refine HGR.out.mono ?_; rintro e w2 ⟨rfl, hw⟩; replace hw := hw.symm; subst hw))
   go_ret
   exact ⟨rfl, B1.out⟩
 | false =>
   go_upto_region 4 with (first | (go_at_call 11; refine HGR.out.mono ?_; rintro e w2 ⟨rfl, hw⟩; replace hw := hw.symm; subst hw))
   have hsm : l.length ≤ 60 ∧ ∀ a ∈ l, a.lits.length ≤ 12 := by
     have h := HT.out
     unfold agreat at h
     rw [Bool.or_eq_false_iff, List.any_eq_false] at h
     refine ⟨by have := h.1; simpa using this, fun a ha => ?_⟩
     have := h.2 a ha
     simpa using this
   obtain ⟨n, hn⟩ : ∃ z, x % 9 = z := ⟨_, rfl⟩
   have hn8 : n ≤ 8 := by omega
   have hvr : ∀ w, Calls Try.prog 12 #[.int .u8 x] w fun e w' => e = .returned (.int .i64 (n : Nat)) ∧ w' = w := fun w => by rw [← hn]; exact vars_any hx
   have hmd := fun (wx : World) (hb : Below w.heap.size w wx) => made_any hn8 (HA.out.up hb) hsm.1 hsm.2
   rw [HN.out] at hmd
   have hrl := rcl_le n l
   rw [HN.out] at hrl
   have HSM := Lib.hid hsm; have HVR := Lib.hid hvr; have HMD := Lib.hid hmd
   have hN60 : N ≤ 60 := by rw [← HN.out]; exact hsm.1
   clear hsm hvr hmd hn HGR
   go_upto_region 5 with (first | (go_at_call 12; refine (HVR.out _).mono ?_; rintro e w2 ⟨rfl, hw⟩; replace hw := hw.symm; subst hw))
   go_upto_region 6 with (first | (go_at_call 22; refine (HMD.out _ B1.out).mono ?_; rintro e w4 ⟨b1, o1, rfl, hso, hb⟩; have HS1 := Lib.hid hso; have W1 := Lib.hid hb; have B2 := Lib.hid (B1.out.trans (hb.mono B1.out.size)); clear hso hb))
   have HLO := Lib.hid (show am ≠ [] → ∀ a, q = some a → a.block < w1.heap.size from fun h0 a ha => Nat.lt_of_lt_of_le (HQ.out.lt h0 a ha) B1.out.size)
   have hok := HS1.out.gd.sv.ok
   have HOKA := Lib.hid hok; clear hok
   have HLO2 := Lib.hid (show am2 ≠ [] → ∀ a, q2 = some a → a.block < w1.heap.size from fun h0 a ha => Nat.lt_of_lt_of_le (HQ2.out.lt h0 a ha) B1.out.size)
   by_cases h12 : 12 < M
   case pos =>
     have h12i : (12 : Int) < (M : Int) := by omega
     go_wp2_with fail
     go_ret
     exact ⟨rfl, B2.out⟩
   case neg =>
   have h12i : ¬ (12 : Int) < (M : Int) := by omega
   have hval := rvalid21_any (HQ.out.up B2.out) (by rw [HM.out]; omega) n (by omega)
   rw [vlit_badl, HM.out] at hval
   obtain ⟨t, ht⟩ : ∃ z, vlit n am = z := ⟨_, rfl⟩
   rw [ht] at hval
   have HVAL := Lib.hid hval; have HVT := Lib.hid ht
   clear hval ht
   cases t with
   | false =>
     go_wp2_with (first | (go_at_call 14; refine HVAL.out.mono ?_; rintro e wv ⟨rfl, hw⟩; replace hw := hw.symm; subst hw))
     go_ret
     exact ⟨rfl, B2.out⟩
   | true =>
   by_cases h122 : 12 < M2
   case pos =>
     have h12i2 : (12 : Int) < (M2 : Int) := by omega
     go_wp2_with (first | (go_at_call 14; refine HVAL.out.mono ?_; rintro e wv ⟨rfl, hw⟩; replace hw := hw.symm; subst hw))
     go_ret
     exact ⟨rfl, B2.out⟩
   case neg =>
   have h12i2 : ¬ (12 : Int) < (M2 : Int) := by omega
   have hval := rvalid21_any (HQ2.out.up B2.out) (by rw [HM2.out]; omega) n (by omega)
   rw [vlit_badl, HM2.out] at hval
   obtain ⟨t, ht⟩ : ∃ z, vlit n am2 = z := ⟨_, rfl⟩
   rw [ht] at hval
   have HVAL2 := Lib.hid hval; have HVT2 := Lib.hid ht
   clear hval ht
   cases t with
   | false =>
     go_wp2_with (first | (go_at_call 14; first | ((with_reducible refine HVAL.out.mono ?_); rintro e wv ⟨rfl, hw⟩; replace hw := hw.symm; subst hw) | ((with_reducible refine HVAL2.out.mono ?_); rintro e wv ⟨rfl, hw⟩; replace hw := hw.symm; subst hw)))
     go_ret
     exact ⟨rfl, B2.out⟩
   | true =>
   have hvo := vlit_iff.1 HVT.out; have hvo2 := vlit_iff.1 HVT2.out
   have HVO := Lib.hid hvo; have HVO2 := Lib.hid hvo2
   clear hvo hvo2 HVT HVT2
   obtain ⟨S0, hS0⟩ : ∃ z, smade n l = z := ⟨_, rfl⟩
   have hso := HS1.out
   rw [hS0] at hso
   have hp1 := proof_any (n := n) (A := rcl n l) hso.sol (by have := hso.sb.pn; omega) (fun l hl => by have := hso.sb.pl l hl; omega)
   have hsv := fun (wx : World) (hb : Below w4.heap.size w4 wx) => (hso.up hb).solve_any (by omega) (by omega) (HQ.out.up (btr B2.out hb)) (by rw [HM.out]; omega) (fun h0 a ha => .inl (HLO.out h0 a ha)) 6561 (Nat.le_trans W1.out.size hb.size)
   have hdn := gd_done hso.gd am 6561
   have hkn := fun (hp : S0.proof.length < 13000) => gd_known hso.gd hn8 hp HVO.out
   obtain ⟨⟨S1, oc⟩, hS1⟩ : ∃ z, solve S0 am 6561 = z := ⟨_, rfl⟩
   rw [hS1] at hkn hdn hsv
   dsimp only at hkn hsv
   rw [HM.out] at hsv
   obtain ⟨L0, hL0⟩ : ∃ z, S0.proof.length = z := ⟨_, rfl⟩
   rw [hL0] at hp1 hkn
   have HS1 := Lib.hid hso; have HP1 := Lib.hid hp1; have HSV := Lib.hid hsv; have HDN := Lib.hid hdn; have HKN := Lib.hid hkn; have HL0 := Lib.hid hL0
   clear hso hp1 hsv hdn hkn hL0 hS0 hS1 HMD HVR
   obtain ⟨L1, hL1⟩ : ∃ z, S1.proof.length = z := ⟨_, rfl⟩
   have HL1 := Lib.hid hL1; clear hL1
   have hpp : ∀ (wx : World) (o' : Nat → Option Role), So w1.heap.size wx o' b1 n (rcl n l) S1 → Calls Try.prog 26 #[.pointer (some ⟨b1, 0, none⟩)] wx fun e w' => ∃ q cq, e = .returned (.slice q L1 cq) ∧ PfAt (fun g => wx.heap.size ≤ g) w' q cq S1.proof ∧ Below wx.heap.size wx w' := fun wx o' h => by
     have h2 := proof_any (n := n) (A := rcl n l) h.sol (by have := h.sb.pn; omega) (fun l hl => by have := h.sb.pl l hl; omega)
     rw [HL1.out] at h2
     exact h2
   have HPP := Lib.hid hpp; clear hpp
   have VALS := And.intro HVAL HVAL2
   go_upto_region 11 with (first | (go_at_call 14; first | ((with_reducible refine HVAL.out.mono ?_); rintro e wv ⟨rfl, hw⟩; replace hw := hw.symm; subst hw) | ((with_reducible refine HVAL2.out.mono ?_); rintro e wv ⟨rfl, hw⟩; replace hw := hw.symm; subst hw)) | (go_at_call 26; first | ((with_reducible refine HP1.out.mono ?_); rintro e w5 ⟨q5, c5, rfl, hpf, hb⟩; have PF1 := Lib.hid hpf; have HB5 := Lib.hid hb; clear hpf hb) | (refine HPP7.out.mono ?_; rintro e w7 ⟨q7, c7, rfl, hpf, hb⟩; have PF2 := Lib.hid hpf; have HB7 := Lib.hid hb; clear hpf hb)) | (go_at_call 17; refine (HSV.out _ HB5.out).mono ?_; rintro e w6 ⟨rfl, o6, hs6, hx6⟩; have HS6 := Lib.hid hs6; have HX6 := Lib.hid hx6; have h7 := HPP.out _ _ hs6; have HPP7 := Lib.hid h7; clear hs6 hx6 h7))
   clear VALS HVAL HVAL2 HP1 HSV HPP HPP7
   have hlt1 : ∀ g, w4.heap.size ≤ g → o1 g = none := fun g hg => by
     cases ho : o1 g with
     | none => rfl
     | some r => have := HS1.out.sol.lt g (by rw [ho]; intro q; cases q); omega
   have hpf1 := (PF1.out.ext HX6.out fun g hg _ => hlt1 g hg).up HB7.out
   have hlow6 := (HX6.out.low HS1.out.tag (Nat.le_trans W1.out.size HB5.out.size)).1
   have hbt6 := (btr B2.out HB5.out).trans (hlow6.mono B1.out.size)
   have hz6 := Nat.le_trans (Nat.le_trans W1.out.size HB5.out.size) hlow6.size
   have PF1 := Lib.hid hpf1
   have B3 := Lib.hid (btr hbt6 HB7.out)
   have HS7 := Lib.hid (HS6.out.up HB7.out)
   have Z7 := Lib.hid (Nat.le_trans hz6 HB7.out.size)
   have PF2 := Lib.hid (PF2.out)
   clear hlt1 hpf1 hlow6 hbt6 hz6 HX6 HB5 HB7 HS6
   by_cases h400 : 400 < L1
   case pos =>
     have h400i : (400 : Int) < (L1 : Int) := by omega
     go_wp2_with fail
     go_ret
     exact ⟨rfl, B3.out⟩
   case neg =>
   have h400i : ¬ (400 : Int) < (L1 : Int) := by omega
   obtain ⟨more, hmore, hlast⟩ := HDN.out.ext
   dsimp only at hmore hlast
   have hL01 : L0 ≤ L1 := by rw [← HL0.out, ← HL1.out, hmore, List.length_append]; omega
   have hoc0 := HKN.out (by omega)
   have hocb : (oc == 0) = false := (beq_eq_false_iff_ne (α := Int)).2 hoc0
   have htk : S1.proof.take L0 = S0.proof := by rw [hmore, ← HL0.out, List.take_left]
   have hss := fun (wx : World) (hb : Below w7.heap.size w7 wx) => samesteps_any ((PF2.out.take L0).up hb) (PF1.out.up hb)
   rw [htk, decide_eq_true rfl, HL0.out] at hss
   have hcl := clauses_any HA.out B3.out (n := n) (by omega) HSM.out.1 HSM.out.2
   rw [HN.out] at hcl
   have hal : ∀ c ∈ rcl n l, c.length ≤ 1000 := fun c hc => by
     unfold rcl at hc
     obtain ⟨a, ha, rfl⟩ := List.mem_map.1 hc
     have := HSM.out.2 a (List.mem_filter.1 ha).1; omega
   have hplen : ∀ c ∈ S1.proof, c.length ≤ 1000 := fun c hc => by have := HS7.out.sb.pl c hc; omega
   have hju := fun (wx : World) (hb : Below w7.heap.size w7 wx) (K : Nat → Prop) (qd : Option Addr) (cd : Nat) (D : List (List Int)) (hc : CsAt K wx qd cd D) (hD : ∀ c ∈ D, ∀ x ∈ c, LOk n x) (hDl : ∀ c ∈ D, c.length ≤ 1000) (hDn : D.length ≤ 1000) (hs : ∀ c ∈ rcl n l, c ∈ D) => by
     have h := justified_any (n := n) (by omega) hc hD hDl hDn (PF2.out.up hb) hplen (by rw [HL1.out]; omega)
     rw [HS7.out.gd.sv.just (by omega) hD hs, HL1.out] at h
     exact h
   obtain ⟨m, hm⟩ : ∃ z, (rcl n l).length = z := ⟨_, rfl⟩
   rw [hm] at hcl hrl
   have HSS := Lib.hid hss; have HCL := Lib.hid hcl; have HAL := Lib.hid hal; have HJU := Lib.hid hju; have HMA := Lib.hid hm; have HMO := Lib.hid hmore; have HLA := Lib.hid hlast
   clear hss hcl hal hju hm hmore hlast htk hplen
   go_upto_region 14 with (first | (go_at_call 21; refine HCL.out.mono ?_; rintro e w8 ⟨qc, cc, rfl, hcs, hb⟩; have HCS := Lib.hid hcs; have HB8 := Lib.hid hb; clear hcs hb))
   clear HCL
   obtain ⟨i0, hi0, hz0, hz1, hz2⟩ := info_parts slints_info
   obtain ⟨xs, hxl, hsl, hxs⟩ := HCS.out.rows
   rw [HMA.out] at hxl
   obtain ⟨w9, hw9⟩ : ∃ z, z = w8.alloc (.cells #[] 29) := ⟨_, rfl⟩
   have hb9 : Below w8.heap.size w8 w9 := by rw [hw9]; go_grown
   have own9 : w9.ownsRow w8.heap.size 29 1 (.slice (some ⟨w8.heap.size, 0, none⟩) 0 0) ([] : List (Option Addr × Nat × Nat)).length (flat 1 slEnc []) := by rw [hw9]; exact World.ownsRow_made w8 #[] 0 (Nat.le_refl _) (Nat.zero_le _) rfl
   have HW9 := Lib.hid hw9; have HXL := Lib.hid hxl; have HSL := Lib.hid hsl; have HXS := Lib.hid hxs
   clear hw9 hxl hsl hxs
   go_upto_region 15 with (first | (at_builtin; rw [← HW9.out]; go_must (refine wpList_app2 rfl _ _ _ rfl w8.heap.size 29 i0 _ 24 Try.underlying40 hi0 hz0 hz1 hz2 rfl (by decide) _ [] rfl own9 qc xs cc (by rw [HXL.out]; rfl) HCS.out.q0 (HSL.out.mono hb9) slEnc_one (by rw [HXL.out]; simp only [maxLen]; simp; omega) (by rw [HXL.out]; simp; omega) hb9.size ?_; intro v2 w10 ho2 _ hb10 _)))
   have hM2 : ([] ++ xs).length = m := HXL.out
   rw [hM2] at ho2
   have hcs : CsO (fun g => g < w8.heap.size) w10 w8.heap.size v2 m (rcl n l) := CsO.of_rows ho2 HMA.out fun i l hi => by
     obtain ⟨p, c, h1, h2, h3⟩ := HXS.out i l hi
     exact ⟨p, c, h1, (h2.up hb9).keep' hb10.size fun h0 a ha => hb10.block a.block (h2.lt h0 a ha), fun h0 a ha => ⟨h2.lt h0 a ha, h2.lt h0 a ha⟩⟩
   obtain ⟨q10, c10, rfl⟩ : ∃ q2 c2, v2 = .slice q2 m c2 := by
     have h := ho2
     rw [← hM2] at h
     obtain ⟨q, c, e, -⟩ := owns_val (by decide) h
     rw [hM2] at e
     exact ⟨q, c, e⟩
   have hb810 : Below w8.heap.size w8 w10 := hb9.trans hb10
   have hb710 : Below w7.heap.size w7 w10 := btr HB8.out hb810
   have hsi2 := HQ2.out.up (btr B3.out hb710)
   obtain ⟨q11, c11, w11, hrun, hcs11, hb11⟩ := hcs.app (l := am2) (by omega) hb810.size hsi2 (fun h0 a ha => by
     have h1 := HLO2.out h0 a ha
     have h2 := Nat.le_trans Z7.out HB8.out.size
     exact ⟨Nat.lt_of_lt_of_le h1 h2, Nat.lt_of_lt_of_le h1 h2⟩)
   rw [HM2.out] at hrun
   have hb711 : Below w7.heap.size w7 w11 := hb710.trans (hb11.mono HB8.out.size)
   have hcat := hcs11.at
   have hb811 : Below w8.heap.size w8 w11 := hb810.trans hb11
   have hju1 := fun (wx : World) (hb : Below w11.heap.size w11 wx) => HJU.out wx (btr hb711 hb) _ qc cc (rcl n l) ((HCS.out.up hb811).up hb) HOKA.out HAL.out (by rw [HMA.out]; omega) (fun c h => h)
   have hju2 := fun (wx : World) (hb : Below w11.heap.size w11 wx) => HJU.out wx (btr hb711 hb) _ q11 c11 (rcl n l ++ [am2]) (hcat.up hb) (fun c hc => (List.mem_append.1 hc).elim (HOKA.out c) fun h => by rw [List.mem_singleton.1 h]; exact HVO2.out) (fun c hc => (List.mem_append.1 hc).elim (HAL.out c) fun h => by rw [List.mem_singleton.1 h, HM2.out]; omega) (by rw [List.length_append, HMA.out]; simp; omega) (fun c h => List.mem_append_left _ h)
   rw [HMA.out] at hju1
   rw [show (rcl n l ++ [am2]).length = m + 1 by rw [List.length_append, HMA.out]; rfl] at hju2
   have hss := HSS.out w11 hb711
   have HJ1 := Lib.hid hju1; have HJ2 := Lib.hid hju2; have HSS1 := Lib.hid hss; have HB711 := Lib.hid hb711
   clear hju1 hju2 hss hcat hcs11 hb11 hb811 hb710 hb810 hcs ho2 hM2 hb9 hb10 own9 HW9 HXL HSL HXS HJU HSS hsi2 hb711
   have hc7 : L1 ≤ c7 := by rw [← HL1.out]; exact PF2.out.le
   have hc7i : (L0 : Int) ≤ (c7 : Int) := by omega
   have hl01 : ¬ (L1 : Int) < (L0 : Int) := by omega
   go_upto_region 16 with (first | (at_builtin; go_must (refine wpList_run rfl (exec_app rfl rfl rfl hrun) ?_)))
   go_upto_region 18 with (first | (go_at_call 27; refine HSS1.out.mono ?_; rintro e w12 ⟨rfl, hb⟩; have HB12 := Lib.hid hb; clear hb))
   go_upto_region 20 with (first | (go_at_call 28; first | ((with_reducible refine (HJ1.out _ HB12.out).mono ?_); rintro e w13 ⟨rfl, hb⟩; have HB13 := Lib.hid (btr HB12.out hb); clear hb) | ((with_reducible refine (HJ2.out _ HB13.out).mono ?_); rintro e w14 ⟨rfl, hb⟩; have HB14 := Lib.hid (btr HB13.out hb); clear hb)))
   have hb714 := btr HB711.out HB14.out
   have B4 := Lib.hid (btr B3.out hb714)
   have hoc := HDN.out.oc
   dsimp only at hoc
   clear HJ1 HJ2 HSS1 HB12 HB13 HCS HAL
   by_cases hoc1 : oc = 1
   case pos =>
     subst hoc1
     go_wp2_with fail
     go_ret
     exact ⟨rfl, B4.out⟩
   case neg =>
   have hoc2 : oc = 2 := (hoc.resolve_left hoc0).resolve_left hoc1
   subst hoc2
   have hgl := HLA.out rfl
   obtain ⟨K, hK⟩ : ∃ z, S1.core = z := ⟨_, rfl⟩
   rw [hK] at hgl
   have hKo : ∀ y ∈ K, LOk n y := fun y hy => HVO.out y ((HDN.out.no rfl).2.2 y (by show y ∈ S1.core; rw [hK]; exact hy))
   obtain ⟨Lm, hLm⟩ : ∃ z, L1 = z + 1 := by
     refine ⟨L1 - 1, ?_⟩
     have h1 : more ≠ [] := fun e => by rw [e] at hgl; cases hgl
     have h2 := List.length_pos_iff.2 h1
     have h3 := HL1.out; rw [HMO.out, List.length_append] at h3; omega
   have hlt01 : (L0 : Int) < (L1 : Int) := by
     have h1 : more ≠ [] := fun e => by rw [e] at hgl; cases hgl
     have h2 := List.length_pos_iff.2 h1
     have h3 := HL1.out; rw [HMO.out, List.length_append, HL0.out] at h3; omega
   have hgp : S1.proof[Lm]? = some (K.map fun y => -y) := by
     have h1 : S1.proof.getLast? = some (K.map fun y => -y) := by
       rw [HMO.out, List.getLast?_append, hgl]; rfl
     rw [List.getLast?_eq_getElem?, HL1.out, hLm] at h1
     exact h1
   obtain ⟨gp, op, pk, ck, hq7, -, x1, -, hsk, -⟩ := (PF2.out.up hb714).at' Lm _ hgp
   obtain ⟨KL, hKL⟩ : ∃ z, K.length = z := ⟨_, rfl⟩
   have hKl : KL ≤ 1000 := by
     have h1 := HS7.out.sb.pl _ (List.mem_of_getElem? hgp)
     rw [List.length_map, hKL] at h1; omega
   rw [List.length_map, hKL] at x1
   have hwl : IntKind.i64.wrap ((L1 : Int) - 1) = (Lm : Int) := by rw [wrapI (by omega) (by omega)]; omega
   have hlm1 : (Lm : Int) < (L1 : Int) := by omega
   have hcr := fun (wx : World) (hb : Below w14.heap.size w14 wx) => core_any (HS7.out.up (btr hb714 hb)).sol (by rw [hK, hKL]; omega)
   have hng := fun (wx : World) (qk : Option Addr) (cq : Nat) (h : SI wx qk cq K) => negated_any h (by rw [hKL]; omega) (fun y hy => by have := (hKo y hy).2; omega)
   have hsm := fun (wx : World) (hb : Below w14.heap.size w14 wx) (qk : Option Addr) (cq : Nat) (h : SI wx qk cq (K.map fun y => -y)) => same_any (hsk.up hb) h
   rw [hK, hKL] at hcr
   rw [hKL] at hng
   rw [decide_eq_true rfl, List.length_map, hKL] at hsm
   subst hq7
   have HCR := Lib.hid hcr; have HNG := Lib.hid hng; have HSMM := Lib.hid hsm; have HKL := Lib.hid hKL
   clear hcr hng hsm hsk hgp hgl hK hKo hKL hoc hLm
   go_upto_region 22 with fail

   refine wp_region_seqE (fun x => Below w14.heap.size w14 x) (.one 0 1 (.one 1 1 (.one 2 1 (.one 3 1 (.one 4 1 (.one 5 1 (.one 6 1 (.one 7 1 (.one 8 1 (.one 9 1 (.one 10 1 (.one 11 1 (.one 12 1 (.one 13 1 (.one 14 1 (.one 15 0 (.one 16 1 (.alt 17 2 (.alt 18 2 (.alt 19 3 (.one 20 1 (.one 21 1 .nil)) .stop) .stop) .stop)))))))))))))))))) (by kernel_rfl) (by kernel_rfl) (by kernel_rfl) (Below.drew (Below.refl _ _)) ?_
   iterate 17 (first | (refine seqE_free (v := ?_) rfl (by rfl) ?_ ?_; rotate_left; (focus (intro w; go_simp; try with_reducible rfl)); (try simp only [Act.put, List.setIfInBounds_toArray, List.set_cons_zero, List.set_cons_succ])) | (refine seqE_pure (v := ?_) rfl (by rfl) ?_ ?_; rotate_left; (focus (intro w hS; have x1 := oldcell hS x1 (World.block_lt_of_cell? _ _ x1); go_simp; try with_reducible rfl)); (try simp only [Act.put, List.setIfInBounds_toArray, List.set_cons_zero, List.set_cons_succ])))
   refine seqE_call (f := ?_) (args := ?_) rfl (by rfl) ?_ ?_ seqE_stop
   rotate_left 2
   focus (intro w hS; go_simp; first | done | with_reducible rfl | (refine ⟨?_, ?_⟩ <;> with_reducible rfl))
   intro wq hS
   refine (HCR.out wq hS).mono ?_
   rintro e w15 ⟨qk1, ck1, rfl, how, hb⟩
   refine ⟨_, rfl, fun x => Below w15.heap.size w15 x, Below.refl _ _, fun x hx => btr (btr hS hb) hx, ?_⟩
   have HO1 := Lib.hid (SI.of_owns (l := K) (by rw [HKL.out]; exact how)); have HB15 := Lib.hid (btr hS hb)
   clear hS how hb
   (try simp only [Act.put, List.setIfInBounds_toArray, List.set_cons_zero, List.set_cons_succ])
   refine seqE_call (f := ?_) (args := ?_) rfl (by rfl) ?_ ?_ seqE_stop
   rotate_left 2
   focus (intro w hS; go_simp; first | done | with_reducible rfl | (refine ⟨?_, ?_⟩ <;> with_reducible rfl))
   intro wq hS
   refine (HNG.out wq _ _ (HO1.out.up hS)).mono ?_
   rintro e w16 ⟨qk2, ck2, rfl, how, hb⟩
   refine ⟨_, rfl, fun x => Below w16.heap.size w16 x, Below.refl _ _, fun x hx => btr (btr hS hb) hx, ?_⟩
   have HO2 := Lib.hid (SI.of_owns (l := K.map fun y => -y) (by rw [List.length_map, HKL.out]; exact how)); have HB16 := Lib.hid (btr HB15.out (btr hS hb))
   clear hS how hb
   (try simp only [Act.put, List.setIfInBounds_toArray, List.set_cons_zero, List.set_cons_succ])
   refine seqE_callB (f := ?_) (args := ?_) rfl (by rfl) ?_ ?_ seqE_stop
   rotate_left 2
   focus (intro w hS; go_simp; first | done | with_reducible rfl | (refine ⟨?_, ?_⟩ <;> with_reducible rfl))
   intro wq hS
   refine (HSMM.out wq (btr HB16.out hS) _ _ (HO2.out.up hS)).mono ?_
   rintro e w17 ⟨rfl, hb⟩
   refine ⟨_, rfl, fun x => Below w17.heap.size w17 x, Below.refl _ _, ?_⟩
   have HB17 := Lib.hid (btr HB16.out (btr hS hb))
   clear hS hb
   (try simp only [Act.put, List.setIfInBounds_toArray, List.set_cons_zero, List.set_cons_succ])
   iterate 2 (refine seqE_free (v := ?_) rfl (by rfl) ?_ ?_; rotate_left; (focus (intro w; go_simp; try with_reducible rfl)); (try simp only [Act.put, List.setIfInBounds_toArray, List.set_cons_zero, List.set_cons_succ]))
   refine seqE_nil ?_
   intro w18 hS
   have B5 := Lib.hid (btr B4.out (btr HB17.out hS))
   clear hS
   go_wp2_with fail
   go_ret
   exact ⟨rfl, B5.out⟩
theorem proofs_row (x : Nat) (l : List SAct) (p : Option Addr) (ca : Nat) (am : List Int) (q : Option Addr) (cb : Nat) (am2 : List Int) (q2 : Option Addr) (cb2 : Nat) (w : World) (hx : x < 256) (ha : AcAt w p ca l) (hq : SI w q cb am) (hq2 : SI w q2 cb2 am2) :
    Calls Try.prog 6 #[.int .u8 x, .slice p l.length ca, .slice q am.length cb, .slice q2 am2.length cb2] w fun e w' => e = .returned (.bool true) ∧ Below w.heap.size w w' := proofs_any hx ha hq hq2
end Go.Proofs.Ytdibfjcmgbpnpaa
