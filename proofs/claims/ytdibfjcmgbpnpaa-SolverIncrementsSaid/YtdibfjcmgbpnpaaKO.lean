/- Walks of the solver: Solve. -/
import Derived.Test.YtdibfjcmgbpnpaaKN
import Derived.WalkMore
namespace Go.Proofs.Ytdibfjcmgbpnpaa
set_option linter.unusedSimpArgs false
set_option linter.unusedVariables false
open Go.RowKit

set_option maxRecDepth 100000 in
set_option maxHeartbeats 8000000 in
theorem solve_any {n : Nat} {A : List (List Int)} {w : World} {o : Nat → Option Role} {b : Nat} {s : SS} (h : SolAt w o b s) (hv : Sv n A s) (hmk : s.marks = []) (hn : n ≤ 20000) (hcl : s.clauses.length ≤ 800000) (hpf : s.proof.length ≤ 20000) {p : Option Addr} {cap : Nat} {l : List Int} (hl : SI w p cap l) (hll : l.length ≤ 50000) (hun : l ≠ [] → ∀ a, p = some a → o a.block = none) (fuel : Int) :
    Calls Try.prog 17 #[.pointer (some ⟨b, 0, none⟩), .slice p l.length cap, .int .i64 fuel] w fun e w' => e = .returned (.int .i64 (solve s l fuel).2) ∧ ∃ o', SolAt w' o' b (solve s l fuel).1 ∧ Ext NoX w o w' o' := by
 obtain ⟨oc, hd, hs⟩ := h.sl
 obtain ⟨f13, f13f⟩ := hs.fld 13 (u := hd .model) rfl
 obtain ⟨f14, f14f⟩ := hs.fld 14 (u := hd .core) rfl
 obtain ⟨hd0, h0, hx0⟩ := hs.fresh
 have hvl := hv.inv.tr.vl
 obtain ⟨s0, hs0⟩ : ∃ z, ({ s with core := [], model := [] } : SS) = z := ⟨_, rfl⟩
 have hsv0 : Sv n A s0 := by rw [← hs0]; exact hv.same rfl rfl rfl rfl rfl rfl rfl rfl rfl rfl rfl
 have hsz := h0.lt
 obtain ⟨R, hR⟩ : ∃ z, solve s l fuel = z := ⟨_, rfl⟩
 have hsol : R = if s0.validl l = true ∧ 0 < fuel then srun l fuel (smeas n l (s0.undo 0) + 1) (s0.undo 0) 0 else (s0, 0) := by
   rw [← hR]; unfold solve; rw [hvl, Nat.add_sub_cancel, ← hs0]; rfl
 rw [hs0] at h0
 rw [hR]
 obtain ⟨w0, hw0⟩ : ∃ z, z = (w.setCell ⟨b, 14, none⟩ (.slice none 0 0)).setCell ⟨b, 13, none⟩ (.slice none 0 0) := ⟨_, rfl⟩
 have h0' := h0; have hx0' := hx0
 rw [← hw0] at h0' hx0'
 have hl0 := hl.ext hx0' fun h0 a ha => ⟨hun h0 a ha, fun q => q⟩
 have hva := valid_any h0'.at hsv0.inv.tr.vl hn hl0 (by omega)
 obtain ⟨LA, hLA⟩ : ∃ z, l.length = z := ⟨_, rfl⟩
 rw [hLA] at hva hll ⊢
 obtain ⟨t, ht⟩ : ∃ z, s0.validl l = z := ⟨_, rfl⟩
 rw [ht] at hva hsol
 have hmk0 : s0.marks = [] := by rw [← hs0]; exact hmk
 have hc0 : s0.clauses = s.clauses := by rw [← hs0]
 have hp0 : s0.proof = s.proof := by rw [← hs0]
 have hcm0 : s0.core = [] ∧ s0.model = [] := by rw [← hs0]; exact ⟨rfl, rfl⟩
 have HW0 := Lib.hid hw0; have HVA := Lib.hid hva; have HS0 := Lib.hid h0'; have HX0 := Lib.hid hx0'; have HL0 := Lib.hid hl0; have HSOL := Lib.hid hsol; have HSV0 := Lib.hid hsv0; have HLA := Lib.hid hLA; have HLW := Lib.hid hl; have HT := Lib.hid ht; have HMK0 := Lib.hid hmk0; have HC0 := Lib.hid hc0; have HP0 := Lib.hid hp0; have HUN := Lib.hid hun; have HCM := Lib.hid hcm0
 clear hs h h0 hx0 h0' hx0' hl hl0 hva hsol hsv0 hLA ht hs0 hR hv hmk hmk0 hc0 hp0 hun hsz hvl hcm0 hw0
 go_enter Try.func17, Try.ntmps17
 go_upto_region 1 with fail
 go_step3
 go_upto_region 2 with fail
 rw [← HW0.out]
 clear f13 f13f f14 f14f HW0
 cases t with
 | false =>
   go_wp2_with (first | (go_at_call 31; refine HVA.out.mono ?_; rintro e w1 ⟨rfl, hb⟩; have HB := Lib.hid hb; clear hb))
   rw [Exit.noGoto_ret]
   go_ret
   have e := HSOL.out
   rw [if_neg (by rintro ⟨q, -⟩; cases q)] at e
   rw [e]
   exact ⟨rfl, o, (HS0.out.up HB.out).at, HX0.out.trans (Ext.below (X := NoX) HB.out) fun _ _ q => q⟩
 | true =>
   by_cases hfu : 0 < fuel
   case neg =>
     have hfu2 : fuel ≤ 0 := by omega
     go_wp2_with (first | (go_at_call 31; refine HVA.out.mono ?_; rintro e w1 ⟨rfl, hb⟩; have HB := Lib.hid hb; clear hb))
     rw [Exit.noGoto_ret]
     go_ret
     have e := HSOL.out
     rw [if_neg (by rintro ⟨-, q⟩; omega)] at e
     rw [e]
     exact ⟨rfl, o, (HS0.out.up HB.out).at, HX0.out.trans (Ext.below (X := NoX) HB.out) fun _ _ q => q⟩
   case pos =>
   have hfu2 : ¬ fuel ≤ 0 := by omega
   have hfu3 : decide (fuel ≤ 0) = false := decide_eq_false hfu2
   have hsol := HSOL.out
   rw [if_pos (by first | exact ⟨rfl, hfu⟩ | exact ⟨trivial, hfu⟩)] at hsol
   obtain ⟨S0, hS0⟩ : ∃ z, s0.undo 0 = z := ⟨_, rfl⟩
   rw [hS0] at hsol
   have hlm : ∀ x ∈ l, LOk n x := (validl_iff HSV0.out.inv.tr.vl).1 HT.out
   have hse0 : Se n A l S0 := by
     obtain ⟨g1, g2, g3, g4, g5, g6, g7, g8, g9⟩ := undo_frame s0 0
     have hm0 : S0.marks = [] := by rw [← hS0, undo_marks]; rfl
     refine ⟨by rw [← hS0]; exact HSV0.out.undone 0, by rw [← hS0, g9]; exact HCM.out.1, by rw [← hS0, g8]; exact HCM.out.2, fun _ => hm0, ?_, ?_⟩
     · intro d x _ hl; rw [hm0] at hl; simp at hl
     · intro i z _ hi; rw [hm0] at hi; simp at hi
   have hmk1 : Mk LA S0 := by
     have hm0 : S0.marks = [] := by rw [← hS0, undo_marks]; rfl
     exact ⟨by rw [hm0]; simp, by rw [hm0]; intro k m hk; simp at hk⟩
   have hcl0 : S0.clauses = s.clauses ∧ S0.proof = s.proof := by
     obtain ⟨g1, g2, g3, g4, g5, g6, g7, -⟩ := undo_frame s0 0
     rw [← hS0]; exact ⟨g3.trans HC0.out, g7.trans HP0.out⟩
   have HSL := Lib.hid hsol; have HS0E := Lib.hid hS0; have HLM := Lib.hid hlm; have HSE0 := Lib.hid hse0; have HMK1 := Lib.hid hmk1; have HCL0 := Lib.hid hcl0
   clear hsol hS0 hlm hse0 hmk1 hcl0 HSOL
   go_upto_region 4 with (first | (go_at_call 31; refine HVA.out.mono ?_; rintro e w1 ⟨rfl, hb⟩; have HB := Lib.hid hb; clear hb))
   have hund := undo_any (HS0.out.up HB.out).at HSV0.out.inv.tr hn (by rw [HMK0.out]; simp) (k := 0) (by omega)
   rw [HS0E.out] at hund
   have HUD := Lib.hid hund; clear hund hfu3
   go_upto_region 5 with (first | (go_at_call 37; refine HUD.out.mono ?_; rintro e w2 ⟨rfl, h2, hx2⟩; have HS2 := Lib.hid h2; have HX2 := Lib.hid hx2; clear h2 hx2))
   have hl1 := HL0.out.ext ((Ext.below (X := NoX) (o := o) HB.out).trans HX2.out fun _ _ q => q) fun h0 a ha => ⟨HUN.out h0 a ha, fun q => q⟩
   have hx1 := (HX0.out.trans (Ext.below (X := NoX) HB.out) fun _ _ q => q).trans HX2.out fun _ _ q => q
   have HL1 := Lib.hid hl1; have HX1 := Lib.hid hx1
   clear hl1 hx1 HL0 HX0 HX2 HB HUD
   go_wp2_with fail
   go_step3
   go_wp2_with fail
   go_loopg [7] (smeas n l S0 + 1) (fun G s7 wr => ∃ (s1 : SS) (o1 : Nat → Option Role) (met : Nat), s7 = .int .i64 (met : Nat) ∧ SolAt wr o1 b s1 ∧ Ext NoX w o wr o1 ∧ Se n A l s1 ∧ srun l fuel G s1 met = R ∧ smeas n l s1 < G ∧ met ≤ s1.cod n ∧ (∃ more, s1.proof = s.proof ++ more ∧ more.length = met) ∧ Mk LA s1 ∧ s1.clauses.length + s.proof.length ≤ s.clauses.length + s1.proof.length)
   case atStart => exact ⟨S0, o, 0, rfl, HS2.out, HX1.out, HSE0.out, HSL.out.symm, by omega, Nat.zero_le _, ⟨[], by rw [HCL0.out.2]; simp, rfl⟩, HMK1.out, by rw [HCL0.out.1, HCL0.out.2]; omega⟩
   case round =>
    obtain ⟨s1, o1, met, rfl, h1, hx1, hse1, hR1, hms1, hcod1, hmore1, hmk1, hcc1⟩ := hrel
    obtain ⟨G, rfl⟩ : ∃ z, gk = z + 1 := ⟨gk - 1, by omega⟩
    clear HSE0 HMK1 HSL HS2 HX1 HL1
    have hsl := HUN.out
    obtain ⟨PL, hPL⟩ : ∃ z, s1.proof.length = z := ⟨_, rfl⟩
    have hmet : met ≤ PL := by obtain ⟨more, e1, e2⟩ := hmore1; rw [← hPL, e1, List.length_append]; omega
    have hrnd := sround_ok (fuel := fuel) hse1 HLM.out hcod1 hmore1
    have hvl1 := hse1.sv.inv.tr.vl
    have hlits1 := hse1.sv.inv.tr.len
    have hmkl : s1.marks.length ≤ LA + n := by have := hmk1.1; omega
    obtain ⟨oc1, hd1, hs1⟩ := h1.sl
    obtain ⟨pp, cp, ep⟩ := hs1.proof_sl
    rw [hPL] at ep hcc1
    obtain ⟨f11, -⟩ := hs1.fld 11 (u := hd1 .proof) rfl
    rw [ep] at f11
    have H1 := Lib.hid h1; have HX1 := Lib.hid hx1; have HSE1 := Lib.hid hse1; have HR1 := Lib.hid hR1; have HMS1 := Lib.hid hms1; have HMR1 := Lib.hid hmore1; have HMK1 := Lib.hid hmk1; have HRND := Lib.hid hrnd; have HPL := Lib.hid hPL; have HCC1 := Lib.hid hcc1; have HVL1 := Lib.hid hvl1
    clear h1 hx1 hse1 hR1 hms1 hcod1 hmore1 hmk1 hrnd hs1 ep hPL hcc1 hsl hvl1
    by_cases hfull : 20000 ≤ PL
    case pos =>
     have hfi : (20000 : Int) ≤ (PL : Int) := by omega
     have hR2 := HR1.out
     rw [srun_inr (round_full (by rw [HPL.out]; exact hfull))] at hR2
     have hund := undo_any H1.out HSE1.out.sv.inv.tr hn (by omega) (k := 0) (by omega)
     have HUD := Lib.hid hund; have HR2 := Lib.hid hR2; clear hund hR2
     go_wp2_with (first | (go_at_call 37; refine HUD.out.mono ?_; rintro e w9 ⟨rfl, h9, hx9⟩; have HSU := Lib.hid h9; have HXU := Lib.hid hx9; clear h9 hx9))
     rw [Exit.noGoto_ret]
     go_ret
     rw [← HR2.out]
     exact ⟨rfl, o1, HSU.out, HX1.out.trans HXU.out fun _ _ q => q⟩
    case neg =>
     have hfi : ¬ (20000 : Int) ≤ (PL : Int) := by omega
     obtain ⟨s2, c, hp⟩ : ∃ s2 c, prop s1.value.length s1 = (s2, c) := ⟨_, _, rfl⟩
     obtain ⟨hse2, hfr2, -⟩ := HSE1.out.prop (f := s1.value.length) (by rw [HVL1.out]; omega)
     obtain ⟨-, -, hnone, hsome⟩ := prop_ok (f := s1.value.length) HSE1.out.sv.inv (by rw [HVL1.out]; omega)
     have hpr := propagate_any H1.out HSE1.out.sv.inv hn (by omega) (by have := HCC1.out; omega)
     rw [hp] at hse2 hfr2 hnone hsome hpr
     dsimp only at hse2 hfr2 hnone hsome hpr
     have hcl2 : s2.clauses.length = s1.clauses.length := hfr2.cp.1
     have hmk2 := HMK1.out.fr hfr2
     obtain ⟨M, hM⟩ : ∃ z, s2.marks.length = z := ⟨_, rfl⟩
     have hlits2 := hse2.sv.inv.tr.len
     have hMb : M ≤ LA + n := by have := hmk2.1; omega
     have hpf2 : s2.proof = s1.proof := hfr2.proof
     have HPR := Lib.hid hpr; have HSE2 := Lib.hid hse2; have HFR2 := Lib.hid hfr2; have HNO := Lib.hid hnone; have HSO := Lib.hid hsome; have HP := Lib.hid hp; have HCL2 := Lib.hid hcl2; have HMK2 := Lib.hid hmk2; have HM := Lib.hid hM; have HPF2 := Lib.hid hpf2
     clear hpr hse2 hfr2 hnone hsome hp hcl2 hmk2 hM hpf2
     go_upto_region 14 with (first | (go_at_call 38; refine HPR.out.mono ?_; rintro e w2 ⟨rfl, o2, h2, hx2⟩; have H2 := Lib.hid h2; have HX2 := Lib.hid hx2; clear h2 hx2))
     obtain ⟨oc2, hd2, hs2⟩ := H2.out.sl
     obtain ⟨pm, cm, em⟩ := hs2.marks_sl
     rw [HM.out] at em
     obtain ⟨f4, -⟩ := hs2.fld 4 (u := hd2 .marks) rfl
     rw [em] at f4
     obtain ⟨f10, f10f⟩ := hs2.fld 10 (u := .bool s2.broken) rfl
     have HS2 := Lib.hid hs2
     have HXX := Lib.hid (HX1.out.trans HX2.out fun _ _ q => q)
     clear hs2 em f11 HX2
     obtain ⟨B, hB⟩ : ∃ z, s2.broken = z := ⟨_, rfl⟩
     rw [hB] at f10
     have HBK := Lib.hid hB; clear hB
     cases B with
     | true =>
       have hR2 := HR1.out
       rw [srun_inr (round_unsat (by rw [HPL.out]; exact hfull) HP.out (.inl HBK.out))] at hR2
       obtain ⟨h3, hx3⟩ := HS2.out.set (r := .self) HS2.out.hb 10 (.bool true) (s' := { s2 with broken := true }) (oc' := oc2) (by funext r; cases r <;> rfl)
       have hend := end_any h3.at (show s2.proof.length ≤ 100000 by rw [HPF2.out, HPL.out]; omega) (p := none) (cap := 0) (l := []) (World.ownsRow_nil _ _ _ _) (fun g q => by cases q) (by simp) (fun x hx => by cases hx)
       have HEND := Lib.hid hend; have HX3 := Lib.hid (HXX.out.trans hx3 fun _ _ q => q); have HR2 := Lib.hid hR2
       clear hend h3 hx3 hR2
       go_wp2_with (first | (go_at_call 39; refine HEND.out.mono ?_; rintro e w5 ⟨rfl, o5, h5, hx5⟩; have H5 := Lib.hid h5; have HX5 := Lib.hid hx5; clear h5 hx5))
       rw [Exit.noGoto_ret]
       go_ret
       rw [← HR2.out]
       exact ⟨rfl, o5, H5.out, HX3.out.trans HX5.out fun _ _ q => by cases q⟩
     | false =>
       have hnb : ¬ s2.broken = true := by rw [HBK.out]; decide
       cases c with
       | some k =>
         have hkm : ((k : Int) == -1) = false := by simp <;> omega
         have hkm2 : ((k : Int) != -1) = true := by simp <;> omega
         by_cases hM0 : M = 0
         · subst hM0
           have hR2 := HR1.out
           rw [srun_inr (round_unsat (by rw [HPL.out]; exact hfull) HP.out (.inr ⟨by simp, HM.out⟩))] at hR2
           obtain ⟨h3, hx3⟩ := HS2.out.set (r := .self) HS2.out.hb 10 (.bool true) (s' := { s2 with broken := true }) (oc' := oc2) (by funext r; cases r <;> rfl)
           have hend := end_any h3.at (show s2.proof.length ≤ 100000 by rw [HPF2.out, HPL.out]; omega) (p := none) (cap := 0) (l := []) (World.ownsRow_nil _ _ _ _) (fun g q => by cases q) (by simp) (fun x hx => by cases hx)
           have HEND := Lib.hid hend; have HX3 := Lib.hid (HXX.out.trans hx3 fun _ _ q => q); have HR2 := Lib.hid hR2
           clear hend h3 hx3 hR2
           go_wp2_with (first | (go_at_call 39; refine HEND.out.mono ?_; rintro e w5 ⟨rfl, o5, h5, hx5⟩; have H5 := Lib.hid h5; have HX5 := Lib.hid hx5; clear h5 hx5))
           rw [Exit.noGoto_ret]
           go_ret
           rw [← HR2.out]
           exact ⟨rfl, o5, H5.out, HX3.out.trans HX5.out fun _ _ q => by cases q⟩
         · have hMb0 : ((M : Int) == 0) = false := by simp <;> omega
           have hncond : ¬ (s2.broken = true ∨ (some k ≠ none ∧ s2.marks.length = 0)) := by
             rintro (q | q)
             · exact hnb q
             · exact hM0 (by rw [← HM.out]; exact q.2)
           obtain ⟨cl, g, i, hk, hfa, hgc, hgi, hmi⟩ := HSO.out k rfl
           have hLrn := analyze_ok HSE2.out.sv.inv HSE2.out.sv.cg (by rw [HM.out]; omega) hk hfa hgc hgi (by rw [HFR2.out.marks]; exact hmi)
           have hruns := analyze_runs HSE2.out.sv.inv HSE2.out.sv.cg (by rw [HM.out]; omega) hk hfa hgc hgi (by rw [HFR2.out.marks]; exact hmi)
           have han := analyze_any H2.out HSE2.out.sv.inv.tr hn (fun k cl hk => (HSE2.out.sv.inv.wa.cl k cl hk).2.2) hruns
           obtain ⟨C, tb, hCt⟩ : ∃ C tb, analyze s2 k = (C, tb) := ⟨_, _, rfl⟩
           rw [hCt] at hLrn han
           dsimp only at hLrn han
           obtain ⟨hC1, hC2, hC3⟩ := hLrn.lok HSE2.out.sv.inv.tr
           have hto := hLrn.lt
           rw [HM.out] at hto
           obtain ⟨LC, hLC⟩ : ∃ z, C.length = z := ⟨_, rfl⟩
           rw [hLC] at han hC2 hC3
           have HAN := Lib.hid han; have HCT := Lib.hid hCt; have HLC := Lib.hid hLC; have HC1 := Lib.hid hC1; have HNC := Lib.hid hncond
           clear han hCt hLC hC1 hncond hLrn hruns hk hfa hgc hgi hmi
           go_upto_region 19 with (first | (go_at_call 40; refine HAN.out.mono ?_; rintro e w3 ⟨q, cq, rfl, how, hb3⟩; have HOW := Lib.hid how; have HB3 := Lib.hid hb3; clear how hb3))
           obtain ⟨gl, rfl⟩ : ∃ gl, q = some ⟨gl, 0, none⟩ := by
             rcases HOW.out.2 with ⟨-, e⟩ | ⟨g', cap', cur, e, -⟩
             · omega
             · simp only [Value.slice.injEq] at e; exact ⟨g', e.1⟩
           have hge := owns_ge HOW.out (g := gl) rfl
           have hou : o2 gl = none := by
             cases ho : o2 gl with
             | none => rfl
             | some r => have := HS2.out.lt gl (by rw [ho]; intro q; cases q); omega
           have hund := undo_any (H2.out.up HB3.out) HSE2.out.sv.inv.tr hn (by rw [HM.out]; omega) (k := tb) (by omega)
           have HUD := Lib.hid hund; have HGE := Lib.hid hge; have HOU := Lib.hid hou
           clear hund hge hou f4 f10 f10f
           go_upto_region 20 with (first | (go_at_call 37; refine HUD.out.mono ?_; rintro e w4 ⟨rfl, h4, hx4⟩; have H4 := Lib.hid h4; have HX4 := Lib.hid hx4; clear h4 hx4))
           obtain ⟨u1, u2, u3, u4, u5, u6, u7, u8, u9⟩ := undo_frame s2 tb
           have hinu := HSE2.out.sv.inv.undone tb
           have has := assert_any H4.out hinu.tr hn (by rw [undo_marks, List.length_take, HM.out]; omega) hinu.wa.wl (fun k hk => by have := hinu.rows k hk; rw [u3, HCL2.out] at this; have := HCC1.out; omega) (by rw [u3, HCL2.out]; have := HCC1.out; omega) (by rw [u7, HPF2.out, HPL.out]; omega) (l := C) (gl := gl) (cap := cq)
             (by rw [HLC.out]; exact own_ext (owns_base (own_up HOW.out (Below.refl _ _))) HX4.out fun g hg => by simp only [Value.ownBlock, Option.some.injEq] at hg; subst hg; exact ⟨HOU.out, fun q => q⟩) HOU.out (by rw [HLC.out]; exact hC2) (by rw [HLC.out]; omega) HC1.out
           obtain ⟨s3, hs3⟩ : ∃ z, (s2.undo tb).assert C = z := ⟨_, rfl⟩
           obtain ⟨a1, a2, a3, a4⟩ := assert_frame (s2.undo tb) C
           rw [HLC.out, hs3] at has
           have hmk3 : Mk LA s3 := by rw [← hs3]; exact (HMK2.out.undone HSE2.out.sv.inv.tr tb).same a1 a2
           have hcc3 : s3.clauses.length + s.proof.length ≤ s.clauses.length + s3.proof.length := by
             rw [← hs3, a3, u7, HPF2.out, HPL.out]
             rw [u3, HCL2.out] at a4
             have := HCC1.out; omega
           have hm3l : s3.marks.length ≤ M := by rw [← hs3, a1, undo_marks, List.length_take, HM.out]; omega
           obtain ⟨met1, hmet1⟩ : ∃ z, met + 1 = z := ⟨_, rfl⟩
           have hwm : IntKind.i64.wrap ((met : Int) + 1) = (met1 : Int) := by rw [wrapI (by omega) (by omega)]; omega
           have HAS := Lib.hid has; have HS3E := Lib.hid hs3; have HMK3 := Lib.hid hmk3; have HCC3 := Lib.hid hcc3; have HME := Lib.hid hmet1
           clear has hs3 hmk3 hcc3 hmet1 hinu a1 a2 a3 a4 u1 u2 u3 u4 u5 u6 u7 u8 u9
           go_upto_region 21 with (first | (go_at_call 41; refine HAS.out.mono ?_; rintro e w6 ⟨rfl, o6, h6, hx6⟩; have H6 := Lib.hid h6; have HX6 := Lib.hid hx6; clear h6 hx6))
           have hx6 : Ext NoX w o w6 o6 := ((HXX.out.trans (Ext.below (X := NoX) HB3.out) fun _ _ q => q).trans HX4.out fun _ _ q => q).trans HX6.out fun g hg q => by
             have h1 := HGE.out; have h2 := HXX.out.size; have q' : g = gl := q; omega
           have HX6' := Lib.hid hx6; clear hx6
           by_cases hfm : fuel ≤ (met1 : Int)
           · have hR2 := HR1.out
             rw [srun_inr (round_stop (by rw [HPL.out]; exact hfull) HP.out HNC.out (by rw [HME.out]; exact hfm)), HCT.out] at hR2
             dsimp only at hR2
             rw [HS3E.out] at hR2
             have hrn := HRND.out
             have hse3 : Tr n s3 := by
               rw [← HS3E.out]
               have hL3 : Learned (A ++ s2.proof) s2 C tb := by
                 obtain ⟨cl, g, i, hk, hfa, hgc, hgi, hmi⟩ := HSO.out k rfl
                 have hLrn := analyze_ok HSE2.out.sv.inv HSE2.out.sv.cg (by rw [HM.out]; omega) hk hfa hgc hgi (by rw [HFR2.out.marks]; exact hmi)
                 rw [HCT.out] at hLrn; exact hLrn
               have := (HSE2.out.sv.conflict hL3).1
               exact this.inv.tr
             have hund := undo_any H6.out hse3 hn (by omega) (k := 0) (by omega)
             have HUD := Lib.hid hund; have HR2 := Lib.hid hR2; clear hund hR2 hrn hse3
             go_wp2_with (first | (go_at_call 37; refine HUD.out.mono ?_; rintro e w9 ⟨rfl, h9, hx9⟩; have HSU := Lib.hid h9; have HXU := Lib.hid hx9; clear h9 hx9))
             rw [Exit.noGoto_ret]
             go_ret
             rw [← HR2.out]
             exact ⟨rfl, o6, HSU.out, HX6'.out.trans HXU.out fun _ _ q => q⟩
           · have hR2 := HR1.out
             have hrd := round_conf (l := l) (by rw [HPL.out]; exact hfull) HP.out HNC.out (met := met) (fuel := fuel) (by rw [HME.out]; exact hfm)
             rw [HCT.out] at hrd
             dsimp only at hrd
             rw [HS3E.out, HME.out] at hrd
             rw [srun_inl hrd] at hR2
             have hrn := HRND.out
             rw [hrd] at hrn
             obtain ⟨r1, r2, r3, r4⟩ := hrn
             have HR2 := Lib.hid hR2; have HRN := Lib.hid (And.intro r1 (And.intro r2 (And.intro r3 r4)))
             clear hR2 hrd r1 r2 r3 r4
             go_wp2_with fail
             go_roundg G
             case measure => omega
             case rel => exact ⟨s3, o6, met1, rfl, H6.out, HX6'.out, HRN.out.1, HR2.out, by have h1 := HMS1.out; have h2 := HRN.out.2.2.2; omega, HRN.out.2.1, HRN.out.2.2.1, HMK3.out, HCC3.out⟩
       | none =>
         have hh2 := HNO.out rfl
         have hmM : (M : Int) < (LA : Int) ↔ M < LA := by omega
         by_cases hma : M < LA
         case pos =>
           have hmai : (M : Int) < (LA : Int) := by omega
           have hL1 := SI.ext (w := w) (o := o) (X := NoX) (show SI w p cap l from HLW.out) HXX.out fun h0 a ha => ⟨HUN.out h0 a ha, fun q => q⟩
           obtain ⟨x, hx⟩ : ∃ z, l.getD M 0 = z := ⟨_, rfl⟩
           have hxM : l[M]? = some x := by rw [← hx, List.getD_eq_getElem?_getD, List.getElem?_eq_getElem (by rw [HLA.out]; exact hma)]; rfl
           have hxo := HLM.out x (List.mem_of_getElem? hxM)
           obtain ⟨bq, oq, hpq, -, cx⟩ := int_cell' hL1.at' hxM
           obtain ⟨y, hy⟩ : ∃ z, s2.of x = z := ⟨_, rfl⟩
           have hof := of_any H2.out HSE2.out.sv.inv.tr hn hxo
           rw [hy] at hof
           have htri := HSE2.out.sv.inv.tr.tri hxo
           rw [hy] at htri
           have hxs : l.getD s2.marks.length 0 = x := by rw [HM.out]; exact hx
           have HOF := Lib.hid hof; have HY := Lib.hid hy; have HXS := Lib.hid hxs; have HXO := Lib.hid hxo; have HXM := Lib.hid hxM
           clear hof hy hx hxM hxs hL1 hxo
           subst hpq
           by_cases hy1 : y = -1
           · subst hy1
             have hR2 := HR1.out
             rw [srun_inr (round_no (by rw [HPL.out]; exact hfull) HP.out hnb (by rw [HM.out, HLA.out]; exact hma) HXS.out HY.out)] at hR2
             have hxneg := (HSE2.out.sv.inv.tr.neg HXO.out).1 (by rw [HY.out]; omega)
             have hbl := blame_any H2.out HSE2.out.sv.inv.tr hn (fun k cl hk => (HSE2.out.sv.inv.wa.cl k cl hk).2.2) (fun y hy h0 => by
               obtain ⟨i, hi⟩ := List.mem_iff_getElem?.1 hy
               rcases HSE2.out.sv.inv.rs i y hi with ⟨q, -⟩ | ⟨k, c, q1, q2, -⟩
               · exact .inl q
               · exact .inr ⟨k, q1, (List.getElem?_eq_some_iff.1 q2).1⟩) HXO.out
             obtain ⟨O, hO1, hO2, hO3, -⟩ := blame_ok HSE2.out.sv.inv.tr HSE2.out.sv.inv.rs HSE2.out.sv.cg hxneg
             obtain ⟨K, hK⟩ : ∃ z, blame s2 x = z := ⟨_, rfl⟩
             rw [hK] at hbl hR2 hO1
             have hKm : ∀ y ∈ K, LOk n y := by
               intro y hy
               rw [hO1] at hy
               rcases List.mem_cons.1 hy with e | hy
               · rw [e]; exact HXO.out
               · obtain ⟨j, hj, -⟩ := hO2 y hy
                 exact HSE2.out.sv.inv.tr.ok y (List.mem_of_getElem? hj)
             have hKl := lits_len (by rw [hO1]; exact hO3) hKm
             have HBL := Lib.hid hbl; have HKM := Lib.hid hKm; have HR2 := Lib.hid hR2
             clear hbl hKm hR2 hO1 hO2 hO3 hK hxneg
             go_upto_region 29 with (first | (go_at_call 42; refine HBL.out.mono ?_; rintro e w3 ⟨q, cq, rfl, how, hb3⟩; have HOW := Lib.hid how; have HB3 := Lib.hid hb3; clear how hb3) | (go_at_call 34; refine HOF.out.mono ?_; rintro e w7 ⟨rfl, hw⟩; replace hw := hw.symm; subst hw))
             have hge := fun g (hg : (Value.slice q K.length cq).ownBlock = some g) => owns_ge HOW.out hg
             have hou : ∀ g, (Value.slice q K.length cq).ownBlock = some g → o2 g = none := fun g hg => by
               have hge := owns_ge HOW.out hg
               cases ho : o2 g with
               | none => rfl
               | some r => have := HS2.out.lt g (by rw [ho]; intro q; cases q); omega
             have hund := undo_any (H2.out.up HB3.out) HSE2.out.sv.inv.tr hn (by rw [HM.out]; omega) (k := 0) (by omega)
             have HUD := Lib.hid hund; have HGE := Lib.hid hge; have HOU := Lib.hid hou
             clear hund hge hou f4 f10 f10f cx
             go_upto_region 30 with (first | (go_at_call 37; refine HUD.out.mono ?_; rintro e w4 ⟨rfl, h4, hx4⟩; have H4 := Lib.hid h4; have HX4 := Lib.hid hx4; clear h4 hx4))
             obtain ⟨u1, u2, u3, u4, u5, u6, u7, u8, u9⟩ := undo_frame s2 0
             have hend := end_any H4.out (by rw [u7, HPF2.out, HPL.out]; omega) (p := q) (cap := cq) (l := K) (own_ext (owns_base HOW.out) HX4.out fun g hg => ⟨HOU.out g hg, fun q => q⟩) HOU.out (by omega) (fun y hy => by have := (HKM.out y hy).2; omega)
             have HEND := Lib.hid hend
             clear hend u1 u2 u3 u4 u5 u6 u7 u8 u9
             go_wp2_with (first | (go_at_call 39; refine HEND.out.mono ?_; rintro e w5 ⟨rfl, o5, h5, hx5⟩; have H5 := Lib.hid h5; have HX5 := Lib.hid hx5; clear h5 hx5))
             rw [Exit.noGoto_ret]
             go_ret
             rw [← HR2.out]
             refine ⟨rfl, o5, H5.out, ((HXX.out.trans (Ext.below (X := NoX) HB3.out) fun _ _ q => q).trans HX4.out fun _ _ q => q).trans HX5.out fun g hg q => ?_⟩
             have h1 := HGE.out g q; have h2 := HXX.out.size; omega
           · have hyb : (y == -1) = false := by simpa using hy1
             by_cases hy2 : y = 1
             · subst hy2
               have hrd := round_dec0 (l := l) (met := met) (fuel := fuel) (by rw [HPL.out]; exact hfull) HP.out hnb (by rw [HM.out, HLA.out]; exact hma) HXS.out HY.out
               have hdec := decide_any H2.out HSE2.out.sv.inv.tr hn (by rw [HM.out]; omega) (x := 0) (.inl rfl)
               have hmk3 := HMK2.out.decided 0 (fun _ => by rw [HM.out]; exact hma)
               obtain ⟨d1, d2⟩ := decide_frame s2 (0)
               obtain ⟨s3, hs3⟩ : ∃ z, s2.decide (0) = z := ⟨_, rfl⟩
               have hR2 := HR1.out
               rw [srun_inl hrd, hs3] at hR2
               have hrn := HRND.out
               rw [hrd] at hrn
               obtain ⟨r1, r2, r3, r4⟩ := hrn
               rw [hs3] at r1 r2 r3 r4 hdec hmk3 d1 d2
               have hcc3 : s3.clauses.length + s.proof.length ≤ s.clauses.length + s3.proof.length := by
                 rw [d1, d2]
                 show s2.clauses.length + _ ≤ _ + s2.proof.length
                 rw [HCL2.out, HPF2.out, HPL.out]; exact HCC1.out
               have HDEC := Lib.hid hdec; have HMK3 := Lib.hid hmk3; have HCC3 := Lib.hid hcc3; have HR2 := Lib.hid hR2; have HRN := Lib.hid (And.intro r1 (And.intro r2 (And.intro r3 r4)))
               clear hdec hmk3 hcc3 hR2 hrd r1 r2 r3 r4 d1 d2 hs3
               go_wp2_with (first | (go_at_call 34; refine HOF.out.mono ?_; rintro e w7 ⟨rfl, hw⟩; replace hw := hw.symm; subst hw) | (go_at_call 43; refine HDEC.out.mono ?_; rintro e w6 ⟨rfl, o6, h6, hx6⟩; have H6 := Lib.hid h6; have HX6 := Lib.hid hx6; clear h6 hx6))
               go_roundg G
               case measure => omega
               case rel => exact ⟨s3, o6, met, rfl, H6.out, HXX.out.trans HX6.out fun _ _ q => q, HRN.out.1, HR2.out, by have h1 := HMS1.out; have h2 := HRN.out.2.2.2; omega, HRN.out.2.1, HRN.out.2.2.1, HMK3.out, HCC3.out⟩
             · have hyb2 : (y == 1) = false := by simpa using hy2
               have hrd := round_decx (l := l) (met := met) (fuel := fuel) (by rw [HPL.out]; exact hfull) HP.out hnb (by rw [HM.out, HLA.out]; exact hma) HXS.out (by rw [HY.out]; exact hy1) (by rw [HY.out]; exact hy2)
               have hdec := decide_any H2.out HSE2.out.sv.inv.tr hn (by rw [HM.out]; omega) (x := x) (.inr HXO.out)
               have hmk3 := HMK2.out.decided x (fun q => absurd q HXO.out.1)
               obtain ⟨d1, d2⟩ := decide_frame s2 (x)
               obtain ⟨s3, hs3⟩ : ∃ z, s2.decide (x) = z := ⟨_, rfl⟩
               have hR2 := HR1.out
               rw [srun_inl hrd, hs3] at hR2
               have hrn := HRND.out
               rw [hrd] at hrn
               obtain ⟨r1, r2, r3, r4⟩ := hrn
               rw [hs3] at r1 r2 r3 r4 hdec hmk3 d1 d2
               have hcc3 : s3.clauses.length + s.proof.length ≤ s.clauses.length + s3.proof.length := by
                 rw [d1, d2]
                 show s2.clauses.length + _ ≤ _ + s2.proof.length
                 rw [HCL2.out, HPF2.out, HPL.out]; exact HCC1.out
               have HDEC := Lib.hid hdec; have HMK3 := Lib.hid hmk3; have HCC3 := Lib.hid hcc3; have HR2 := Lib.hid hR2; have HRN := Lib.hid (And.intro r1 (And.intro r2 (And.intro r3 r4)))
               clear hdec hmk3 hcc3 hR2 hrd r1 r2 r3 r4 d1 d2 hs3
               go_wp2_with (first | (go_at_call 34; refine HOF.out.mono ?_; rintro e w7 ⟨rfl, hw⟩; replace hw := hw.symm; subst hw) | (go_at_call 43; refine HDEC.out.mono ?_; rintro e w6 ⟨rfl, o6, h6, hx6⟩; have H6 := Lib.hid h6; have HX6 := Lib.hid hx6; clear h6 hx6))
               go_roundg G
               case measure => omega
               case rel => exact ⟨s3, o6, met, rfl, H6.out, HXX.out.trans HX6.out fun _ _ q => q, HRN.out.1, HR2.out, by have h1 := HMS1.out; have h2 := HRN.out.2.2.2; omega, HRN.out.2.1, HRN.out.2.2.1, HMK3.out, HCC3.out⟩
         case neg =>
           have hmai : ¬ (M : Int) < (LA : Int) := by omega
           have hfree := free_any H2.out HSE2.out.sv.inv.tr hn
           obtain ⟨v, hv⟩ : ∃ z, s2.free = z := ⟨_, rfl⟩
           rw [hv] at hfree
           have hfs := HSE2.out.sv.inv.tr.free_spec
           rw [hv] at hfs
           have hvb : v = 0 ∨ (LOk n (-v) ∧ -1000000 ≤ v ∧ v ≤ 1000000) := by
             rcases hfs with q | ⟨u, q1, q2, q3, -⟩
             · exact .inl q.1
             · refine .inr ⟨⟨by omega, by omega⟩, by omega, by omega⟩
           have HFV := Lib.hid hv; have HFREE := Lib.hid hfree
           clear hv hfree hfs
           go_upto_region 9 with (first | (go_at_call 44; refine HFREE.out.mono ?_; rintro e w3 ⟨rfl, h3, hx3⟩; have H3 := Lib.hid h3; have HX3 := Lib.hid hx3; clear h3 hx3))
           have hadv : Tr n s2.advance := HSE2.out.sv.inv.tr.advanced
           have HADV := Lib.hid hadv; clear hadv f4 f10 f10f
           by_cases hv0 : v = 0
           · subst hv0
             have hR2 := HR1.out
             rw [srun_inr (round_sat (by rw [HPL.out]; exact hfull) HP.out hnb (by rw [HM.out, HLA.out]; exact hma) HFV.out)] at hR2
             obtain ⟨oc3, hd3, hs3⟩ := H3.out.sl
             obtain ⟨pv, cv, ev, hsi⟩ := hs3.row_si .value rfl rfl (l := s2.value) rfl
             obtain ⟨f0, -⟩ := hs3.fld 0 (u := hd3 .value) rfl
             obtain ⟨f13, f13f⟩ := hs3.fld 13 (u := hd3 .model) rfl
             rw [ev] at f0
             have hcln := clone_any s2.value pv cv w3 hsi (by rw [HSE2.out.sv.inv.tr.vl]; omega)
             obtain ⟨VL, hVL⟩ : ∃ z, s2.value.length = z := ⟨_, rfl⟩
             rw [hVL] at f0 hcln
             replace hcln := hcln.mono (fun e w4 hq => show (∃ q cq, e = .returned (.slice q VL cq) ∧ w4.ownsRow w3.heap.size 3 1 (.slice q VL cq) VL (iV s2.value) ∧ Below w3.heap.size w3 w4 ∧ w4.cell? ⟨b, 13, none⟩ = some (hd3 .model) ∧ w4.frozen? ⟨b, 13, none⟩ = false) from by
               obtain ⟨q, cq, q1, q2, q3⟩ := hq
               exact ⟨q, cq, q1, q2, q3, oldcell q3 f13 (World.block_lt_of_cell? _ _ f13), oldfree q3 f13f (World.block_lt_of_cell? _ _ f13)⟩)
             have HCLN := Lib.hid hcln; have HS3 := Lib.hid hs3; have HR2 := Lib.hid hR2
             clear hcln hs3 hR2 ev hsi hVL f13 f13f
             go_upto_region 11 with (first | (go_at_call 45; refine HCLN.out.mono ?_; rintro e w4 ⟨q, cq, rfl, how, hb4, f13, f13f⟩; have HOW := Lib.hid how; have HB4 := Lib.hid hb4; clear how hb4))
             have hou : ∀ g, (Value.slice q VL cq).ownBlock = some g → o2 g = none := fun g hg => by
               have hge := owns_ge HOW.out hg
               cases ho : o2 g with
               | none => rfl
               | some r => have := HS3.out.lt g (by rw [ho]; intro q; cases q); omega
             obtain ⟨⟨hd5, h5⟩, hx5⟩ := (HS3.out.up HB4.out).renew (r := .model) (.inr rfl) (owns_base HOW.out) hou
             rw [if_neg (by decide)] at h5 hx5
             rw [if_neg (by decide)] at h5
             have hx5' : Ext NoX w o (w4.setCell ⟨b, 13, none⟩ (.slice q VL cq)) (tagNew o2 (.slice q VL cq) .model) := ((HXX.out.trans HX3.out fun _ _ q => q).trans (Ext.below (X := NoX) HB4.out) fun _ _ q => q).trans hx5 fun g hg q => by
               have h1 := owns_ge HOW.out q; have h2 := HXX.out.size; have h3 := HX3.out.size; omega
             have hund := undo_any h5.at (s := { s2.advance with model := s2.value }) ⟨HADV.out.vl, HADV.out.ll, HADV.out.rl, HADV.out.ok, HADV.out.nd, HADV.out.val, HADV.out.srt, HADV.out.ml, HADV.out.lev, HADV.out.low1, HADV.out.low2, HADV.out.lowA⟩ hn (show s2.marks.length ≤ 1000000 by rw [HM.out]; omega) (k := 0) (by omega)
             have HUD := Lib.hid hund; have HX5' := Lib.hid hx5'
             clear hund hx5' h5 hx5 hou f0
             go_wp2_with (first | (go_at_call 37; refine HUD.out.mono ?_; rintro e w9 ⟨rfl, h9, hx9⟩; have HSU := Lib.hid h9; have HXU := Lib.hid hx9; clear h9 hx9))
             rw [Exit.noGoto_ret]
             go_ret
             rw [← HR2.out]
             exact ⟨rfl, _, HSU.out, HX5'.out.trans HXU.out fun _ _ q => q⟩
           · have hvb2 : (v == 0) = false := by simpa using hv0
             obtain ⟨hvo, hv1, hv2⟩ := hvb.resolve_left hv0
             have hwv : IntKind.i64.wrap (-v) = -v := wrapI (by omega) (by omega)
             have hrd := round_decv (l := l) (met := met) (fuel := fuel) (by rw [HPL.out]; exact hfull) HP.out hnb (by rw [HM.out, HLA.out]; exact hma) (by rw [HFV.out]; exact hv0)
             rw [HFV.out] at hrd
             have hdec := decide_any H3.out HADV.out hn (show s2.marks.length ≤ 100000 by rw [HM.out]; omega) (x := -v) (.inr hvo)
             have hmk3 := (HMK2.out.same (s' := s2.advance) rfl (Nat.le_refl _)).decided (-v) (fun q => absurd q (by omega))
             obtain ⟨d1, d2⟩ := decide_frame s2.advance (-v)
             obtain ⟨s3, hs3⟩ : ∃ z, s2.advance.decide (-v) = z := ⟨_, rfl⟩
             have hR2 := HR1.out
             rw [srun_inl hrd, hs3] at hR2
             have hrn := HRND.out
             rw [hrd] at hrn
             obtain ⟨r1, r2, r3, r4⟩ := hrn
             rw [hs3] at r1 r2 r3 r4 hdec hmk3 d1 d2
             have hcc3 : s3.clauses.length + s.proof.length ≤ s.clauses.length + s3.proof.length := by
               rw [d1, d2]
               show s2.clauses.length + _ ≤ _ + s2.proof.length
               rw [HCL2.out, HPF2.out, HPL.out]; exact HCC1.out
             have HDEC := Lib.hid hdec; have HMK3 := Lib.hid hmk3; have HCC3 := Lib.hid hcc3; have HR2 := Lib.hid hR2; have HRN := Lib.hid (And.intro r1 (And.intro r2 (And.intro r3 r4)))
             clear hdec hmk3 hcc3 hR2 hrd r1 r2 r3 r4 d1 d2 hs3
             go_wp2_with (first | (go_at_call 43; refine HDEC.out.mono ?_; rintro e w6 ⟨rfl, o6, h6, hx6⟩; have H6 := Lib.hid h6; have HX6 := Lib.hid hx6; clear h6 hx6))
             go_roundg G
             case measure => omega
             case rel => exact ⟨s3, o6, met, rfl, H6.out, (HXX.out.trans HX3.out fun _ _ q => q).trans HX6.out fun _ _ q => q, HRN.out.1, HR2.out, by have h1 := HMS1.out; have h2 := HRN.out.2.2.2; omega, HRN.out.2.1, HRN.out.2.2.1, HMK3.out, HCC3.out⟩
end Go.Proofs.Ytdibfjcmgbpnpaa
