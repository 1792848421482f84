/- Walks of the solver: AddClause. -/
import Derived.Test.YtdibfjcmgbpnpaaKJ
namespace Go.Proofs.Ytdibfjcmgbpnpaa
set_option linter.unusedSimpArgs false
set_option linter.unusedVariables false
open Go.RowKit

theorem SI.ext {X : Nat → Prop} {w w' : World} {o o' : Nat → Option Role} {p : Option Addr} {cap : Nat} {l : List Int} (h : SI w p cap l) (hx : Ext X w o w' o') (ho : l ≠ [] → ∀ a, p = some a → o a.block = none ∧ ¬ X a.block) : SI w' p cap l := by
  refine ⟨h.le, h.cm, h.q0, ?_, fun h0 a ha => Nat.lt_of_lt_of_le (h.lt h0 a ha) hx.size⟩
  by_cases h0 : l = []
  · exact .inl h0
  rcases h.at' with e | ⟨b, off, hp, hb, hc⟩
  · exact .inl e
  · refine .inr ⟨b, off, hp, Nat.lt_of_lt_of_le hb hx.size, fun i x hi j hj => ?_⟩
    rw [World.cell?_of_block (hx.block b hb (ho h0 _ hp).1 (ho h0 _ hp).2)]
    exact hc i x hi j hj
theorem back_zero {s : SS} (h : s.marks = []) : s.back 0 = s := by unfold SS.back; rw [if_pos (by rw [h]; simp)]
theorem addScan_added (s : SS) (a : Nat) (all : List Int) : ∀ (xs kp : List Int), addScan { s with added := a } all xs kp = addScan s all xs kp
  | [], _ => rfl
  | x :: xs, kp => by
    unfold addScan
    rw [addScan_added s a all xs, addScan_added s a all xs]
    rfl
theorem Tr.add1 {n : Nat} {s : SS} (h : Tr n s) : Tr n { s with added := s.added + 1 } := ⟨h.vl, h.ll, h.rl, h.ok, h.nd, h.val, h.srt, h.ml, h.lev, h.low1, h.low2, h.lowA⟩
theorem validl_eq {n : Nat} {s : SS} (hv : s.value.length = n + 1) (l : List Int) : s.validl l = vlit n l := by
  unfold SS.validl vlit
  rw [hv, show (((n + 1 : Nat) : Int) - 1) = n by omega]

set_option maxRecDepth 100000 in
set_option maxHeartbeats 4000000 in
theorem addClause_any {n : Nat} {w : World} {o : Nat → Option Role} {b : Nat} {s : SS} (h : SolAt w o b s) (ht : Tr n s) (hn : n ≤ 20000) (hmk : s.marks = []) (hwl : s.watches.length = 2 * n + 2) (hrow : ∀ k, 2 ≤ k → (s.watches.getD k []).length ≤ 900000) (hcl : s.clauses.length ≤ 900000) (had : s.added ≤ 1000000) {p : Option Addr} {cap : Nat} {l : List Int} (hl : SI w p cap l) (hll : l.length ≤ 100000) (hun : l ≠ [] → ∀ a, p = some a → o a.block = none) :
    Calls Try.prog 15 #[.pointer (some ⟨b, 0, none⟩), .slice p l.length cap] w fun e w' => e = .returned (.bool (s.validl l && decide (s.added < 60000))) ∧ ∃ o', SolAt w' o' b (if s.validl l = true ∧ s.added < 60000 then s.add l else s) ∧ Ext NoX w o w' o' := by
 obtain ⟨i0, hi0, hz0, hz1, hz2⟩ := info_parts int_info
 have hval := valid_any h ht.vl hn hl (by omega)
 have HVA := Lib.hid hval
 have HT := Lib.hid ht; have HL := Lib.hid hl; have HR := Lib.hid hrow; have HW := Lib.hid hwl; have HMK := Lib.hid hmk; have HUN := Lib.hid hun
 obtain ⟨N, hN⟩ : ∃ z, l.length = z := ⟨_, rfl⟩
 rw [hN] at HVA hll ⊢
 have HN := Lib.hid hN
 obtain ⟨t, ht0⟩ : ∃ t, s.validl l = t := ⟨_, rfl⟩
 rw [ht0] at HVA ⊢
 obtain ⟨S1, hS1⟩ : ∃ z, (if t = true ∧ s.added < 60000 then s.add l else s) = z := ⟨_, rfl⟩
 obtain ⟨B1, hB1⟩ : ∃ z, (t && decide (s.added < 60000)) = z := ⟨_, rfl⟩
 rw [hS1, hB1]
 have HS1 := Lib.hid hS1; have HB1 := Lib.hid hB1; clear hS1 hB1
 have HT0 := Lib.hid ht0
 have hxx := Ext.refl NoX w o
 clear hval ht hl hrow hwl hmk hun hN ht0
 cases t with
 | false =>
   go_enter Try.func15, Try.ntmps15
   go_wp2_with (first | (go_at_call 31; refine HVA.out.mono ?_; rintro e w1 ⟨rfl, hb⟩; have HB := Lib.hid hb; clear hb))
   go_ret
   have e1 := HS1.out
   rw [if_neg (by intro q; cases q.1)] at e1
   rw [← e1, ← HB1.out]
   exact ⟨rfl, o, h.up HB.out, Ext.below HB.out⟩
 | true =>
   go_enter Try.func15, Try.ntmps15
   go_upto_region 1 with fail
   obtain ⟨A, hA⟩ : ∃ z, s.added = z := ⟨_, rfl⟩
   rw [hA] at had
   obtain ⟨oc, hd, hs⟩ := h.sl
   obtain ⟨f9, f9f⟩ := hs.fld 9 (u := .int .i64 A) (by show some (Value.int .i64 ((s.added : Nat) : Int)) = _; rw [hA])
   have HSS := Lib.hid hs; have HA := Lib.hid hA
   clear hs hA
   replace HVA := Lib.hid (HVA.out.mono (fun e w1 q => show (e = .returned (.bool true) ∧ (Below w.heap.size w w1 ∧ w1.cell? ⟨b, 9, none⟩ = some (.int .i64 A) ∧ w1.frozen? ⟨b, 9, none⟩ = false)) from ⟨q.1, q.2, oldcell q.2 f9 (World.block_lt_of_cell? _ _ f9), oldfree q.2 f9f (World.block_lt_of_cell? _ _ f9)⟩))
   clear f9 f9f
   by_cases hfull : A < 60000
   case neg =>
     have hf1 : ¬ ((A : Int) < 60000) := by omega
     have hf2 : (60000 : Int) ≤ (A : Int) := by omega
     go_wp2_with (first | (go_at_call 31; refine HVA.out.mono ?_; rintro e w1 ⟨rfl, hb, f9, f9f⟩; have HB := Lib.hid hb; clear hb))
     go_ret
     have e1 := HS1.out
     rw [if_neg (by intro q; rw [HA.out] at q; exact hfull q.2)] at e1
     rw [← e1, ← HB1.out, HA.out]
     exact ⟨by simp [hfull], o, h.up HB.out, Ext.below HB.out⟩
   case pos =>
     have hdb : decide ((60000 : Int) ≤ (A : Int)) = false := decide_eq_false (by omega)
     obtain ⟨A1, hA1⟩ : ∃ z, A + 1 = z := ⟨_, rfl⟩
     have hwA : IntKind.i64.wrap ((A : Int) + 1) = (A1 : Int) := by rw [wrapI (by omega) (by omega)]; omega
     have HA1 := Lib.hid hA1; have HFU := Lib.hid hfull; clear hA1 hfull
     go_upto_region 3 with (first | (go_at_call 31; refine HVA.out.mono ?_; rintro e w1 ⟨rfl, hb, f9, f9f⟩; have HB := Lib.hid hb; clear hb))
     go_upto_region 4 with fail
     obtain ⟨s1, hs1⟩ : ∃ z, { s with added := s.added + 1 } = z := ⟨_, rfl⟩
     have hset := (HSS.out.up HB.out).set (r := .self) HSS.out.hb 9 (.int .i64 (A1 : Int)) (s' := s1) (oc' := oc) (by
       rw [← hs1, ← HA1.out, ← HA.out]
       funext r
       cases r <;> rfl)
     obtain ⟨hsl, hx1⟩ := hset
     have hx1 := (Ext.below (X := NoX) (o := o) HB.out).trans hx1 fun _ _ q => q
     obtain ⟨w2, hw2⟩ : ∃ z, z = w1.setCell ⟨b, 9, none⟩ (.int .i64 (A1 : Int)) := ⟨_, rfl⟩
     rw [← hw2] at hsl hx1 ⊢
     have ht1 : Tr n s1 := by rw [← hs1]; exact HT.out.add1
     have hmk1 : s1.marks = [] := by rw [← hs1]; exact HMK.out
     have hbk := back_any hsl.at ht1 hn (by rw [hmk1]; simp) (k := 0) (by omega)
     rw [back_zero hmk1] at hbk
     have HBK := Lib.hid hbk; have HX1 := Lib.hid hx1; have HT1 := Lib.hid ht1; have HS1E := Lib.hid hs1; have HMK1 := Lib.hid hmk1
     clear hw2 hsl hx1 ht1 hmk1 hbk hs1 f9 f9f hdb hwA
     go_upto_region 6 with (first | (go_at_call 32; refine HBK.out.mono ?_; rintro e w3 ⟨rfl, hs3, hx3⟩; have HS3 := Lib.hid hs3; have HX3 := Lib.hid (HX1.out.trans hx3 fun _ _ q => q); clear hs3 hx3))
     have hl3 := HL.out.ext HX3.out fun h0 a ha => ⟨HUN.out h0 a ha, fun q => q⟩
     have hlm : ∀ x ∈ l, LOk n x := by
       have := HT0.out
       rw [validl_eq HT.out.vl] at this
       exact vlit_iff.1 this
     have own0 : w3.ownsRow w3.heap.size 3 1 (.slice none 0 0) 0 (iV []) := World.ownsRow_nil _ _ _ _
     have hb0 := Below.refl w3.heap.size w3
     have HL3 := Lib.hid hl3; have HLM := Lib.hid hlm
     clear hl3 hlm
     go_wp2_with fail
     go_loopg [5, 32] N (fun G s5 s32 wr => ∃ (j : Nat) (kp : List Int) (q : Option Addr) (c : Nat), s32 = .int .i64 j ∧ s5 = .slice q kp.length c ∧ j ≤ N ∧ G = N - j ∧ wr.ownsRow w3.heap.size 3 1 (.slice q kp.length c) kp.length (iV kp) ∧ Below w3.heap.size w3 wr ∧ kp.length ≤ j ∧ (∀ x ∈ kp, LOk n x) ∧ addScan s1 l (l.drop j) kp = addScan s1 l l [])
     case atStart => exact ⟨0, [], none, 0, rfl, rfl, by omega, rfl, own0, hb0, by simp, by simp, rfl⟩
     case round =>
      obtain ⟨j, kp, q, c, rfl, rfl, hj, hG, hO, hbw, hkj, hkm, hsc⟩ := hrel
      have HG := Lib.hid hG; clear hG own0 hb0
      by_cases hlt : j < N
      case pos =>
       obtain ⟨x, hx⟩ : ∃ z, l.getD j 0 = z := ⟨_, rfl⟩
       have hx2 : l[j]? = some x := by rw [← hx, List.getD_eq_getElem?_getD, List.getElem?_eq_getElem (by rw [HN.out]; exact hlt)]; rfl
       have hxo := HLM.out x (List.mem_of_getElem? hx2)
       have hxo2 := hxo.2
       have hdr : l.drop j = x :: l.drop (j + 1) := by
         rw [List.drop_eq_getElem_cons (by rw [HN.out]; exact hlt)]
         congr 1
         rw [← hx, List.getD_eq_getElem?_getD, List.getElem?_eq_getElem (by rw [HN.out]; exact hlt)]; rfl
       rw [hdr] at hsc
       have hl3 := HL3.out.up hbw
       obtain ⟨bq, oq, hpq, hbq, c0⟩ := int_cell' hl3.at' hx2
       have hwx : IntKind.i64.wrap (-x) = -x := wrapI (by omega) (by omega)
       have hjl : (j : Int) < (N : Int) := by omega
       have hc1 := contains_ints hl3 (by rw [HN.out]; omega) (-x)
       have hc2 := contains_ints (SI.of_owns hO) (by omega) x
       have hof := of_any (HS3.out.up hbw) HT1.out hn hxo
       obtain ⟨y, hy⟩ : ∃ y, s1.of x = y := ⟨_, rfl⟩
       obtain ⟨t1, ht1⟩ : ∃ t, decide (-x ∈ l) = t := ⟨_, rfl⟩
       obtain ⟨t2, ht2⟩ : ∃ t, decide (x ∈ kp) = t := ⟨_, rfl⟩
       rw [HN.out, ht1] at hc1
       rw [ht2] at hc2
       rw [hy] at hof
       have HC1 := Lib.hid hc1; have HC2 := Lib.hid hc2; have HOF := Lib.hid hof; have HY := Lib.hid hy; have HT1' := Lib.hid ht1; have HT2 := Lib.hid ht2; have HSC := Lib.hid hsc
       have HO := Lib.hid hO; have HBW := Lib.hid hbw; have HKM := Lib.hid hkm; have HXO := Lib.hid hxo; have HKJ := Lib.hid hkj
       clear hc1 hc2 hof hy ht1 ht2 hsc hO hbw hkm hxo hx hx2 hdr hl3 hbq hkj
       subst hpq
       have hnone : (-x ∈ l ∨ 0 < y) → S1 = s1 := by
         intro hq
         have e1 := HS1.out
         rw [if_pos (by first | exact ⟨rfl, by rw [HA.out]; exact HFU.out⟩ | exact ⟨trivial, by rw [HA.out]; exact HFU.out⟩)] at e1
         have e2 := HSC.out
         obtain ⟨R, hR⟩ : ∃ R, addScan s1 l l [] = R := ⟨_, rfl⟩
         rw [hR] at e2
         unfold addScan at e2
         rw [HY.out, if_pos hq] at e2
         rw [← e1]
         unfold SS.add
         have e3 : addScan s l l [] = none := by
           rw [← addScan_added s (s.added + 1) l l []]
           have h4 := HS1E.out
           rw [h4, hR]; exact e2.symm
         rw [e3]; exact HS1E.out
       have HNO := Lib.hid hnone; clear hnone
       cases t1 with
       | true =>
         go_wp2_with (first | (go_at_call 33; first | (refine HC1.out.mono ?_; rintro e w' ⟨rfl, hw⟩; replace hw := hw.symm; subst hw) | (refine HC2.out.mono ?_; rintro e w' ⟨rfl, hw⟩; replace hw := hw.symm; subst hw)) | (go_at_call 34; refine HOF.out.mono ?_; rintro e w' ⟨rfl, hw⟩; replace hw := hw.symm; subst hw))
         go_ret
         rw [HNO.out (.inl (of_decide_eq_true HT1'.out)), ← HB1.out, HA.out]
         exact ⟨by simp [HFU.out], o, HS3.out.up HBW.out, HX3.out.trans (Ext.below HBW.out) fun _ _ q => q⟩
       | false =>
         have hnx : ¬ (-x ∈ l) := of_decide_eq_false HT1'.out
         by_cases hy0 : 0 < y
         · go_wp2_with (first | (go_at_call 33; first | (refine HC1.out.mono ?_; rintro e w' ⟨rfl, hw⟩; replace hw := hw.symm; subst hw) | (refine HC2.out.mono ?_; rintro e w' ⟨rfl, hw⟩; replace hw := hw.symm; subst hw)) | (go_at_call 34; refine HOF.out.mono ?_; rintro e w' ⟨rfl, hw⟩; replace hw := hw.symm; subst hw))
           go_ret
           rw [HNO.out (.inr hy0), ← HB1.out, HA.out]
           exact ⟨by simp [HFU.out], o, HS3.out.up HBW.out, HX3.out.trans (Ext.below HBW.out) fun _ _ q => q⟩
         · by_cases hyz : y = 0
           · subst hyz
             have hsc := HSC.out
             rw [show addScan s1 l (x :: l.drop (j + 1)) kp = _ from by rw [addScan]] at hsc
             rw [HY.out, if_neg (by rintro (q | q); exact hnx q; exact hy0 q)] at hsc
             cases t2 with
             | true =>
               rw [if_neg (fun q => q.2 (of_decide_eq_true HT2.out))] at hsc
               have HSC2 := Lib.hid hsc; clear hsc
               go_wp2_with (first | (go_at_call 33; first | (refine HC1.out.mono ?_; rintro e w' ⟨rfl, hw⟩; replace hw := hw.symm; subst hw) | (refine HC2.out.mono ?_; rintro e w' ⟨rfl, hw⟩; replace hw := hw.symm; subst hw)) | (go_at_call 34; refine HOF.out.mono ?_; rintro e w' ⟨rfl, hw⟩; replace hw := hw.symm; subst hw))
               go_roundg (N - (j + 1))
               case measure => (have := HG.out; omega)
               case rel => exact ⟨j + 1, kp, q, c, by go_num, rfl, by omega, rfl, HO.out, HBW.out, by have := HKJ.out; omega, HKM.out, HSC2.out⟩
             | false =>
               rw [if_pos ⟨rfl, of_decide_eq_false HT2.out⟩] at hsc
               have HSC2 := Lib.hid hsc; clear hsc
               have hO := HO.out; have hkj := HKJ.out
               obtain ⟨q5, c5, w6, hrun, hO6, hb6⟩ := own_app1 hi0 hz0 hz1 hz2 hO x (Below.refl _ _) (Below.refl _ _) (by omega) HBW.out.size
               rw [iV_snoc] at hO6
               have HO6 := Lib.hid hO6; have HB6 := Lib.hid (HBW.out.trans hb6)
               clear hO hO6 hb6 hkj
               go_wp2_with (first | (go_at_call 33; first | (refine HC1.out.mono ?_; rintro e w' ⟨rfl, hw⟩; replace hw := hw.symm; subst hw) | (refine HC2.out.mono ?_; rintro e w' ⟨rfl, hw⟩; replace hw := hw.symm; subst hw)) | (at_builtin; go_must (refine wpList_run rfl (exec_app rfl rfl rfl hrun) ?_)) | (go_at_call 34; refine HOF.out.mono ?_; rintro e w' ⟨rfl, hw⟩; replace hw := hw.symm; subst hw))
               go_roundg (N - (j + 1))
               case measure => (have := HG.out; omega)
               case rel =>
                 refine ⟨j + 1, kp ++ [x], q5, c5, by go_num, by simp, by omega, rfl, by simpa using HO6.out, HB6.out, by have := HKJ.out; simp; omega, ?_, HSC2.out⟩
                 intro z hz
                 rcases List.mem_append.1 hz with q | q
                 · exact HKM.out z q
                 · simp only [List.mem_singleton] at q; subst q; exact HXO.out
           · have hyb : (y == 0) = false := by simpa using hyz
             have hsc := HSC.out
             rw [show addScan s1 l (x :: l.drop (j + 1)) kp = _ from by rw [addScan]] at hsc
             rw [HY.out, if_neg (by rintro (q | q); exact hnx q; exact hy0 q), if_neg (fun q => hyz q.1)] at hsc
             have HSC2 := Lib.hid hsc; clear hsc
             go_wp2_with (first | (go_at_call 33; first | (refine HC1.out.mono ?_; rintro e w' ⟨rfl, hw⟩; replace hw := hw.symm; subst hw) | (refine HC2.out.mono ?_; rintro e w' ⟨rfl, hw⟩; replace hw := hw.symm; subst hw)) | (go_at_call 34; refine HOF.out.mono ?_; rintro e w' ⟨rfl, hw⟩; replace hw := hw.symm; subst hw))
             go_roundg (N - (j + 1))
             case measure => (have := HG.out; omega)
             case rel => exact ⟨j + 1, kp, q, c, by go_num, rfl, by omega, rfl, HO.out, HBW.out, by have := HKJ.out; omega, HKM.out, HSC2.out⟩
      case neg =>
       obtain rfl : j = N := by omega
       have hadd : S1 = (match (generalizing := false) kp with | [] => { s1 with broken := true } | [x] => SS.push s1 x (-1) | k => SS.attach s1 k) := by
         have e1 := HS1.out
         rw [if_pos (by first | exact ⟨rfl, by rw [HA.out]; exact HFU.out⟩ | exact ⟨trivial, by rw [HA.out]; exact HFU.out⟩)] at e1
         rw [← HN.out, List.drop_length] at hsc
         have e3 : addScan s l l [] = some kp := by
           rw [← addScan_added s (s.added + 1) l l []]
           have h4 := HS1E.out
           rw [h4, ← hsc]; rfl
         rw [← e1]
         unfold SS.add
         rw [e3]
         obtain rfl := HS1E.out
         rcases kp with _ | ⟨x, _ | ⟨y, t⟩⟩ <;> rfl
       have hs := HS3.out.up hbw
       have hx4 := HX3.out.trans (Ext.below (X := NoX) hbw) fun _ _ q => q
       have HAD := Lib.hid hadd; have HS4 := Lib.hid hs; have HX4 := Lib.hid hx4; have HO := Lib.hid hO; have HBW := Lib.hid hbw; have HKM := Lib.hid hkm
       clear hadd hs hx4 hO hbw hkm hsc
       rcases kp with _ | ⟨x, _ | ⟨y, t⟩⟩
       · obtain ⟨oc4, hd4, hs⟩ := HS4.out.sl
         obtain ⟨f10, f10f⟩ := hs.fld 10 (u := .bool s1.broken) rfl
         obtain ⟨h5, hx5⟩ := hs.set (r := .self) hs.hb 10 (.bool true) (s' := { s1 with broken := true }) (oc' := oc4) (by
           funext r; cases r <;> rfl)
         have H5 := Lib.hid h5; have HX5 := Lib.hid (HX4.out.trans hx5 fun _ _ q => q)
         clear hs h5 hx5
         go_wp2_with fail
         go_ret
         rw [HAD.out, ← HB1.out, HA.out]
         exact ⟨by simp [HFU.out], o, H5.out.at, HX5.out⟩
       · have hO := HO.out
         obtain ⟨gq, hgq⟩ : ∃ gq, q = some ⟨gq, 0, none⟩ := by
           rcases hO.2 with ⟨-, e⟩ | ⟨g', cap', cur, e, -⟩
           · simp at e
           · simp only [Value.slice.injEq] at e; exact ⟨g', e.1⟩
         subst hgq
         obtain ⟨c0, -⟩ := own_load hO (i := 0) (u := .int .i64 x) rfl
         have hxo := HKM.out x (by simp)
         have HXO := Lib.hid hxo
         clear hO hxo
         rw [show ([x] : List Int).length = 1 from rfl]
         go_upto_region 19 with fail
         refine wp_region_seqE (fun x => Below wr.heap.size wr x) (.one 0 1 (.one 1 1 (.one 2 1 (.one 3 1 (.one 4 1 (.one 5 0 (.alt 6 3 .nil .stop))))))) (by kernel_rfl) (by kernel_rfl) (by kernel_rfl) (Below.drew (Below.refl _ _)) ?_
         iterate 6 (first | (refine seqE_free (v := ?_) rfl (by rfl) ?_ ?_; rotate_left; (focus (intro w; go_simp; try with_reducible rfl)); (try simp only [Act.put, List.setIfInBounds_toArray, List.set_cons_zero, List.set_cons_succ])) | (refine seqE_pure (v := ?_) rfl (by rfl) ?_ ?_; rotate_left; (focus (intro w hS; have c0 := oldcell hS c0 (World.block_lt_of_cell? _ _ c0); go_simp; try with_reducible rfl)); (try simp only [Act.put, List.setIfInBounds_toArray, List.set_cons_zero, List.set_cons_succ])))
         refine seqE_callB (f := ?_) (args := ?_) rfl (by rfl) ?_ ?_ seqE_stop
         rotate_left 2
         focus (intro w hS; go_simp; first | done | with_reducible rfl | (refine ⟨?_, ?_⟩ <;> with_reducible rfl))
         intro wc hS
         refine (push_any (HS4.out.up hS) HT1.out hn (by rw [HMK1.out]; simp) HXO.out (r := -1) (by omega) (by omega)).mono ?_
         rintro e w6 ⟨rfl, o6, hs6, hx6⟩
         refine ⟨_, rfl, fun x => Below w6.heap.size w6 x, Below.refl _ _, ?_⟩
         have HX6 := Lib.hid ((HX4.out.trans (Ext.below hS) fun _ _ q => q).trans hx6 fun _ _ q => q)
         have HS6 := Lib.hid hs6
         clear hS hx6 hs6
         (try simp only [Act.put, List.setIfInBounds_toArray, List.set_cons_zero, List.set_cons_succ])
         refine seqE_nil ?_
         intro w2 hS
         go_wp2_with fail
         go_ret
         rw [HAD.out, ← HB1.out, HA.out]
         exact ⟨by simp [HFU.out], o6, HS6.out.up hS, HX6.out.trans (Ext.below (X := NoX) hS) fun _ _ q => q⟩
       · have hO := HO.out
         obtain ⟨gq, hgq⟩ : ∃ gq, q = some ⟨gq, 0, none⟩ := by
           rcases hO.2 with ⟨-, e⟩ | ⟨g', cap', cur, e, -⟩
           · simp at e
           · simp only [Value.slice.injEq] at e; exact ⟨g', e.1⟩
         subst hgq
         have hge := owns_ge hO (g := gq) rfl
         have hou : o gq = none := by
           obtain ⟨_, _, h9⟩ := HS3.out.sl
           cases ho : o gq with
           | none => rfl
           | some r => have := h9.lt gq (by rw [ho]; intro q; cases q); omega
         have hat := attach_any HS4.out hn (by rw [← HS1E.out]; exact HW.out) (by rw [← HS1E.out]; exact HR.out) (by rw [← HS1E.out]; exact hcl) (lits := x :: y :: t) (owns_base hO) hou (by simp) HKM.out
         have hsz := HX3.out.size
         obtain ⟨m, hm⟩ : ∃ m, (x :: y :: t).length = m := ⟨_, rfl⟩
         rw [hm] at hat ⊢
         have hm2 : 2 ≤ m := by rw [← hm]; simp
         have hb0 : ((m : Int) == 0) = false := by simpa using (show ¬ (m : Int) = 0 by omega)
         have hb1 : ((m : Int) == 1) = false := by simpa using (show ¬ (m : Int) = 1 by omega)
         have HAT := Lib.hid hat; have HGE := Lib.hid hge; have HSZ := Lib.hid hsz
         clear hat hO hm hge hou hsz
         go_wp2_with (first | (go_at_call 36; refine HAT.out.mono ?_; rintro e w5 ⟨rfl, o5, oc5, hd5, hs5, hcl5, hx5⟩; have HS5 := Lib.hid hs5; have HX5 := Lib.hid hx5; clear hs5 hcl5 hx5))
         go_ret
         rw [HAD.out, ← HB1.out, HA.out]
         exact ⟨by simp [HFU.out], o5, HS5.out.at, HX4.out.trans HX5.out fun g hg q => absurd hg (by have q' : g = gq := q; have := HGE.out; have := HSZ.out; omega)⟩
end Go.Proofs.Ytdibfjcmgbpnpaa
