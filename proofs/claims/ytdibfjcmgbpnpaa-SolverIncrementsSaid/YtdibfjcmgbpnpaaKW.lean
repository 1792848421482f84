/- Walk of the law's head: the examples of the chapter. -/
import Derived.Test.YtdibfjcmgbpnpaaKV
namespace Go.Proofs.Ytdibfjcmgbpnpaa
set_option linter.unusedSimpArgs false
set_option linter.unusedVariables false
open Go.RowKit

theorem hr1_oc : (solve hs2 [] 9).2 = 1 := (Prod.mk.inj hr1_val).1
theorem hr1_m : hr1.1.model = [0, -1, 1] := (Prod.mk.inj (Prod.mk.inj hr1_val).2).1
theorem hr2_oc : (solve hr1.1 [-2] 9).2 = 2 := (Prod.mk.inj hr2_val).1
theorem hr2_c : hr2.1.core = [-2] := (Prod.mk.inj (Prod.mk.inj hr2_val).2).1
theorem hr2_m : hr2.1.model = [] := (Prod.mk.inj (Prod.mk.inj (Prod.mk.inj hr2_val).2).2).1
theorem hr2_p : hr2.1.proof = [[2], [2]] := (Prod.mk.inj (Prod.mk.inj (Prod.mk.inj hr2_val).2).2).2
theorem hq1_oc : (solve hu2 [] 9).2 = 2 := (Prod.mk.inj hq1_val).1
theorem hq1_c : hq1.1.core = [] := (Prod.mk.inj (Prod.mk.inj hq1_val).2).1
theorem hq1_p : hq1.1.proof = [[]] := (Prod.mk.inj (Prod.mk.inj hq1_val).2).2
theorem hv12 : vlit 2 [1, 2] = true := by kernel_rfl
theorem hvm12 : vlit 2 [-1, 2] = true := by kernel_rfl
theorem hv3 : vlit 2 [3] = false := by kernel_rfl
theorem hv0 : vlit 2 [0] = false := by kernel_rfl
theorem hv1 : vlit 2 [1] = true := by kernel_rfl
theorem hvm1 : vlit 2 [-1] = true := by kernel_rfl
theorem hs3_oc : (solve hr2.1 [3] 9).2 = 0 := by kernel_rfl
theorem hs0_oc : ∀ s, (solve s [] 0).2 = 0 := fun s => by unfold solve; rw [if_neg (by rintro ⟨-, q⟩; exact absurd q (by decide))]
theorem PfAt.cell {K : Nat → Prop} {w : World} {b off cq : Nat} {P : List (List Int)} (h : PfAt K w (some ⟨b, off, none⟩) cq P) {i : Nat} {l : List Int} (hi : P[i]? = some l) : ∃ p c, w.cell? ⟨b, off + i * 3 + 1, none⟩ = some (.slice p l.length c) ∧ SI w p c l := by
  obtain ⟨b', off', p, c, e, -, h2, -, h4, -⟩ := h.at' i l hi
  simp only [Option.some.injEq, Addr.mk.injEq, and_true] at e
  obtain ⟨rfl, rfl⟩ := e
  exact ⟨p, c, h2, h4⟩
theorem same_lit {w : World} {q : Option Addr} {c : Nat} {x : Int} (h : SI w q c [x]) : Calls Try.prog 29 #[.slice q 1 c, .slice (some ⟨w.heap.size, 0, none⟩) 1 1] (w.alloc (.cells #[.int .i64 x] 3)) fun e w' => e = .returned (.bool true) ∧ Below w.heap.size w w' := by
  have hb : Below w.heap.size w (w.alloc (.cells #[.int .i64 x] 3)) := by go_grown
  have h2 := same_any (h.up hb) (SI.lit (w := w) (k := 1) (xs := [x]) (cs := #[.int .i64 x]) (t := 3) rfl (by omega) rfl)
  refine h2.mono ?_
  rintro e w' ⟨h3, h4⟩
  exact ⟨by rw [h3, decide_eq_true rfl], btr hb h4⟩
theorem hA2 : ([] ++ [[1, 2]] ++ [[-1, 2]] : List (List Int)).length < 60000 := by simp
theorem hA3 : ([] ++ [[1]] ++ [[-1]] : List (List Int)).length < 60000 := by simp
set_option maxRecDepth 100000 in
set_option maxHeartbeats 8000000 in
theorem head_any {w : World} : Calls Try.prog 10 #[] w fun e w' => e = .returned (.bool true) ∧ Below w.heap.size w w' := by
 have hnew : ∀ w, Calls Try.prog 13 #[.int .i64 2] w fun e w' => ∃ b o, e = .returned (.pointer (some ⟨b, 0, none⟩)) ∧ So w.heap.size w' o b 2 [] (snew 2) ∧ Below w.heap.size w w' := fun w => So.new_any (n := 2) (by omega)
 have hbad1 : ∀ w, Calls Try.prog 13 #[.int .i64 (-1)] w fun e w' => e = .returned (.pointer none) ∧ w' = w := fun w => new_bad (.inl (by decide))
 have hbad2 : ∀ w, Calls Try.prog 13 #[.int .i64 20001] w fun e w' => e = .returned (.pointer none) ∧ w' = w := fun w => new_bad (.inr (by decide))
 have HNW := Lib.hid hnew; have HB1 := Lib.hid hbad1; have HB2 := Lib.hid hbad2
 clear hnew hbad1 hbad2
 go_enter Try.func10, Try.ntmps10
 go_upto_region 2 with (first | (go_at_call 13; refine (HNW.out _).mono ?_; rintro e w1 ⟨b1, o1, rfl, hso, hb⟩; have HS1 := Lib.hid hso; have HW1 := Lib.hid hb; clear hso hb))
 go_upto_region 3 with (first | (go_at_call 13; refine (HNW.out _).mono ?_; rintro e w2 ⟨b2, o2, rfl, hso, hb⟩; have HS2 := Lib.hid hso; have HW2 := Lib.hid hb; clear hso hb))
 have T0 := Lib.hid (Two.new HS1.out HW1.out.size HW2.out HS2.out)
 have B0 := Lib.hid (HW1.out.trans (HW2.out.mono HW1.out.size))
 clear HS1 HS2 HW1 HW2
 go_upto_region 5 with (first | (go_at_call 13; first | ((with_reducible refine (HB1.out _).mono ?_); rintro e w3 ⟨rfl, hw⟩; replace hw := hw.symm; subst hw) | ((with_reducible refine (HB2.out _).mono ?_); rintro e w3 ⟨rfl, hw⟩; replace hw := hw.symm; subst hw)))
 go_upto_region 7 with (first | (go_at_call 15; (with_reducible refine (T0.out.addL (by omega) (by simp) (k := 2) (xs := [1, 2]) rfl (by omega) (cs := #[.int .i64 1, .int .i64 2]) rfl).mono ?_); rintro e wa ⟨he, ooa, tt, hb, hx⟩; rw [hv12] at he; subst he; (rw [hv12, if_pos rfl, if_pos rfl] at tt); have T1 := Lib.hid tt; have B1 := Lib.hid (B0.out.trans hb); clear tt hb hx) | (go_at_call 15; (with_reducible refine (T1.out.addL (by omega) (by simp) (k := 2) (xs := [-1, 2]) rfl (by omega) (cs := #[.int .i64 (-1), .int .i64 2]) rfl).mono ?_); rintro e wb ⟨he, oob, tt, hb, hx⟩; rw [hvm12] at he; subst he; (rw [hvm12, if_pos rfl, if_pos rfl] at tt); have T2 := Lib.hid tt; have B2 := Lib.hid (B1.out.trans hb); clear tt hb hx) | (go_at_call 15; (with_reducible refine (T2.out.addL (by omega) (by simp) (k := 1) (xs := [3]) rfl (by omega) (cs := #[.int .i64 3]) rfl).mono ?_); rintro e wc ⟨he, ooc, tt, hb, hx⟩; rw [hv3] at he; subst he; (rw [hv3, if_neg (by decide), if_neg (by decide)] at tt); have T3 := Lib.hid tt; have B3 := Lib.hid (B2.out.trans hb); clear tt hb hx) | (go_at_call 15; (with_reducible refine (T3.out.addL (by omega) (by simp) (k := 1) (xs := [0]) rfl (by omega) (cs := #[.int .i64 0]) rfl).mono ?_); rintro e wd ⟨he, ood, tt, hb, hx⟩; rw [hv0] at he; subst he; (rw [hv0, if_neg (by decide), if_neg (by decide)] at tt); have T4 := Lib.hid tt; have B4 := Lib.hid (B3.out.trans hb); clear tt hb hx))
 have T5 := Lib.hid (show Two w.heap.size wd 2 ood b1 ([] ++ [[1, 2]] ++ [[-1, 2]]) hs2 o2 b2 [] (snew 2) from T4.out)
 clear T0 T1 T2 T3 T4 B0 B1 B2 B3
 go_upto_region 8 with (first | (go_at_call 17; (with_reducible refine (T5.out.solN (by omega) (by simp) 9).mono ?_); rintro e w6 ⟨he, oo6, tt, hb, hx⟩; rw [hr1_oc] at he; subst he; have T6 := Lib.hid (show Two w.heap.size w6 2 oo6 b1 ([] ++ [[1, 2]] ++ [[-1, 2]]) hr1.1 o2 b2 [] (snew 2) from tt); have B6 := Lib.hid (B4.out.trans hb); clear tt hb hx))
 have hva1 : Calls Try.prog 18 #[.pointer (some ⟨b1, 0, none⟩), .int .i64 1] w6 fun e w' => e = .returned (.bool false) ∧ w' = w6 := by
   have h := value_any T6.out.l.sol 1
   rw [hr1_m] at h; exact h
 have hva2 : Calls Try.prog 18 #[.pointer (some ⟨b1, 0, none⟩), .int .i64 2] w6 fun e w' => e = .returned (.bool true) ∧ w' = w6 := by
   have h := value_any T6.out.l.sol 2
   rw [hr1_m] at h; exact h
 have HV1 := Lib.hid hva1; have HV2 := Lib.hid hva2
 clear hva1 hva2 T5 B4
 go_upto_region 10 with (first | (go_at_call 18; first | ((with_reducible refine HV1.out.mono ?_); rintro e w7 ⟨rfl, hw⟩; replace hw := hw.symm; subst hw) | ((with_reducible refine HV2.out.mono ?_); rintro e w7 ⟨rfl, hw⟩; replace hw := hw.symm; subst hw)))
 clear HV1 HV2
 go_upto_region 11 with (first | (go_at_call 17; (with_reducible refine (T6.out.solL (by omega) (by simp) (k := 1) (xs := [-2]) rfl (by omega) (cs := #[.int .i64 (-2)]) rfl 9).mono ?_); rintro e w7 ⟨he, oo7, tt, hb, hx⟩; rw [hr2_oc] at he; subst he; have T7 := Lib.hid (show Two w.heap.size w7 2 oo7 b1 ([] ++ [[1, 2]] ++ [[-1, 2]]) hr2.1 o2 b2 [] (snew 2) from tt); have B7 := Lib.hid (B6.out.trans hb); clear tt hb hx))
 have hcr := core_any T7.out.l.sol (by rw [hr2_c]; simp)
 rw [hr2_c] at hcr
 have HCR := Lib.hid (show Calls Try.prog 19 #[.pointer (some ⟨b1, 0, none⟩)] w7 fun e w' => ∃ q cq, e = .returned (.slice q 1 cq) ∧ w'.ownsRow w7.heap.size 3 1 (.slice q 1 cq) 1 (iV [-2]) ∧ Below w7.heap.size w7 w' from hcr)
 clear hcr T6 B6
 go_upto_region 12 with (first | (go_at_call 19; refine HCR.out.mono ?_; rintro e w8 ⟨qc, cc, rfl, how, hb⟩; have HOW := Lib.hid how; have HB8 := Lib.hid hb; clear how hb))
 have SC8 := Lib.hid (show SIu w8 oo7 o2 qc cc [-2] from ⟨SI.of_owns (l := [-2]) HOW.out, fun a ha => ⟨T7.out.fresh (World.ownsRow.lt HOW.out a.block (by rw [ha]; rfl)).1, (World.ownsRow.lt HOW.out a.block (by rw [ha]; rfl)).2⟩⟩)
 have T8 := Lib.hid (T7.out.up HB8.out)
 have B8 := Lib.hid (B7.out.trans (HB8.out.mono B7.out.size))
 clear HCR HOW HB8 T7 B7
 have hpr := T8.out.proofL (by omega)
 rw [hr2_p] at hpr
 have HPR := Lib.hid (show Calls Try.prog 26 #[.pointer (some ⟨b1, 0, none⟩)] w8 fun e w' => ∃ q cq, e = .returned (.slice q 2 cq) ∧ PfAt (fun g => w8.heap.size ≤ g) w' q cq [[2], [2]] ∧ Below w8.heap.size w8 w' from hpr)
 clear hpr
 go_upto_region 13 with (first | (go_at_call 26; refine HPR.out.mono ?_; rintro e w9 ⟨qp, cp, rfl, hpf, hb⟩; have HPF := Lib.hid hpf; have HB9 := Lib.hid hb; clear hpf hb))
 have PFa := Lib.hid ((HPF.out.imp (K' := Un oo7 o2) fun g hg _ => T8.out.fresh hg).swap)
 have SCa := Lib.hid ((SC8.out.up HB9.out).swap)
 have Ta := Lib.hid (T8.out.up HB9.out).symm
 have Ba := Lib.hid (B8.out.trans (HB9.out.mono B8.out.size))
 clear HPR HPF HB9 T8 SC8 B8
 go_upto_region 14 with (first | (go_at_call 15; (with_reducible refine (Ta.out.addL (by omega) (by simp) (k := 1) (xs := [1]) rfl (by omega) (cs := #[.int .i64 1]) rfl).mono ?_); rintro e w10 ⟨he, oo10, tt, hb, hx⟩; rw [hv1] at he; subst he; (rw [hv1, if_pos rfl, if_pos rfl] at tt); have Tb := Lib.hid tt; have Bb := Lib.hid (Ba.out.trans hb); have SCb := Lib.hid (SCa.out.left hx); have PFb := Lib.hid (PFa.out.left hx); clear tt hb hx))
 go_upto_region 15 with (first | (go_at_call 15; (with_reducible refine (Tb.out.addL (by omega) (by simp) (k := 1) (xs := [-1]) rfl (by omega) (cs := #[.int .i64 (-1)]) rfl).mono ?_); rintro e w11 ⟨he, oo11, tt, hb, hx⟩; rw [hvm1] at he; subst he; (rw [hvm1, if_pos rfl, if_pos rfl] at tt); have Tc := Lib.hid tt; have Bc := Lib.hid (Bb.out.trans hb); have SCc := Lib.hid (SCb.out.left hx); have PFc := Lib.hid (PFb.out.left hx); clear tt hb hx))
 have Td := Lib.hid (show Two w.heap.size w11 2 oo11 b2 ([] ++ [[1]] ++ [[-1]]) hu2 oo7 b1 ([] ++ [[1, 2]] ++ [[-1, 2]]) hr2.1 from Tc.out)
 clear Ta Tb Tc Ba Bb SCa SCb PFa PFb
 go_upto_region 16 with (first | (go_at_call 17; (with_reducible refine (Td.out.solN (by omega) (by simp) 9).mono ?_); rintro e w12 ⟨he, oo12, tt, hb, hx⟩; rw [hq1_oc] at he; subst he; have Te := Lib.hid (show Two w.heap.size w12 2 oo12 b2 ([] ++ [[1]] ++ [[-1]]) hq1.1 oo7 b1 ([] ++ [[1, 2]] ++ [[-1, 2]]) hr2.1 from tt); have Be := Lib.hid (Bc.out.trans hb); have SCe := Lib.hid (SCc.out.left hx); have PFe := Lib.hid (PFc.out.left hx); clear tt hb hx))
 clear Td Bc SCc PFc
 have hpr := Te.out.proofL (by omega)
 rw [hq1_p] at hpr
 have HPR := Lib.hid (show Calls Try.prog 26 #[.pointer (some ⟨b2, 0, none⟩)] w12 fun e w' => ∃ q cq, e = .returned (.slice q 1 cq) ∧ PfAt (fun g => w12.heap.size ≤ g) w' q cq [[]] ∧ Below w12.heap.size w12 w' from hpr)
 clear hpr
 go_upto_region 17 with (first | (go_at_call 26; refine HPR.out.mono ?_; rintro e w13 ⟨qm, cm, rfl, hpf, hb⟩; have HPF := Lib.hid hpf; have HB13 := Lib.hid hb; clear hpf hb))
 have PMf := Lib.hid (HPF.out.imp (K' := Un oo12 oo7) fun g hg _ => Te.out.fresh hg)
 have PFf := Lib.hid (PFe.out.up HB13.out)
 have SCf := Lib.hid (SCe.out.up HB13.out)
 have Tf := Lib.hid (Te.out.up HB13.out)
 have Bf := Lib.hid (Be.out.trans (HB13.out.mono Be.out.size))
 clear HPR HPF HB13 Te SCe PFe Be
 obtain ⟨bp, op, pp1, pc1, rfl, -, -, -, -, -⟩ := PFf.out.at' 1 [2] rfl
 obtain ⟨bm, om, pm1, mc1, rfl, -, -, -, -, -⟩ := PMf.out.at' 0 [] rfl
 go_upto_region 19 with fail
 have HSM1 := Lib.hid (same_lit SCf.out.si)
 dsimp only [List.append]
 go_wp2_with (first | (go_at_call 29; first | ((with_reducible refine HSM1.out.mono ?_); rintro e w14 ⟨rfl, hb⟩; have Tg := Lib.hid (Tf.out.up hb); have Bg := Lib.hid (Bf.out.trans (hb.mono Bf.out.size)); have PMg := Lib.hid (PMf.out.up hb); obtain ⟨ps, cs, y1, hsi⟩ := (PFf.out.up hb).cell (i := 1) (l := [2]) rfl; have HSM2 := Lib.hid (same_lit hsi); have y1a : w14.cell? ⟨bp, op + 3 + 1, none⟩ = some (.slice ps 1 cs) := y1; have y1b : w14.cell? ⟨bp, op + 4, none⟩ = some (.slice ps 1 cs) := y1; clear hb y1 hsi) | ((with_reducible refine HSM2.out.mono ?_); rintro e w15 ⟨rfl, hb⟩; have Th := Lib.hid (Tg.out.up hb); have Bh := Lib.hid (Bg.out.trans (hb.mono Bg.out.size)); have PMh := Lib.hid (PMg.out.up hb); have hcr := core_any Th.out.l.sol (by rw [hq1_c]; simp); rw [hq1_c] at hcr; have HCR2 := Lib.hid (show Calls Try.prog 19 #[.pointer (some ⟨b2, 0, none⟩)] w15 fun e w' => ∃ q cq, e = .returned (.slice q 0 cq) ∧ w'.ownsRow w15.heap.size 3 1 (.slice q 0 cq) 0 (iV []) ∧ Below w15.heap.size w15 w' from hcr); clear hb hcr y1a y1b)) | (go_at_call 19; refine HCR2.out.mono ?_; rintro e w16 ⟨q3, c3, rfl, -, hb⟩; have Ti := Lib.hid (Th.out.up hb).symm; have Bi := Lib.hid (Bh.out.trans (hb.mono Bh.out.size)); obtain ⟨pz, cz, z1, -⟩ := (PMh.out.up hb).cell (i := 0) (l := []) rfl; have z1a : w16.cell? ⟨bm, om + 1, none⟩ = some (.slice pz 0 cz) := (by have z2 := z1; rw [show om + 0 * 3 + 1 = om + 1 by omega] at z2; exact z2); have hv := value_any Ti.out.l.sol 2; rw [hr2_m] at hv; have HV2 := Lib.hid (show Calls Try.prog 18 #[.pointer (some ⟨b1, 0, none⟩), .int .i64 2] w16 fun e w' => e = .returned (.bool false) ∧ w' = w16 from hv); clear hb hv z1) | (go_at_call 18; refine HV2.out.mono ?_; rintro e w17 ⟨rfl, hw⟩; replace hw := hw.symm; subst hw) | (go_at_call 17; first | ((with_reducible refine (Ti.out.solL (by omega) (by simp) (k := 1) (xs := [3]) rfl (by omega) (cs := #[.int .i64 3]) rfl 9).mono ?_); rintro e w18 ⟨he, oo18, tt, hb, hx⟩; rw [hs3_oc] at he; subst he; have Tj := Lib.hid tt; have Bj := Lib.hid (Bi.out.trans hb); clear tt hb hx) | ((with_reducible refine (Tj.out.solN (by omega) (by simp) 0).mono ?_); rintro e w19 ⟨he, oo19, tt, hb, hx⟩; rw [hs0_oc] at he; subst he; have Bk := Lib.hid (Bj.out.trans hb); clear tt hb hx)))
 go_ret
 exact ⟨rfl, Bk.out⟩
end Go.Proofs.Ytdibfjcmgbpnpaa
