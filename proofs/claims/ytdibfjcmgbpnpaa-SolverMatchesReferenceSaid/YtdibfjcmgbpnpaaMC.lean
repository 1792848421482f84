/- Walk of the law SolverMatchesReference. -/
import Derived.Test.YtdibfjcmgbpnpaaLL
namespace Go.Proofs.Ytdibfjcmgbpnpaa
set_option linter.unusedSimpArgs false
set_option linter.unusedVariables false
open Go.RowKit

theorem AcAt.take {w : World} {q : Option Addr} {cq : Nat} {P : List SAct} (h : AcAt w q cq P) (i : Nat) : AcAt w q cq (P.take i) :=
  ⟨by rw [List.length_take]; have := h.le; omega, h.cm, h.q0, fun j x hj => by
    rw [List.getElem?_take] at hj
    split at hj
    · exact h.at' j x hj
    · cases hj⟩
set_option maxRecDepth 100000 in
set_option maxHeartbeats 8000000 in
theorem matches_any {w : World} {x : Nat} (hx : x < 256) {p : Option Addr} {ca : Nat} {l : List SAct} (ha : AcAt w p ca l) :
    Calls Try.prog 3 #[.int .u8 x, .slice p l.length ca] w fun e w' => e = .returned (.bool true) ∧ Below w.heap.size w w' := by
 have hhead := head_any (w := w)
 have hla := ha.le; have hma := ha.cm
 simp only [maxLen] at hma
 have HA := Lib.hid ha; have HH := Lib.hid hhead
 obtain ⟨N, hN⟩ : ∃ z, l.length = z := ⟨_, rfl⟩
 rw [hN] at hla ⊢
 obtain ⟨t, ht⟩ : ∃ z, agreat l = z := ⟨_, rfl⟩
 have HN := Lib.hid hN; have HT := Lib.hid ht
 clear ha hhead hN ht
 go_enter Try.func3, Try.ntmps3
 go_upto_region 2 with (first | (go_at_call 10; refine HH.out.mono ?_; rintro e w1 ⟨rfl, hb⟩; have B1 := Lib.hid hb; clear hb))
 have hgr := great_any (HA.out.up B1.out)
 rw [HN.out, HT.out] at hgr
 have HGR := Lib.hid hgr; clear hgr
 cases t with
 | true =>
   go_wp2_with (first | (go_at_call 11; refine HGR.out.mono ?_; rintro e w2 ⟨rfl, hw⟩; replace hw := hw.symm; subst hw))
   go_ret
   exact ⟨rfl, B1.out⟩
 | false =>
   go_upto_region 4 with (first | (go_at_call 11; refine HGR.out.mono ?_; rintro e w2 ⟨rfl, hw⟩; replace hw := hw.symm; subst hw))
   have hsm : l.length ≤ 60 ∧ ∀ a ∈ l, a.lits.length ≤ 12 := by
     have h := HT.out
     unfold agreat at h
     rw [Bool.or_eq_false_iff, List.any_eq_false] at h
     refine ⟨by have := h.1; simpa using this, fun a ha => ?_⟩
     have := h.2 a ha
     simpa using this
   obtain ⟨n, hn⟩ : ∃ z, x % 9 = z := ⟨_, rfl⟩
   have hn8 : n ≤ 8 := by omega
   have hvr : ∀ w, Calls Try.prog 12 #[.int .u8 x] w fun e w' => e = .returned (.int .i64 (n : Nat)) ∧ w' = w := fun w => by rw [← hn]; exact vars_any hx
   have hmd := fun (wx : World) (hb : Below w.heap.size w wx) => made_any hn8 (HA.out.up hb) hsm.1 hsm.2
   rw [HN.out] at hmd
   have hrl := rcl_le n l
   rw [HN.out] at hrl
   have HSM := Lib.hid hsm; have HVR := Lib.hid hvr; have HMD := Lib.hid hmd
   have hN60 : N ≤ 60 := by rw [← HN.out]; exact hsm.1
   clear hsm hvr hmd hn HGR
   go_upto_region 5 with (first | (go_at_call 12; refine (HVR.out _).mono ?_; rintro e w2 ⟨rfl, hw⟩; replace hw := hw.symm; subst hw))
   have hnew := fun (wx : World) => So.new_any (w := wx) (n := n) (by omega)
   have HNW := Lib.hid hnew
   clear hnew HMD
   go_upto_region 8 with (first | (go_at_call 13; refine (HNW.out w1).mono ?_; rintro e w4 ⟨b1, o1, rfl, hso, hb⟩; have HS1 := Lib.hid hso; have W1 := Lib.hid hb; have B2 := Lib.hid (B1.out.trans (hb.mono B1.out.size)); clear hso hb))
   clear HNW
   go_wp2_with fail
   go_loopg [8] N (fun G s8 wr => ∃ (i : Nat) (o : Nat → Option Role) (s1 : SS), s8 = .int .i64 i ∧ i ≤ N ∧ G = N - i ∧ So w1.heap.size wr o b1 n (rcl n (l.take i)) s1 ∧ Below w.heap.size w wr ∧ w1.heap.size ≤ wr.heap.size)
   case atStart => exact ⟨0, o1, snew n, rfl, by omega, rfl, HS1.out, B2.out, W1.out.size⟩
   case round =>
    obtain ⟨i, o, s1, rfl, hi, hG, hso, hbw, hz⟩ := hrel
    have HG := Lib.hid hG; have HS := Lib.hid hso; have HBW := Lib.hid hbw; have HZ := Lib.hid hz
    clear hG hso hbw hz HS1 B2 W1
    obtain ⟨w5, hw5⟩ : ∃ z, z = wr := ⟨_, rfl⟩
    subst hw5
    by_cases hlt : i < N
    case neg =>
     obtain rfl : i = N := by omega
     go_wp2_with fail
     go_ret
     exact ⟨rfl, HBW.out⟩
    case pos =>
     obtain ⟨x, hx⟩ : ∃ x, l[i]? = some x := ⟨_, List.getElem?_eq_getElem (by rw [HN.out]; exact hlt)⟩
     obtain ⟨g1, off, p1, c1, rfl, x0, x1, -, hsi, -⟩ := HA.out.at' i x hx
     have hla' := HSM.out.2 x (List.mem_of_getElem? hx)
     obtain ⟨X, hX⟩ : ∃ z, x.lits.length = z := ⟨_, rfl⟩
     rw [hX] at x1
     have X01 := Lib.hid x1
     replace x0 := oldcell HBW.out x0 (World.block_lt_of_cell? _ _ x0); replace x1 := oldcell HBW.out x1 (World.block_lt_of_cell? _ _ x1)
     have hil : (i : Int) < (N : Int) := by omega
     have hval := rvalid21_any (hsi.up HBW.out) (by omega) n (by omega)
     have hvb := vlit_badl n x.lits
     have hlow : x.lits ≠ [] → ∀ a, p1 = some a → a.block < w1.heap.size := fun h0 a ha => Nat.lt_of_lt_of_le (hsi.lt h0 a ha) B1.out.size
     have hrl' : (rcl n (l.take i)).length ≤ 60 := by have h1 := rcl_le n (l.take i); rw [List.length_take] at h1; omega
     have hadd := HS.out.add_any (by omega) (by omega) (hsi.up HBW.out) (by omega) (fun h0 a ha => .inl (hlow h0 a ha)) HZ.out
     have hsv := fun (wx : World) (hb : Below w5.heap.size w5 wx) => (HS.out.up hb).solve_any (by omega) (by omega) (hsi.up (btr HBW.out hb)) (by omega) (fun h0 a ha => .inl (hlow h0 a ha)) 6561 (Nat.le_trans HZ.out hb.size)
     have hstep := rcl_take_snoc (n := n) hx
     have hokA := HS.out.gd.sv.ok
     have hvt := vlit_iff (n := n) (l := x.lits)
     obtain ⟨t, ht⟩ : ∃ z, vlit n x.lits = z := ⟨_, rfl⟩
     obtain ⟨sv, hsvv⟩ : ∃ z, x.solve = z := ⟨_, rfl⟩
     rw [hvb, ht, hX] at hval
     rw [ht, hX] at hadd
     rw [hX] at hsv
     rw [ht, hsvv] at hstep
     rw [hsvv] at x0
     rw [ht] at hvt
     have HVAL := Lib.hid hval; have HAD := Lib.hid hadd; have HSV := Lib.hid hsv; have HST := Lib.hid hstep; have HOKA := Lib.hid hokA; have HSI := Lib.hid hsi; have HX := Lib.hid hX; have HVT := Lib.hid hvt
     clear hval hvb hlow hadd hsv hstep hokA hsi hX hsvv hla' hrl' hx ht hvt
     cases sv with
     | false =>
       clear HSV
       cases t with
       | false =>
         go_wp2_with (first | (go_at_call 14; refine HVAL.out.mono ?_; rintro e wv ⟨rfl, hw⟩; replace hw := hw.symm; subst hw) | (go_at_call 15; refine HAD.out.mono ?_; rintro e w6 ⟨rfl, o6, hs6, hx6⟩; have HS6 := Lib.hid hs6; have hlw := (hx6.low HS.out.tag HZ.out).1; have HB6 := Lib.hid (HBW.out.trans (hlw.mono B1.out.size)); have HZ6 := Lib.hid (Nat.le_trans HZ.out hlw.size); clear hs6 hx6 hlw))
         go_roundg (N - (i + 1))
         case measure => (have := HG.out; omega)
         case rel => exact ⟨i + 1, o6, s1, by go_num, by omega, rfl, by rw [HST.out]; simpa using HS6.out, HB6.out, HZ6.out⟩
       | true =>
         go_wp2_with (first | (go_at_call 14; refine HVAL.out.mono ?_; rintro e wv ⟨rfl, hw⟩; replace hw := hw.symm; subst hw) | (go_at_call 15; refine HAD.out.mono ?_; rintro e w6 ⟨rfl, o6, hs6, hx6⟩; have HS6 := Lib.hid hs6; have hlw := (hx6.low HS.out.tag HZ.out).1; have HB6 := Lib.hid (HBW.out.trans (hlw.mono B1.out.size)); have HZ6 := Lib.hid (Nat.le_trans HZ.out hlw.size); clear hs6 hx6 hlw))
         go_roundg (N - (i + 1))
         case measure => (have := HG.out; omega)
         case rel => exact ⟨i + 1, o6, s1.add x.lits, by go_num, by omega, rfl, by rw [HST.out]; simpa using HS6.out, HB6.out, HZ6.out⟩
     | true =>
       clear HAD
       have hful := full_any HS.out (by omega)
       have hdn := gd_done HS.out.gd x.lits 6561
       have hkn := fun (hp : s1.proof.length < 13000) (hv : ∀ y ∈ x.lits, LOk n y) => gd_known HS.out.gd hn8 hp hv
       have hbad := fun (hv : ¬ ∀ y ∈ x.lits, LOk n y) => (solve_bad (fuel := 6561) HS.out.gd.sv HS.out.gd.nomk (fun q => hv q.1)).2.1
       obtain ⟨⟨S, oc⟩, hS⟩ : ∃ z, solve s1 x.lits 6561 = z := ⟨_, rfl⟩
       rw [hS] at hdn hkn hbad
       have hsv := HSV.out
       rw [hS] at hsv
       dsimp only at hdn hkn hbad hsv
       have HDN := Lib.hid hdn; have HKN := Lib.hid hkn; have HBAD := Lib.hid hbad; have HSV2 := Lib.hid hsv
       clear hdn hkn hbad hsv hS HSV
       by_cases hf : 10000 ≤ s1.proof.length
       case pos =>
         rw [decide_eq_true hf] at hful
         have HF := Lib.hid hful; clear hful hf
         go_wp2_with (first | (go_at_call 14; refine HVAL.out.mono ?_; rintro e wv ⟨rfl, hw⟩; replace hw := hw.symm; subst hw) | (go_at_call 16; refine HF.out.mono ?_; rintro e w7 ⟨rfl, hb⟩; have B4 := Lib.hid (HBW.out.trans (hb.mono HBW.out.size)); clear hb))
         go_ret
         exact ⟨rfl, B4.out⟩
       case neg =>
       rw [decide_eq_false hf] at hful
       have HF := Lib.hid hful; have HLEN := Lib.hid hf; clear hful hf
       go_upto_region 18 with (first | (go_at_call 14; refine HVAL.out.mono ?_; rintro e wv ⟨rfl, hw⟩; replace hw := hw.symm; subst hw) | (go_at_call 16; refine HF.out.mono ?_; rintro e w6 ⟨rfl, hb⟩; have HB6 := Lib.hid hb; replace x1 := oldcell hb x1 (World.block_lt_of_cell? _ _ x1); clear hb) | (go_at_call 17; refine (HSV2.out _ HB6.out).mono ?_; rintro e w7 ⟨rfl, o7, hs7, hx7⟩; have HS7 := Lib.hid hs7; have hlw := (hx7.low HS.out.tag (Nat.le_trans HZ.out HB6.out.size)).1; have HB7 := Lib.hid ((btr HBW.out HB6.out).trans (hlw.mono B1.out.size)); have HZ7 := Lib.hid (Nat.le_trans (Nat.le_trans HZ.out HB6.out.size) hlw.size); replace x1 := oldcell HB7.out X01.out (World.block_lt_of_cell? _ _ X01.out); clear hs7 hx7 hlw))
       clear HSV2 HF HB6
       have hval := fun (wx : World) (hb : Below w7.heap.size w7 wx) (v : Int) => value_any (HS7.out.up hb).sol v
       have hcr := fun (wx : World) (hb : Below w7.heap.size w7 wx) (hc : S.core = []) => core_any (HS7.out.up hb).sol (by rw [hc]; simp)
       have HVA := Lib.hid hval; have HCR := Lib.hid hcr
       clear hval hcr
       cases t with
       | false =>
         have h0 := HBAD.out (fun q => by have := HVT.out.2 q; cases this)
         subst h0
         obtain ⟨hco, hmo⟩ := HDN.out.unk rfl
         have h1 := HVA.out w7 (Below.refl _ _) 1
         have h2 := HCR.out w7 (Below.refl _ _) hco
         dsimp only at hco hmo
         rw [hmo, show (decide (0 < (1 : Int)) && decide ((1 : Int) < (([] : List Int).length : Int)) && decide (0 < ([] : List Int).getD (1 : Int).toNat 0)) = false by decide] at h1
         rw [hco] at h2
         have H1 := Lib.hid h1; have H2 := Lib.hid h2
         clear h1 h2 hco hmo
         go_wp2_with (first | (go_at_call 18; refine H1.out.mono ?_; rintro e wv ⟨rfl, hw⟩; replace hw := hw.symm; subst hw) | (go_at_call 19; refine H2.out.mono ?_; rintro e w8 ⟨qk, ck, rfl, how, hb⟩; have HB8 := Lib.hid hb; clear how hb))
         go_roundg (N - (i + 1))
         case measure => (have := HG.out; omega)
         case rel => exact ⟨i + 1, o7, S, by go_num, by omega, rfl, by rw [HST.out]; simpa using HS7.out.up HB8.out, btr HB7.out HB8.out, Nat.le_trans HZ7.out HB8.out.size⟩
       | true =>
       have hvo := HVT.out.1 rfl
       have h0 := HKN.out (by have := HLEN.out; omega) hvo
       have hcl := fun (wx : World) (hb : Below w7.heap.size w7 wx) => clauses_any (HA.out.take i) (btr HB7.out hb) (n := n) (by omega) (by have := HSM.out.1; rw [List.length_take]; omega) (fun a ha => HSM.out.2 a (List.mem_of_mem_take ha))
       rw [show (l.take i).length = i by rw [List.length_take, HN.out]; omega] at hcl
       have hle := fun (wx : World) (hb : Below w7.heap.size w7 wx) (K : Nat → Prop) (qc : Option Addr) (cc : Nat) (hc : CsAt K wx qc cc (rcl n (l.take i))) => least_any (n := n) (by omega) hc HOKA.out (HSI.out.up (btr HB7.out hb)) hvo
       have hls := HDN.out.least HOKA.out hvo
       dsimp only at hls
       rw [HX.out] at hle
       have HCL := Lib.hid hcl; have HLE := Lib.hid hle; have HLS := Lib.hid hls
       have hSB := HB7.out
       have hoc := HDN.out.oc
       dsimp only at hoc
       have HOC := Lib.hid hoc; have H0 := Lib.hid h0; have HVO := Lib.hid hvo
       clear hcl hle hls hSB hoc h0 hvo HVAL HBAD HKN HVT HLEN X01
       have hica : (i : Int) ≤ (ca : Int) := by omega
       have hica2 : i ≤ ca := by omega
       go_upto_region 21 with fail

       refine wp_region_seqE (fun x => Below w7.heap.size w7 x) (.one 0 1 (.one 1 1 (.one 2 1 (.one 3 1 (.one 4 1 (.one 6 1 (.one 7 1 (.one 8 1 (.one 9 1 (.one 10 0 (.alt 5 2 (.alt 11 3 (.one 12 1 (.one 13 1 (.one 14 1 (.one 15 1 (.one 16 1 .nil))))) .stop) .stop))))))))))) (by kernel_rfl) (by kernel_rfl) (by kernel_rfl) (Below.drew (Below.refl _ _)) ?_
       iterate 10 (first | (refine seqE_free (v := ?_) rfl (by rfl) ?_ ?_; rotate_left; (focus (intro w; go_simp; try with_reducible rfl)); (try simp only [Act.put, List.setIfInBounds_toArray, List.set_cons_zero, List.set_cons_succ])) | (refine seqE_pure (v := ?_) rfl (by rfl) ?_ ?_; rotate_left; (focus (intro w hS; have x1 := oldcell hS x1 (World.block_lt_of_cell? _ _ x1); go_simp; try with_reducible rfl)); (try simp only [Act.put, List.setIfInBounds_toArray, List.set_cons_zero, List.set_cons_succ])))
       refine seqE_call (f := ?_) (args := ?_) rfl (by rfl) ?_ ?_ seqE_stop
       rotate_left 2
       focus (intro w hS; go_simp; first | done | with_reducible rfl | (refine ⟨?_, ?_⟩ <;> with_reducible rfl))
       intro wq hS
       refine (HCL.out wq hS).mono ?_
       rintro e w8 ⟨qc, cc, rfl, hcs, hb8⟩
       refine ⟨_, rfl, fun x => Below w8.heap.size w8 x, Below.refl _ _, fun x hx => btr (btr hS hb8) hx, ?_⟩
       have HCS := Lib.hid hcs; have HB8 := Lib.hid (btr hS hb8)
       clear hS hcs hb8
       (try simp only [Act.put, List.setIfInBounds_toArray, List.set_cons_zero, List.set_cons_succ])
       refine seqE_callB (f := ?_) (args := ?_) rfl (by rfl) ?_ ?_ seqE_stop
       rotate_left 2
       focus (intro w hS; go_simp; first | done | with_reducible rfl | (refine ⟨?_, ?_⟩ <;> with_reducible rfl))
       intro wq hS
       refine (HLE.out wq (btr HB8.out hS) _ _ _ (HCS.out.up hS)).mono ?_
       rintro e w9 ⟨⟨pv, cv, vs, ok, rfl, hsb, hok⟩, hb9⟩
       refine ⟨_, rfl, fun x => Below w9.heap.size w9 x, Below.refl _ _, ?_⟩
       have HSB := Lib.hid hsb; have HOK := Lib.hid hok; have HB9 := Lib.hid (btr HB8.out (btr hS hb9))
       clear hS hsb hok hb9
       (try simp only [Act.put, List.setIfInBounds_toArray, List.set_cons_zero, List.set_cons_succ])
       iterate 5 (refine seqE_free (v := ?_) rfl (by rfl) ?_ ?_; rotate_left; (focus (intro w; go_simp; try with_reducible rfl)); (try simp only [Act.put, List.setIfInBounds_toArray, List.set_cons_zero, List.set_cons_succ]))
       refine seqE_nil ?_
       intro w10 hS
       have hsb := HSB.out.up hS
       have HSB10 := Lib.hid hsb
       have HB10 := Lib.hid (btr HB9.out hS)
       clear hS hsb HSB HB9 HCL HLE HCS HB8
       have hva := HVA.out w10 HB10.out
       have hcr := HCR.out w10 HB10.out
       have B6 := Lib.hid (btr HB7.out HB10.out)
       have HS10 := Lib.hid (HS7.out.up HB10.out)
       have HZ10 := Lib.hid (Nat.le_trans HZ7.out HB10.out.size)
       clear HVA HCR HS7 HZ7 x0 x1
       obtain ⟨n1, hn1⟩ : ∃ z, n + 1 = z := ⟨_, rfl⟩
       have hwn1 : IntKind.i64.wrap ((n : Int) + 1) = (n1 : Int) := by rw [wrapI (by omega) (by omega)]; omega
       rcases HOC.out with h | h | h
       · exact absurd h H0.out
       · subst h
         have hl1 := (HLS.out.1 rfl).symm.trans HOK.out
         obtain ⟨hco, hbe⟩ := HDN.out.yes rfl
         dsimp only at hco hbe
         cases ok with
         | false => rw [if_neg (by decide)] at hl1; cases hl1
         | true =>
         rw [if_pos rfl] at hl1
         have hvs : mvals n S.model = vs := Option.some.inj hl1
         have hvl : vs.length = n := by rw [← hvs]; exact mvals_len _ _
         have hml := hbe.len
         have hcr2 := hcr hco
         rw [hco] at hcr2
         have hv1 : ∀ v : Nat, v < n → Calls Try.prog 18 #[.pointer (some ⟨b1, 0, none⟩), .int .i64 ((v + 1 : Nat) : Int)] w10 fun e w' => e = .returned (.bool (vs.getD v false)) ∧ w' = w10 := fun v hv => by
           have h := hva ((v + 1 : Nat) : Int)
           rw [decide_eq_true (show (0 : Int) < ((v + 1 : Nat) : Int) by omega), decide_eq_true (show ((v + 1 : Nat) : Int) < (S.model.length : Int) by rw [hml]; omega), Int.toNat_natCast, Bool.true_and, Bool.true_and, ← mvals_get hv, hvs] at h
           exact h
         have hv0 : Calls Try.prog 18 #[.pointer (some ⟨b1, 0, none⟩), .int .i64 0] w10 fun e w' => e = .returned (.bool false) ∧ w' = w10 := hva 0
         have hvn : Calls Try.prog 18 #[.pointer (some ⟨b1, 0, none⟩), .int .i64 n1] w10 fun e w' => e = .returned (.bool false) ∧ w' = w10 := by
           have h := hva (n1 : Int)
           rw [decide_eq_false (show ¬ (n1 : Int) < (S.model.length : Int) by rw [hml]; omega), Bool.and_false, Bool.false_and] at h
           exact h
         have HV1 := Lib.hid hv1; have HV0 := Lib.hid hv0; have HVN := Lib.hid hvn; have HCR2 := Lib.hid hcr2; have HVL := Lib.hid hvl
         clear hv1 hv0 hvn hcr2 hva hcr hvs hml hbe hco hl1 hvl
         rw [HVL.out]
         go_wp2_with fail
         go_loopg [13] n (fun G s13 wr => ∃ v : Nat, s13 = .int .i64 (v + 1 : Nat) ∧ v ≤ n ∧ G = n - v ∧ wr = w10)
         case atStart => exact ⟨0, rfl, by omega, by omega, rfl⟩
         case round =>
          obtain ⟨v, rfl, hv2, hG, hw⟩ := hrel
          replace hw := hw.symm; subst hw
          have HG2 := Lib.hid hG; clear hG
          obtain ⟨v1, hv1⟩ : ∃ z, v + 1 = z := ⟨_, rfl⟩
          by_cases hlv : v < n
          case pos =>
           have h3 := HV1.out v hlv
           obtain ⟨gv, ov, rfl, hbl, y0⟩ := bool_cell HSB10.out.at' (i := v) (by rw [HVL.out]; exact hlv)
           obtain ⟨T, hT⟩ : ∃ z, vs.getD v false = z := ⟨_, rfl⟩
           rw [hT] at h3 y0
           rw [hv1] at h3 ⊢
           have hvi : (v1 : Int) ≤ (n : Int) := by omega
           have hwv : IntKind.i64.wrap ((v1 : Int) - 1) = (v : Int) := by rw [wrapI (by omega) (by omega)]; omega
           obtain ⟨v2, hv22⟩ : ∃ z, v1 + 1 = z := ⟨_, rfl⟩
           have hwv2 : IntKind.i64.wrap ((v1 : Int) + 1) = (v2 : Int) := by rw [wrapI (by omega) (by omega)]; omega
           have hvni : (v : Int) < (n : Int) := by omega
           have H3 := Lib.hid h3; have HV11 := Lib.hid hv1
           clear h3 hT hbl hv1
           cases T with
           | true =>
             go_wp2_with (first | (go_at_call 18; refine H3.out.mono ?_; rintro e w11 ⟨rfl, hw⟩; replace hw := hw.symm; subst hw))
             go_roundg (n - v1)
             case measure => (have := HG2.out; have := HV11.out; omega)
             case rel => exact ⟨v1, by rw [hv22], by omega, rfl, rfl⟩
           | false =>
             go_wp2_with (first | (go_at_call 18; refine H3.out.mono ?_; rintro e w11 ⟨rfl, hw⟩; replace hw := hw.symm; subst hw))
             go_roundg (n - v1)
             case measure => (have := HG2.out; have := HV11.out; omega)
             case rel => exact ⟨v1, by rw [hv22], by omega, rfl, rfl⟩
          case neg =>
           obtain rfl : v = n := by omega
           rw [hv1]
           have hvi : ¬ (v1 : Int) ≤ (v : Int) := by omega
           obtain rfl : n1 = v1 := by omega
           clear hv1
           go_wp2_with (first | (go_at_call 18; first | ((with_reducible refine HV0.out.mono ?_); rintro e w11 ⟨rfl, hw⟩; replace hw := hw.symm; subst hw) | ((with_reducible refine HVN.out.mono ?_); rintro e w11 ⟨rfl, hw⟩; replace hw := hw.symm; subst hw)) | (go_at_call 19; refine HCR2.out.mono ?_; rintro e w12 ⟨qk, ck, rfl, how, hb⟩; have HB12 := Lib.hid hb; clear how hb))
           go_roundg (N - (i + 1))
           case measure => (have := HG.out; omega)
           case rel => exact ⟨i + 1, o7, S, by go_num, by omega, rfl, by rw [HST.out]; simpa using HS10.out.up HB12.out, btr B6.out HB12.out, Nat.le_trans HZ10.out HB12.out.size⟩
       · subst h
         have hl1 := (HLS.out.2 rfl).symm.trans HOK.out
         have hmo := (HDN.out.no rfl).1
         dsimp only at hmo
         cases ok with
         | true => rw [if_pos rfl] at hl1; cases hl1
         | false =>
         have hv1 : ∀ v : Int, Calls Try.prog 18 #[.pointer (some ⟨b1, 0, none⟩), .int .i64 v] w10 fun e w' => e = .returned (.bool false) ∧ w' = w10 := fun v => by
           have h := hva v
           rw [hmo] at h
           have e : (decide (0 < v) && decide (v < (([] : List Int).length : Int)) && decide (0 < ([] : List Int).getD v.toNat 0)) = false := by
             by_cases q : v < 0
             · rw [decide_eq_false (show ¬ 0 < v by omega)]; rfl
             · rw [decide_eq_false (show ¬ v < (([] : List Int).length : Int) by simpa using q), Bool.and_false]; rfl
           rw [e] at h
           exact h
         have HV1 := Lib.hid hv1
         clear hv1 hva hcr hmo hl1
         obtain ⟨LV, hLV⟩ : ∃ z, vs.length = z := ⟨_, rfl⟩
         rw [hLV]
         clear hLV
         go_wp2_with fail
         go_loopg [13] n (fun G s13 wr => ∃ v : Nat, s13 = .int .i64 (v + 1 : Nat) ∧ v ≤ n ∧ G = n - v ∧ wr = w10)
         case atStart => exact ⟨0, rfl, by omega, by omega, rfl⟩
         case round =>
          obtain ⟨v, rfl, hv2, hG, hw⟩ := hrel
          replace hw := hw.symm; subst hw
          have HG2 := Lib.hid hG; clear hG
          obtain ⟨v1, hv1⟩ : ∃ z, v + 1 = z := ⟨_, rfl⟩
          rw [hv1]
          by_cases hlv : v < n
          case pos =>
           have hvi : (v1 : Int) ≤ (n : Int) := by omega
           obtain ⟨v2, hv22⟩ : ∃ z, v1 + 1 = z := ⟨_, rfl⟩
           have hwv2 : IntKind.i64.wrap ((v1 : Int) + 1) = (v2 : Int) := by rw [wrapI (by omega) (by omega)]; omega
           have HV11 := Lib.hid hv1
           clear hv1
           go_wp2_with (first | (go_at_call 18; refine (HV1.out _).mono ?_; rintro e w11 ⟨rfl, hw⟩; replace hw := hw.symm; subst hw))
           go_roundg (n - v1)
           case measure => (have := HG2.out; have := HV11.out; omega)
           case rel => exact ⟨v1, by rw [hv22], by omega, rfl, rfl⟩
          case neg =>
           have hvi : ¬ (v1 : Int) ≤ (n : Int) := by omega
           clear hv1
           go_wp2_with (first | (go_at_call 18; refine (HV1.out _).mono ?_; rintro e w11 ⟨rfl, hw⟩; replace hw := hw.symm; subst hw))
           go_roundg (N - (i + 1))
           case measure => (have := HG.out; omega)
           case rel => exact ⟨i + 1, o7, S, by go_num, by omega, rfl, by rw [HST.out]; simpa using HS10.out, B6.out, HZ10.out⟩
theorem matches_row (x : Nat) (l : List SAct) (p : Option Addr) (ca : Nat) (w : World) (hx : x < 256) (ha : AcAt w p ca l) :
    Calls Try.prog 3 #[.int .u8 x, .slice p l.length ca] w fun e w' => e = .returned (.bool true) ∧ Below w.heap.size w w' := matches_any hx ha
end Go.Proofs.Ytdibfjcmgbpnpaa
