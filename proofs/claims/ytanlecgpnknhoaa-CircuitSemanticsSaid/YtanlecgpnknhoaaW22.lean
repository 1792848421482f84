/- Walk of CircuitSemantics. -/
import Derived.Test.YtanlecgpnknhoaaW17
import Derived.Test.YtanlecgpnknhoaaPlain6
import Derived.Test.YtanlecgpnknhoaaSeq
namespace Go.Proofs.Ytanlecgpnknhoaa
set_option linter.unusedSimpArgs false
set_option linter.unusedVariables false
open Go.RowKit

set_option maxRecDepth 100000 in
set_option maxHeartbeats 8000000 in
theorem semantics_any (l : List Step) (p0 : Option Addr) (cap0 : Nat) (a : Nat) (b : Nat) (v : Nat) (vals : List Bool) (pv : Option Addr) (cv : Nat) (w : World) (hl : l.length ≤ maxLen) (hs : ∀ s ∈ l, s.k < 256 ∧ s.a < 256 ∧ s.b < 256) (hg : StepsAt w p0 l) (ha : a < 256) (hb : b < 256) (hv : v < 256) (hvalsl : vals.length ≤ maxLen) (hvals : BoolsAt w pv vals) :
    Calls Try.prog 5 #[.slice p0 l.length cap0, .int .u8 a, .int .u8 b, .int .u8 v, .slice pv vals.length cv] w (RetB w true) := by
  unfold maxLen at hl hvalsl
  have Hs := Lib.hid hs; have Hg := Lib.hid hg; clear hs hg
  have Hvals := Lib.hid hvals; clear hvals
  by_cases h60l : (60 : Int) < (l.length : Int)
  · go_enter Try.func5, Try.ntmps5
    go_wp2_with (first | (go_at_call 17; refine (head_any _).mono ?_; rintro e w1 ⟨rfl, hb1⟩))
    go_ret
    exact ⟨rfl, by first | exact hb1 | go_grown⟩
  by_cases h60vals : (60 : Int) < (vals.length : Int)
  · go_enter Try.func5, Try.ntmps5
    go_wp2_with (first | (go_at_call 17; refine (head_any _).mono ?_; rintro e w1 ⟨rfl, hb1⟩))
    go_ret
    exact ⟨rfl, by first | exact hb1 | go_grown⟩
  have HB := Lib.hid (built l (by omega))
  have Hle := Lib.hid (cbuild_le l)
  have Hlen := Lib.hid HB.out.len
  obtain ⟨c, refs, hcb⟩ : ∃ c refs, cbuild l = (c, refs) := ⟨_, _, rfl⟩
  have Hcb := Lib.hid hcb
  have HG := Lib.hid (show Good c by have := HB.out.good; rw [hcb] at this; exact this)
  have HR := Lib.hid (show RefsIn refs c.length by have := HB.out.refs; rw [hcb] at this; exact this)
  have hc : 0 < c.length := HG.out.ne
  have hcl : c.length ≤ 181 := by have := Hlen.out; rw [hcb] at this; dsimp only at this; omega
  have hrl : refs.length ≤ 60 := by have := Hle.out.2.2; rw [hcb] at this; dsimp only at this; omega
  have Hr := Lib.hid (show ∀ r ∈ refs, r ≤ 9223372036854775807 from fun r hr => by have := Hle.out.2.1 r (by rw [hcb]; exact hr); omega)
  clear HB Hle Hlen hcb
  have hl2 : c.length ≤ 20000 := by omega
  have hl3 : c.length + 3 ≤ 20000 := by omega
  obtain ⟨x, hx⟩ : ∃ z, cpick refs a = z := ⟨_, rfl⟩
  have x1 : 0 ≤ x := by have := (cpick_in HR.out hc a).1; rw [hx] at this; exact this
  have x2 : x < 2 * (c.length : Int) := by have := (cpick_in HR.out hc a).2; rw [hx] at this; exact this
  have Px := Lib.hid hx; clear hx
  have xm : x ≤ 9223372036854775807 := by omega
  obtain ⟨y, hy⟩ : ∃ z, cpick refs b = z := ⟨_, rfl⟩
  have y1 : 0 ≤ y := by have := (cpick_in HR.out hc b).1; rw [hy] at this; exact this
  have y2 : y < 2 * (c.length : Int) := by have := (cpick_in HR.out hc b).2; rw [hy] at this; exact this
  have Py := Lib.hid hy; clear hy
  have ym : y ≤ 9223372036854775807 := by omega
  obtain ⟨N, hN⟩ : ∃ N : Nat, v % 20 = N := ⟨_, rfl⟩
  have hN2 : (v : Int) % 20 = (N : Int) := by omega
  have hN3 : N ≤ 19 := by omega
  have HN := Lib.hid hN2; clear hN hN2
  obtain ⟨D, i1, e1⟩ : ∃ D p, cand c x y = (D, p) := ⟨_, _, rfl⟩
  obtain ⟨E, i2, e2⟩ : ∃ D p, cor c x y = (D, p) := ⟨_, _, rfl⟩
  obtain ⟨F, i3, e3⟩ : ∃ D p, ciff c x y = (D, p) := ⟨_, _, rfl⟩
  obtain ⟨G, i4, e4⟩ : ∃ D p, cinput c ((N : Int) + 1) = (D, p) := ⟨_, _, rfl⟩
  obtain ⟨P, hP⟩ : ∃ z, ceval c vals x = z := ⟨_, rfl⟩
  obtain ⟨Q, hQ⟩ : ∃ z, ceval c vals y = z := ⟨_, rfl⟩
  have E1 := Lib.hid e1; have E2 := Lib.hid e2; have E3 := Lib.hid e3; have E4 := Lib.hid e4
  have dk := keeps_and HG.out (by omega) x1 x2 y1 y2; rw [e1] at dk
  have ek := keeps_or HG.out (by omega) x1 x2 y1 y2; rw [e2] at ek
  have fk := keeps_iff HG.out (by omega) x1 x2 y1 y2; rw [e3] at fk
  have gk := keeps_input (v := (N : Int) + 1) HG.out (by omega) (by omega) (by omega); rw [e4] at gk
  have dl := dk.len; have el := ek.len; have fl := fk.len; have gl := gk.len
  dsimp only at dl el fl gl
  have dl2 : D.length ≤ 20000 := by omega
  have el2 : E.length ≤ 20000 := by omega
  have fl2 : F.length ≤ 20000 := by omega
  have gl2 : G.length ≤ 20000 := by omega
  have WC := Lib.hid HG.out.wf; have WD := Lib.hid dk.good.wf; have WE := Lib.hid ek.good.wf; have WF := Lib.hid fk.good.wf; have WG := Lib.hid gk.good.wf
  have HP := Lib.hid hP; have HQ := Lib.hid hQ
  have SN := Lib.hid (show ceval c vals (cnot x) = !P by rw [sem_not vals x1 x2, hP])
  have SA := Lib.hid (show ceval D vals i1 = (P && Q) by have := sem_and vals x1 x2 HG.out hl3 y1 y2; rw [e1, hP, hQ] at this; exact this)
  have SO := Lib.hid (show ceval E vals i2 = (P || Q) by have := sem_or vals x1 x2 HG.out hl3 y1 y2; rw [e2, hP, hQ] at this; exact this)
  have SI := Lib.hid (show ceval F vals i3 = (P == Q) by have := sem_iff vals x1 x2 HG.out hl3 y1 y2; rw [e3, hP, hQ] at this; exact this)
  have SG := Lib.hid (show ceval G vals i4 = (decide (((N : Int) + 1) ≤ vals.length) && vals.getD (((N : Int) + 1) - 1).toNat false) by have := sem_input (c := c) (v := (N : Int) + 1) vals HG.out hl3 (by omega) (by omega); rw [e4] at this; exact this)
  have ST := Lib.hid (sem_true vals HG.out)
  have hvm : vals.length ≤ maxLen := by unfold maxLen; omega
  have xnm : cnot x ≤ 9223372036854775807 := cnot_le xm
  clear e1 e2 e3 e4 dk ek fk gk hP hQ dl el fl gl
  go_enter Try.func5, Try.ntmps5
  go_upto_region 4 with (first | (go_at_call 17; refine (head_any _).mono ?_; rintro e w1 ⟨rfl, hb1⟩))
  have hsz := hb1.size
  go_cut [12, 13] (fun s12 s13 wx => ∃ (b12 : Nat) (q : Option Addr) (cq : Nat), s12 = .pointer (some ⟨b12, 0, none⟩) ∧ s13 = .slice q refs.length cq ∧ w.heap.size ≤ b12 ∧ Bx wx b12 c ∧ IntsAt wx q refs ∧ Below w.heap.size w wx)
  case first =>
    go_wp2_with (first | (go_at_call 36; refine (build_any l _ _ _ (by omega) Hs.out (Hg.out.mono (by go_grown))).mono ?_; rintro e w2 ⟨p2, cap2, q2, cq2, rfl, u1, u2, u3, u4, u5, u6, u7, u8, hbl⟩; rw [Hcb.out] at u1 u4 u5 u8; dsimp only at u1 u4 u5 u8; rw [Hcb.out]; dsimp only))
    have hs2 := hbl.size
    go_meet
    exact ⟨_, _, _, rfl, rfl, by omega, Bx.new ⟨u1, u2, u3, u4⟩ _, u8.mono (by go_grown), bal (btr hb1 hbl) _⟩
  case rest =>
    clear hb1 hsz
    obtain ⟨b12, q, cq, rfl, rfl, hb12, hB12, hq, hW⟩ := hcut
    go_upto_region 7 with (first | (go_at_call 37; (with_reducible refine (pick_any refs a q cq _ (by assumption) (by omega) Hr.out (hq.mono (by go_grown))).mono ?_); rintro e w' ⟨rfl, rfl⟩; rw [Px.out]) | (go_at_call 37; (with_reducible refine (pick_any refs b q cq _ (by assumption) (by omega) Hr.out (hq.mono (by go_grown))).mono ?_); rintro e w' ⟨rfl, rfl⟩; rw [Py.out]))
    go_upto_region 7 with fail
    have hlt := hB12.lt
    obtain ⟨p, cap, k1, k1f, hC⟩ := id hB12
    go_cut [16] (fun s16 wx => s16 = .bool P ∧ Bx wx b12 c ∧ Below w.heap.size w wx)
    case first =>
      as_aux_lemma =>
        go_wp2_with (first | (go_at_call 30; refine (eval_is hC (Below.refl _ _) (Hvals.out.mono hW) WC.out HP.out rfl hl2 hvm).mono ?_; rintro e w2 ⟨rfl, hbl⟩))
        go_meet
        exact ⟨rfl, hB12.up hbl, btr hW hbl⟩
    case rest =>
      clear hlt k1 k1f hC hB12 hW
      obtain ⟨rfl, hB12, hW⟩ := hcut
      go_upto_region 8 with fail
      have hlt := hB12.lt
      obtain ⟨p, cap, k1, k1f, hC⟩ := id hB12
      go_cut [17] (fun s17 wx => s17 = .bool Q ∧ Bx wx b12 c ∧ Below w.heap.size w wx)
      case first =>
        as_aux_lemma =>
          go_wp2_with (first | (go_at_call 30; refine (eval_is hC (Below.refl _ _) (Hvals.out.mono hW) WC.out HQ.out rfl hl2 hvm).mono ?_; rintro e w2 ⟨rfl, hbl⟩))
          go_meet
          exact ⟨rfl, hB12.up hbl, btr hW hbl⟩
      case rest =>
        clear hlt k1 k1f hC hB12 hW
        obtain ⟨rfl, hB12, hW⟩ := hcut
        go_upto_region 9 with fail
        have hlt := hB12.lt
        obtain ⟨p, cap, k1, k1f, hC⟩ := id hB12
        go_cut [18, 19] (fun s18 s19 wx => ∃ b18 : Nat, s18 = .pointer (some ⟨b18, 0, none⟩) ∧ w.heap.size ≤ b18 ∧ s19 = .int .i64 i1 ∧ Bx wx b18 D ∧ Bx wx b12 c ∧ Below w.heap.size w wx)
        case first =>
          as_aux_lemma =>
            go_wp2_with (first | (go_at_call 21; refine (and_is hC (Below.refl _ _) xm ym hl2 E1.out).mono ?_; rintro e w2 ⟨p2, cap2, rfl, hC2, hbl⟩))
            have hsW := hW.size
            have hs := hbl.size
            have hl12 := hB12.lt
            go_meet
            exact ⟨_, rfl, (by omega), rfl, Bx.new hC2 _, (hB12.up hbl).alloc _, (bal (btr hW hbl) _)⟩
        case rest =>
          clear hlt k1 k1f hC hB12 hW
          obtain ⟨b18, rfl, hb18, rfl, hB18, hB12, hW⟩ := hcut
          go_upto_region 10 with fail
          have hlt := hB12.lt
          obtain ⟨p, cap, k1, k1f, hC⟩ := id hB12
          go_cut [20, 21] (fun s20 s21 wx => ∃ b20 : Nat, s20 = .pointer (some ⟨b20, 0, none⟩) ∧ w.heap.size ≤ b20 ∧ s21 = .int .i64 i2 ∧ Bx wx b20 E ∧ Bx wx b18 D ∧ Bx wx b12 c ∧ Below w.heap.size w wx)
          case first =>
            as_aux_lemma =>
              go_wp2_with (first | (go_at_call 23; refine (or_is hC (Below.refl _ _) xm ym hl2 E2.out).mono ?_; rintro e w2 ⟨p2, cap2, rfl, hC2, hbl⟩))
              have hsW := hW.size
              have hs := hbl.size
              have hl18 := hB18.lt
              have hl12 := hB12.lt
              go_meet
              exact ⟨_, rfl, (by omega), rfl, Bx.new hC2 _, (hB18.up hbl).alloc _, (hB12.up hbl).alloc _, (bal (btr hW hbl) _)⟩
          case rest =>
            clear hlt k1 k1f hC hB18 hB12 hW
            obtain ⟨b20, rfl, hb20, rfl, hB20, hB18, hB12, hW⟩ := hcut
            go_upto_region 11 with fail
            have hlt := hB12.lt
            obtain ⟨p, cap, k1, k1f, hC⟩ := id hB12
            go_cut [22, 23] (fun s22 s23 wx => ∃ b22 : Nat, s22 = .pointer (some ⟨b22, 0, none⟩) ∧ w.heap.size ≤ b22 ∧ s23 = .int .i64 i3 ∧ Bx wx b22 F ∧ Bx wx b20 E ∧ Bx wx b18 D ∧ Bx wx b12 c ∧ Below w.heap.size w wx)
            case first =>
              as_aux_lemma =>
                go_wp2_with (first | (go_at_call 25; refine (iff_is hC (Below.refl _ _) xm ym hl2 E3.out).mono ?_; rintro e w2 ⟨p2, cap2, rfl, hC2, hbl⟩))
                have hsW := hW.size
                have hs := hbl.size
                have hl20 := hB20.lt
                have hl18 := hB18.lt
                have hl12 := hB12.lt
                go_meet
                exact ⟨_, rfl, (by omega), rfl, Bx.new hC2 _, (hB20.up hbl).alloc _, (hB18.up hbl).alloc _, (hB12.up hbl).alloc _, (bal (btr hW hbl) _)⟩
            case rest =>
              clear hlt k1 k1f hC hB20 hB18 hB12 hW
              obtain ⟨b22, rfl, hb22, rfl, hB22, hB20, hB18, hB12, hW⟩ := hcut
              have hN2 := HN.out
              go_upto_region 13 with fail
              clear hN2
              go_upto_region 13 with fail
              have hlt := hB12.lt
              obtain ⟨p, cap, k1, k1f, hC⟩ := id hB12
              go_cut [25, 26] (fun s25 s26 wx => ∃ b25 : Nat, s25 = .pointer (some ⟨b25, 0, none⟩) ∧ w.heap.size ≤ b25 ∧ s26 = .int .i64 i4 ∧ Bx wx b25 G ∧ Bx wx b22 F ∧ Bx wx b20 E ∧ Bx wx b18 D ∧ Bx wx b12 c ∧ Below w.heap.size w wx)
              case first =>
                as_aux_lemma =>
                  go_wp2_with (first | (go_at_call 19; refine (input_is hC (Below.refl _ _) E4.out hl2).mono ?_; rintro e w2 ⟨p2, cap2, rfl, hC2, hbl⟩))
                  have hsW := hW.size
                  have hs := hbl.size
                  have hl22 := hB22.lt
                  have hl20 := hB20.lt
                  have hl18 := hB18.lt
                  have hl12 := hB12.lt
                  go_meet
                  exact ⟨_, rfl, (by omega), rfl, Bx.new hC2 _, (hB22.up hbl).alloc _, (hB20.up hbl).alloc _, (hB18.up hbl).alloc _, (hB12.up hbl).alloc _, (bal (btr hW hbl) _)⟩
              case rest =>
                clear hlt k1 k1f hC hB22 hB20 hB18 hB12 hW
                obtain ⟨b25, rfl, hb25, rfl, hB25, hB22, hB20, hB18, hB12, hW⟩ := hcut
                go_upto_region 14 with fail
                obtain ⟨p25, c25, k25, k25f, hC25⟩ := id hB25
                obtain ⟨p22, c22, k22, k22f, hC22⟩ := id hB22
                obtain ⟨p20, c20, k20, k20f, hC20⟩ := id hB20
                obtain ⟨p18, c18, k18, k18f, hC18⟩ := id hB18
                obtain ⟨p12, c12, k12, k12f, hC12⟩ := id hB12
                have SN1 := SN.out; have SA1 := SA.out; have SO1 := SO.out; have SI1 := SI.out; have SG1 := SG.out
                rw [show ((N : Int) + 1 - 1).toNat = N by omega] at SG1
                clear hB25 hB22 hB20 hB18 hB12 HP HQ SN SA SO SI SG
                by_cases hn : N + 1 ≤ vals.length
                case pos =>
                  obtain ⟨z, hz⟩ : ∃ z, vals[N]? = some z := ⟨_, List.getElem?_eq_getElem (by omega)⟩
                  have hd : decide ((N : Int) + 1 ≤ (vals.length : Int)) = true := by rw [decide_eq_true_eq]; omega
                  rw [hd, Bool.true_and, List.getD_eq_getElem?_getD, hz] at SG1
                  dsimp only [Option.getD] at SG1
                  obtain ⟨bv, ov, rfl, hbv, hcv⟩ := bool_cell Hvals.out hz
                  have kv := oldcell hW hcv hbv
                  have hn0 : (0 : Int) ≤ (N : Int) := by omega
                  have hn1 : (N : Int) < (vals.length : Int) := by omega
                  have hnw : IntKind.i64.wrap (N : Int) = (N : Int) := by (rw [IntWalk.i64_in]; omega)
                  clear hz hcv
                  cases P
                  case false =>
                    as_aux_lemma =>
                      simp only [Bool.not_true, Bool.not_false, Bool.and_true, Bool.and_false, Bool.true_and, Bool.false_and, Bool.or_true, Bool.or_false, Bool.true_or, Bool.false_or, Bool.and_self, Bool.or_self, beq_self_eq_true, Bool.true_beq, Bool.false_beq] at SN1 SA1 SO1 SI1
                      have J0 := Lib.hid SN1; have J1 := Lib.hid SA1; have J2 := Lib.hid SO1; have J3 := Lib.hid SI1; have J4 := Lib.hid SG1
                      clear SN1 SA1 SO1 SI1 SG1
                      have T0 := Lib.hid (fun (w' : World) (hB : Below wc.heap.size wc w') => eval_is (cv := cv) hC12 hB ((Hvals.out.mono hW).mono hB) WC.out J0.out rfl hl2 hvm)
                      have T1 := Lib.hid (fun (w' : World) (hB : Below wc.heap.size wc w') => eval_is (cv := cv) hC18 hB ((Hvals.out.mono hW).mono hB) WD.out J1.out rfl dl2 hvm)
                      have T2 := Lib.hid (fun (w' : World) (hB : Below wc.heap.size wc w') => eval_is (cv := cv) hC20 hB ((Hvals.out.mono hW).mono hB) WE.out J2.out rfl el2 hvm)
                      have T3 := Lib.hid (fun (w' : World) (hB : Below wc.heap.size wc w') => eval_is (cv := cv) hC22 hB ((Hvals.out.mono hW).mono hB) WF.out J3.out rfl fl2 hvm)
                      have T4 := Lib.hid (fun (w' : World) (hB : Below wc.heap.size wc w') => eval_is (cv := cv) hC25 hB ((Hvals.out.mono hW).mono hB) WG.out J4.out rfl gl2 hvm)
                      have T5 := Lib.hid (fun (w' : World) (hB : Below wc.heap.size wc w') => eval_is (cv := cv) hC12 hB ((Hvals.out.mono hW).mono hB) WC.out ST.out rfl hl2 hvm)
                      clear hC12 hC18 hC20 hC22 hC25 J0 J1 J2 J3 J4 ST WC WD WE WF WG E1 E2 E3 E4 dl2 el2 fl2 gl2 hl2 hl3 Hvals hvm hcl hrl hc Hr Hs Hg HG HR Hcb Px Py x1 x2 y1 y2 k12f k18f k20f k22f k25f hq hb12 hb18 hb20 hb22 hb25
                      dsimp only [List.append]
                      refine wp_region_seq (fun w' => Below wc.heap.size wc w') (by kernel_rfl) (by kernel_rfl) (by go_grown) ?_
                      refine seq_pure (v := ?_) (by rfl) ?_ ?_
                      rotate_left
                      · (intro w hS; go_simp; try with_reducible rfl)
                      (try simp only [Act.put, List.setIfInBounds_toArray, List.set_cons_zero, List.set_cons_succ])
                      refine seq_pure (v := ?_) (by rfl) ?_ ?_
                      rotate_left
                      · (intro w hS; go_simp; try with_reducible rfl)
                      (try simp only [Act.put, List.setIfInBounds_toArray, List.set_cons_zero, List.set_cons_succ])
                      refine seq_pure (v := ?_) (by rfl) ?_ ?_
                      rotate_left
                      · (intro w hS; have kk := oldcell hS k12 (World.block_lt_of_cell? _ _ k12); go_simp; try with_reducible rfl)
                      (try simp only [Act.put, List.setIfInBounds_toArray, List.set_cons_zero, List.set_cons_succ])
                      refine seq_pure (v := ?_) (by rfl) ?_ ?_
                      rotate_left
                      · (intro w hS; go_simp; try with_reducible rfl)
                      (try simp only [Act.put, List.setIfInBounds_toArray, List.set_cons_zero, List.set_cons_succ])
                      refine seq_pure (v := ?_) (by rfl) ?_ ?_
                      rotate_left
                      · (intro w hS; go_simp; try with_reducible rfl)
                      (try simp only [Act.put, List.setIfInBounds_toArray, List.set_cons_zero, List.set_cons_succ])
                      refine seq_call (v := .int .i64 (cnot x)) (f := ?_) (args := ?_) (by rfl) ?_ ?_ ?_
                      rotate_left 2
                      · (intro w hS; go_simp; first | done | with_reducible rfl | (refine ⟨?_, ?_⟩ <;> with_reducible rfl))
                      · (intro w hS; refine (not_any _ _ xm).mono ?_; rintro e w' ⟨he, hb⟩; subst hb; exact ⟨he, hS⟩)
                      (try simp only [Act.put, List.setIfInBounds_toArray, List.set_cons_zero, List.set_cons_succ])
                      refine seq_call (v := .bool true) (f := ?_) (args := ?_) (by rfl) ?_ ?_ ?_
                      rotate_left 2
                      · (intro w hS; go_simp; first | done | with_reducible rfl | (refine ⟨?_, ?_⟩ <;> with_reducible rfl))
                      · (intro w hS; refine (T0.out w hS).mono ?_; rintro e w' ⟨he, hb⟩; exact ⟨he, btr hS hb⟩)
                      (try simp only [Act.put, List.setIfInBounds_toArray, List.set_cons_zero, List.set_cons_succ])
                      refine seq_pure (v := ?_) (by rfl) ?_ ?_
                      rotate_left
                      · (intro w hS; go_simp; try with_reducible rfl)
                      (try simp only [Act.put, List.setIfInBounds_toArray, List.set_cons_zero, List.set_cons_succ])
                      refine seq_pure (v := ?_) (by rfl) ?_ ?_
                      rotate_left
                      · (intro w hS; go_simp; try with_reducible rfl)
                      (try simp only [Act.put, List.setIfInBounds_toArray, List.set_cons_zero, List.set_cons_succ])
                      refine seq_pure (v := ?_) (by rfl) ?_ ?_
                      rotate_left
                      · (intro w hS; go_simp; try with_reducible rfl)
                      (try simp only [Act.put, List.setIfInBounds_toArray, List.set_cons_zero, List.set_cons_succ])
                      refine seq_pure (v := ?_) (by rfl) ?_ ?_
                      rotate_left
                      · (intro w hS; go_simp; try with_reducible rfl)
                      (try simp only [Act.put, List.setIfInBounds_toArray, List.set_cons_zero, List.set_cons_succ])
                      refine seq_pure (v := ?_) (by rfl) ?_ ?_
                      rotate_left
                      · (intro w hS; go_simp; try with_reducible rfl)
                      (try simp only [Act.put, List.setIfInBounds_toArray, List.set_cons_zero, List.set_cons_succ])
                      refine seq_pure (v := ?_) (by rfl) ?_ ?_
                      rotate_left
                      · (intro w hS; have kk := oldcell hS k18 (World.block_lt_of_cell? _ _ k18); go_simp; try with_reducible rfl)
                      (try simp only [Act.put, List.setIfInBounds_toArray, List.set_cons_zero, List.set_cons_succ])
                      refine seq_pure (v := ?_) (by rfl) ?_ ?_
                      rotate_left
                      · (intro w hS; go_simp; try with_reducible rfl)
                      (try simp only [Act.put, List.setIfInBounds_toArray, List.set_cons_zero, List.set_cons_succ])
                      refine seq_pure (v := ?_) (by rfl) ?_ ?_
                      rotate_left
                      · (intro w hS; go_simp; try with_reducible rfl)
                      (try simp only [Act.put, List.setIfInBounds_toArray, List.set_cons_zero, List.set_cons_succ])
                      refine seq_call (v := .bool false) (f := ?_) (args := ?_) (by rfl) ?_ ?_ ?_
                      rotate_left 2
                      · (intro w hS; go_simp; first | done | with_reducible rfl | (refine ⟨?_, ?_⟩ <;> with_reducible rfl))
                      · (intro w hS; refine (T1.out w hS).mono ?_; rintro e w' ⟨he, hb⟩; exact ⟨he, btr hS hb⟩)
                      (try simp only [Act.put, List.setIfInBounds_toArray, List.set_cons_zero, List.set_cons_succ])
                      refine seq_pure (v := ?_) (by rfl) ?_ ?_
                      rotate_left
                      · (intro w hS; go_simp; try with_reducible rfl)
                      (try simp only [Act.put, List.setIfInBounds_toArray, List.set_cons_zero, List.set_cons_succ])
                      refine seq_pure (v := ?_) (by rfl) ?_ ?_
                      rotate_left
                      · (intro w hS; go_simp; try with_reducible rfl)
                      (try simp only [Act.put, List.setIfInBounds_toArray, List.set_cons_zero, List.set_cons_succ])
                      refine seq_off (by rfl) ?_
                      (try simp only [Act.put, List.setIfInBounds_toArray, List.set_cons_zero, List.set_cons_succ])
                      refine seq_pure (v := ?_) (by rfl) ?_ ?_
                      rotate_left
                      · (intro w hS; go_simp; try with_reducible rfl)
                      (try simp only [Act.put, List.setIfInBounds_toArray, List.set_cons_zero, List.set_cons_succ])
                      refine seq_pure (v := ?_) (by rfl) ?_ ?_
                      rotate_left
                      · (intro w hS; go_simp; try with_reducible rfl)
                      (try simp only [Act.put, List.setIfInBounds_toArray, List.set_cons_zero, List.set_cons_succ])
                      refine seq_pure (v := ?_) (by rfl) ?_ ?_
                      rotate_left
                      · (intro w hS; go_simp; try with_reducible rfl)
                      (try simp only [Act.put, List.setIfInBounds_toArray, List.set_cons_zero, List.set_cons_succ])
                      refine seq_pure (v := ?_) (by rfl) ?_ ?_
                      rotate_left
                      · (intro w hS; go_simp; try with_reducible rfl)
                      (try simp only [Act.put, List.setIfInBounds_toArray, List.set_cons_zero, List.set_cons_succ])
                      refine seq_pure (v := ?_) (by rfl) ?_ ?_
                      rotate_left
                      · (intro w hS; have kk := oldcell hS k20 (World.block_lt_of_cell? _ _ k20); go_simp; try with_reducible rfl)
                      (try simp only [Act.put, List.setIfInBounds_toArray, List.set_cons_zero, List.set_cons_succ])
                      refine seq_pure (v := ?_) (by rfl) ?_ ?_
                      rotate_left
                      · (intro w hS; go_simp; try with_reducible rfl)
                      (try simp only [Act.put, List.setIfInBounds_toArray, List.set_cons_zero, List.set_cons_succ])
                      refine seq_pure (v := ?_) (by rfl) ?_ ?_
                      rotate_left
                      · (intro w hS; go_simp; try with_reducible rfl)
                      (try simp only [Act.put, List.setIfInBounds_toArray, List.set_cons_zero, List.set_cons_succ])
                      refine seq_call (v := .bool Q) (f := ?_) (args := ?_) (by rfl) ?_ ?_ ?_
                      rotate_left 2
                      · (intro w hS; go_simp; first | done | with_reducible rfl | (refine ⟨?_, ?_⟩ <;> with_reducible rfl))
                      · (intro w hS; refine (T2.out w hS).mono ?_; rintro e w' ⟨he, hb⟩; exact ⟨he, btr hS hb⟩)
                      (try simp only [Act.put, List.setIfInBounds_toArray, List.set_cons_zero, List.set_cons_succ])
                      refine seq_pure (v := ?_) (by rfl) ?_ ?_
                      rotate_left
                      · (intro w hS; go_simp; try with_reducible rfl)
                      (try simp only [Act.put, List.setIfInBounds_toArray, List.set_cons_zero, List.set_cons_succ])
                      refine seq_pure (v := ?_) (by rfl) ?_ ?_
                      rotate_left
                      · (intro w hS; go_simp; try with_reducible rfl)
                      (try simp only [Act.put, List.setIfInBounds_toArray, List.set_cons_zero, List.set_cons_succ])
                      refine seq_pure (v := ?_) (by rfl) ?_ ?_
                      rotate_left
                      · (intro w hS; go_simp; try with_reducible rfl)
                      (try simp only [Act.put, List.setIfInBounds_toArray, List.set_cons_zero, List.set_cons_succ])
                      refine seq_pure (v := ?_) (by rfl) ?_ ?_
                      rotate_left
                      · (intro w hS; go_simp; try with_reducible rfl)
                      (try simp only [Act.put, List.setIfInBounds_toArray, List.set_cons_zero, List.set_cons_succ])
                      refine seq_pure (v := ?_) (by rfl) ?_ ?_
                      rotate_left
                      · (intro w hS; go_simp; try with_reducible rfl)
                      (try simp only [Act.put, List.setIfInBounds_toArray, List.set_cons_zero, List.set_cons_succ])
                      refine seq_pure (v := ?_) (by rfl) ?_ ?_
                      rotate_left
                      · (intro w hS; go_simp; try with_reducible rfl)
                      (try simp only [Act.put, List.setIfInBounds_toArray, List.set_cons_zero, List.set_cons_succ])
                      refine seq_pure (v := ?_) (by rfl) ?_ ?_
                      rotate_left
                      · (intro w hS; go_simp; try with_reducible rfl)
                      (try simp only [Act.put, List.setIfInBounds_toArray, List.set_cons_zero, List.set_cons_succ])
                      refine seq_pure (v := ?_) (by rfl) ?_ ?_
                      rotate_left
                      · (intro w hS; have kk := oldcell hS k22 (World.block_lt_of_cell? _ _ k22); go_simp; try with_reducible rfl)
                      (try simp only [Act.put, List.setIfInBounds_toArray, List.set_cons_zero, List.set_cons_succ])
                      refine seq_pure (v := ?_) (by rfl) ?_ ?_
                      rotate_left
                      · (intro w hS; go_simp; try with_reducible rfl)
                      (try simp only [Act.put, List.setIfInBounds_toArray, List.set_cons_zero, List.set_cons_succ])
                      refine seq_pure (v := ?_) (by rfl) ?_ ?_
                      rotate_left
                      · (intro w hS; go_simp; try with_reducible rfl)
                      (try simp only [Act.put, List.setIfInBounds_toArray, List.set_cons_zero, List.set_cons_succ])
                      refine seq_call (v := .bool (!Q)) (f := ?_) (args := ?_) (by rfl) ?_ ?_ ?_
                      rotate_left 2
                      · (intro w hS; go_simp; first | done | with_reducible rfl | (refine ⟨?_, ?_⟩ <;> with_reducible rfl))
                      · (intro w hS; refine (T3.out w hS).mono ?_; rintro e w' ⟨he, hb⟩; exact ⟨he, btr hS hb⟩)
                      (try simp only [Act.put, List.setIfInBounds_toArray, List.set_cons_zero, List.set_cons_succ])
                      refine seq_pure (v := ?_) (by rfl) ?_ ?_
                      rotate_left
                      · (intro w hS; go_simp; try with_reducible rfl)
                      (try simp only [Act.put, List.setIfInBounds_toArray, List.set_cons_zero, List.set_cons_succ])
                      refine seq_pure (v := ?_) (by rfl) ?_ ?_
                      rotate_left
                      · (intro w hS; go_simp; try with_reducible rfl)
                      (try simp only [Act.put, List.setIfInBounds_toArray, List.set_cons_zero, List.set_cons_succ])
                      refine seq_pure (v := ?_) (by rfl) ?_ ?_
                      rotate_left
                      · (intro w hS; go_simp; try with_reducible rfl)
                      (try simp only [Act.put, List.setIfInBounds_toArray, List.set_cons_zero, List.set_cons_succ])
                      refine seq_pure (v := ?_) (by rfl) ?_ ?_
                      rotate_left
                      · (intro w hS; go_simp; try with_reducible rfl)
                      (try simp only [Act.put, List.setIfInBounds_toArray, List.set_cons_zero, List.set_cons_succ])
                      refine seq_pure (v := ?_) (by rfl) ?_ ?_
                      rotate_left
                      · (intro w hS; go_simp; try with_reducible rfl)
                      (try simp only [Act.put, List.setIfInBounds_toArray, List.set_cons_zero, List.set_cons_succ])
                      refine seq_pure (v := ?_) (by rfl) ?_ ?_
                      rotate_left
                      · (intro w hS; go_simp; try with_reducible rfl)
                      (try simp only [Act.put, List.setIfInBounds_toArray, List.set_cons_zero, List.set_cons_succ])
                      refine seq_pure (v := ?_) (by rfl) ?_ ?_
                      rotate_left
                      · (intro w hS; have kk := oldcell hS k25 (World.block_lt_of_cell? _ _ k25); go_simp; try with_reducible rfl)
                      (try simp only [Act.put, List.setIfInBounds_toArray, List.set_cons_zero, List.set_cons_succ])
                      refine seq_pure (v := ?_) (by rfl) ?_ ?_
                      rotate_left
                      · (intro w hS; go_simp; try with_reducible rfl)
                      (try simp only [Act.put, List.setIfInBounds_toArray, List.set_cons_zero, List.set_cons_succ])
                      refine seq_pure (v := ?_) (by rfl) ?_ ?_
                      rotate_left
                      · (intro w hS; go_simp; try with_reducible rfl)
                      (try simp only [Act.put, List.setIfInBounds_toArray, List.set_cons_zero, List.set_cons_succ])
                      refine seq_call (v := .bool z) (f := ?_) (args := ?_) (by rfl) ?_ ?_ ?_
                      rotate_left 2
                      · (intro w hS; go_simp; first | done | with_reducible rfl | (refine ⟨?_, ?_⟩ <;> with_reducible rfl))
                      · (intro w hS; refine (T4.out w hS).mono ?_; rintro e w' ⟨he, hb⟩; exact ⟨he, btr hS hb⟩)
                      (try simp only [Act.put, List.setIfInBounds_toArray, List.set_cons_zero, List.set_cons_succ])
                      refine seq_pure (v := ?_) (by rfl) ?_ ?_
                      rotate_left
                      · (intro w hS; go_simp; try with_reducible rfl)
                      (try simp only [Act.put, List.setIfInBounds_toArray, List.set_cons_zero, List.set_cons_succ])
                      refine seq_pure (v := ?_) (by rfl) ?_ ?_
                      rotate_left
                      · (intro w hS; go_simp; try with_reducible rfl)
                      (try simp only [Act.put, List.setIfInBounds_toArray, List.set_cons_zero, List.set_cons_succ])
                      refine seq_pure (v := ?_) (by rfl) ?_ ?_
                      rotate_left
                      · (intro w hS; go_simp; try with_reducible rfl)
                      (try simp only [Act.put, List.setIfInBounds_toArray, List.set_cons_zero, List.set_cons_succ])
                      refine seq_pure (v := ?_) (by rfl) ?_ ?_
                      rotate_left
                      · (intro w hS; go_simp; try with_reducible rfl)
                      (try simp only [Act.put, List.setIfInBounds_toArray, List.set_cons_zero, List.set_cons_succ])
                      refine seq_pure (v := ?_) (by rfl) ?_ ?_
                      rotate_left
                      · (intro w hS; go_simp; try with_reducible rfl)
                      (try simp only [Act.put, List.setIfInBounds_toArray, List.set_cons_zero, List.set_cons_succ])
                      refine seq_pure (v := ?_) (by rfl) ?_ ?_
                      rotate_left
                      · (intro w hS; go_simp; try with_reducible rfl)
                      (try simp only [Act.put, List.setIfInBounds_toArray, List.set_cons_zero, List.set_cons_succ])
                      refine seq_pure (v := ?_) (by rfl) ?_ ?_
                      rotate_left
                      · (intro w hS; go_simp; try with_reducible rfl)
                      (try simp only [Act.put, List.setIfInBounds_toArray, List.set_cons_zero, List.set_cons_succ])
                      refine seq_pure (v := ?_) (by rfl) ?_ ?_
                      rotate_left
                      · (intro w hS; go_simp; try with_reducible rfl)
                      (try simp only [Act.put, List.setIfInBounds_toArray, List.set_cons_zero, List.set_cons_succ])
                      refine seq_pure (v := ?_) (by rfl) ?_ ?_
                      rotate_left
                      · (intro w hS; go_simp; try with_reducible rfl)
                      (try simp only [Act.put, List.setIfInBounds_toArray, List.set_cons_zero, List.set_cons_succ])
                      refine seq_pure (v := ?_) (by rfl) ?_ ?_
                      rotate_left
                      · (intro w hS; have kk := oldcell hS kv (World.block_lt_of_cell? _ _ kv); go_simp; try with_reducible rfl)
                      (try simp only [Act.put, List.setIfInBounds_toArray, List.set_cons_zero, List.set_cons_succ])
                      refine seq_pure (v := ?_) (by rfl) ?_ ?_
                      rotate_left
                      · (intro w hS; go_simp; try with_reducible rfl)
                      (try simp only [Act.put, List.setIfInBounds_toArray, List.set_cons_zero, List.set_cons_succ])
                      refine seq_pure (v := ?_) (by rfl) ?_ ?_
                      rotate_left
                      · (intro w hS; go_simp; try with_reducible rfl)
                      (try simp only [Act.put, List.setIfInBounds_toArray, List.set_cons_zero, List.set_cons_succ])
                      refine seq_pure (v := ?_) (by rfl) ?_ ?_
                      rotate_left
                      · (intro w hS; go_simp; try with_reducible rfl)
                      (try simp only [Act.put, List.setIfInBounds_toArray, List.set_cons_zero, List.set_cons_succ])
                      refine seq_pure (v := ?_) (by rfl) ?_ ?_
                      rotate_left
                      · (intro w hS; go_simp; try with_reducible rfl)
                      (try simp only [Act.put, List.setIfInBounds_toArray, List.set_cons_zero, List.set_cons_succ])
                      refine seq_pure (v := ?_) (by rfl) ?_ ?_
                      rotate_left
                      · (intro w hS; have kk := oldcell hS k12 (World.block_lt_of_cell? _ _ k12); go_simp; try with_reducible rfl)
                      (try simp only [Act.put, List.setIfInBounds_toArray, List.set_cons_zero, List.set_cons_succ])
                      refine seq_pure (v := ?_) (by rfl) ?_ ?_
                      rotate_left
                      · (intro w hS; go_simp; try with_reducible rfl)
                      (try simp only [Act.put, List.setIfInBounds_toArray, List.set_cons_zero, List.set_cons_succ])
                      refine seq_call (v := .bool true) (f := ?_) (args := ?_) (by rfl) ?_ ?_ ?_
                      rotate_left 2
                      · (intro w hS; go_simp; first | done | with_reducible rfl | (refine ⟨?_, ?_⟩ <;> with_reducible rfl))
                      · (intro w hS; refine (T5.out w hS).mono ?_; rintro e w' ⟨he, hb⟩; exact ⟨he, btr hS hb⟩)
                      (try simp only [Act.put, List.setIfInBounds_toArray, List.set_cons_zero, List.set_cons_succ])
                      refine seq_pure (v := ?_) (by rfl) ?_ ?_
                      rotate_left
                      · (intro w hS; go_simp; try with_reducible rfl)
                      (try simp only [Act.put, List.setIfInBounds_toArray, List.set_cons_zero, List.set_cons_succ])
                      refine seq_pure (v := ?_) (by rfl) ?_ ?_
                      rotate_left
                      · (intro w hS; go_simp; try with_reducible rfl)
                      (try simp only [Act.put, List.setIfInBounds_toArray, List.set_cons_zero, List.set_cons_succ])
                      refine seq_nil ?_
                      intro w2 HB
                      go_wp2_with fail
                      go_ret
                      exact ⟨rfl, btr hW HB⟩
                  case true =>
                    as_aux_lemma =>
                      simp only [Bool.not_true, Bool.not_false, Bool.and_true, Bool.and_false, Bool.true_and, Bool.false_and, Bool.or_true, Bool.or_false, Bool.true_or, Bool.false_or, Bool.and_self, Bool.or_self, beq_self_eq_true, Bool.true_beq, Bool.false_beq] at SN1 SA1 SO1 SI1
                      have J0 := Lib.hid SN1; have J1 := Lib.hid SA1; have J2 := Lib.hid SO1; have J3 := Lib.hid SI1; have J4 := Lib.hid SG1
                      clear SN1 SA1 SO1 SI1 SG1
                      have T0 := Lib.hid (fun (w' : World) (hB : Below wc.heap.size wc w') => eval_is (cv := cv) hC12 hB ((Hvals.out.mono hW).mono hB) WC.out J0.out rfl hl2 hvm)
                      have T1 := Lib.hid (fun (w' : World) (hB : Below wc.heap.size wc w') => eval_is (cv := cv) hC18 hB ((Hvals.out.mono hW).mono hB) WD.out J1.out rfl dl2 hvm)
                      have T2 := Lib.hid (fun (w' : World) (hB : Below wc.heap.size wc w') => eval_is (cv := cv) hC20 hB ((Hvals.out.mono hW).mono hB) WE.out J2.out rfl el2 hvm)
                      have T3 := Lib.hid (fun (w' : World) (hB : Below wc.heap.size wc w') => eval_is (cv := cv) hC22 hB ((Hvals.out.mono hW).mono hB) WF.out J3.out rfl fl2 hvm)
                      have T4 := Lib.hid (fun (w' : World) (hB : Below wc.heap.size wc w') => eval_is (cv := cv) hC25 hB ((Hvals.out.mono hW).mono hB) WG.out J4.out rfl gl2 hvm)
                      have T5 := Lib.hid (fun (w' : World) (hB : Below wc.heap.size wc w') => eval_is (cv := cv) hC12 hB ((Hvals.out.mono hW).mono hB) WC.out ST.out rfl hl2 hvm)
                      clear hC12 hC18 hC20 hC22 hC25 J0 J1 J2 J3 J4 ST WC WD WE WF WG E1 E2 E3 E4 dl2 el2 fl2 gl2 hl2 hl3 Hvals hvm hcl hrl hc Hr Hs Hg HG HR Hcb Px Py x1 x2 y1 y2 k12f k18f k20f k22f k25f hq hb12 hb18 hb20 hb22 hb25
                      dsimp only [List.append]
                      refine wp_region_seq (fun w' => Below wc.heap.size wc w') (by kernel_rfl) (by kernel_rfl) (by go_grown) ?_
                      refine seq_pure (v := ?_) (by rfl) ?_ ?_
                      rotate_left
                      · (intro w hS; go_simp; try with_reducible rfl)
                      (try simp only [Act.put, List.setIfInBounds_toArray, List.set_cons_zero, List.set_cons_succ])
                      refine seq_pure (v := ?_) (by rfl) ?_ ?_
                      rotate_left
                      · (intro w hS; go_simp; try with_reducible rfl)
                      (try simp only [Act.put, List.setIfInBounds_toArray, List.set_cons_zero, List.set_cons_succ])
                      refine seq_pure (v := ?_) (by rfl) ?_ ?_
                      rotate_left
                      · (intro w hS; have kk := oldcell hS k12 (World.block_lt_of_cell? _ _ k12); go_simp; try with_reducible rfl)
                      (try simp only [Act.put, List.setIfInBounds_toArray, List.set_cons_zero, List.set_cons_succ])
                      refine seq_pure (v := ?_) (by rfl) ?_ ?_
                      rotate_left
                      · (intro w hS; go_simp; try with_reducible rfl)
                      (try simp only [Act.put, List.setIfInBounds_toArray, List.set_cons_zero, List.set_cons_succ])
                      refine seq_pure (v := ?_) (by rfl) ?_ ?_
                      rotate_left
                      · (intro w hS; go_simp; try with_reducible rfl)
                      (try simp only [Act.put, List.setIfInBounds_toArray, List.set_cons_zero, List.set_cons_succ])
                      refine seq_call (v := .int .i64 (cnot x)) (f := ?_) (args := ?_) (by rfl) ?_ ?_ ?_
                      rotate_left 2
                      · (intro w hS; go_simp; first | done | with_reducible rfl | (refine ⟨?_, ?_⟩ <;> with_reducible rfl))
                      · (intro w hS; refine (not_any _ _ xm).mono ?_; rintro e w' ⟨he, hb⟩; subst hb; exact ⟨he, hS⟩)
                      (try simp only [Act.put, List.setIfInBounds_toArray, List.set_cons_zero, List.set_cons_succ])
                      refine seq_call (v := .bool false) (f := ?_) (args := ?_) (by rfl) ?_ ?_ ?_
                      rotate_left 2
                      · (intro w hS; go_simp; first | done | with_reducible rfl | (refine ⟨?_, ?_⟩ <;> with_reducible rfl))
                      · (intro w hS; refine (T0.out w hS).mono ?_; rintro e w' ⟨he, hb⟩; exact ⟨he, btr hS hb⟩)
                      (try simp only [Act.put, List.setIfInBounds_toArray, List.set_cons_zero, List.set_cons_succ])
                      refine seq_pure (v := ?_) (by rfl) ?_ ?_
                      rotate_left
                      · (intro w hS; go_simp; try with_reducible rfl)
                      (try simp only [Act.put, List.setIfInBounds_toArray, List.set_cons_zero, List.set_cons_succ])
                      refine seq_pure (v := ?_) (by rfl) ?_ ?_
                      rotate_left
                      · (intro w hS; go_simp; try with_reducible rfl)
                      (try simp only [Act.put, List.setIfInBounds_toArray, List.set_cons_zero, List.set_cons_succ])
                      refine seq_pure (v := ?_) (by rfl) ?_ ?_
                      rotate_left
                      · (intro w hS; go_simp; try with_reducible rfl)
                      (try simp only [Act.put, List.setIfInBounds_toArray, List.set_cons_zero, List.set_cons_succ])
                      refine seq_pure (v := ?_) (by rfl) ?_ ?_
                      rotate_left
                      · (intro w hS; go_simp; try with_reducible rfl)
                      (try simp only [Act.put, List.setIfInBounds_toArray, List.set_cons_zero, List.set_cons_succ])
                      refine seq_pure (v := ?_) (by rfl) ?_ ?_
                      rotate_left
                      · (intro w hS; go_simp; try with_reducible rfl)
                      (try simp only [Act.put, List.setIfInBounds_toArray, List.set_cons_zero, List.set_cons_succ])
                      refine seq_pure (v := ?_) (by rfl) ?_ ?_
                      rotate_left
                      · (intro w hS; have kk := oldcell hS k18 (World.block_lt_of_cell? _ _ k18); go_simp; try with_reducible rfl)
                      (try simp only [Act.put, List.setIfInBounds_toArray, List.set_cons_zero, List.set_cons_succ])
                      refine seq_pure (v := ?_) (by rfl) ?_ ?_
                      rotate_left
                      · (intro w hS; go_simp; try with_reducible rfl)
                      (try simp only [Act.put, List.setIfInBounds_toArray, List.set_cons_zero, List.set_cons_succ])
                      refine seq_pure (v := ?_) (by rfl) ?_ ?_
                      rotate_left
                      · (intro w hS; go_simp; try with_reducible rfl)
                      (try simp only [Act.put, List.setIfInBounds_toArray, List.set_cons_zero, List.set_cons_succ])
                      refine seq_call (v := .bool Q) (f := ?_) (args := ?_) (by rfl) ?_ ?_ ?_
                      rotate_left 2
                      · (intro w hS; go_simp; first | done | with_reducible rfl | (refine ⟨?_, ?_⟩ <;> with_reducible rfl))
                      · (intro w hS; refine (T1.out w hS).mono ?_; rintro e w' ⟨he, hb⟩; exact ⟨he, btr hS hb⟩)
                      (try simp only [Act.put, List.setIfInBounds_toArray, List.set_cons_zero, List.set_cons_succ])
                      refine seq_pure (v := ?_) (by rfl) ?_ ?_
                      rotate_left
                      · (intro w hS; go_simp; try with_reducible rfl)
                      (try simp only [Act.put, List.setIfInBounds_toArray, List.set_cons_zero, List.set_cons_succ])
                      refine seq_pure (v := ?_) (by rfl) ?_ ?_
                      rotate_left
                      · (intro w hS; go_simp; try with_reducible rfl)
                      (try simp only [Act.put, List.setIfInBounds_toArray, List.set_cons_zero, List.set_cons_succ])
                      refine seq_pure (v := ?_) (by rfl) ?_ ?_
                      rotate_left
                      · (intro w hS; go_simp; try with_reducible rfl)
                      (try simp only [Act.put, List.setIfInBounds_toArray, List.set_cons_zero, List.set_cons_succ])
                      refine seq_pure (v := ?_) (by rfl) ?_ ?_
                      rotate_left
                      · (intro w hS; go_simp; try with_reducible rfl)
                      (try simp only [Act.put, List.setIfInBounds_toArray, List.set_cons_zero, List.set_cons_succ])
                      refine seq_pure (v := ?_) (by rfl) ?_ ?_
                      rotate_left
                      · (intro w hS; go_simp; try with_reducible rfl)
                      (try simp only [Act.put, List.setIfInBounds_toArray, List.set_cons_zero, List.set_cons_succ])
                      refine seq_pure (v := ?_) (by rfl) ?_ ?_
                      rotate_left
                      · (intro w hS; go_simp; try with_reducible rfl)
                      (try simp only [Act.put, List.setIfInBounds_toArray, List.set_cons_zero, List.set_cons_succ])
                      refine seq_pure (v := ?_) (by rfl) ?_ ?_
                      rotate_left
                      · (intro w hS; go_simp; try with_reducible rfl)
                      (try simp only [Act.put, List.setIfInBounds_toArray, List.set_cons_zero, List.set_cons_succ])
                      refine seq_pure (v := ?_) (by rfl) ?_ ?_
                      rotate_left
                      · (intro w hS; have kk := oldcell hS k20 (World.block_lt_of_cell? _ _ k20); go_simp; try with_reducible rfl)
                      (try simp only [Act.put, List.setIfInBounds_toArray, List.set_cons_zero, List.set_cons_succ])
                      refine seq_pure (v := ?_) (by rfl) ?_ ?_
                      rotate_left
                      · (intro w hS; go_simp; try with_reducible rfl)
                      (try simp only [Act.put, List.setIfInBounds_toArray, List.set_cons_zero, List.set_cons_succ])
                      refine seq_pure (v := ?_) (by rfl) ?_ ?_
                      rotate_left
                      · (intro w hS; go_simp; try with_reducible rfl)
                      (try simp only [Act.put, List.setIfInBounds_toArray, List.set_cons_zero, List.set_cons_succ])
                      refine seq_call (v := .bool true) (f := ?_) (args := ?_) (by rfl) ?_ ?_ ?_
                      rotate_left 2
                      · (intro w hS; go_simp; first | done | with_reducible rfl | (refine ⟨?_, ?_⟩ <;> with_reducible rfl))
                      · (intro w hS; refine (T2.out w hS).mono ?_; rintro e w' ⟨he, hb⟩; exact ⟨he, btr hS hb⟩)
                      (try simp only [Act.put, List.setIfInBounds_toArray, List.set_cons_zero, List.set_cons_succ])
                      refine seq_pure (v := ?_) (by rfl) ?_ ?_
                      rotate_left
                      · (intro w hS; go_simp; try with_reducible rfl)
                      (try simp only [Act.put, List.setIfInBounds_toArray, List.set_cons_zero, List.set_cons_succ])
                      refine seq_pure (v := ?_) (by rfl) ?_ ?_
                      rotate_left
                      · (intro w hS; go_simp; try with_reducible rfl)
                      (try simp only [Act.put, List.setIfInBounds_toArray, List.set_cons_zero, List.set_cons_succ])
                      refine seq_off (by rfl) ?_
                      (try simp only [Act.put, List.setIfInBounds_toArray, List.set_cons_zero, List.set_cons_succ])
                      refine seq_pure (v := ?_) (by rfl) ?_ ?_
                      rotate_left
                      · (intro w hS; go_simp; try with_reducible rfl)
                      (try simp only [Act.put, List.setIfInBounds_toArray, List.set_cons_zero, List.set_cons_succ])
                      refine seq_pure (v := ?_) (by rfl) ?_ ?_
                      rotate_left
                      · (intro w hS; go_simp; try with_reducible rfl)
                      (try simp only [Act.put, List.setIfInBounds_toArray, List.set_cons_zero, List.set_cons_succ])
                      refine seq_pure (v := ?_) (by rfl) ?_ ?_
                      rotate_left
                      · (intro w hS; go_simp; try with_reducible rfl)
                      (try simp only [Act.put, List.setIfInBounds_toArray, List.set_cons_zero, List.set_cons_succ])
                      refine seq_pure (v := ?_) (by rfl) ?_ ?_
                      rotate_left
                      · (intro w hS; go_simp; try with_reducible rfl)
                      (try simp only [Act.put, List.setIfInBounds_toArray, List.set_cons_zero, List.set_cons_succ])
                      refine seq_pure (v := ?_) (by rfl) ?_ ?_
                      rotate_left
                      · (intro w hS; have kk := oldcell hS k22 (World.block_lt_of_cell? _ _ k22); go_simp; try with_reducible rfl)
                      (try simp only [Act.put, List.setIfInBounds_toArray, List.set_cons_zero, List.set_cons_succ])
                      refine seq_pure (v := ?_) (by rfl) ?_ ?_
                      rotate_left
                      · (intro w hS; go_simp; try with_reducible rfl)
                      (try simp only [Act.put, List.setIfInBounds_toArray, List.set_cons_zero, List.set_cons_succ])
                      refine seq_pure (v := ?_) (by rfl) ?_ ?_
                      rotate_left
                      · (intro w hS; go_simp; try with_reducible rfl)
                      (try simp only [Act.put, List.setIfInBounds_toArray, List.set_cons_zero, List.set_cons_succ])
                      refine seq_call (v := .bool Q) (f := ?_) (args := ?_) (by rfl) ?_ ?_ ?_
                      rotate_left 2
                      · (intro w hS; go_simp; first | done | with_reducible rfl | (refine ⟨?_, ?_⟩ <;> with_reducible rfl))
                      · (intro w hS; refine (T3.out w hS).mono ?_; rintro e w' ⟨he, hb⟩; exact ⟨he, btr hS hb⟩)
                      (try simp only [Act.put, List.setIfInBounds_toArray, List.set_cons_zero, List.set_cons_succ])
                      refine seq_pure (v := ?_) (by rfl) ?_ ?_
                      rotate_left
                      · (intro w hS; go_simp; try with_reducible rfl)
                      (try simp only [Act.put, List.setIfInBounds_toArray, List.set_cons_zero, List.set_cons_succ])
                      refine seq_pure (v := ?_) (by rfl) ?_ ?_
                      rotate_left
                      · (intro w hS; go_simp; try with_reducible rfl)
                      (try simp only [Act.put, List.setIfInBounds_toArray, List.set_cons_zero, List.set_cons_succ])
                      refine seq_pure (v := ?_) (by rfl) ?_ ?_
                      rotate_left
                      · (intro w hS; go_simp; try with_reducible rfl)
                      (try simp only [Act.put, List.setIfInBounds_toArray, List.set_cons_zero, List.set_cons_succ])
                      refine seq_pure (v := ?_) (by rfl) ?_ ?_
                      rotate_left
                      · (intro w hS; go_simp; try with_reducible rfl)
                      (try simp only [Act.put, List.setIfInBounds_toArray, List.set_cons_zero, List.set_cons_succ])
                      refine seq_pure (v := ?_) (by rfl) ?_ ?_
                      rotate_left
                      · (intro w hS; go_simp; try with_reducible rfl)
                      (try simp only [Act.put, List.setIfInBounds_toArray, List.set_cons_zero, List.set_cons_succ])
                      refine seq_pure (v := ?_) (by rfl) ?_ ?_
                      rotate_left
                      · (intro w hS; go_simp; try with_reducible rfl)
                      (try simp only [Act.put, List.setIfInBounds_toArray, List.set_cons_zero, List.set_cons_succ])
                      refine seq_pure (v := ?_) (by rfl) ?_ ?_
                      rotate_left
                      · (intro w hS; have kk := oldcell hS k25 (World.block_lt_of_cell? _ _ k25); go_simp; try with_reducible rfl)
                      (try simp only [Act.put, List.setIfInBounds_toArray, List.set_cons_zero, List.set_cons_succ])
                      refine seq_pure (v := ?_) (by rfl) ?_ ?_
                      rotate_left
                      · (intro w hS; go_simp; try with_reducible rfl)
                      (try simp only [Act.put, List.setIfInBounds_toArray, List.set_cons_zero, List.set_cons_succ])
                      refine seq_pure (v := ?_) (by rfl) ?_ ?_
                      rotate_left
                      · (intro w hS; go_simp; try with_reducible rfl)
                      (try simp only [Act.put, List.setIfInBounds_toArray, List.set_cons_zero, List.set_cons_succ])
                      refine seq_call (v := .bool z) (f := ?_) (args := ?_) (by rfl) ?_ ?_ ?_
                      rotate_left 2
                      · (intro w hS; go_simp; first | done | with_reducible rfl | (refine ⟨?_, ?_⟩ <;> with_reducible rfl))
                      · (intro w hS; refine (T4.out w hS).mono ?_; rintro e w' ⟨he, hb⟩; exact ⟨he, btr hS hb⟩)
                      (try simp only [Act.put, List.setIfInBounds_toArray, List.set_cons_zero, List.set_cons_succ])
                      refine seq_pure (v := ?_) (by rfl) ?_ ?_
                      rotate_left
                      · (intro w hS; go_simp; try with_reducible rfl)
                      (try simp only [Act.put, List.setIfInBounds_toArray, List.set_cons_zero, List.set_cons_succ])
                      refine seq_pure (v := ?_) (by rfl) ?_ ?_
                      rotate_left
                      · (intro w hS; go_simp; try with_reducible rfl)
                      (try simp only [Act.put, List.setIfInBounds_toArray, List.set_cons_zero, List.set_cons_succ])
                      refine seq_pure (v := ?_) (by rfl) ?_ ?_
                      rotate_left
                      · (intro w hS; go_simp; try with_reducible rfl)
                      (try simp only [Act.put, List.setIfInBounds_toArray, List.set_cons_zero, List.set_cons_succ])
                      refine seq_pure (v := ?_) (by rfl) ?_ ?_
                      rotate_left
                      · (intro w hS; go_simp; try with_reducible rfl)
                      (try simp only [Act.put, List.setIfInBounds_toArray, List.set_cons_zero, List.set_cons_succ])
                      refine seq_pure (v := ?_) (by rfl) ?_ ?_
                      rotate_left
                      · (intro w hS; go_simp; try with_reducible rfl)
                      (try simp only [Act.put, List.setIfInBounds_toArray, List.set_cons_zero, List.set_cons_succ])
                      refine seq_pure (v := ?_) (by rfl) ?_ ?_
                      rotate_left
                      · (intro w hS; go_simp; try with_reducible rfl)
                      (try simp only [Act.put, List.setIfInBounds_toArray, List.set_cons_zero, List.set_cons_succ])
                      refine seq_pure (v := ?_) (by rfl) ?_ ?_
                      rotate_left
                      · (intro w hS; go_simp; try with_reducible rfl)
                      (try simp only [Act.put, List.setIfInBounds_toArray, List.set_cons_zero, List.set_cons_succ])
                      refine seq_pure (v := ?_) (by rfl) ?_ ?_
                      rotate_left
                      · (intro w hS; go_simp; try with_reducible rfl)
                      (try simp only [Act.put, List.setIfInBounds_toArray, List.set_cons_zero, List.set_cons_succ])
                      refine seq_pure (v := ?_) (by rfl) ?_ ?_
                      rotate_left
                      · (intro w hS; go_simp; try with_reducible rfl)
                      (try simp only [Act.put, List.setIfInBounds_toArray, List.set_cons_zero, List.set_cons_succ])
                      refine seq_pure (v := ?_) (by rfl) ?_ ?_
                      rotate_left
                      · (intro w hS; have kk := oldcell hS kv (World.block_lt_of_cell? _ _ kv); go_simp; try with_reducible rfl)
                      (try simp only [Act.put, List.setIfInBounds_toArray, List.set_cons_zero, List.set_cons_succ])
                      refine seq_pure (v := ?_) (by rfl) ?_ ?_
                      rotate_left
                      · (intro w hS; go_simp; try with_reducible rfl)
                      (try simp only [Act.put, List.setIfInBounds_toArray, List.set_cons_zero, List.set_cons_succ])
                      refine seq_pure (v := ?_) (by rfl) ?_ ?_
                      rotate_left
                      · (intro w hS; go_simp; try with_reducible rfl)
                      (try simp only [Act.put, List.setIfInBounds_toArray, List.set_cons_zero, List.set_cons_succ])
                      refine seq_pure (v := ?_) (by rfl) ?_ ?_
                      rotate_left
                      · (intro w hS; go_simp; try with_reducible rfl)
                      (try simp only [Act.put, List.setIfInBounds_toArray, List.set_cons_zero, List.set_cons_succ])
                      refine seq_pure (v := ?_) (by rfl) ?_ ?_
                      rotate_left
                      · (intro w hS; go_simp; try with_reducible rfl)
                      (try simp only [Act.put, List.setIfInBounds_toArray, List.set_cons_zero, List.set_cons_succ])
                      refine seq_pure (v := ?_) (by rfl) ?_ ?_
                      rotate_left
                      · (intro w hS; have kk := oldcell hS k12 (World.block_lt_of_cell? _ _ k12); go_simp; try with_reducible rfl)
                      (try simp only [Act.put, List.setIfInBounds_toArray, List.set_cons_zero, List.set_cons_succ])
                      refine seq_pure (v := ?_) (by rfl) ?_ ?_
                      rotate_left
                      · (intro w hS; go_simp; try with_reducible rfl)
                      (try simp only [Act.put, List.setIfInBounds_toArray, List.set_cons_zero, List.set_cons_succ])
                      refine seq_call (v := .bool true) (f := ?_) (args := ?_) (by rfl) ?_ ?_ ?_
                      rotate_left 2
                      · (intro w hS; go_simp; first | done | with_reducible rfl | (refine ⟨?_, ?_⟩ <;> with_reducible rfl))
                      · (intro w hS; refine (T5.out w hS).mono ?_; rintro e w' ⟨he, hb⟩; exact ⟨he, btr hS hb⟩)
                      (try simp only [Act.put, List.setIfInBounds_toArray, List.set_cons_zero, List.set_cons_succ])
                      refine seq_pure (v := ?_) (by rfl) ?_ ?_
                      rotate_left
                      · (intro w hS; go_simp; try with_reducible rfl)
                      (try simp only [Act.put, List.setIfInBounds_toArray, List.set_cons_zero, List.set_cons_succ])
                      refine seq_pure (v := ?_) (by rfl) ?_ ?_
                      rotate_left
                      · (intro w hS; go_simp; try with_reducible rfl)
                      (try simp only [Act.put, List.setIfInBounds_toArray, List.set_cons_zero, List.set_cons_succ])
                      refine seq_nil ?_
                      intro w2 HB
                      go_wp2_with fail
                      go_ret
                      exact ⟨rfl, btr hW HB⟩
                case neg =>
                  have hd : decide ((N : Int) + 1 ≤ (vals.length : Int)) = false := by rw [decide_eq_false_iff_not]; omega
                  rw [hd, Bool.false_and] at SG1
                  cases P
                  case false =>
                    as_aux_lemma =>
                      simp only [Bool.not_true, Bool.not_false, Bool.and_true, Bool.and_false, Bool.true_and, Bool.false_and, Bool.or_true, Bool.or_false, Bool.true_or, Bool.false_or, Bool.and_self, Bool.or_self, beq_self_eq_true, Bool.true_beq, Bool.false_beq] at SN1 SA1 SO1 SI1
                      have J0 := Lib.hid SN1; have J1 := Lib.hid SA1; have J2 := Lib.hid SO1; have J3 := Lib.hid SI1; have J4 := Lib.hid SG1
                      clear SN1 SA1 SO1 SI1 SG1
                      have T0 := Lib.hid (fun (w' : World) (hB : Below wc.heap.size wc w') => eval_is (cv := cv) hC12 hB ((Hvals.out.mono hW).mono hB) WC.out J0.out rfl hl2 hvm)
                      have T1 := Lib.hid (fun (w' : World) (hB : Below wc.heap.size wc w') => eval_is (cv := cv) hC18 hB ((Hvals.out.mono hW).mono hB) WD.out J1.out rfl dl2 hvm)
                      have T2 := Lib.hid (fun (w' : World) (hB : Below wc.heap.size wc w') => eval_is (cv := cv) hC20 hB ((Hvals.out.mono hW).mono hB) WE.out J2.out rfl el2 hvm)
                      have T3 := Lib.hid (fun (w' : World) (hB : Below wc.heap.size wc w') => eval_is (cv := cv) hC22 hB ((Hvals.out.mono hW).mono hB) WF.out J3.out rfl fl2 hvm)
                      have T4 := Lib.hid (fun (w' : World) (hB : Below wc.heap.size wc w') => eval_is (cv := cv) hC25 hB ((Hvals.out.mono hW).mono hB) WG.out J4.out rfl gl2 hvm)
                      have T5 := Lib.hid (fun (w' : World) (hB : Below wc.heap.size wc w') => eval_is (cv := cv) hC12 hB ((Hvals.out.mono hW).mono hB) WC.out ST.out rfl hl2 hvm)
                      clear hC12 hC18 hC20 hC22 hC25 J0 J1 J2 J3 J4 ST WC WD WE WF WG E1 E2 E3 E4 dl2 el2 fl2 gl2 hl2 hl3 Hvals hvm hcl hrl hc Hr Hs Hg HG HR Hcb Px Py x1 x2 y1 y2 k12f k18f k20f k22f k25f hq hb12 hb18 hb20 hb22 hb25
                      dsimp only [List.append]
                      refine wp_region_seq (fun w' => Below wc.heap.size wc w') (by kernel_rfl) (by kernel_rfl) (by go_grown) ?_
                      refine seq_pure (v := ?_) (by rfl) ?_ ?_
                      rotate_left
                      · (intro w hS; go_simp; try with_reducible rfl)
                      (try simp only [Act.put, List.setIfInBounds_toArray, List.set_cons_zero, List.set_cons_succ])
                      refine seq_pure (v := ?_) (by rfl) ?_ ?_
                      rotate_left
                      · (intro w hS; go_simp; try with_reducible rfl)
                      (try simp only [Act.put, List.setIfInBounds_toArray, List.set_cons_zero, List.set_cons_succ])
                      refine seq_pure (v := ?_) (by rfl) ?_ ?_
                      rotate_left
                      · (intro w hS; have kk := oldcell hS k12 (World.block_lt_of_cell? _ _ k12); go_simp; try with_reducible rfl)
                      (try simp only [Act.put, List.setIfInBounds_toArray, List.set_cons_zero, List.set_cons_succ])
                      refine seq_pure (v := ?_) (by rfl) ?_ ?_
                      rotate_left
                      · (intro w hS; go_simp; try with_reducible rfl)
                      (try simp only [Act.put, List.setIfInBounds_toArray, List.set_cons_zero, List.set_cons_succ])
                      refine seq_pure (v := ?_) (by rfl) ?_ ?_
                      rotate_left
                      · (intro w hS; go_simp; try with_reducible rfl)
                      (try simp only [Act.put, List.setIfInBounds_toArray, List.set_cons_zero, List.set_cons_succ])
                      refine seq_call (v := .int .i64 (cnot x)) (f := ?_) (args := ?_) (by rfl) ?_ ?_ ?_
                      rotate_left 2
                      · (intro w hS; go_simp; first | done | with_reducible rfl | (refine ⟨?_, ?_⟩ <;> with_reducible rfl))
                      · (intro w hS; refine (not_any _ _ xm).mono ?_; rintro e w' ⟨he, hb⟩; subst hb; exact ⟨he, hS⟩)
                      (try simp only [Act.put, List.setIfInBounds_toArray, List.set_cons_zero, List.set_cons_succ])
                      refine seq_call (v := .bool true) (f := ?_) (args := ?_) (by rfl) ?_ ?_ ?_
                      rotate_left 2
                      · (intro w hS; go_simp; first | done | with_reducible rfl | (refine ⟨?_, ?_⟩ <;> with_reducible rfl))
                      · (intro w hS; refine (T0.out w hS).mono ?_; rintro e w' ⟨he, hb⟩; exact ⟨he, btr hS hb⟩)
                      (try simp only [Act.put, List.setIfInBounds_toArray, List.set_cons_zero, List.set_cons_succ])
                      refine seq_pure (v := ?_) (by rfl) ?_ ?_
                      rotate_left
                      · (intro w hS; go_simp; try with_reducible rfl)
                      (try simp only [Act.put, List.setIfInBounds_toArray, List.set_cons_zero, List.set_cons_succ])
                      refine seq_pure (v := ?_) (by rfl) ?_ ?_
                      rotate_left
                      · (intro w hS; go_simp; try with_reducible rfl)
                      (try simp only [Act.put, List.setIfInBounds_toArray, List.set_cons_zero, List.set_cons_succ])
                      refine seq_pure (v := ?_) (by rfl) ?_ ?_
                      rotate_left
                      · (intro w hS; go_simp; try with_reducible rfl)
                      (try simp only [Act.put, List.setIfInBounds_toArray, List.set_cons_zero, List.set_cons_succ])
                      refine seq_pure (v := ?_) (by rfl) ?_ ?_
                      rotate_left
                      · (intro w hS; go_simp; try with_reducible rfl)
                      (try simp only [Act.put, List.setIfInBounds_toArray, List.set_cons_zero, List.set_cons_succ])
                      refine seq_pure (v := ?_) (by rfl) ?_ ?_
                      rotate_left
                      · (intro w hS; go_simp; try with_reducible rfl)
                      (try simp only [Act.put, List.setIfInBounds_toArray, List.set_cons_zero, List.set_cons_succ])
                      refine seq_pure (v := ?_) (by rfl) ?_ ?_
                      rotate_left
                      · (intro w hS; have kk := oldcell hS k18 (World.block_lt_of_cell? _ _ k18); go_simp; try with_reducible rfl)
                      (try simp only [Act.put, List.setIfInBounds_toArray, List.set_cons_zero, List.set_cons_succ])
                      refine seq_pure (v := ?_) (by rfl) ?_ ?_
                      rotate_left
                      · (intro w hS; go_simp; try with_reducible rfl)
                      (try simp only [Act.put, List.setIfInBounds_toArray, List.set_cons_zero, List.set_cons_succ])
                      refine seq_pure (v := ?_) (by rfl) ?_ ?_
                      rotate_left
                      · (intro w hS; go_simp; try with_reducible rfl)
                      (try simp only [Act.put, List.setIfInBounds_toArray, List.set_cons_zero, List.set_cons_succ])
                      refine seq_call (v := .bool false) (f := ?_) (args := ?_) (by rfl) ?_ ?_ ?_
                      rotate_left 2
                      · (intro w hS; go_simp; first | done | with_reducible rfl | (refine ⟨?_, ?_⟩ <;> with_reducible rfl))
                      · (intro w hS; refine (T1.out w hS).mono ?_; rintro e w' ⟨he, hb⟩; exact ⟨he, btr hS hb⟩)
                      (try simp only [Act.put, List.setIfInBounds_toArray, List.set_cons_zero, List.set_cons_succ])
                      refine seq_pure (v := ?_) (by rfl) ?_ ?_
                      rotate_left
                      · (intro w hS; go_simp; try with_reducible rfl)
                      (try simp only [Act.put, List.setIfInBounds_toArray, List.set_cons_zero, List.set_cons_succ])
                      refine seq_pure (v := ?_) (by rfl) ?_ ?_
                      rotate_left
                      · (intro w hS; go_simp; try with_reducible rfl)
                      (try simp only [Act.put, List.setIfInBounds_toArray, List.set_cons_zero, List.set_cons_succ])
                      refine seq_off (by rfl) ?_
                      (try simp only [Act.put, List.setIfInBounds_toArray, List.set_cons_zero, List.set_cons_succ])
                      refine seq_pure (v := ?_) (by rfl) ?_ ?_
                      rotate_left
                      · (intro w hS; go_simp; try with_reducible rfl)
                      (try simp only [Act.put, List.setIfInBounds_toArray, List.set_cons_zero, List.set_cons_succ])
                      refine seq_pure (v := ?_) (by rfl) ?_ ?_
                      rotate_left
                      · (intro w hS; go_simp; try with_reducible rfl)
                      (try simp only [Act.put, List.setIfInBounds_toArray, List.set_cons_zero, List.set_cons_succ])
                      refine seq_pure (v := ?_) (by rfl) ?_ ?_
                      rotate_left
                      · (intro w hS; go_simp; try with_reducible rfl)
                      (try simp only [Act.put, List.setIfInBounds_toArray, List.set_cons_zero, List.set_cons_succ])
                      refine seq_pure (v := ?_) (by rfl) ?_ ?_
                      rotate_left
                      · (intro w hS; go_simp; try with_reducible rfl)
                      (try simp only [Act.put, List.setIfInBounds_toArray, List.set_cons_zero, List.set_cons_succ])
                      refine seq_pure (v := ?_) (by rfl) ?_ ?_
                      rotate_left
                      · (intro w hS; have kk := oldcell hS k20 (World.block_lt_of_cell? _ _ k20); go_simp; try with_reducible rfl)
                      (try simp only [Act.put, List.setIfInBounds_toArray, List.set_cons_zero, List.set_cons_succ])
                      refine seq_pure (v := ?_) (by rfl) ?_ ?_
                      rotate_left
                      · (intro w hS; go_simp; try with_reducible rfl)
                      (try simp only [Act.put, List.setIfInBounds_toArray, List.set_cons_zero, List.set_cons_succ])
                      refine seq_pure (v := ?_) (by rfl) ?_ ?_
                      rotate_left
                      · (intro w hS; go_simp; try with_reducible rfl)
                      (try simp only [Act.put, List.setIfInBounds_toArray, List.set_cons_zero, List.set_cons_succ])
                      refine seq_call (v := .bool Q) (f := ?_) (args := ?_) (by rfl) ?_ ?_ ?_
                      rotate_left 2
                      · (intro w hS; go_simp; first | done | with_reducible rfl | (refine ⟨?_, ?_⟩ <;> with_reducible rfl))
                      · (intro w hS; refine (T2.out w hS).mono ?_; rintro e w' ⟨he, hb⟩; exact ⟨he, btr hS hb⟩)
                      (try simp only [Act.put, List.setIfInBounds_toArray, List.set_cons_zero, List.set_cons_succ])
                      refine seq_pure (v := ?_) (by rfl) ?_ ?_
                      rotate_left
                      · (intro w hS; go_simp; try with_reducible rfl)
                      (try simp only [Act.put, List.setIfInBounds_toArray, List.set_cons_zero, List.set_cons_succ])
                      refine seq_pure (v := ?_) (by rfl) ?_ ?_
                      rotate_left
                      · (intro w hS; go_simp; try with_reducible rfl)
                      (try simp only [Act.put, List.setIfInBounds_toArray, List.set_cons_zero, List.set_cons_succ])
                      refine seq_pure (v := ?_) (by rfl) ?_ ?_
                      rotate_left
                      · (intro w hS; go_simp; try with_reducible rfl)
                      (try simp only [Act.put, List.setIfInBounds_toArray, List.set_cons_zero, List.set_cons_succ])
                      refine seq_pure (v := ?_) (by rfl) ?_ ?_
                      rotate_left
                      · (intro w hS; go_simp; try with_reducible rfl)
                      (try simp only [Act.put, List.setIfInBounds_toArray, List.set_cons_zero, List.set_cons_succ])
                      refine seq_pure (v := ?_) (by rfl) ?_ ?_
                      rotate_left
                      · (intro w hS; go_simp; try with_reducible rfl)
                      (try simp only [Act.put, List.setIfInBounds_toArray, List.set_cons_zero, List.set_cons_succ])
                      refine seq_pure (v := ?_) (by rfl) ?_ ?_
                      rotate_left
                      · (intro w hS; go_simp; try with_reducible rfl)
                      (try simp only [Act.put, List.setIfInBounds_toArray, List.set_cons_zero, List.set_cons_succ])
                      refine seq_pure (v := ?_) (by rfl) ?_ ?_
                      rotate_left
                      · (intro w hS; go_simp; try with_reducible rfl)
                      (try simp only [Act.put, List.setIfInBounds_toArray, List.set_cons_zero, List.set_cons_succ])
                      refine seq_pure (v := ?_) (by rfl) ?_ ?_
                      rotate_left
                      · (intro w hS; have kk := oldcell hS k22 (World.block_lt_of_cell? _ _ k22); go_simp; try with_reducible rfl)
                      (try simp only [Act.put, List.setIfInBounds_toArray, List.set_cons_zero, List.set_cons_succ])
                      refine seq_pure (v := ?_) (by rfl) ?_ ?_
                      rotate_left
                      · (intro w hS; go_simp; try with_reducible rfl)
                      (try simp only [Act.put, List.setIfInBounds_toArray, List.set_cons_zero, List.set_cons_succ])
                      refine seq_pure (v := ?_) (by rfl) ?_ ?_
                      rotate_left
                      · (intro w hS; go_simp; try with_reducible rfl)
                      (try simp only [Act.put, List.setIfInBounds_toArray, List.set_cons_zero, List.set_cons_succ])
                      refine seq_call (v := .bool (!Q)) (f := ?_) (args := ?_) (by rfl) ?_ ?_ ?_
                      rotate_left 2
                      · (intro w hS; go_simp; first | done | with_reducible rfl | (refine ⟨?_, ?_⟩ <;> with_reducible rfl))
                      · (intro w hS; refine (T3.out w hS).mono ?_; rintro e w' ⟨he, hb⟩; exact ⟨he, btr hS hb⟩)
                      (try simp only [Act.put, List.setIfInBounds_toArray, List.set_cons_zero, List.set_cons_succ])
                      refine seq_pure (v := ?_) (by rfl) ?_ ?_
                      rotate_left
                      · (intro w hS; go_simp; try with_reducible rfl)
                      (try simp only [Act.put, List.setIfInBounds_toArray, List.set_cons_zero, List.set_cons_succ])
                      refine seq_pure (v := ?_) (by rfl) ?_ ?_
                      rotate_left
                      · (intro w hS; go_simp; try with_reducible rfl)
                      (try simp only [Act.put, List.setIfInBounds_toArray, List.set_cons_zero, List.set_cons_succ])
                      refine seq_pure (v := ?_) (by rfl) ?_ ?_
                      rotate_left
                      · (intro w hS; go_simp; try with_reducible rfl)
                      (try simp only [Act.put, List.setIfInBounds_toArray, List.set_cons_zero, List.set_cons_succ])
                      refine seq_pure (v := ?_) (by rfl) ?_ ?_
                      rotate_left
                      · (intro w hS; go_simp; try with_reducible rfl)
                      (try simp only [Act.put, List.setIfInBounds_toArray, List.set_cons_zero, List.set_cons_succ])
                      refine seq_pure (v := ?_) (by rfl) ?_ ?_
                      rotate_left
                      · (intro w hS; go_simp; try with_reducible rfl)
                      (try simp only [Act.put, List.setIfInBounds_toArray, List.set_cons_zero, List.set_cons_succ])
                      refine seq_pure (v := ?_) (by rfl) ?_ ?_
                      rotate_left
                      · (intro w hS; go_simp; try with_reducible rfl)
                      (try simp only [Act.put, List.setIfInBounds_toArray, List.set_cons_zero, List.set_cons_succ])
                      refine seq_pure (v := ?_) (by rfl) ?_ ?_
                      rotate_left
                      · (intro w hS; have kk := oldcell hS k25 (World.block_lt_of_cell? _ _ k25); go_simp; try with_reducible rfl)
                      (try simp only [Act.put, List.setIfInBounds_toArray, List.set_cons_zero, List.set_cons_succ])
                      refine seq_pure (v := ?_) (by rfl) ?_ ?_
                      rotate_left
                      · (intro w hS; go_simp; try with_reducible rfl)
                      (try simp only [Act.put, List.setIfInBounds_toArray, List.set_cons_zero, List.set_cons_succ])
                      refine seq_pure (v := ?_) (by rfl) ?_ ?_
                      rotate_left
                      · (intro w hS; go_simp; try with_reducible rfl)
                      (try simp only [Act.put, List.setIfInBounds_toArray, List.set_cons_zero, List.set_cons_succ])
                      refine seq_call (v := .bool false) (f := ?_) (args := ?_) (by rfl) ?_ ?_ ?_
                      rotate_left 2
                      · (intro w hS; go_simp; first | done | with_reducible rfl | (refine ⟨?_, ?_⟩ <;> with_reducible rfl))
                      · (intro w hS; refine (T4.out w hS).mono ?_; rintro e w' ⟨he, hb⟩; exact ⟨he, btr hS hb⟩)
                      (try simp only [Act.put, List.setIfInBounds_toArray, List.set_cons_zero, List.set_cons_succ])
                      refine seq_pure (v := ?_) (by rfl) ?_ ?_
                      rotate_left
                      · (intro w hS; go_simp; try with_reducible rfl)
                      (try simp only [Act.put, List.setIfInBounds_toArray, List.set_cons_zero, List.set_cons_succ])
                      refine seq_pure (v := ?_) (by rfl) ?_ ?_
                      rotate_left
                      · (intro w hS; go_simp; try with_reducible rfl)
                      (try simp only [Act.put, List.setIfInBounds_toArray, List.set_cons_zero, List.set_cons_succ])
                      refine seq_pure (v := ?_) (by rfl) ?_ ?_
                      rotate_left
                      · (intro w hS; go_simp; try with_reducible rfl)
                      (try simp only [Act.put, List.setIfInBounds_toArray, List.set_cons_zero, List.set_cons_succ])
                      refine seq_pure (v := ?_) (by rfl) ?_ ?_
                      rotate_left
                      · (intro w hS; go_simp; try with_reducible rfl)
                      (try simp only [Act.put, List.setIfInBounds_toArray, List.set_cons_zero, List.set_cons_succ])
                      refine seq_pure (v := ?_) (by rfl) ?_ ?_
                      rotate_left
                      · (intro w hS; go_simp; try with_reducible rfl)
                      (try simp only [Act.put, List.setIfInBounds_toArray, List.set_cons_zero, List.set_cons_succ])
                      refine seq_off (by rfl) ?_
                      (try simp only [Act.put, List.setIfInBounds_toArray, List.set_cons_zero, List.set_cons_succ])
                      refine seq_off (by rfl) ?_
                      (try simp only [Act.put, List.setIfInBounds_toArray, List.set_cons_zero, List.set_cons_succ])
                      refine seq_off (by rfl) ?_
                      (try simp only [Act.put, List.setIfInBounds_toArray, List.set_cons_zero, List.set_cons_succ])
                      refine seq_off (by rfl) ?_
                      (try simp only [Act.put, List.setIfInBounds_toArray, List.set_cons_zero, List.set_cons_succ])
                      refine seq_off (by rfl) ?_
                      (try simp only [Act.put, List.setIfInBounds_toArray, List.set_cons_zero, List.set_cons_succ])
                      refine seq_pure (v := ?_) (by rfl) ?_ ?_
                      rotate_left
                      · (intro w hS; go_simp; try with_reducible rfl)
                      (try simp only [Act.put, List.setIfInBounds_toArray, List.set_cons_zero, List.set_cons_succ])
                      refine seq_pure (v := ?_) (by rfl) ?_ ?_
                      rotate_left
                      · (intro w hS; go_simp; try with_reducible rfl)
                      (try simp only [Act.put, List.setIfInBounds_toArray, List.set_cons_zero, List.set_cons_succ])
                      refine seq_pure (v := ?_) (by rfl) ?_ ?_
                      rotate_left
                      · (intro w hS; go_simp; try with_reducible rfl)
                      (try simp only [Act.put, List.setIfInBounds_toArray, List.set_cons_zero, List.set_cons_succ])
                      refine seq_pure (v := ?_) (by rfl) ?_ ?_
                      rotate_left
                      · (intro w hS; go_simp; try with_reducible rfl)
                      (try simp only [Act.put, List.setIfInBounds_toArray, List.set_cons_zero, List.set_cons_succ])
                      refine seq_pure (v := ?_) (by rfl) ?_ ?_
                      rotate_left
                      · (intro w hS; have kk := oldcell hS k12 (World.block_lt_of_cell? _ _ k12); go_simp; try with_reducible rfl)
                      (try simp only [Act.put, List.setIfInBounds_toArray, List.set_cons_zero, List.set_cons_succ])
                      refine seq_pure (v := ?_) (by rfl) ?_ ?_
                      rotate_left
                      · (intro w hS; go_simp; try with_reducible rfl)
                      (try simp only [Act.put, List.setIfInBounds_toArray, List.set_cons_zero, List.set_cons_succ])
                      refine seq_call (v := .bool true) (f := ?_) (args := ?_) (by rfl) ?_ ?_ ?_
                      rotate_left 2
                      · (intro w hS; go_simp; first | done | with_reducible rfl | (refine ⟨?_, ?_⟩ <;> with_reducible rfl))
                      · (intro w hS; refine (T5.out w hS).mono ?_; rintro e w' ⟨he, hb⟩; exact ⟨he, btr hS hb⟩)
                      (try simp only [Act.put, List.setIfInBounds_toArray, List.set_cons_zero, List.set_cons_succ])
                      refine seq_pure (v := ?_) (by rfl) ?_ ?_
                      rotate_left
                      · (intro w hS; go_simp; try with_reducible rfl)
                      (try simp only [Act.put, List.setIfInBounds_toArray, List.set_cons_zero, List.set_cons_succ])
                      refine seq_pure (v := ?_) (by rfl) ?_ ?_
                      rotate_left
                      · (intro w hS; go_simp; try with_reducible rfl)
                      (try simp only [Act.put, List.setIfInBounds_toArray, List.set_cons_zero, List.set_cons_succ])
                      refine seq_nil ?_
                      intro w2 HB
                      go_wp2_with fail
                      go_ret
                      exact ⟨rfl, btr hW HB⟩
                  case true =>
                    as_aux_lemma =>
                      simp only [Bool.not_true, Bool.not_false, Bool.and_true, Bool.and_false, Bool.true_and, Bool.false_and, Bool.or_true, Bool.or_false, Bool.true_or, Bool.false_or, Bool.and_self, Bool.or_self, beq_self_eq_true, Bool.true_beq, Bool.false_beq] at SN1 SA1 SO1 SI1
                      have J0 := Lib.hid SN1; have J1 := Lib.hid SA1; have J2 := Lib.hid SO1; have J3 := Lib.hid SI1; have J4 := Lib.hid SG1
                      clear SN1 SA1 SO1 SI1 SG1
                      have T0 := Lib.hid (fun (w' : World) (hB : Below wc.heap.size wc w') => eval_is (cv := cv) hC12 hB ((Hvals.out.mono hW).mono hB) WC.out J0.out rfl hl2 hvm)
                      have T1 := Lib.hid (fun (w' : World) (hB : Below wc.heap.size wc w') => eval_is (cv := cv) hC18 hB ((Hvals.out.mono hW).mono hB) WD.out J1.out rfl dl2 hvm)
                      have T2 := Lib.hid (fun (w' : World) (hB : Below wc.heap.size wc w') => eval_is (cv := cv) hC20 hB ((Hvals.out.mono hW).mono hB) WE.out J2.out rfl el2 hvm)
                      have T3 := Lib.hid (fun (w' : World) (hB : Below wc.heap.size wc w') => eval_is (cv := cv) hC22 hB ((Hvals.out.mono hW).mono hB) WF.out J3.out rfl fl2 hvm)
                      have T4 := Lib.hid (fun (w' : World) (hB : Below wc.heap.size wc w') => eval_is (cv := cv) hC25 hB ((Hvals.out.mono hW).mono hB) WG.out J4.out rfl gl2 hvm)
                      have T5 := Lib.hid (fun (w' : World) (hB : Below wc.heap.size wc w') => eval_is (cv := cv) hC12 hB ((Hvals.out.mono hW).mono hB) WC.out ST.out rfl hl2 hvm)
                      clear hC12 hC18 hC20 hC22 hC25 J0 J1 J2 J3 J4 ST WC WD WE WF WG E1 E2 E3 E4 dl2 el2 fl2 gl2 hl2 hl3 Hvals hvm hcl hrl hc Hr Hs Hg HG HR Hcb Px Py x1 x2 y1 y2 k12f k18f k20f k22f k25f hq hb12 hb18 hb20 hb22 hb25
                      dsimp only [List.append]
                      refine wp_region_seq (fun w' => Below wc.heap.size wc w') (by kernel_rfl) (by kernel_rfl) (by go_grown) ?_
                      refine seq_pure (v := ?_) (by rfl) ?_ ?_
                      rotate_left
                      · (intro w hS; go_simp; try with_reducible rfl)
                      (try simp only [Act.put, List.setIfInBounds_toArray, List.set_cons_zero, List.set_cons_succ])
                      refine seq_pure (v := ?_) (by rfl) ?_ ?_
                      rotate_left
                      · (intro w hS; go_simp; try with_reducible rfl)
                      (try simp only [Act.put, List.setIfInBounds_toArray, List.set_cons_zero, List.set_cons_succ])
                      refine seq_pure (v := ?_) (by rfl) ?_ ?_
                      rotate_left
                      · (intro w hS; have kk := oldcell hS k12 (World.block_lt_of_cell? _ _ k12); go_simp; try with_reducible rfl)
                      (try simp only [Act.put, List.setIfInBounds_toArray, List.set_cons_zero, List.set_cons_succ])
                      refine seq_pure (v := ?_) (by rfl) ?_ ?_
                      rotate_left
                      · (intro w hS; go_simp; try with_reducible rfl)
                      (try simp only [Act.put, List.setIfInBounds_toArray, List.set_cons_zero, List.set_cons_succ])
                      refine seq_pure (v := ?_) (by rfl) ?_ ?_
                      rotate_left
                      · (intro w hS; go_simp; try with_reducible rfl)
                      (try simp only [Act.put, List.setIfInBounds_toArray, List.set_cons_zero, List.set_cons_succ])
                      refine seq_call (v := .int .i64 (cnot x)) (f := ?_) (args := ?_) (by rfl) ?_ ?_ ?_
                      rotate_left 2
                      · (intro w hS; go_simp; first | done | with_reducible rfl | (refine ⟨?_, ?_⟩ <;> with_reducible rfl))
                      · (intro w hS; refine (not_any _ _ xm).mono ?_; rintro e w' ⟨he, hb⟩; subst hb; exact ⟨he, hS⟩)
                      (try simp only [Act.put, List.setIfInBounds_toArray, List.set_cons_zero, List.set_cons_succ])
                      refine seq_call (v := .bool false) (f := ?_) (args := ?_) (by rfl) ?_ ?_ ?_
                      rotate_left 2
                      · (intro w hS; go_simp; first | done | with_reducible rfl | (refine ⟨?_, ?_⟩ <;> with_reducible rfl))
                      · (intro w hS; refine (T0.out w hS).mono ?_; rintro e w' ⟨he, hb⟩; exact ⟨he, btr hS hb⟩)
                      (try simp only [Act.put, List.setIfInBounds_toArray, List.set_cons_zero, List.set_cons_succ])
                      refine seq_pure (v := ?_) (by rfl) ?_ ?_
                      rotate_left
                      · (intro w hS; go_simp; try with_reducible rfl)
                      (try simp only [Act.put, List.setIfInBounds_toArray, List.set_cons_zero, List.set_cons_succ])
                      refine seq_pure (v := ?_) (by rfl) ?_ ?_
                      rotate_left
                      · (intro w hS; go_simp; try with_reducible rfl)
                      (try simp only [Act.put, List.setIfInBounds_toArray, List.set_cons_zero, List.set_cons_succ])
                      refine seq_pure (v := ?_) (by rfl) ?_ ?_
                      rotate_left
                      · (intro w hS; go_simp; try with_reducible rfl)
                      (try simp only [Act.put, List.setIfInBounds_toArray, List.set_cons_zero, List.set_cons_succ])
                      refine seq_pure (v := ?_) (by rfl) ?_ ?_
                      rotate_left
                      · (intro w hS; go_simp; try with_reducible rfl)
                      (try simp only [Act.put, List.setIfInBounds_toArray, List.set_cons_zero, List.set_cons_succ])
                      refine seq_pure (v := ?_) (by rfl) ?_ ?_
                      rotate_left
                      · (intro w hS; go_simp; try with_reducible rfl)
                      (try simp only [Act.put, List.setIfInBounds_toArray, List.set_cons_zero, List.set_cons_succ])
                      refine seq_pure (v := ?_) (by rfl) ?_ ?_
                      rotate_left
                      · (intro w hS; have kk := oldcell hS k18 (World.block_lt_of_cell? _ _ k18); go_simp; try with_reducible rfl)
                      (try simp only [Act.put, List.setIfInBounds_toArray, List.set_cons_zero, List.set_cons_succ])
                      refine seq_pure (v := ?_) (by rfl) ?_ ?_
                      rotate_left
                      · (intro w hS; go_simp; try with_reducible rfl)
                      (try simp only [Act.put, List.setIfInBounds_toArray, List.set_cons_zero, List.set_cons_succ])
                      refine seq_pure (v := ?_) (by rfl) ?_ ?_
                      rotate_left
                      · (intro w hS; go_simp; try with_reducible rfl)
                      (try simp only [Act.put, List.setIfInBounds_toArray, List.set_cons_zero, List.set_cons_succ])
                      refine seq_call (v := .bool Q) (f := ?_) (args := ?_) (by rfl) ?_ ?_ ?_
                      rotate_left 2
                      · (intro w hS; go_simp; first | done | with_reducible rfl | (refine ⟨?_, ?_⟩ <;> with_reducible rfl))
                      · (intro w hS; refine (T1.out w hS).mono ?_; rintro e w' ⟨he, hb⟩; exact ⟨he, btr hS hb⟩)
                      (try simp only [Act.put, List.setIfInBounds_toArray, List.set_cons_zero, List.set_cons_succ])
                      refine seq_pure (v := ?_) (by rfl) ?_ ?_
                      rotate_left
                      · (intro w hS; go_simp; try with_reducible rfl)
                      (try simp only [Act.put, List.setIfInBounds_toArray, List.set_cons_zero, List.set_cons_succ])
                      refine seq_pure (v := ?_) (by rfl) ?_ ?_
                      rotate_left
                      · (intro w hS; go_simp; try with_reducible rfl)
                      (try simp only [Act.put, List.setIfInBounds_toArray, List.set_cons_zero, List.set_cons_succ])
                      refine seq_pure (v := ?_) (by rfl) ?_ ?_
                      rotate_left
                      · (intro w hS; go_simp; try with_reducible rfl)
                      (try simp only [Act.put, List.setIfInBounds_toArray, List.set_cons_zero, List.set_cons_succ])
                      refine seq_pure (v := ?_) (by rfl) ?_ ?_
                      rotate_left
                      · (intro w hS; go_simp; try with_reducible rfl)
                      (try simp only [Act.put, List.setIfInBounds_toArray, List.set_cons_zero, List.set_cons_succ])
                      refine seq_pure (v := ?_) (by rfl) ?_ ?_
                      rotate_left
                      · (intro w hS; go_simp; try with_reducible rfl)
                      (try simp only [Act.put, List.setIfInBounds_toArray, List.set_cons_zero, List.set_cons_succ])
                      refine seq_pure (v := ?_) (by rfl) ?_ ?_
                      rotate_left
                      · (intro w hS; go_simp; try with_reducible rfl)
                      (try simp only [Act.put, List.setIfInBounds_toArray, List.set_cons_zero, List.set_cons_succ])
                      refine seq_pure (v := ?_) (by rfl) ?_ ?_
                      rotate_left
                      · (intro w hS; go_simp; try with_reducible rfl)
                      (try simp only [Act.put, List.setIfInBounds_toArray, List.set_cons_zero, List.set_cons_succ])
                      refine seq_pure (v := ?_) (by rfl) ?_ ?_
                      rotate_left
                      · (intro w hS; have kk := oldcell hS k20 (World.block_lt_of_cell? _ _ k20); go_simp; try with_reducible rfl)
                      (try simp only [Act.put, List.setIfInBounds_toArray, List.set_cons_zero, List.set_cons_succ])
                      refine seq_pure (v := ?_) (by rfl) ?_ ?_
                      rotate_left
                      · (intro w hS; go_simp; try with_reducible rfl)
                      (try simp only [Act.put, List.setIfInBounds_toArray, List.set_cons_zero, List.set_cons_succ])
                      refine seq_pure (v := ?_) (by rfl) ?_ ?_
                      rotate_left
                      · (intro w hS; go_simp; try with_reducible rfl)
                      (try simp only [Act.put, List.setIfInBounds_toArray, List.set_cons_zero, List.set_cons_succ])
                      refine seq_call (v := .bool true) (f := ?_) (args := ?_) (by rfl) ?_ ?_ ?_
                      rotate_left 2
                      · (intro w hS; go_simp; first | done | with_reducible rfl | (refine ⟨?_, ?_⟩ <;> with_reducible rfl))
                      · (intro w hS; refine (T2.out w hS).mono ?_; rintro e w' ⟨he, hb⟩; exact ⟨he, btr hS hb⟩)
                      (try simp only [Act.put, List.setIfInBounds_toArray, List.set_cons_zero, List.set_cons_succ])
                      refine seq_pure (v := ?_) (by rfl) ?_ ?_
                      rotate_left
                      · (intro w hS; go_simp; try with_reducible rfl)
                      (try simp only [Act.put, List.setIfInBounds_toArray, List.set_cons_zero, List.set_cons_succ])
                      refine seq_pure (v := ?_) (by rfl) ?_ ?_
                      rotate_left
                      · (intro w hS; go_simp; try with_reducible rfl)
                      (try simp only [Act.put, List.setIfInBounds_toArray, List.set_cons_zero, List.set_cons_succ])
                      refine seq_off (by rfl) ?_
                      (try simp only [Act.put, List.setIfInBounds_toArray, List.set_cons_zero, List.set_cons_succ])
                      refine seq_pure (v := ?_) (by rfl) ?_ ?_
                      rotate_left
                      · (intro w hS; go_simp; try with_reducible rfl)
                      (try simp only [Act.put, List.setIfInBounds_toArray, List.set_cons_zero, List.set_cons_succ])
                      refine seq_pure (v := ?_) (by rfl) ?_ ?_
                      rotate_left
                      · (intro w hS; go_simp; try with_reducible rfl)
                      (try simp only [Act.put, List.setIfInBounds_toArray, List.set_cons_zero, List.set_cons_succ])
                      refine seq_pure (v := ?_) (by rfl) ?_ ?_
                      rotate_left
                      · (intro w hS; go_simp; try with_reducible rfl)
                      (try simp only [Act.put, List.setIfInBounds_toArray, List.set_cons_zero, List.set_cons_succ])
                      refine seq_pure (v := ?_) (by rfl) ?_ ?_
                      rotate_left
                      · (intro w hS; go_simp; try with_reducible rfl)
                      (try simp only [Act.put, List.setIfInBounds_toArray, List.set_cons_zero, List.set_cons_succ])
                      refine seq_pure (v := ?_) (by rfl) ?_ ?_
                      rotate_left
                      · (intro w hS; have kk := oldcell hS k22 (World.block_lt_of_cell? _ _ k22); go_simp; try with_reducible rfl)
                      (try simp only [Act.put, List.setIfInBounds_toArray, List.set_cons_zero, List.set_cons_succ])
                      refine seq_pure (v := ?_) (by rfl) ?_ ?_
                      rotate_left
                      · (intro w hS; go_simp; try with_reducible rfl)
                      (try simp only [Act.put, List.setIfInBounds_toArray, List.set_cons_zero, List.set_cons_succ])
                      refine seq_pure (v := ?_) (by rfl) ?_ ?_
                      rotate_left
                      · (intro w hS; go_simp; try with_reducible rfl)
                      (try simp only [Act.put, List.setIfInBounds_toArray, List.set_cons_zero, List.set_cons_succ])
                      refine seq_call (v := .bool Q) (f := ?_) (args := ?_) (by rfl) ?_ ?_ ?_
                      rotate_left 2
                      · (intro w hS; go_simp; first | done | with_reducible rfl | (refine ⟨?_, ?_⟩ <;> with_reducible rfl))
                      · (intro w hS; refine (T3.out w hS).mono ?_; rintro e w' ⟨he, hb⟩; exact ⟨he, btr hS hb⟩)
                      (try simp only [Act.put, List.setIfInBounds_toArray, List.set_cons_zero, List.set_cons_succ])
                      refine seq_pure (v := ?_) (by rfl) ?_ ?_
                      rotate_left
                      · (intro w hS; go_simp; try with_reducible rfl)
                      (try simp only [Act.put, List.setIfInBounds_toArray, List.set_cons_zero, List.set_cons_succ])
                      refine seq_pure (v := ?_) (by rfl) ?_ ?_
                      rotate_left
                      · (intro w hS; go_simp; try with_reducible rfl)
                      (try simp only [Act.put, List.setIfInBounds_toArray, List.set_cons_zero, List.set_cons_succ])
                      refine seq_pure (v := ?_) (by rfl) ?_ ?_
                      rotate_left
                      · (intro w hS; go_simp; try with_reducible rfl)
                      (try simp only [Act.put, List.setIfInBounds_toArray, List.set_cons_zero, List.set_cons_succ])
                      refine seq_pure (v := ?_) (by rfl) ?_ ?_
                      rotate_left
                      · (intro w hS; go_simp; try with_reducible rfl)
                      (try simp only [Act.put, List.setIfInBounds_toArray, List.set_cons_zero, List.set_cons_succ])
                      refine seq_pure (v := ?_) (by rfl) ?_ ?_
                      rotate_left
                      · (intro w hS; go_simp; try with_reducible rfl)
                      (try simp only [Act.put, List.setIfInBounds_toArray, List.set_cons_zero, List.set_cons_succ])
                      refine seq_pure (v := ?_) (by rfl) ?_ ?_
                      rotate_left
                      · (intro w hS; go_simp; try with_reducible rfl)
                      (try simp only [Act.put, List.setIfInBounds_toArray, List.set_cons_zero, List.set_cons_succ])
                      refine seq_pure (v := ?_) (by rfl) ?_ ?_
                      rotate_left
                      · (intro w hS; have kk := oldcell hS k25 (World.block_lt_of_cell? _ _ k25); go_simp; try with_reducible rfl)
                      (try simp only [Act.put, List.setIfInBounds_toArray, List.set_cons_zero, List.set_cons_succ])
                      refine seq_pure (v := ?_) (by rfl) ?_ ?_
                      rotate_left
                      · (intro w hS; go_simp; try with_reducible rfl)
                      (try simp only [Act.put, List.setIfInBounds_toArray, List.set_cons_zero, List.set_cons_succ])
                      refine seq_pure (v := ?_) (by rfl) ?_ ?_
                      rotate_left
                      · (intro w hS; go_simp; try with_reducible rfl)
                      (try simp only [Act.put, List.setIfInBounds_toArray, List.set_cons_zero, List.set_cons_succ])
                      refine seq_call (v := .bool false) (f := ?_) (args := ?_) (by rfl) ?_ ?_ ?_
                      rotate_left 2
                      · (intro w hS; go_simp; first | done | with_reducible rfl | (refine ⟨?_, ?_⟩ <;> with_reducible rfl))
                      · (intro w hS; refine (T4.out w hS).mono ?_; rintro e w' ⟨he, hb⟩; exact ⟨he, btr hS hb⟩)
                      (try simp only [Act.put, List.setIfInBounds_toArray, List.set_cons_zero, List.set_cons_succ])
                      refine seq_pure (v := ?_) (by rfl) ?_ ?_
                      rotate_left
                      · (intro w hS; go_simp; try with_reducible rfl)
                      (try simp only [Act.put, List.setIfInBounds_toArray, List.set_cons_zero, List.set_cons_succ])
                      refine seq_pure (v := ?_) (by rfl) ?_ ?_
                      rotate_left
                      · (intro w hS; go_simp; try with_reducible rfl)
                      (try simp only [Act.put, List.setIfInBounds_toArray, List.set_cons_zero, List.set_cons_succ])
                      refine seq_pure (v := ?_) (by rfl) ?_ ?_
                      rotate_left
                      · (intro w hS; go_simp; try with_reducible rfl)
                      (try simp only [Act.put, List.setIfInBounds_toArray, List.set_cons_zero, List.set_cons_succ])
                      refine seq_pure (v := ?_) (by rfl) ?_ ?_
                      rotate_left
                      · (intro w hS; go_simp; try with_reducible rfl)
                      (try simp only [Act.put, List.setIfInBounds_toArray, List.set_cons_zero, List.set_cons_succ])
                      refine seq_pure (v := ?_) (by rfl) ?_ ?_
                      rotate_left
                      · (intro w hS; go_simp; try with_reducible rfl)
                      (try simp only [Act.put, List.setIfInBounds_toArray, List.set_cons_zero, List.set_cons_succ])
                      refine seq_off (by rfl) ?_
                      (try simp only [Act.put, List.setIfInBounds_toArray, List.set_cons_zero, List.set_cons_succ])
                      refine seq_off (by rfl) ?_
                      (try simp only [Act.put, List.setIfInBounds_toArray, List.set_cons_zero, List.set_cons_succ])
                      refine seq_off (by rfl) ?_
                      (try simp only [Act.put, List.setIfInBounds_toArray, List.set_cons_zero, List.set_cons_succ])
                      refine seq_off (by rfl) ?_
                      (try simp only [Act.put, List.setIfInBounds_toArray, List.set_cons_zero, List.set_cons_succ])
                      refine seq_off (by rfl) ?_
                      (try simp only [Act.put, List.setIfInBounds_toArray, List.set_cons_zero, List.set_cons_succ])
                      refine seq_pure (v := ?_) (by rfl) ?_ ?_
                      rotate_left
                      · (intro w hS; go_simp; try with_reducible rfl)
                      (try simp only [Act.put, List.setIfInBounds_toArray, List.set_cons_zero, List.set_cons_succ])
                      refine seq_pure (v := ?_) (by rfl) ?_ ?_
                      rotate_left
                      · (intro w hS; go_simp; try with_reducible rfl)
                      (try simp only [Act.put, List.setIfInBounds_toArray, List.set_cons_zero, List.set_cons_succ])
                      refine seq_pure (v := ?_) (by rfl) ?_ ?_
                      rotate_left
                      · (intro w hS; go_simp; try with_reducible rfl)
                      (try simp only [Act.put, List.setIfInBounds_toArray, List.set_cons_zero, List.set_cons_succ])
                      refine seq_pure (v := ?_) (by rfl) ?_ ?_
                      rotate_left
                      · (intro w hS; go_simp; try with_reducible rfl)
                      (try simp only [Act.put, List.setIfInBounds_toArray, List.set_cons_zero, List.set_cons_succ])
                      refine seq_pure (v := ?_) (by rfl) ?_ ?_
                      rotate_left
                      · (intro w hS; have kk := oldcell hS k12 (World.block_lt_of_cell? _ _ k12); go_simp; try with_reducible rfl)
                      (try simp only [Act.put, List.setIfInBounds_toArray, List.set_cons_zero, List.set_cons_succ])
                      refine seq_pure (v := ?_) (by rfl) ?_ ?_
                      rotate_left
                      · (intro w hS; go_simp; try with_reducible rfl)
                      (try simp only [Act.put, List.setIfInBounds_toArray, List.set_cons_zero, List.set_cons_succ])
                      refine seq_call (v := .bool true) (f := ?_) (args := ?_) (by rfl) ?_ ?_ ?_
                      rotate_left 2
                      · (intro w hS; go_simp; first | done | with_reducible rfl | (refine ⟨?_, ?_⟩ <;> with_reducible rfl))
                      · (intro w hS; refine (T5.out w hS).mono ?_; rintro e w' ⟨he, hb⟩; exact ⟨he, btr hS hb⟩)
                      (try simp only [Act.put, List.setIfInBounds_toArray, List.set_cons_zero, List.set_cons_succ])
                      refine seq_pure (v := ?_) (by rfl) ?_ ?_
                      rotate_left
                      · (intro w hS; go_simp; try with_reducible rfl)
                      (try simp only [Act.put, List.setIfInBounds_toArray, List.set_cons_zero, List.set_cons_succ])
                      refine seq_pure (v := ?_) (by rfl) ?_ ?_
                      rotate_left
                      · (intro w hS; go_simp; try with_reducible rfl)
                      (try simp only [Act.put, List.setIfInBounds_toArray, List.set_cons_zero, List.set_cons_succ])
                      refine seq_nil ?_
                      intro w2 HB
                      go_wp2_with fail
                      go_ret
                      exact ⟨rfl, btr hW HB⟩
end Go.Proofs.Ytanlecgpnknhoaa
