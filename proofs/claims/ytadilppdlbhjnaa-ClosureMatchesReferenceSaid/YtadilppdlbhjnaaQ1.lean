/- Walk of ClosureMatchesReference. -/
import Derived.Test.YtadilppdlbhjnaaLB
import Derived.Test.YtadilppdlbhjnaaH15
namespace Go.Proofs.Ytadilppdlbhjnaa
set_option linter.unusedSimpArgs false
set_option linter.unusedVariables false
open Go.RowKit

set_option maxRecDepth 100000 in
set_option maxHeartbeats 8000000 in
theorem closureMatches_any (k : Nat) (st : List Step) (ps : Option Addr) (cs : Nat) (vs : List Nat) (pv : Option Addr) (cv : Nat) (w : World) (hk : k < 256) (hl : st.length ≤ maxLen) (hs : ∀ s ∈ st, s.k < 256 ∧ s.a < 256 ∧ s.b < 256) (hg : StepsAt w ps st) (hvl : vs.length ≤ maxLen) (hv8 : ∀ v ∈ vs, v < 256) (hV : UbAt w pv vs) :
    Calls Try.prog 3 #[.int .u8 k, .slice ps st.length cs, .slice pv vs.length cv] w (RetB w true) := by
  unfold maxLen at hl
  have HS8 := Lib.hid hs; have HG := Lib.hid hg; have HV8 := Lib.hid hv8; have HV := Lib.hid hV; clear hs hg hv8 hV
  by_cases h20 : (20 : Int) < (st.length : Int)
  case pos =>
    go_enter Try.func3, Try.ntmps3
    go_wp2_with (first | (go_at_call 16; refine (head15_any _).mono ?_; rintro e w1 ⟨rfl, hb1⟩))
    go_ret
    exact ⟨rfl, hb1⟩
  case neg =>
    obtain ⟨n, hn⟩ : ∃ n, k % 4 + 1 = n := ⟨_, rfl⟩
    have hn0 : 0 < n := by omega
    have hn4 : n ≤ 4 := by omega
    obtain ⟨c, refs, a, hcb, ha, gc, hcl, ma, hrl, hrr, hal⟩ := made_plain st vs n (by omega) hn0 hn4
    have hc0 : 0 < c.length := gc.ne
    have hc2 : c.length + 2400 ≤ 20000 := by omega
    have hc3 : c.length ≤ 20000 := by omega
    obtain ⟨d1, m1, e1⟩ : ∃ d m, mSquaring c n a = (d, m) := ⟨_, _, rfl⟩
    obtain ⟨d2, m2, e2⟩ : ∃ d m, mStepwise c n a = (d, m) := ⟨_, _, rfl⟩
    obtain ⟨d3, m3, e3⟩ : ∃ d m, mSmaller c n a = (d, m) := ⟨_, _, rfl⟩
    obtain ⟨d4, r4, e4⟩ : ∃ d r, mAcyclic c n a = (d, r) := ⟨_, _, rfl⟩
    have E1 := Lib.hid e1; have E2 := Lib.hid e2; have E3 := Lib.hid e3; have E4 := Lib.hid e4
    have hm1 : m1.length ≤ 16 := mok_len hn4 (by have h := (squaring_ok hn4 gc (by omega) ma).2; rw [e1] at h; exact h)
    have hm2 : m2.length ≤ 16 := mok_len hn4 (by have h := (stepwise_ok hn4 gc (by omega) ma).2; rw [e2] at h; exact h)
    have hm3 : m3.length ≤ 16 := mok_len hn4 (by have h := (smaller_ok hn4 gc (by omega) ma).2; rw [e3] at h; exact h)
    clear e1 e2 e3 e4
    have HN := Lib.hid hn; have HCB := Lib.hid hcb; have HA := Lib.hid ha; have GC := Lib.hid gc; have MA := Lib.hid ma; have HR := Lib.hid hrr
    clear hn hcb ha gc ma hrr
    have hW : Below w.heap.size w w := Below.refl _ _
    go_enter Try.func3, Try.ntmps3
    go_upto_region 1 with fail
    go_cut [7] from 27 to 27 (fun s7 wx => (s7 = .bool true) ∧ Below w.heap.size w wx)
    case first =>
      as_aux_lemma =>
        go_wp2_with (first | (go_at_call 16; refine (head15_any _).mono ?_; rintro e w2 ⟨rfl, hbl⟩))
        go_meet
        exact ⟨rfl, (by first | exact hbl | exact btr (by go_grown) hbl)⟩
    case rest =>
      obtain ⟨rfl, hst⟩ := hcut
      replace hW := btr hW hst
      clear hst
      go_upto_region 4 with fail
      go_cut [8, 9, 10] from 32 to 39 (fun s8 s9 s10 wx => (∃ (b b' : Nat), s8 = .pointer (some ⟨b, 0, none⟩) ∧ s9 = .int .i64 n ∧ s10 = .pointer (some ⟨b', 0, none⟩) ∧ Bx wx b c ∧ BM wx b' 2 a) ∧ Below wc.heap.size wc wx)
      case first =>
        as_aux_lemma =>
          go_wp2_with (first | (go_at_call 17; refine (made15_any k st vs c refs ps pv cs cv _ hk (HG.out.mono hW) (by omega) HS8.out (HV.out.mono hW) hvl HV8.out HCB.out hc0 (by omega) HR.out).mono ?_; rw [HN.out, HA.out]; rintro e w2 ⟨p2, cap2, y2, cy2, rfl, hC2, hM2, hbl⟩))
          go_meet
          exact ⟨⟨_, _, rfl, rfl, rfl, (Bx.new hC2 _).up (by go_grown), BM.newAt (hM2.up (bal (Below.refl _ _) _)) _ (by simp)⟩, bal (bal hbl _) _⟩
      case rest =>
        obtain ⟨⟨b8, b10, rfl, rfl, rfl, hB8, hN10⟩, hst⟩ := hcut
        replace hW := btr hW hst
        clear hst
        go_upto_region 5 with fail
        obtain ⟨p8, c8, k8, k8f, hC8⟩ := id hB8
        obtain ⟨q10, cq10, ⟨⟨m10, m10f⟩, ⟨n10, n10f⟩, -⟩, hM10⟩ := id hN10
        go_cut [11, 12] from 40 to 46 (fun s11 s12 wx => (∃ (b b' : Nat), s11 = .pointer (some ⟨b, 0, none⟩) ∧ s12 = .pointer (some ⟨b', 0, none⟩) ∧ Bx wx b d1 ∧ BM wx b' 2 m1) ∧ Below wc.heap.size wc wx)
        case first =>
          as_aux_lemma =>
            go_wp2_with (first | (go_at_call 18; refine (squaring_is hC8 hM10 (Below.refl _ _) hn0 hn4 GC.out hc2 MA.out E1.out).mono ?_; rintro e w2 ⟨p2, cap2, y2, cy2, rfl, hC2, hM2, hbl⟩))
            go_meet
            exact ⟨⟨_, _, rfl, rfl, (Bx.new hC2 _).up (by go_grown), BM.newAt (hM2.up (bal (Below.refl _ _) _)) _ (by simp)⟩, bal (bal hbl _) _⟩
        case rest =>
          clear k8 k8f hC8
          obtain ⟨⟨b11, b12, rfl, rfl, hB11, hN12⟩, hst⟩ := hcut
          replace hB8 := hB8.up hst
          replace hN10 := hN10.up hst
          replace hW := btr hW hst
          clear hst
          clear m10 m10f n10 n10f hM10
          go_upto_region 6 with fail
          obtain ⟨p8, c8, k8, k8f, hC8⟩ := id hB8
          obtain ⟨q10, cq10, ⟨⟨m10, m10f⟩, ⟨n10, n10f⟩, -⟩, hM10⟩ := id hN10
          go_cut [13, 14] from 47 to 53 (fun s13 s14 wx => (∃ (b b' : Nat), s13 = .pointer (some ⟨b, 0, none⟩) ∧ s14 = .pointer (some ⟨b', 0, none⟩) ∧ Bx wx b d1 ∧ BM wx b' 2 m1) ∧ Below wc.heap.size wc wx)
          case first =>
            as_aux_lemma =>
              go_wp2_with (first | (go_at_call 19; refine (rsquaring_is hC8 hM10 (Below.refl _ _) hn0 hn4 GC.out hc2 MA.out E1.out).mono ?_; rintro e w2 ⟨p2, cap2, y2, cy2, rfl, hC2, hM2, hbl⟩))
              go_meet
              exact ⟨⟨_, _, rfl, rfl, (Bx.new hC2 _).up (by go_grown), BM.newAt (hM2.up (bal (Below.refl _ _) _)) _ (by simp)⟩, bal (bal hbl _) _⟩
          case rest =>
            clear k8 k8f hC8
            obtain ⟨⟨b13, b14, rfl, rfl, hB13, hN14⟩, hst⟩ := hcut
            replace hB8 := hB8.up hst
            replace hN10 := hN10.up hst
            replace hB11 := hB11.up hst
            replace hN12 := hN12.up hst
            replace hW := btr hW hst
            clear hst
            clear m10 m10f n10 n10f hM10
            go_upto_region 7 with fail
            obtain ⟨p8, c8, k8, k8f, hC8⟩ := id hB8
            obtain ⟨q10, cq10, ⟨⟨m10, m10f⟩, ⟨n10, n10f⟩, -⟩, hM10⟩ := id hN10
            go_cut [15, 16] from 54 to 60 (fun s15 s16 wx => (∃ (b b' : Nat), s15 = .pointer (some ⟨b, 0, none⟩) ∧ s16 = .pointer (some ⟨b', 0, none⟩) ∧ Bx wx b d2 ∧ BM wx b' 2 m2) ∧ Below wc.heap.size wc wx)
            case first =>
              as_aux_lemma =>
                go_wp2_with (first | (go_at_call 20; refine (stepwise_is hC8 hM10 (Below.refl _ _) hn0 hn4 GC.out hc2 MA.out E2.out).mono ?_; rintro e w2 ⟨p2, cap2, y2, cy2, rfl, hC2, hM2, hbl⟩))
                go_meet
                exact ⟨⟨_, _, rfl, rfl, (Bx.new hC2 _).up (by go_grown), BM.newAt (hM2.up (bal (Below.refl _ _) _)) _ (by simp)⟩, bal (bal hbl _) _⟩
            case rest =>
              clear k8 k8f hC8
              obtain ⟨⟨b15, b16, rfl, rfl, hB15, hN16⟩, hst⟩ := hcut
              replace hB8 := hB8.up hst
              replace hN10 := hN10.up hst
              replace hB11 := hB11.up hst
              replace hN12 := hN12.up hst
              replace hB13 := hB13.up hst
              replace hN14 := hN14.up hst
              replace hW := btr hW hst
              clear hst
              clear m10 m10f n10 n10f hM10
              go_upto_region 8 with fail
              obtain ⟨p8, c8, k8, k8f, hC8⟩ := id hB8
              obtain ⟨q10, cq10, ⟨⟨m10, m10f⟩, ⟨n10, n10f⟩, -⟩, hM10⟩ := id hN10
              go_cut [17, 18] from 61 to 67 (fun s17 s18 wx => (∃ (b b' : Nat), s17 = .pointer (some ⟨b, 0, none⟩) ∧ s18 = .pointer (some ⟨b', 0, none⟩) ∧ Bx wx b d2 ∧ BM wx b' 2 m2) ∧ Below wc.heap.size wc wx)
              case first =>
                as_aux_lemma =>
                  go_wp2_with (first | (go_at_call 21; refine (rstepwise_is hC8 hM10 (Below.refl _ _) hn0 hn4 GC.out hc2 MA.out E2.out).mono ?_; rintro e w2 ⟨p2, cap2, y2, cy2, rfl, hC2, hM2, hbl⟩))
                  go_meet
                  exact ⟨⟨_, _, rfl, rfl, (Bx.new hC2 _).up (by go_grown), BM.newAt (hM2.up (bal (Below.refl _ _) _)) _ (by simp)⟩, bal (bal hbl _) _⟩
              case rest =>
                clear k8 k8f hC8
                obtain ⟨⟨b17, b18, rfl, rfl, hB17, hN18⟩, hst⟩ := hcut
                replace hB8 := hB8.up hst
                replace hN10 := hN10.up hst
                replace hB11 := hB11.up hst
                replace hN12 := hN12.up hst
                replace hB13 := hB13.up hst
                replace hN14 := hN14.up hst
                replace hB15 := hB15.up hst
                replace hN16 := hN16.up hst
                replace hW := btr hW hst
                clear hst
                clear m10 m10f n10 n10f hM10
                go_upto_region 9 with fail
                obtain ⟨p8, c8, k8, k8f, hC8⟩ := id hB8
                obtain ⟨q10, cq10, ⟨⟨m10, m10f⟩, ⟨n10, n10f⟩, -⟩, hM10⟩ := id hN10
                go_cut [19, 20] from 68 to 74 (fun s19 s20 wx => (∃ (b b' : Nat), s19 = .pointer (some ⟨b, 0, none⟩) ∧ s20 = .pointer (some ⟨b', 0, none⟩) ∧ Bx wx b d3 ∧ BM wx b' 2 m3) ∧ Below wc.heap.size wc wx)
                case first =>
                  as_aux_lemma =>
                    go_wp2_with (first | (go_at_call 22; refine (smaller_is hC8 hM10 (Below.refl _ _) hn0 hn4 GC.out hc2 MA.out E3.out).mono ?_; rintro e w2 ⟨p2, cap2, y2, cy2, rfl, hC2, hM2, hbl⟩))
                    go_meet
                    exact ⟨⟨_, _, rfl, rfl, (Bx.new hC2 _).up (by go_grown), BM.newAt (hM2.up (bal (Below.refl _ _) _)) _ (by simp)⟩, bal (bal hbl _) _⟩
                case rest =>
                  clear k8 k8f hC8
                  obtain ⟨⟨b19, b20, rfl, rfl, hB19, hN20⟩, hst⟩ := hcut
                  replace hB8 := hB8.up hst
                  replace hN10 := hN10.up hst
                  replace hB11 := hB11.up hst
                  replace hN12 := hN12.up hst
                  replace hB13 := hB13.up hst
                  replace hN14 := hN14.up hst
                  replace hB15 := hB15.up hst
                  replace hN16 := hN16.up hst
                  replace hB17 := hB17.up hst
                  replace hN18 := hN18.up hst
                  replace hW := btr hW hst
                  clear hst
                  clear m10 m10f n10 n10f hM10
                  go_upto_region 10 with fail
                  obtain ⟨p8, c8, k8, k8f, hC8⟩ := id hB8
                  obtain ⟨q10, cq10, ⟨⟨m10, m10f⟩, ⟨n10, n10f⟩, -⟩, hM10⟩ := id hN10
                  go_cut [21, 22] from 75 to 81 (fun s21 s22 wx => (∃ (b b' : Nat), s21 = .pointer (some ⟨b, 0, none⟩) ∧ s22 = .pointer (some ⟨b', 0, none⟩) ∧ Bx wx b d3 ∧ BM wx b' 2 m3) ∧ Below wc.heap.size wc wx)
                  case first =>
                    as_aux_lemma =>
                      go_wp2_with (first | (go_at_call 23; refine (rsmaller_is hC8 hM10 (Below.refl _ _) hn0 hn4 GC.out hc2 MA.out E3.out).mono ?_; rintro e w2 ⟨p2, cap2, y2, cy2, rfl, hC2, hM2, hbl⟩))
                      go_meet
                      exact ⟨⟨_, _, rfl, rfl, (Bx.new hC2 _).up (by go_grown), BM.newAt (hM2.up (bal (Below.refl _ _) _)) _ (by simp)⟩, bal (bal hbl _) _⟩
                  case rest =>
                    clear k8 k8f hC8
                    obtain ⟨⟨b21, b22, rfl, rfl, hB21, hN22⟩, hst⟩ := hcut
                    replace hB8 := hB8.up hst
                    replace hN10 := hN10.up hst
                    replace hB11 := hB11.up hst
                    replace hN12 := hN12.up hst
                    replace hB13 := hB13.up hst
                    replace hN14 := hN14.up hst
                    replace hB15 := hB15.up hst
                    replace hN16 := hN16.up hst
                    replace hB17 := hB17.up hst
                    replace hN18 := hN18.up hst
                    replace hB19 := hB19.up hst
                    replace hN20 := hN20.up hst
                    replace hW := btr hW hst
                    clear hst
                    clear m10 m10f n10 n10f hM10
                    go_upto_region 11 with fail
                    obtain ⟨p8, c8, k8, k8f, hC8⟩ := id hB8
                    obtain ⟨q10, cq10, ⟨⟨m10, m10f⟩, ⟨n10, n10f⟩, -⟩, hM10⟩ := id hN10
                    go_cut [23, 24] from 82 to 88 (fun s23 s24 wx => (∃ (b : Nat), s23 = .pointer (some ⟨b, 0, none⟩) ∧ s24 = .int .i64 r4 ∧ Bx wx b d4) ∧ Below wc.heap.size wc wx)
                    case first =>
                      as_aux_lemma =>
                        go_wp2_with (first | (go_at_call 24; refine (acyclic_is hC8 hM10 (Below.refl _ _) hn0 hn4 GC.out hc2 MA.out E4.out).mono ?_; rintro e w2 ⟨p2, cap2, rfl, hC2, hbl⟩))
                        go_meet
                        exact ⟨⟨_, rfl, rfl, Bx.new hC2 _⟩, bal hbl _⟩
                    case rest =>
                      clear k8 k8f hC8
                      obtain ⟨⟨b23, rfl, rfl, hB23⟩, hst⟩ := hcut
                      replace hB8 := hB8.up hst
                      replace hN10 := hN10.up hst
                      replace hB11 := hB11.up hst
                      replace hN12 := hN12.up hst
                      replace hB13 := hB13.up hst
                      replace hN14 := hN14.up hst
                      replace hB15 := hB15.up hst
                      replace hN16 := hN16.up hst
                      replace hB17 := hB17.up hst
                      replace hN18 := hN18.up hst
                      replace hB19 := hB19.up hst
                      replace hN20 := hN20.up hst
                      replace hB21 := hB21.up hst
                      replace hN22 := hN22.up hst
                      replace hW := btr hW hst
                      clear hst
                      clear m10 m10f n10 n10f hM10
                      go_upto_region 12 with fail
                      obtain ⟨p8, c8, k8, k8f, hC8⟩ := id hB8
                      obtain ⟨q10, cq10, ⟨⟨m10, m10f⟩, ⟨n10, n10f⟩, -⟩, hM10⟩ := id hN10
                      go_cut [25, 26] from 89 to 95 (fun s25 s26 wx => (∃ (b : Nat), s25 = .pointer (some ⟨b, 0, none⟩) ∧ s26 = .int .i64 r4 ∧ Bx wx b d4) ∧ Below wc.heap.size wc wx)
                      case first =>
                        as_aux_lemma =>
                          go_wp2_with (first | (go_at_call 25; refine (racyclic_is hC8 hM10 (Below.refl _ _) hn0 hn4 GC.out hc2 MA.out E4.out).mono ?_; rintro e w2 ⟨p2, cap2, rfl, hC2, hbl⟩))
                          go_meet
                          exact ⟨⟨_, rfl, rfl, Bx.new hC2 _⟩, bal hbl _⟩
                      case rest =>
                        clear k8 k8f hC8
                        obtain ⟨⟨b25, rfl, rfl, hB25⟩, hst⟩ := hcut
                        replace hB8 := hB8.up hst
                        replace hN10 := hN10.up hst
                        replace hB11 := hB11.up hst
                        replace hN12 := hN12.up hst
                        replace hB13 := hB13.up hst
                        replace hN14 := hN14.up hst
                        replace hB15 := hB15.up hst
                        replace hN16 := hN16.up hst
                        replace hB17 := hB17.up hst
                        replace hN18 := hN18.up hst
                        replace hB19 := hB19.up hst
                        replace hN20 := hN20.up hst
                        replace hB21 := hB21.up hst
                        replace hN22 := hN22.up hst
                        replace hB23 := hB23.up hst
                        replace hW := btr hW hst
                        clear hst
                        clear m10 m10f n10 n10f hM10
                        go_upto_region 13 with fail
                        obtain ⟨p11, c11, k11, k11f, hC11⟩ := id hB11
                        obtain ⟨p13, c13, k13, k13f, hC13⟩ := id hB13
                        obtain ⟨p15, c15, k15, k15f, hC15⟩ := id hB15
                        obtain ⟨p17, c17, k17, k17f, hC17⟩ := id hB17
                        obtain ⟨p19, c19, k19, k19f, hC19⟩ := id hB19
                        obtain ⟨p21, c21, k21, k21f, hC21⟩ := id hB21
                        obtain ⟨p23, c23, k23, k23f, hC23⟩ := id hB23
                        obtain ⟨p25, c25, k25, k25f, hC25⟩ := id hB25
                        obtain ⟨q12, cq12, ⟨⟨m12, m12f⟩, ⟨n12, n12f⟩, -⟩, hM12⟩ := id hN12
                        obtain ⟨q14, cq14, ⟨⟨m14, m14f⟩, ⟨n14, n14f⟩, -⟩, hM14⟩ := id hN14
                        obtain ⟨q16, cq16, ⟨⟨m16, m16f⟩, ⟨n16, n16f⟩, -⟩, hM16⟩ := id hN16
                        obtain ⟨q18, cq18, ⟨⟨m18, m18f⟩, ⟨n18, n18f⟩, -⟩, hM18⟩ := id hN18
                        obtain ⟨q20, cq20, ⟨⟨m20, m20f⟩, ⟨n20, n20f⟩, -⟩, hM20⟩ := id hN20
                        obtain ⟨q22, cq22, ⟨⟨m22, m22f⟩, ⟨n22, n22f⟩, -⟩, hM22⟩ := id hN22
                        have T0 := Lib.hid (fun (w' : World) (hB' : Below wc.heap.size wc w') => same_is hC11 hC13 hB' (csame_self d1))
                        have T1 := Lib.hid (fun (w' : World) (hB' : Below wc.heap.size wc w') => same_is hC15 hC17 hB' (csame_self d2))
                        have T2 := Lib.hid (fun (w' : World) (hB' : Below wc.heap.size wc w') => same_is hC19 hC21 hB' (csame_self d3))
                        have T3 := Lib.hid (fun (w' : World) (hB' : Below wc.heap.size wc w') => same_is hC23 hC25 hB' (csame_self d4))
                        have U0 := Lib.hid (fun (w' : World) (hB' : Below wc.heap.size wc w') => same14_is (ar := 2) hM12 hM14 hB' (by omega))
                        have U1 := Lib.hid (fun (w' : World) (hB' : Below wc.heap.size wc w') => same14_is (ar := 2) hM16 hM18 hB' (by omega))
                        have U2 := Lib.hid (fun (w' : World) (hB' : Below wc.heap.size wc w') => same14_is (ar := 2) hM20 hM22 hB' (by omega))
                        refine wp_region_seqT' (fun w' => Below wc.heap.size wc w') (by first | exact Below.refl _ _ | go_grown) ?_
                        refine seqT_pure (v := ?_) (by rfl) ?_ ?_
                        rotate_left
                        · (intro w hS; go_simp; try with_reducible rfl)
                        (try simp only [Act.put, List.setIfInBounds_toArray, List.set_cons_zero, List.set_cons_succ])
                        refine seqT_pure (v := ?_) (by rfl) ?_ ?_
                        rotate_left
                        · (intro w hS; go_simp; try with_reducible rfl)
                        (try simp only [Act.put, List.setIfInBounds_toArray, List.set_cons_zero, List.set_cons_succ])
                        refine seqT_pure (v := ?_) (by rfl) ?_ ?_
                        rotate_left
                        · (intro w hS; have kk := oldcell hS k11 (World.block_lt_of_cell? _ _ k11); go_simp; try with_reducible rfl)
                        (try simp only [Act.put, List.setIfInBounds_toArray, List.set_cons_zero, List.set_cons_succ])
                        refine seqT_pure (v := ?_) (by rfl) ?_ ?_
                        rotate_left
                        · (intro w hS; have kk := oldcell hS k13 (World.block_lt_of_cell? _ _ k13); go_simp; try with_reducible rfl)
                        (try simp only [Act.put, List.setIfInBounds_toArray, List.set_cons_zero, List.set_cons_succ])
                        refine seqT_call (v := .bool true) (f := ?_) (args := ?_) (by rfl) ?_ ?_ ?_
                        rotate_left 2
                        · (intro w hS; go_simp; first | done | with_reducible rfl | (refine ⟨?_, ?_⟩ <;> with_reducible rfl))
                        · (intro w hS; refine (T0.out w hS).mono ?_; rintro e w' ⟨he, hb⟩; exact ⟨he, btr hS hb⟩)
                        (try simp only [Act.put, List.setIfInBounds_toArray, List.set_cons_zero, List.set_cons_succ])
                        refine seqT_pure (v := ?_) (by rfl) ?_ ?_
                        rotate_left
                        · (intro w hS; go_simp; try with_reducible rfl)
                        (try simp only [Act.put, List.setIfInBounds_toArray, List.set_cons_zero, List.set_cons_succ])
                        refine seqT_pure (v := ?_) (by rfl) ?_ ?_
                        rotate_left
                        · (intro w hS; go_simp; try with_reducible rfl)
                        (try simp only [Act.put, List.setIfInBounds_toArray, List.set_cons_zero, List.set_cons_succ])
                        refine seqT_pure (v := ?_) (by rfl) ?_ ?_
                        rotate_left
                        · (intro w hS; have kk := oldcell hS m12 (World.block_lt_of_cell? _ _ m12); have kk2 := oldcell hS n12 (World.block_lt_of_cell? _ _ n12); go_simp; try with_reducible rfl)
                        (try simp only [Act.put, List.setIfInBounds_toArray, List.set_cons_zero, List.set_cons_succ])
                        refine seqT_pure (v := ?_) (by rfl) ?_ ?_
                        rotate_left
                        · (intro w hS; have kk := oldcell hS m14 (World.block_lt_of_cell? _ _ m14); have kk2 := oldcell hS n14 (World.block_lt_of_cell? _ _ n14); go_simp; try with_reducible rfl)
                        (try simp only [Act.put, List.setIfInBounds_toArray, List.set_cons_zero, List.set_cons_succ])
                        refine seqT_call (v := .bool true) (f := ?_) (args := ?_) (by rfl) ?_ ?_ ?_
                        rotate_left 2
                        · (intro w hS; go_simp; first | done | with_reducible rfl | (refine ⟨?_, ?_⟩ <;> with_reducible rfl))
                        · (intro w hS; refine (U0.out w hS).mono ?_; rintro e w' ⟨he, hb⟩; exact ⟨he, btr hS hb⟩)
                        (try simp only [Act.put, List.setIfInBounds_toArray, List.set_cons_zero, List.set_cons_succ])
                        refine seqT_pure (v := ?_) (by rfl) ?_ ?_
                        rotate_left
                        · (intro w hS; go_simp; try with_reducible rfl)
                        (try simp only [Act.put, List.setIfInBounds_toArray, List.set_cons_zero, List.set_cons_succ])
                        refine seqT_pure (v := ?_) (by rfl) ?_ ?_
                        rotate_left
                        · (intro w hS; go_simp; try with_reducible rfl)
                        (try simp only [Act.put, List.setIfInBounds_toArray, List.set_cons_zero, List.set_cons_succ])
                        refine seqT_pure (v := ?_) (by rfl) ?_ ?_
                        rotate_left
                        · (intro w hS; have kk := oldcell hS k15 (World.block_lt_of_cell? _ _ k15); go_simp; try with_reducible rfl)
                        (try simp only [Act.put, List.setIfInBounds_toArray, List.set_cons_zero, List.set_cons_succ])
                        refine seqT_pure (v := ?_) (by rfl) ?_ ?_
                        rotate_left
                        · (intro w hS; have kk := oldcell hS k17 (World.block_lt_of_cell? _ _ k17); go_simp; try with_reducible rfl)
                        (try simp only [Act.put, List.setIfInBounds_toArray, List.set_cons_zero, List.set_cons_succ])
                        refine seqT_call (v := .bool true) (f := ?_) (args := ?_) (by rfl) ?_ ?_ ?_
                        rotate_left 2
                        · (intro w hS; go_simp; first | done | with_reducible rfl | (refine ⟨?_, ?_⟩ <;> with_reducible rfl))
                        · (intro w hS; refine (T1.out w hS).mono ?_; rintro e w' ⟨he, hb⟩; exact ⟨he, btr hS hb⟩)
                        (try simp only [Act.put, List.setIfInBounds_toArray, List.set_cons_zero, List.set_cons_succ])
                        refine seqT_pure (v := ?_) (by rfl) ?_ ?_
                        rotate_left
                        · (intro w hS; go_simp; try with_reducible rfl)
                        (try simp only [Act.put, List.setIfInBounds_toArray, List.set_cons_zero, List.set_cons_succ])
                        refine seqT_pure (v := ?_) (by rfl) ?_ ?_
                        rotate_left
                        · (intro w hS; go_simp; try with_reducible rfl)
                        (try simp only [Act.put, List.setIfInBounds_toArray, List.set_cons_zero, List.set_cons_succ])
                        refine seqT_pure (v := ?_) (by rfl) ?_ ?_
                        rotate_left
                        · (intro w hS; have kk := oldcell hS m16 (World.block_lt_of_cell? _ _ m16); have kk2 := oldcell hS n16 (World.block_lt_of_cell? _ _ n16); go_simp; try with_reducible rfl)
                        (try simp only [Act.put, List.setIfInBounds_toArray, List.set_cons_zero, List.set_cons_succ])
                        refine seqT_pure (v := ?_) (by rfl) ?_ ?_
                        rotate_left
                        · (intro w hS; have kk := oldcell hS m18 (World.block_lt_of_cell? _ _ m18); have kk2 := oldcell hS n18 (World.block_lt_of_cell? _ _ n18); go_simp; try with_reducible rfl)
                        (try simp only [Act.put, List.setIfInBounds_toArray, List.set_cons_zero, List.set_cons_succ])
                        refine seqT_call (v := .bool true) (f := ?_) (args := ?_) (by rfl) ?_ ?_ ?_
                        rotate_left 2
                        · (intro w hS; go_simp; first | done | with_reducible rfl | (refine ⟨?_, ?_⟩ <;> with_reducible rfl))
                        · (intro w hS; refine (U1.out w hS).mono ?_; rintro e w' ⟨he, hb⟩; exact ⟨he, btr hS hb⟩)
                        (try simp only [Act.put, List.setIfInBounds_toArray, List.set_cons_zero, List.set_cons_succ])
                        refine seqT_pure (v := ?_) (by rfl) ?_ ?_
                        rotate_left
                        · (intro w hS; go_simp; try with_reducible rfl)
                        (try simp only [Act.put, List.setIfInBounds_toArray, List.set_cons_zero, List.set_cons_succ])
                        refine seqT_pure (v := ?_) (by rfl) ?_ ?_
                        rotate_left
                        · (intro w hS; go_simp; try with_reducible rfl)
                        (try simp only [Act.put, List.setIfInBounds_toArray, List.set_cons_zero, List.set_cons_succ])
                        refine seqT_pure (v := ?_) (by rfl) ?_ ?_
                        rotate_left
                        · (intro w hS; have kk := oldcell hS k19 (World.block_lt_of_cell? _ _ k19); go_simp; try with_reducible rfl)
                        (try simp only [Act.put, List.setIfInBounds_toArray, List.set_cons_zero, List.set_cons_succ])
                        refine seqT_pure (v := ?_) (by rfl) ?_ ?_
                        rotate_left
                        · (intro w hS; have kk := oldcell hS k21 (World.block_lt_of_cell? _ _ k21); go_simp; try with_reducible rfl)
                        (try simp only [Act.put, List.setIfInBounds_toArray, List.set_cons_zero, List.set_cons_succ])
                        refine seqT_call (v := .bool true) (f := ?_) (args := ?_) (by rfl) ?_ ?_ ?_
                        rotate_left 2
                        · (intro w hS; go_simp; first | done | with_reducible rfl | (refine ⟨?_, ?_⟩ <;> with_reducible rfl))
                        · (intro w hS; refine (T2.out w hS).mono ?_; rintro e w' ⟨he, hb⟩; exact ⟨he, btr hS hb⟩)
                        (try simp only [Act.put, List.setIfInBounds_toArray, List.set_cons_zero, List.set_cons_succ])
                        refine seqT_pure (v := ?_) (by rfl) ?_ ?_
                        rotate_left
                        · (intro w hS; go_simp; try with_reducible rfl)
                        (try simp only [Act.put, List.setIfInBounds_toArray, List.set_cons_zero, List.set_cons_succ])
                        refine seqT_pure (v := ?_) (by rfl) ?_ ?_
                        rotate_left
                        · (intro w hS; go_simp; try with_reducible rfl)
                        (try simp only [Act.put, List.setIfInBounds_toArray, List.set_cons_zero, List.set_cons_succ])
                        refine seqT_pure (v := ?_) (by rfl) ?_ ?_
                        rotate_left
                        · (intro w hS; have kk := oldcell hS m20 (World.block_lt_of_cell? _ _ m20); have kk2 := oldcell hS n20 (World.block_lt_of_cell? _ _ n20); go_simp; try with_reducible rfl)
                        (try simp only [Act.put, List.setIfInBounds_toArray, List.set_cons_zero, List.set_cons_succ])
                        refine seqT_pure (v := ?_) (by rfl) ?_ ?_
                        rotate_left
                        · (intro w hS; have kk := oldcell hS m22 (World.block_lt_of_cell? _ _ m22); have kk2 := oldcell hS n22 (World.block_lt_of_cell? _ _ n22); go_simp; try with_reducible rfl)
                        (try simp only [Act.put, List.setIfInBounds_toArray, List.set_cons_zero, List.set_cons_succ])
                        refine seqT_call (v := .bool true) (f := ?_) (args := ?_) (by rfl) ?_ ?_ ?_
                        rotate_left 2
                        · (intro w hS; go_simp; first | done | with_reducible rfl | (refine ⟨?_, ?_⟩ <;> with_reducible rfl))
                        · (intro w hS; refine (U2.out w hS).mono ?_; rintro e w' ⟨he, hb⟩; exact ⟨he, btr hS hb⟩)
                        (try simp only [Act.put, List.setIfInBounds_toArray, List.set_cons_zero, List.set_cons_succ])
                        refine seqT_pure (v := ?_) (by rfl) ?_ ?_
                        rotate_left
                        · (intro w hS; go_simp; try with_reducible rfl)
                        (try simp only [Act.put, List.setIfInBounds_toArray, List.set_cons_zero, List.set_cons_succ])
                        refine seqT_pure (v := ?_) (by rfl) ?_ ?_
                        rotate_left
                        · (intro w hS; go_simp; try with_reducible rfl)
                        (try simp only [Act.put, List.setIfInBounds_toArray, List.set_cons_zero, List.set_cons_succ])
                        refine seqT_pure (v := ?_) (by rfl) ?_ ?_
                        rotate_left
                        · (intro w hS; have kk := oldcell hS k23 (World.block_lt_of_cell? _ _ k23); go_simp; try with_reducible rfl)
                        (try simp only [Act.put, List.setIfInBounds_toArray, List.set_cons_zero, List.set_cons_succ])
                        refine seqT_pure (v := ?_) (by rfl) ?_ ?_
                        rotate_left
                        · (intro w hS; have kk := oldcell hS k25 (World.block_lt_of_cell? _ _ k25); go_simp; try with_reducible rfl)
                        (try simp only [Act.put, List.setIfInBounds_toArray, List.set_cons_zero, List.set_cons_succ])
                        refine seqT_call (v := .bool true) (f := ?_) (args := ?_) (by rfl) ?_ ?_ ?_
                        rotate_left 2
                        · (intro w hS; go_simp; first | done | with_reducible rfl | (refine ⟨?_, ?_⟩ <;> with_reducible rfl))
                        · (intro w hS; refine (T3.out w hS).mono ?_; rintro e w' ⟨he, hb⟩; exact ⟨he, btr hS hb⟩)
                        (try simp only [Act.put, List.setIfInBounds_toArray, List.set_cons_zero, List.set_cons_succ])
                        refine seqT_pure (v := ?_) (by rfl) ?_ ?_
                        rotate_left
                        · (intro w hS; go_simp; try with_reducible rfl)
                        (try simp only [Act.put, List.setIfInBounds_toArray, List.set_cons_zero, List.set_cons_succ])
                        refine seqT_pure (v := ?_) (by rfl) ?_ ?_
                        rotate_left
                        · (intro w hS; go_simp; try with_reducible rfl)
                        (try simp only [Act.put, List.setIfInBounds_toArray, List.set_cons_zero, List.set_cons_succ])
                        refine seqT_pure (v := ?_) (by rfl) ?_ ?_
                        rotate_left
                        · (intro w hS; go_simp; try with_reducible rfl)
                        (try simp only [Act.put, List.setIfInBounds_toArray, List.set_cons_zero, List.set_cons_succ])
                        refine seqT_pure (v := ?_) (by rfl) ?_ ?_
                        rotate_left
                        · (intro w hS; go_simp; try with_reducible rfl)
                        (try simp only [Act.put, List.setIfInBounds_toArray, List.set_cons_zero, List.set_cons_succ])
                        refine seqT_pure (v := ?_) (by rfl) ?_ ?_
                        rotate_left
                        · (intro w hS; go_simp; try with_reducible rfl)
                        (try simp only [Act.put, List.setIfInBounds_toArray, List.set_cons_zero, List.set_cons_succ])
                        refine seqT_pure (v := ?_) (by rfl) ?_ ?_
                        rotate_left
                        · (intro w hS; go_simp; try with_reducible rfl)
                        (try simp only [Act.put, List.setIfInBounds_toArray, List.set_cons_zero, List.set_cons_succ])
                        refine seqT_pure (v := ?_) (by rfl) ?_ ?_
                        rotate_left
                        · (intro w hS; go_simp; try with_reducible rfl)
                        (try simp only [Act.put, List.setIfInBounds_toArray, List.set_cons_zero, List.set_cons_succ])
                        refine seqT_nil ?_
                        intro w2 HB0
                        go_wp2_with fail
                        go_ret
                        exact ⟨rfl, btr hW HB0⟩
end Go.Proofs.Ytadilppdlbhjnaa
