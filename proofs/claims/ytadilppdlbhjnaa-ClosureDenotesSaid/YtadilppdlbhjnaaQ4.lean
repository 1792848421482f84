/- Walk of ClosureDenotes. -/
import Derived.Test.YtadilppdlbhjnaaGT
namespace Go.Proofs.Ytadilppdlbhjnaa
set_option linter.unusedSimpArgs false
set_option linter.unusedVariables false
open Go.RowKit

set_option maxRecDepth 100000 in
set_option maxHeartbeats 8000000 in
theorem closureDenotes_any (k : Nat) (st : List Step) (ps : Option Addr) (cs : Nat) (vs : List Nat) (pv : Option Addr) (cv : Nat) (z : Nat) (w : World) (hk : k < 256) (hl : st.length ≤ maxLen) (hs : ∀ s ∈ st, s.k < 256 ∧ s.a < 256 ∧ s.b < 256) (hg : StepsAt w ps st) (hvl : vs.length ≤ maxLen) (hv8 : ∀ v ∈ vs, v < 256) (hV : UbAt w pv vs) (hz : z < 256) :
    Calls Try.prog 8 #[.int .u8 k, .slice ps st.length cs, .slice pv vs.length cv, .int .u8 z] w (RetB w true) := by
  unfold maxLen at hl
  have HS8 := Lib.hid hs; have HG := Lib.hid hg; have HV8 := Lib.hid hv8; have HV := Lib.hid hV; clear hs hg hv8 hV
  by_cases h20 : (20 : Int) < (st.length : Int)
  case pos =>
    go_enter Try.func8, Try.ntmps8
    go_wp2_with (first | (go_at_call 16; refine (head15_any _).mono ?_; rintro e w1 ⟨rfl, hb1⟩))
    go_ret
    exact ⟨rfl, hb1⟩
  case neg =>
    obtain ⟨n, hn⟩ : ∃ n, k % 4 + 1 = n := ⟨_, rfl⟩
    have hn0 : 0 < n := by omega
    have hn4 : n ≤ 4 := by omega
    obtain ⟨c, refs, a, hcb, ha, gc, hcl, ma, hrl, hrr, hal⟩ := made_plain st vs n (by omega) hn0 hn4
    have hc0 : 0 < c.length := gc.ne
    have hc2 : c.length + 2400 ≤ 20000 := by omega
    have hc3 : c.length ≤ 20000 := by omega
    obtain ⟨V, hV0⟩ : ∃ V, vbits z 8 = V := ⟨_, rfl⟩
    have hVl : V.length = 8 := by rw [← hV0]; exact vbits_len _ _
    have hVm : V.length ≤ maxLen := by unfold maxLen; omega
    obtain ⟨l, hl0⟩ : ∃ l, mValue c V a = l := ⟨_, rfl⟩
    have hrs := value_rs V ma; have hrk := value_rk V ma
    obtain ⟨g1, o1⟩ := squaring_ok hn4 gc (by omega) ma
    obtain ⟨g2, o2⟩ := stepwise_ok hn4 gc (by omega) ma
    obtain ⟨g3, o3⟩ := smaller_ok hn4 gc (by omega) ma
    have D1 : ∀ L, IsClo n (mValue c V a) L → mValue (mSquaring c n a).1 V (mSquaring c n a).2 = L := fun L hL => denotes gc g1.good ma o1 (fun x y h1 h2 h3 h4 => squaring_path hn4 gc ma V (by omega) h1 h2 h3 h4) hL
    have D2 : ∀ L, IsClo n (mValue c V a) L → mValue (mStepwise c n a).1 V (mStepwise c n a).2 = L := fun L hL => denotes gc g2.good ma o2 (fun x y h1 h2 h3 h4 => stepwise_path hn4 gc ma V (by omega) h1 h2 h3 h4) hL
    have D3 : ∀ L, IsClo n (mValue c V a) L → mValue (mSmaller c n a).1 V (mSmaller c n a).2 = L := fun L hL => denotes gc g3.good ma o3 (fun x y h1 h2 h3 h4 => smaller_path hn4 gc ma V (by omega) h1 h2 h3 h4) hL
    obtain ⟨d1, m1, e1⟩ : ∃ d m, mSquaring c n a = (d, m) := ⟨_, _, rfl⟩
    obtain ⟨d2, m2, e2⟩ : ∃ d m, mStepwise c n a = (d, m) := ⟨_, _, rfl⟩
    obtain ⟨d3, m3, e3⟩ : ∃ d m, mSmaller c n a = (d, m) := ⟨_, _, rfl⟩
    rw [e1] at g1 o1 D1; rw [e2] at g2 o2 D2; rw [e3] at g3 o3 D3
    rw [hl0] at hrs hrk D1 D2 D3
    dsimp only at g1 o1 g2 o2 g3 o3 D1 D2 D3
    have k1 := g1.len; have k2 := g2.len; have k3 := g3.len
    have hd1 : d1.length ≤ 20000 := by omega
    have hd2 : d2.length ≤ 20000 := by omega
    have hd3 : d3.length ≤ 20000 := by omega
    have hm1 : m1.length ≤ 16 := mok_len hn4 o1
    have hm2 : m2.length ≤ 16 := mok_len hn4 o2
    have hm3 : m3.length ≤ 16 := mok_len hn4 o3
    have hll : l.length ≤ 16 := by rw [← hl0]; exact Nat.le_trans (mValue_len c V a) hal
    have E1 := Lib.hid e1; have E2 := Lib.hid e2; have E3 := Lib.hid e3; have HL := Lib.hid hl0; have HVB := Lib.hid hV0; have HVL := Lib.hid hVl; have HRS := Lib.hid hrs; have HRK := Lib.hid hrk
    have HD1 := Lib.hid D1; have HD2 := Lib.hid D2; have HD3 := Lib.hid D3; have G1 := Lib.hid g1.good; have G2 := Lib.hid g2.good; have G3 := Lib.hid g3.good
    clear e1 e2 e3 o1 o2 o3 g1 g2 g3 hl0 hV0 hVl hrs hrk D1 D2 D3 k1 k2 k3
    have HN := Lib.hid hn; have HCB := Lib.hid hcb; have HA := Lib.hid ha; have GC := Lib.hid gc; have MA := Lib.hid ma; have HR := Lib.hid hrr
    clear hn hcb ha gc ma hrr
    have hW : Below w.heap.size w w := Below.refl _ _
    go_enter Try.func8, Try.ntmps8
    go_upto_region 1 with fail
    go_cut [9] from 21 to 21 (fun s9 wx => (s9 = .bool true) ∧ Below w.heap.size w wx)
    case first =>
      as_aux_lemma =>
        go_wp2_with (first | (go_at_call 16; refine (head15_any _).mono ?_; rintro e w2 ⟨rfl, hbl⟩))
        go_meet
        exact ⟨rfl, (by first | exact hbl | exact btr (by go_grown) hbl)⟩
    case rest =>
      obtain ⟨rfl, hst⟩ := hcut
      replace hW := btr hW hst
      clear hst
      go_upto_region 4 with fail
      go_cut [10, 11, 12] from 26 to 33 (fun s10 s11 s12 wx => (∃ (b b' : Nat), s10 = .pointer (some ⟨b, 0, none⟩) ∧ s11 = .int .i64 n ∧ s12 = .pointer (some ⟨b', 0, none⟩) ∧ Bx wx b c ∧ BM wx b' 2 a) ∧ Below wc.heap.size wc wx)
      case first =>
        as_aux_lemma =>
          go_wp2_with (first | (go_at_call 17; refine (made15_any k st vs c refs ps pv cs cv _ hk (HG.out.mono hW) (by omega) HS8.out (HV.out.mono hW) hvl HV8.out HCB.out hc0 (by omega) HR.out).mono ?_; rw [HN.out, HA.out]; rintro e w2 ⟨p2, cap2, y2, cy2, rfl, hC2, hM2, hbl⟩))
          go_meet
          exact ⟨⟨_, _, rfl, rfl, rfl, (Bx.new hC2 _).up (by go_grown), BM.newAt (hM2.up (bal (Below.refl _ _) _)) _ (by simp)⟩, bal (bal hbl _) _⟩
      case rest =>
        obtain ⟨⟨b10, b12, rfl, rfl, rfl, hB10, hN12⟩, hst⟩ := hcut
        replace hW := btr hW hst
        clear hst
        go_upto_region 5 with fail
        go_cut [13] from 34 to 35 (fun s13 wx => (∃ (q : Option Addr) (cq : Nat), s13 = .slice q V.length cq ∧ BoolsAt wx q V) ∧ Below wc.heap.size wc wx)
        case first =>
          as_aux_lemma =>
            go_wp2_with (first | (go_at_call 60; refine (values2_any z _ (by omega) (by omega)).mono ?_; rw [HVB.out]; rintro e w2 ⟨q2, cq2, rfl, hV2, hv0, hbl⟩))
            go_meet
            exact ⟨⟨_, _, rfl, hV2⟩, hbl⟩
        case rest =>
          obtain ⟨⟨q13, cq13, rfl, hV13⟩, hst⟩ := hcut
          replace hB10 := hB10.up hst
          replace hN12 := hN12.up hst
          replace hW := btr hW hst
          clear hst
          go_upto_region 6 with fail
          obtain ⟨p10, c10, k10, k10f, hC10⟩ := id hB10
          obtain ⟨q12, cq12, ⟨⟨m12, m12f⟩, ⟨n12, n12f⟩, -⟩, hM12⟩ := id hN12
          go_cut [14] from 36 to 41 (fun s14 wx => (∃ (b : Nat) (L : List Int), s14 = .pointer (some ⟨b, 0, none⟩) ∧ IsClo n l L ∧ BR wx b 2 L) ∧ Below wc.heap.size wc wx)
          case first =>
            as_aux_lemma =>
              go_wp2_with (first | (go_at_call 30; refine (mvalue_is (V := V) (nv := V.length) hC10 hM12 hV13 GC.out.wf hc3 (by omega) rfl hVm HL.out).mono ?_; rintro e w1 ⟨p1, cap1, rfl, hR1, hb1⟩) | (go_at_call 61; refine (relclosure_any n l p1 cap1 2 w1 hR1 hn0 hn4 HRS.out HRK.out).mono ?_; rintro e w2 ⟨L, hL, p2, cap2, rfl, hR2, hbl⟩))
              go_meet
              exact ⟨⟨_, L, rfl, hL, BR.newAt hR2 _ rfl⟩, bal (btr hb1 hbl) _⟩
          case rest =>
            clear k10 k10f hC10
            obtain ⟨⟨b14, L, rfl, hLC, hN14⟩, hst⟩ := hcut
            replace hB10 := hB10.up hst
            replace hN12 := hN12.up hst
            replace hV13 := hV13.up hst
            replace hW := btr hW hst
            clear hst
            clear m12 m12f n12 n12f hM12
            have F1 := Lib.hid (HD1.out L hLC)
            have F2 := Lib.hid (HD2.out L hLC)
            have F3 := Lib.hid (HD3.out L hLC)
            have hLl : L.length ≤ 16 := Nat.le_trans (CloI.len (n := n) (a := l) ⟨hLC.rs, hLC.rk, hLC.sub, hLC.least⟩) (Nat.mul_le_mul hn4 hn4)
            clear hLC
            go_upto_region 7 with fail
            obtain ⟨p10, c10, k10, k10f, hC10⟩ := id hB10
            obtain ⟨q12, cq12, ⟨⟨m12, m12f⟩, ⟨n12, n12f⟩, -⟩, hM12⟩ := id hN12
            go_cut [15, 16] from 42 to 48 (fun s15 s16 wx => (∃ (b b' : Nat), s15 = .pointer (some ⟨b, 0, none⟩) ∧ s16 = .pointer (some ⟨b', 0, none⟩) ∧ Bx wx b d1 ∧ BM wx b' 2 m1) ∧ Below wc.heap.size wc wx)
            case first =>
              as_aux_lemma =>
                go_wp2_with (first | (go_at_call 18; refine (squaring_is hC10 hM12 (Below.refl _ _) hn0 hn4 GC.out hc2 MA.out E1.out).mono ?_; rintro e w2 ⟨p2, cap2, y2, cy2, rfl, hC2, hM2, hbl⟩))
                go_meet
                exact ⟨⟨_, _, rfl, rfl, (Bx.new hC2 _).up (by go_grown), BM.newAt (hM2.up (bal (Below.refl _ _) _)) _ (by simp)⟩, bal (bal hbl _) _⟩
            case rest =>
              clear k10 k10f hC10
              obtain ⟨⟨b15, b16, rfl, rfl, hB15, hN16⟩, hst⟩ := hcut
              replace hB10 := hB10.up hst
              replace hN12 := hN12.up hst
              replace hV13 := hV13.up hst
              replace hN14 := hN14.up hst
              replace hW := btr hW hst
              clear hst
              clear m12 m12f n12 n12f hM12
              go_upto_region 8 with fail
              obtain ⟨p10, c10, k10, k10f, hC10⟩ := id hB10
              obtain ⟨q12, cq12, ⟨⟨m12, m12f⟩, ⟨n12, n12f⟩, -⟩, hM12⟩ := id hN12
              go_cut [17, 18] from 49 to 55 (fun s17 s18 wx => (∃ (b b' : Nat), s17 = .pointer (some ⟨b, 0, none⟩) ∧ s18 = .pointer (some ⟨b', 0, none⟩) ∧ Bx wx b d2 ∧ BM wx b' 2 m2) ∧ Below wc.heap.size wc wx)
              case first =>
                as_aux_lemma =>
                  go_wp2_with (first | (go_at_call 20; refine (stepwise_is hC10 hM12 (Below.refl _ _) hn0 hn4 GC.out hc2 MA.out E2.out).mono ?_; rintro e w2 ⟨p2, cap2, y2, cy2, rfl, hC2, hM2, hbl⟩))
                  go_meet
                  exact ⟨⟨_, _, rfl, rfl, (Bx.new hC2 _).up (by go_grown), BM.newAt (hM2.up (bal (Below.refl _ _) _)) _ (by simp)⟩, bal (bal hbl _) _⟩
              case rest =>
                clear k10 k10f hC10
                obtain ⟨⟨b17, b18, rfl, rfl, hB17, hN18⟩, hst⟩ := hcut
                replace hB10 := hB10.up hst
                replace hN12 := hN12.up hst
                replace hV13 := hV13.up hst
                replace hN14 := hN14.up hst
                replace hB15 := hB15.up hst
                replace hN16 := hN16.up hst
                replace hW := btr hW hst
                clear hst
                clear m12 m12f n12 n12f hM12
                go_upto_region 9 with fail
                obtain ⟨p10, c10, k10, k10f, hC10⟩ := id hB10
                obtain ⟨q12, cq12, ⟨⟨m12, m12f⟩, ⟨n12, n12f⟩, -⟩, hM12⟩ := id hN12
                go_cut [19, 20] from 56 to 62 (fun s19 s20 wx => (∃ (b b' : Nat), s19 = .pointer (some ⟨b, 0, none⟩) ∧ s20 = .pointer (some ⟨b', 0, none⟩) ∧ Bx wx b d3 ∧ BM wx b' 2 m3) ∧ Below wc.heap.size wc wx)
                case first =>
                  as_aux_lemma =>
                    go_wp2_with (first | (go_at_call 22; refine (smaller_is hC10 hM12 (Below.refl _ _) hn0 hn4 GC.out hc2 MA.out E3.out).mono ?_; rintro e w2 ⟨p2, cap2, y2, cy2, rfl, hC2, hM2, hbl⟩))
                    go_meet
                    exact ⟨⟨_, _, rfl, rfl, (Bx.new hC2 _).up (by go_grown), BM.newAt (hM2.up (bal (Below.refl _ _) _)) _ (by simp)⟩, bal (bal hbl _) _⟩
                case rest =>
                  clear k10 k10f hC10
                  obtain ⟨⟨b19, b20, rfl, rfl, hB19, hN20⟩, hst⟩ := hcut
                  replace hB10 := hB10.up hst
                  replace hN12 := hN12.up hst
                  replace hV13 := hV13.up hst
                  replace hN14 := hN14.up hst
                  replace hB15 := hB15.up hst
                  replace hN16 := hN16.up hst
                  replace hB17 := hB17.up hst
                  replace hN18 := hN18.up hst
                  replace hW := btr hW hst
                  clear hst
                  clear m12 m12f n12 n12f hM12
                  clear hB10
                  clear hN12
                  go_upto_region 10 with fail
                  obtain ⟨p15, c15, k15, k15f, hC15⟩ := id hB15
                  obtain ⟨p17, c17, k17, k17f, hC17⟩ := id hB17
                  obtain ⟨p19, c19, k19, k19f, hC19⟩ := id hB19
                  obtain ⟨q14, cq14, ⟨⟨m14, m14f⟩, ⟨n14, n14f⟩, -⟩, hM14⟩ := id hN14
                  obtain ⟨q16, cq16, ⟨⟨m16, m16f⟩, ⟨n16, n16f⟩, -⟩, hM16⟩ := id hN16
                  obtain ⟨q18, cq18, ⟨⟨m18, m18f⟩, ⟨n18, n18f⟩, -⟩, hM18⟩ := id hN18
                  obtain ⟨q20, cq20, ⟨⟨m20, m20f⟩, ⟨n20, n20f⟩, -⟩, hM20⟩ := id hN20
                  obtain ⟨s, hs0⟩ : ∃ s, w.heap.size = s := ⟨_, rfl⟩
                  have HS := Lib.hid hs0; clear hs0
                  have hbw := hW
                  have zz : s + 0 ≤ wc.heap.size := by have := HS.out; have := hW.size; omega
                  have hk : Cells wc [(b15, 0, .slice p15 (d1).length c15), (b17, 0, .slice p17 (d2).length c17), (b19, 0, .slice p19 (d3).length c19), (b14, 0, .int .i64 2), (b14, 1, .slice q14 (L).length cq14), (b16, 0, .int .i64 2), (b16, 1, .slice q16 (m1).length cq16), (b18, 0, .int .i64 2), (b18, 1, .slice q18 (m2).length cq18), (b20, 0, .int .i64 2), (b20, 1, .slice q20 (m3).length cq20)] := ⟨⟨k15, k15f⟩, ⟨k17, k17f⟩, ⟨k19, k19f⟩, ⟨m14, m14f⟩, ⟨n14, n14f⟩, ⟨m16, m16f⟩, ⟨n16, n16f⟩, ⟨m18, m18f⟩, ⟨n18, n18f⟩, ⟨m20, m20f⟩, ⟨n20, n20f⟩, trivial⟩
                  clear k15 k15f k17 k17f k19 k19f m14 m14f n14 n14f m16 m16f n16 n16f m18 m18f n18 n18f m20 m20f n20 n20f
                  have hacc : Below wc.heap.size wc wc := Below.refl _ _
                  clear hW
                  refine wp_region_seqE (fun x => Below wc.heap.size wc x) (.one 0 1 (.one 1 1 (.one 2 0 (.one 3 0 (.one 4 1 (.one 6 0 (.alt 5 2 (.alt 7 2 (.one 8 1 (.one 9 1 (.one 10 0 (.one 11 0 (.one 12 1 (.one 14 0 (.alt 13 2 (.alt 15 2 (.one 16 1 (.one 17 1 (.one 18 0 (.one 19 0 (.one 20 1 (.one 22 0 (.alt 21 2 (.alt 23 2 (.one 24 1 (.one 25 1 .nil)) .stop) .stop))))))) .stop) .stop))))))) .stop) .stop))))))) (by kernel_rfl) (by kernel_rfl) (by kernel_rfl) (Below.drew (Below.refl _ _)) ?_
                  iterate 6 (first | (refine seqE_free (v := ?_) rfl (by rfl) ?_ ?_; rotate_left; (focus (intro w; go_simp; try with_reducible rfl)); (try simp only [Act.put, List.setIfInBounds_toArray, List.set_cons_zero, List.set_cons_succ])) | (refine seqE_pure (v := ?_) rfl (by rfl) ?_ ?_; rotate_left; (focus (intro w hS; obtain ⟨⟨k15, -⟩, ⟨k17, -⟩, ⟨k19, -⟩, ⟨m14, -⟩, ⟨n14, -⟩, ⟨m16, -⟩, ⟨n16, -⟩, ⟨m18, -⟩, ⟨n18, -⟩, ⟨m20, -⟩, ⟨n20, -⟩, -⟩ := hk.up hS; go_simp; try with_reducible rfl)); (try simp only [Act.put, List.setIfInBounds_toArray, List.set_cons_zero, List.set_cons_succ])))
                  refine seqE_call (f := ?_) (args := ?_) rfl (by rfl) ?_ ?_ seqE_stop
                  rotate_left 2
                  focus (intro w hS; go_simp; first | done | with_reducible rfl | (refine ⟨?_, ?_⟩ <;> with_reducible rfl))
                  intro w1 hS
                  refine (mvalue_is (V := V) (nv := V.length) (ar := 2) (p := p15) (cap := c15) (hC15.mono hS) (hM16.up hS) (hV13.mono hS) G1.out.wf hd1 (by omega) rfl hVm F1.out).mono ?_
                  rintro e v1 ⟨y1, cy1, rfl, hX1, hbl⟩
                  refine ⟨_, rfl, (fun x => Below v1.heap.size v1 x), Below.refl _ _, fun x hx => btr (btr hS hbl) hx, ?_⟩
                  have hXw := Nat.le_trans zz hS.size; have hXa := Nat.le_trans hacc.size hS.size
                  have hX := btr hS hbl
                  replace hk := hk.up hX; replace hC15 := hC15.mono hX; replace hC17 := hC17.mono hX; replace hC19 := hC19.mono hX; replace hM14 := hM14.up hX; replace hM16 := hM16.up hX; replace hM18 := hM18.up hX; replace hM20 := hM20.up hX; replace hV13 := hV13.mono hX; replace hbw := btr hbw hX; replace zz := Nat.le_trans zz (Below.size hX); replace hacc := btr hacc hX
                  clear hX hS hbl hXw hXa
                  (try simp only [Act.put, List.setIfInBounds_toArray, List.set_cons_zero, List.set_cons_succ])
                  refine seqE_keep (v := .bool true) (f := ?_) (args := ?_) rfl (by rfl) ?_ ?_ ?_ seqE_stop
                  rotate_left 2
                  focus (intro w hS; go_simp; first | done | with_reducible rfl | (refine ⟨?_, ?_⟩ <;> with_reducible rfl))
                  focus (intro w hS; refine (requal_is (hX1.up hS) (hM14.up hS) rfl).mono ?_; rintro e w2 ⟨rfl, hbl⟩; exact ⟨rfl, btr hS hbl⟩)
                  (try simp only [Act.put, List.setIfInBounds_toArray, List.set_cons_zero, List.set_cons_succ])
                  iterate 6 (first | (refine seqE_free (v := ?_) rfl (by rfl) ?_ ?_; rotate_left; (focus (intro w; go_simp; try with_reducible rfl)); (try simp only [Act.put, List.setIfInBounds_toArray, List.set_cons_zero, List.set_cons_succ])) | (refine seqE_pure (v := ?_) rfl (by rfl) ?_ ?_; rotate_left; (focus (intro w hS; obtain ⟨⟨k15, -⟩, ⟨k17, -⟩, ⟨k19, -⟩, ⟨m14, -⟩, ⟨n14, -⟩, ⟨m16, -⟩, ⟨n16, -⟩, ⟨m18, -⟩, ⟨n18, -⟩, ⟨m20, -⟩, ⟨n20, -⟩, -⟩ := hk.up hS; go_simp; try with_reducible rfl)); (try simp only [Act.put, List.setIfInBounds_toArray, List.set_cons_zero, List.set_cons_succ])))
                  refine seqE_call (f := ?_) (args := ?_) rfl (by rfl) ?_ ?_ seqE_stop
                  rotate_left 2
                  focus (intro w hS; go_simp; first | done | with_reducible rfl | (refine ⟨?_, ?_⟩ <;> with_reducible rfl))
                  intro w3 hS
                  refine (mvalue_is (V := V) (nv := V.length) (ar := 2) (p := p17) (cap := c17) (hC17.mono hS) (hM18.up hS) (hV13.mono hS) G2.out.wf hd2 (by omega) rfl hVm F2.out).mono ?_
                  rintro e v3 ⟨y2, cy2, rfl, hX2, hbl⟩
                  refine ⟨_, rfl, (fun x => Below v3.heap.size v3 x), Below.refl _ _, fun x hx => btr (btr hS hbl) hx, ?_⟩
                  have hXw := Nat.le_trans zz hS.size; have hXa := Nat.le_trans hacc.size hS.size
                  have hX := btr hS hbl
                  replace hk := hk.up hX; replace hC15 := hC15.mono hX; replace hC17 := hC17.mono hX; replace hC19 := hC19.mono hX; replace hM14 := hM14.up hX; replace hM16 := hM16.up hX; replace hM18 := hM18.up hX; replace hM20 := hM20.up hX; replace hV13 := hV13.mono hX; replace hX1 := hX1.up hX; replace hbw := btr hbw hX; replace zz := Nat.le_trans zz (Below.size hX); replace hacc := btr hacc hX
                  clear hX hS hbl hXw hXa
                  (try simp only [Act.put, List.setIfInBounds_toArray, List.set_cons_zero, List.set_cons_succ])
                  refine seqE_keep (v := .bool true) (f := ?_) (args := ?_) rfl (by rfl) ?_ ?_ ?_ seqE_stop
                  rotate_left 2
                  focus (intro w hS; go_simp; first | done | with_reducible rfl | (refine ⟨?_, ?_⟩ <;> with_reducible rfl))
                  focus (intro w hS; refine (requal_is (hX2.up hS) (hM14.up hS) rfl).mono ?_; rintro e w2 ⟨rfl, hbl⟩; exact ⟨rfl, btr hS hbl⟩)
                  (try simp only [Act.put, List.setIfInBounds_toArray, List.set_cons_zero, List.set_cons_succ])
                  iterate 6 (first | (refine seqE_free (v := ?_) rfl (by rfl) ?_ ?_; rotate_left; (focus (intro w; go_simp; try with_reducible rfl)); (try simp only [Act.put, List.setIfInBounds_toArray, List.set_cons_zero, List.set_cons_succ])) | (refine seqE_pure (v := ?_) rfl (by rfl) ?_ ?_; rotate_left; (focus (intro w hS; obtain ⟨⟨k15, -⟩, ⟨k17, -⟩, ⟨k19, -⟩, ⟨m14, -⟩, ⟨n14, -⟩, ⟨m16, -⟩, ⟨n16, -⟩, ⟨m18, -⟩, ⟨n18, -⟩, ⟨m20, -⟩, ⟨n20, -⟩, -⟩ := hk.up hS; go_simp; try with_reducible rfl)); (try simp only [Act.put, List.setIfInBounds_toArray, List.set_cons_zero, List.set_cons_succ])))
                  clear hk
                  refine seqE_call (f := ?_) (args := ?_) rfl (by rfl) ?_ ?_ seqE_stop
                  rotate_left 2
                  focus (intro w hS; go_simp; first | done | with_reducible rfl | (refine ⟨?_, ?_⟩ <;> with_reducible rfl))
                  intro w5 hS
                  refine (mvalue_is (V := V) (nv := V.length) (ar := 2) (p := p19) (cap := c19) (hC19.mono hS) (hM20.up hS) (hV13.mono hS) G3.out.wf hd3 (by omega) rfl hVm F3.out).mono ?_
                  rintro e v5 ⟨y3, cy3, rfl, hX3, hbl⟩
                  refine ⟨_, rfl, (fun x => Below v5.heap.size v5 x), Below.refl _ _, fun x hx => btr (btr hS hbl) hx, ?_⟩
                  have hXw := Nat.le_trans zz hS.size; have hXa := Nat.le_trans hacc.size hS.size
                  have hX := btr hS hbl
                  replace hC15 := hC15.mono hX; replace hC17 := hC17.mono hX; replace hC19 := hC19.mono hX; replace hM14 := hM14.up hX; replace hM16 := hM16.up hX; replace hM18 := hM18.up hX; replace hM20 := hM20.up hX; replace hV13 := hV13.mono hX; replace hX1 := hX1.up hX; replace hX2 := hX2.up hX; replace hbw := btr hbw hX; replace zz := Nat.le_trans zz (Below.size hX); replace hacc := btr hacc hX
                  clear hX hS hbl hXw hXa
                  (try simp only [Act.put, List.setIfInBounds_toArray, List.set_cons_zero, List.set_cons_succ])
                  refine seqE_keep (v := .bool true) (f := ?_) (args := ?_) rfl (by rfl) ?_ ?_ ?_ seqE_stop
                  rotate_left 2
                  focus (intro w hS; go_simp; first | done | with_reducible rfl | (refine ⟨?_, ?_⟩ <;> with_reducible rfl))
                  focus (intro w hS; refine (requal_is (hX3.up hS) (hM14.up hS) rfl).mono ?_; rintro e w2 ⟨rfl, hbl⟩; exact ⟨rfl, btr hS hbl⟩)
                  (try simp only [Act.put, List.setIfInBounds_toArray, List.set_cons_zero, List.set_cons_succ])
                  iterate 2 (refine seqE_free (v := ?_) rfl (by rfl) ?_ ?_; rotate_left; (focus (intro w; go_simp; try with_reducible rfl)); (try simp only [Act.put, List.setIfInBounds_toArray, List.set_cons_zero, List.set_cons_succ]))
                  refine seqE_nil ?_
                  intro wz hS
                  replace hC15 := hC15.mono hS; replace hC17 := hC17.mono hS; replace hC19 := hC19.mono hS; replace hM14 := hM14.up hS; replace hM16 := hM16.up hS; replace hM18 := hM18.up hS; replace hM20 := hM20.up hS; replace hV13 := hV13.mono hS; replace hX1 := hX1.up hS; replace hX2 := hX2.up hS; replace hX3 := hX3.up hS; replace hbw := btr hbw hS; replace zz := Nat.le_trans zz (Below.size hS); replace hacc := btr hacc hS; clear hS
                  go_wp2_with fail
                  go_ret
                  exact ⟨rfl, hbw⟩
end Go.Proofs.Ytadilppdlbhjnaa
