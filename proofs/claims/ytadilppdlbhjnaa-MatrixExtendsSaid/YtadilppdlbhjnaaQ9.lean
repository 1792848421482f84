/- Walk of MatrixExtends. -/
import Derived.Test.YtadilppdlbhjnaaLB4
namespace Go.Proofs.Ytadilppdlbhjnaa
set_option linter.unusedSimpArgs false
set_option linter.unusedVariables false
open Go.RowKit

theorem BoolsAt.up {w w' : World} {p : Option Addr} {l : List Bool} (h : BoolsAt w p l) (hB : Below w.heap.size w w') : BoolsAt w' p l := h.mono hB

set_option maxRecDepth 100000 in
set_option maxHeartbeats 8000000 in
theorem matrixExtends_any (k : Nat) (st : List Step) (ps : Option Addr) (cs : Nat) (x : List Nat) (px : Option Addr) (cx : Nat) (y : List Nat) (py : Option Addr) (cy : Nat) (z0 : Nat) (w : World) (hk : k < 256) (hl : st.length ≤ maxLen) (hs : ∀ s ∈ st, s.k < 256 ∧ s.a < 256 ∧ s.b < 256) (hg : StepsAt w ps st) (hlx : x.length ≤ maxLen) (h8x : ∀ v ∈ x, v < 256) (hux : UbAt w px x) (hly : y.length ≤ maxLen) (h8y : ∀ v ∈ y, v < 256) (huy : UbAt w py y) (hz : z0 < 256) :
    Calls Try.prog 6 #[.int .u8 k, .slice ps st.length cs, .slice px x.length cx, .slice py y.length cy, .int .u8 z0] w (RetB w true) := by
  unfold maxLen at hl
  have HS8 := Lib.hid hs; have HG := Lib.hid hg; have H8x := Lib.hid h8x; have HUx := Lib.hid hux; have H8y := Lib.hid h8y; have HUy := Lib.hid huy; clear hs hg h8x hux h8y huy
  by_cases h20 : (20 : Int) < (st.length : Int)
  case pos =>
    have hW : Below w.heap.size w w := Below.refl _ _
    go_enter Try.func6, Try.ntmps6
    go_wp2_with (first | (go_at_call 32; refine (head14_any _).mono ?_; rintro e w1 ⟨rfl, hb1⟩))
    go_ret
    exact ⟨rfl, hb1⟩
  case neg =>
    obtain ⟨n, hn⟩ : ∃ n, k % 3 + 1 = n := ⟨_, rfl⟩
    obtain ⟨kk, hkk⟩ : ∃ n, k / 3 % 2 + 1 = n := ⟨_, rfl⟩
    obtain ⟨k2, hk2⟩ : ∃ n, k / 6 % 2 + 1 = n := ⟨_, rfl⟩
    have hn0 : 0 < n := by omega
    have hn3 : n ≤ 3 := by omega
    have hkk0 : 0 < kk := by omega
    have hkk2 : kk ≤ 2 := by omega
    obtain ⟨c, refs, hcb, gc, hcl, hrl, hrr, hma⟩ := made_plain2 st (by omega)
    obtain ⟨N, hN, hN9⟩ : ∃ N, n ^ kk = N ∧ N ≤ 9 := ⟨_, rfl, pow_9 hn3 hkk2⟩
    have hc0 : 0 < c.length := gc.ne
    have hW : Below w.heap.size w w := Below.refl _ _
    have hk20 : 0 < k2 := by omega
    have hk22 : k2 ≤ 2 := by omega
    obtain ⟨a, ha⟩ : ∃ a, mMade refs x N = a := ⟨_, rfl⟩
    obtain ⟨b, hb⟩ : ∃ a, mMade refs y N = a := ⟨_, rfl⟩
    obtain ⟨z, hz0⟩ : ∃ a, mMade refs y (n ^ k2) = a := ⟨_, rfl⟩
    have oa := (hma x N).1; have ob := (hma y N).1; have oz := (hma y (n ^ k2)).1; have lz := (hma y (n ^ k2)).2
    rw [ha] at oa; rw [hb] at ob; rw [hz0] at oz lz
    have oa2 : MOk c ((n ^ kk : Nat) : Int) a := by rw [hN]; exact oa
    have ob2 : MOk c ((n ^ kk : Nat) : Int) b := by rw [hN]; exact ob
    have la : a.length ≤ 9 := Nat.le_trans oa2.len (pow_9 hn3 hkk2)
    have lb : b.length ≤ 9 := Nat.le_trans ob2.len (pow_9 hn3 hkk2)
    have lz9 : z.length ≤ 9 := Nat.le_trans lz (pow_9 hn3 hk22)
    clear lz
    obtain ⟨V, hV0⟩ : ∃ V, vbits z0 8 = V := ⟨_, rfl⟩
    have hVl : V.length = 8 := by rw [← hV0]; exact vbits_len _ _
    obtain ⟨d1, m1, d2, m2, d3, r3, d4, r4, e1, e2, e3, e4, g1, g2, g3, g4⟩ := ext_plain hkk0 hkk2 hn3 hn0 gc hcl oa2 ob2
    have k1 := g1.len; have k2' := g2.len; have k3 := g3.len; have k4 := g4.len
    have g13 := (g1.trans g2).trans g3
    obtain ⟨d5, m5, e5⟩ : ∃ d m, mJoin d3 (n ^ (kk - 1 + (k2 - 1))) n ((n ^ (k2 - 1) : Nat) : Int) a z = (d, m) := ⟨_, _, rfl⟩
    obtain ⟨g5, -, -⟩ := joinL_ok hkk0 hkk2 hk20 hk22 hn0 hn3 g3.good (by omega) (oa2.up g13.ge) (oz.up g13.ge) e5
    have k5 := g5.len
    obtain ⟨va, hva⟩ : ∃ l, mValue c V a = l := ⟨_, rfl⟩
    obtain ⟨vb, hvb⟩ : ∃ l, mValue c V b = l := ⟨_, rfl⟩
    have L4 : LastOk V c d3 d4 a b va vb := ⟨g4.good, by omega, g4.pre, (value_up V oa2 (g13.trans g4)).trans hva, (value_up V ob2 (g13.trans g4)).trans hvb⟩
    have L5 : LastOk V c d3 d5 a b va vb := ⟨g5.good, by omega, g5.pre, (value_up V oa2 (g13.trans g5)).trans hva, (value_up V ob2 (g13.trans g5)).trans hvb⟩
    have hcl2 : c.length ≤ 10000 := by omega
    have hd1 : d1.length ≤ 10000 := by omega
    have hd2 : d2.length ≤ 10000 := by omega
    have hd3 : d3.length ≤ 10000 := by omega
    have HA := Lib.hid ha; have HB := Lib.hid hb; have HZ := Lib.hid hz0; have OA := Lib.hid oa2; have OB := Lib.hid ob2; have OA1 := Lib.hid (oa2.up g1.ge); have OB1 := Lib.hid (ob2.up g1.ge); have OB2 := Lib.hid (ob2.up (g1.trans g2).ge); have OA3 := Lib.hid (oa2.up g13.ge); have OB3 := Lib.hid (ob2.up g13.ge); have OZ3 := Lib.hid (oz.up g13.ge)
    have HVB := Lib.hid hV0; have HVL := Lib.hid hVl; have HVA := Lib.hid hva; have HVC := Lib.hid hvb
    have E1 := Lib.hid e1; have E2 := Lib.hid e2; have E3 := Lib.hid e3; have E4 := Lib.hid e4; have E5 := Lib.hid e5; have G1 := Lib.hid g1; have G2 := Lib.hid g2; have G3 := Lib.hid g3
    have L4 := Lib.hid L4; have L5 := Lib.hid L5
    clear ha hb hz0 oa ob oz oa2 ob2 hV0 hVl hva hvb e1 e2 e3 e4 e5 g1 g2 g3 g4 g5 g13 k1 k2' k3 k4 k5
    have HN := Lib.hid hn; have HKK := Lib.hid hkk; have HK2 := Lib.hid hk2; have HCB := Lib.hid hcb; have GC := Lib.hid gc; have HR := Lib.hid hrr; have HNP := Lib.hid hN
    clear hn hkk hk2 hcb gc hrr hma hN
    go_enter Try.func6, Try.ntmps6
    go_upto_region 1 with fail
    go_cut [11] from 28 to 28 (fun s11 wx => (s11 = .bool true) ∧ Below w.heap.size w wx)
    case first =>
      as_aux_lemma =>
        go_wp2_with (first | (go_at_call 32; refine (head14_any _).mono ?_; rintro e w2 ⟨rfl, hbl⟩))
        go_meet
        exact ⟨rfl, (by first | exact hbl | exact btr (by go_grown) hbl)⟩
    case rest =>
      obtain ⟨rfl, hst⟩ := hcut
      replace hW := btr hW hst
      clear hst
      go_upto_region 4 with fail
      go_cut [12, 13] from 33 to 37 (fun s12 s13 wx => (∃ (b : Nat) (q : Option Addr) (cq : Nat), s12 = .pointer (some ⟨b, 0, none⟩) ∧ s13 = .slice q refs.length cq ∧ Bx wx b c ∧ LAt wx q refs) ∧ Below wc.heap.size wc wx)
      case first =>
        as_aux_lemma =>
          go_wp2_with (first | (go_at_call 33; refine (rbuild_any st ps cs _ (by omega) HS8.out (HG.out.mono hW)).mono ?_; rintro e w2 ⟨pc, cc, pr, cr, he, o1, o2, o3, o4, r1, r2, r3, r4, hbl⟩; rw [HCB.out] at he o1 o4 r1 r4; subst he; dsimp only at o1 o4 r1 r4; have hC2 : CAt w2 pc cc c := ⟨o1, o2, o3, o4⟩; have hL2 : LAt w2 pr refs := r4; clear o1 o2 o3 o4 r1 r2 r3 r4))
          go_meet
          exact ⟨⟨_, _, _, rfl, rfl, Bx.new hC2 _, hL2.up (bal (Below.refl _ _) _)⟩, bal hbl _⟩
      case rest =>
        obtain ⟨⟨b12, q13, cq13, rfl, rfl, hB12, hL13⟩, hst⟩ := hcut
        replace hW := btr hW hst
        clear hst
        go_upto_region 5 with fail
        go_cut [14, 15, 16] from 38 to 43 (fun s14 s15 s16 wx => (s14 = .int .i64 n ∧ s15 = .int .i64 kk ∧ s16 = .int .i64 k2) ∧ Below wc.heap.size wc wx)
        case first =>
          as_aux_lemma =>
            go_wp2_with (first | (go_at_call 34; refine (atoms_any k _ hk).mono ?_; rw [HN.out, HKK.out, HK2.out]; rintro e w2 ⟨rfl, hbl⟩))
            go_meet
            exact ⟨⟨rfl, rfl, rfl⟩, hbl⟩
        case rest =>
          obtain ⟨⟨rfl, rfl, rfl⟩, hst⟩ := hcut
          replace hB12 := hB12.up hst
          replace hL13 := hL13.up hst
          replace hW := btr hW hst
          clear hst
          go_upto_region 6 with fail
          go_cut [17] from 44 to 48 (fun s17 wx => (∃ (bk : Nat), s17 = .pointer (some ⟨bk, 0, none⟩) ∧ BM wx bk kk a) ∧ Below wc.heap.size wc wx)
          case first =>
            as_aux_lemma =>
              go_wp2_with (first | (go_at_call 35; refine ((made14_any refs x n kk q13 px cq13 cx _ hL13 (by omega) HR.out (HUx.out.mono hW) hlx H8x.out hn0 (by omega) hkk0 (by omega)).mono fun e w' h => RetMF.eq h ((congrArg _ HNP.out).trans HA.out)).mono ?_; rintro e w2 ⟨p2, cap2, rfl, hM2, hbl, -⟩))
              go_meet
              exact ⟨⟨_, rfl, BM.newAt hM2 _ rfl⟩, bal hbl _⟩
          case rest =>
            obtain ⟨⟨b17, rfl, hN17⟩, hst⟩ := hcut
            replace hB12 := hB12.up hst
            replace hL13 := hL13.up hst
            replace hW := btr hW hst
            clear hst
            go_upto_region 7 with fail
            go_cut [18] from 49 to 53 (fun s18 wx => (∃ (bk : Nat), s18 = .pointer (some ⟨bk, 0, none⟩) ∧ BM wx bk kk b) ∧ Below wc.heap.size wc wx)
            case first =>
              as_aux_lemma =>
                go_wp2_with (first | (go_at_call 35; refine ((made14_any refs y n kk q13 py cq13 cy _ hL13 (by omega) HR.out (HUy.out.mono hW) hly H8y.out hn0 (by omega) hkk0 (by omega)).mono fun e w' h => RetMF.eq h ((congrArg _ HNP.out).trans HB.out)).mono ?_; rintro e w2 ⟨p2, cap2, rfl, hM2, hbl, -⟩))
                go_meet
                exact ⟨⟨_, rfl, BM.newAt hM2 _ rfl⟩, bal hbl _⟩
            case rest =>
              obtain ⟨⟨b18, rfl, hN18⟩, hst⟩ := hcut
              replace hB12 := hB12.up hst
              replace hL13 := hL13.up hst
              replace hN17 := hN17.up hst
              replace hW := btr hW hst
              clear hst
              go_upto_region 8 with fail
              go_cut [19] from 54 to 55 (fun s19 wx => (∃ (q : Option Addr) (cq : Nat), s19 = .slice q V.length cq ∧ BoolsAt wx q V) ∧ Below wc.heap.size wc wx)
              case first =>
                as_aux_lemma =>
                  go_wp2_with (first | (go_at_call 36; refine (values1_any z0 _ (by omega) (by omega)).mono ?_; rw [HVB.out]; rintro e w2 ⟨q2, cq2, rfl, hV2, hv0, hbl⟩))
                  go_meet
                  exact ⟨⟨_, _, rfl, hV2⟩, hbl⟩
              case rest =>
                obtain ⟨⟨q19, cq19, rfl, hV19⟩, hst⟩ := hcut
                replace hB12 := hB12.up hst
                replace hL13 := hL13.up hst
                replace hN17 := hN17.up hst
                replace hN18 := hN18.up hst
                replace hW := btr hW hst
                clear hst
                go_upto_region 9 with fail
                obtain ⟨p12, c12, k12, k12f, hC12⟩ := id hB12
                obtain ⟨q17, cq17, ⟨⟨m17, m17f⟩, ⟨n17, n17f⟩, -⟩, hM17⟩ := id hN17
                obtain ⟨q18, cq18, ⟨⟨m18, m18f⟩, ⟨n18, n18f⟩, -⟩, hM18⟩ := id hN18
                go_cut [20, 21] from 56 to 62 (fun s20 s21 wx => (∃ (b b' : Nat), s20 = .pointer (some ⟨b, 0, none⟩) ∧ s21 = .pointer (some ⟨b', 0, none⟩) ∧ Bx wx b d1 ∧ BM wx b' kk m1) ∧ Below wc.heap.size wc wx)
                case first =>
                  as_aux_lemma =>
                    go_wp2_with (first | (go_at_call 42; refine (union_is hC12 hM17 hM18 (OA.out.le (by omega)) (OB.out.le (by omega)) (by omega) hc0 E1.out).mono ?_; rintro e w2 ⟨p2, cap2, y2, cy2, rfl, hC2, hM2, hbl⟩))
                    go_meet
                    exact ⟨⟨_, _, rfl, rfl, (Bx.new hC2 _).up (by go_grown), BM.newAt (hM2.up (bal (Below.refl _ _) _)) _ (by simp)⟩, bal (bal hbl _) _⟩
                case rest =>
                  clear k12 k12f hC12
                  obtain ⟨⟨b20, b21, rfl, rfl, hB20, hN21⟩, hst⟩ := hcut
                  replace hB12 := hB12.up hst
                  replace hL13 := hL13.up hst
                  replace hN17 := hN17.up hst
                  replace hN18 := hN18.up hst
                  replace hV19 := hV19.up hst
                  replace hW := btr hW hst
                  clear hst
                  clear m17 m17f n17 n17f hM17
                  clear m18 m18f n18 n18f hM18
                  clear hN21
                  go_upto_region 10 with fail
                  obtain ⟨p20, c20, k20, k20f, hC20⟩ := id hB20
                  obtain ⟨q17, cq17, ⟨⟨m17, m17f⟩, ⟨n17, n17f⟩, -⟩, hM17⟩ := id hN17
                  obtain ⟨q18, cq18, ⟨⟨m18, m18f⟩, ⟨n18, n18f⟩, -⟩, hM18⟩ := id hN18
                  go_cut [22, 23] from 63 to 70 (fun s22 s23 wx => (∃ (b b' : Nat), s22 = .pointer (some ⟨b, 0, none⟩) ∧ s23 = .pointer (some ⟨b', 0, none⟩) ∧ Bx wx b d2 ∧ BM wx b' kk m2) ∧ Below wc.heap.size wc wx)
                  case first =>
                    as_aux_lemma =>
                      go_wp2_with (first | (go_at_call 43; refine (overrideL_is hkk0 hkk2 hn0 hn3 G1.out.good hd1 OA1.out OB1.out hC20 hM17 hM18 E2.out).mono ?_; rintro e w2 ⟨p2, cap2, y2, cy2, rfl, hC2, hM2, hbl⟩))
                      go_meet
                      exact ⟨⟨_, _, rfl, rfl, (Bx.new hC2 _).up (by go_grown), BM.newAt (hM2.up (bal (Below.refl _ _) _)) _ (by simp)⟩, bal (bal hbl _) _⟩
                  case rest =>
                    clear k20 k20f hC20
                    obtain ⟨⟨b22, b23, rfl, rfl, hB22, hN23⟩, hst⟩ := hcut
                    replace hB12 := hB12.up hst
                    replace hL13 := hL13.up hst
                    replace hN17 := hN17.up hst
                    replace hN18 := hN18.up hst
                    replace hV19 := hV19.up hst
                    replace hB20 := hB20.up hst
                    replace hW := btr hW hst
                    clear hst
                    clear m17 m17f n17 n17f hM17
                    clear m18 m18f n18 n18f hM18
                    clear hN23
                    go_upto_region 11 with fail
                    obtain ⟨p22, c22, k22, k22f, hC22⟩ := id hB22
                    obtain ⟨q18, cq18, ⟨⟨m18, m18f⟩, ⟨n18, n18f⟩, -⟩, hM18⟩ := id hN18
                    go_cut [24, 25] from 71 to 76 (fun s24 s25 wx => (∃ (b : Nat), s24 = .pointer (some ⟨b, 0, none⟩) ∧ s25 = .int .i64 r3 ∧ Bx wx b d3) ∧ Below wc.heap.size wc wx)
                    case first =>
                      as_aux_lemma =>
                        go_wp2_with (first | (go_at_call 39; refine (lone_is hC22 hM18 G2.out.good (by omega) OB2.out E3.out).mono ?_; rintro e w2 ⟨p2, cap2, rfl, hC2, hbl⟩))
                        go_meet
                        exact ⟨⟨_, rfl, rfl, Bx.new hC2 _⟩, bal hbl _⟩
                    case rest =>
                      clear k22 k22f hC22
                      obtain ⟨⟨b24, rfl, rfl, hB24⟩, hst⟩ := hcut
                      replace hB12 := hB12.up hst
                      replace hL13 := hL13.up hst
                      replace hN17 := hN17.up hst
                      replace hN18 := hN18.up hst
                      replace hV19 := hV19.up hst
                      replace hB20 := hB20.up hst
                      replace hB22 := hB22.up hst
                      replace hW := btr hW hst
                      clear hst
                      clear m18 m18f n18 n18f hM18
                      have l12 := hB12.lt; have l20 := hB20.lt; have l22 := hB22.lt; have l24 := hB24.lt
                      have l17 := hN17.lt; have l18 := hN18.lt; have hW0 := hW.size
                      go_upto_region 12 with fail
                      obtain ⟨p24, c24, k24, k24f, hC24⟩ := id hB24
                      obtain ⟨q17, cq17, ⟨⟨m17, m17f⟩, ⟨n17, n17f⟩, -⟩, hM17⟩ := id hN17
                      obtain ⟨q18, cq18, ⟨⟨m18, m18f⟩, ⟨n18, n18f⟩, -⟩, hM18⟩ := id hN18
                      go_cut [26, 27] from 77 to 83 (fun s26 s27 wx => (∃ (b : Nat), s26 = .pointer (some ⟨b, 0, none⟩) ∧ s27 = .int .i64 r4 ∧ Bx wx b d4 ∧ wc.heap.size ≤ b) ∧ Below wc.heap.size wc wx)
                      case first =>
                        as_aux_lemma =>
                          go_wp2_with (first | (go_at_call 37; refine (in_is hC24 hM17 hM18 G3.out.good (by omega) OA3.out OB3.out (by have := pow_9 hn3 hkk2; omega) (by omega) E4.out).mono ?_; rintro e w2 ⟨p2, cap2, rfl, hC2, hbl⟩))
                          go_meet
                          exact ⟨⟨_, rfl, rfl, Bx.new hC2 _, hbl.size⟩, bal hbl _⟩
                      case rest =>
                        clear k24 k24f hC24
                        obtain ⟨⟨b26, rfl, rfl, hB26, hge26⟩, hst⟩ := hcut
                        replace hB12 := hB12.up hst
                        replace hL13 := hL13.up hst
                        replace hN17 := hN17.up hst
                        replace hN18 := hN18.up hst
                        replace hV19 := hV19.up hst
                        replace hB20 := hB20.up hst
                        replace hB22 := hB22.up hst
                        replace hB24 := hB24.up hst
                        replace hW := btr hW hst
                        clear hst
                        clear m17 m17f n17 n17f hM17
                        clear m18 m18f n18 n18f hM18
                        have hge27 : w.heap.size ≤ b26 := Nat.le_trans hW0 hge26
                        have n12 : b26 ≠ b12 := by omega
                        have n20 : b26 ≠ b20 := by omega
                        have n22 : b26 ≠ b22 := by omega
                        have n24 : b26 ≠ b24 := by omega
                        have n17 : b26 ≠ b17 := by omega
                        have n18 : b26 ≠ b18 := by omega
                        clear hge26 l12 l20 l22 l24 l17 l18
                        have hwk : IntKind.i64.wrap ((kk : Int) + (k2 : Int)) = (kk : Int) + (k2 : Int) := i64_small (by omega) (by omega)
                        go_upto_if 87 with fail
                        go_cut [] from 28 to 99 (fun wx => Below w.heap.size w wx ∧ Bx wx b12 c ∧ BM wx b17 kk a ∧ BM wx b18 kk b ∧ BoolsAt wx q19 V ∧ Bx wx b20 d1 ∧ Bx wx b22 d2 ∧ Bx wx b24 d3 ∧ ∃ D, Bx wx b26 D ∧ LastOk V c d3 D a b va vb)
                        case first =>
                          as_aux_lemma =>
                            by_cases hif : (2 : Int) < (kk : Int) + (k2 : Int)
                            case neg =>
                              (have hif2 : decide ((2 : Int) < (kk : Int) + (k2 : Int)) = false := by simpa using hif)
                              go_wp2_with fail
                              go_meet
                              exact ⟨hW, hB12, hN17, hN18, hV19, hB20, hB22, hB24, d4, hB26, L4.out⟩
                            case pos =>
                              have hif2 : decide ((2 : Int) < (kk : Int) + (k2 : Int)) = true := by simpa using hif
                              rw [hif2]
                              clear hif2
                              go_upto_region 14 with fail
                              obtain ⟨p24, c24, k24, k24f, hC24⟩ := id hB24
                              obtain ⟨q17, cq17, ⟨⟨m17, m17f⟩, ⟨n17, n17f⟩, -⟩, hM17⟩ := id hN17
                              obtain ⟨s, hs0⟩ : ∃ s, w.heap.size = s := ⟨_, rfl⟩
                              have HS := Lib.hid hs0; clear hs0
                              have hbw := hW
                              have zz : s + 0 ≤ wc.heap.size := by have := HS.out; have := hW.size; omega
                              have hk : Cells wc [(b24, 0, .slice p24 d3.length c24), (b17, 0, .int .i64 kk), (b17, 1, .slice q17 a.length cq17)] := ⟨⟨k24, k24f⟩, ⟨m17, m17f⟩, ⟨n17, n17f⟩, trivial⟩
                              clear k24 k24f m17 m17f n17 n17f
                              have hacc : Below wc.heap.size wc wc := Below.refl _ _
                              refine wp_region_seqE (fun x => Below wc.heap.size wc x) (.one 0 0 (.one 1 1 (.one 2 0 (.one 3 1 (.one 4 1 (.one 5 1 (.one 6 1 (.alt 7 2 (.alt 8 3 (.one 9 1 (.one 10 1 (.one 11 1 (.alt 12 3 .nil .stop)))) .stop) .stop)))))))) (by kernel_rfl) (by kernel_rfl) (by kernel_rfl) (Below.drew (Below.refl _ _)) ?_
                              iterate 7 (first | (refine seqE_free (v := ?_) rfl (by rfl) ?_ ?_; rotate_left; (focus (intro w; go_simp; try with_reducible rfl)); (try simp only [Act.put, List.setIfInBounds_toArray, List.set_cons_zero, List.set_cons_succ])) | (refine seqE_pure (v := ?_) rfl (by rfl) ?_ ?_; rotate_left; (focus (intro w hS; obtain ⟨⟨k24, -⟩, ⟨m17, -⟩, ⟨n17, -⟩, -⟩ := hk.up hS; go_simp; try with_reducible rfl)); (try simp only [Act.put, List.setIfInBounds_toArray, List.set_cons_zero, List.set_cons_succ])))
                              clear hk
                              refine seqE_call (f := ?_) (args := ?_) rfl (by rfl) ?_ ?_ seqE_stop
                              rotate_left 2
                              focus (intro w hS; go_simp; first | done | with_reducible rfl | (refine ⟨?_, ?_⟩ <;> with_reducible rfl))
                              intro w1 hS
                              refine ((((made14_any refs y n k2 q13 py cq13 cy w1 (hL13.up hS) (by omega) HR.out (HUy.out.mono (btr hW hS)) hly H8y.out hn0 (by omega) hk20 (by omega)).mono fun e w' h => RetMF.eq h HZ.out))).mono ?_
                              rintro e v1 ⟨p2, cap2, rfl, hX2, hbl, -⟩
                              refine ⟨_, rfl, (fun x => Below v1.heap.size v1 x), Below.refl _ _, fun x hx => btr (btr hS hbl) hx, ?_⟩
                              have hXw := Nat.le_trans zz hS.size; have hXa := Nat.le_trans hacc.size hS.size
                              have hX := btr hS hbl
                              replace hC24 := hC24.mono hX; replace hM17 := hM17.up hX; replace hbw := btr hbw hX; replace zz := Nat.le_trans zz (Below.size hX); replace hacc := btr hacc hX
                              clear hX hS hbl hXw hXa
                              (try simp only [Act.put, List.setIfInBounds_toArray, List.set_cons_zero, List.set_cons_succ])
                              refine seqE_callB (f := ?_) (args := ?_) rfl (by rfl) ?_ ?_ seqE_stop
                              rotate_left 2
                              focus (intro w hS; go_simp; first | done | with_reducible rfl | (refine ⟨?_, ?_⟩ <;> with_reducible rfl))
                              intro w2 hS
                              refine (joinL_is (hC24.mono hS) (hM17.up hS) (hX2.up hS) hkk0 hkk2 hk20 hk22 hn0 hn3 G3.out.good hd3 OA3.out OZ3.out E5.out).mono ?_
                              rintro e v2 ⟨p3, cap3, y3, cy3, rfl, hX3, hM3, hbl⟩
                              refine ⟨_, rfl, (fun x => Below v2.heap.size v2 x), Below.refl _ _, ?_⟩
                              have hXw := Nat.le_trans zz hS.size; have hXa := Nat.le_trans hacc.size hS.size
                              have hX := btr hS hbl
                              replace hC24 := hC24.mono hX; replace hM17 := hM17.up hX; replace hX2 := hX2.up hX; replace hbw := btr hbw hX; replace zz := Nat.le_trans zz (Below.size hX); replace hacc := btr hacc hX
                              clear hX hS hbl hXw hXa
                              (try simp only [Act.put, List.setIfInBounds_toArray, List.set_cons_zero, List.set_cons_succ])
                              iterate 3 (refine seqE_free (v := ?_) rfl (by rfl) ?_ ?_; rotate_left; (focus (intro w; go_simp; try with_reducible rfl)); (try simp only [Act.put, List.setIfInBounds_toArray, List.set_cons_zero, List.set_cons_succ]))
                              refine seqE_storeB rfl (by rfl) ?_ seqE_stop
                              intro wf hS
                              have hB0 := btr hacc hS
                              have u24 := hB24.up hB0; have u12 := hB12.up hB0; have u20 := hB20.up hB0; have u22 := hB22.up hB0; have u26 := hB26.up hB0; have u17 := hN17.up hB0; have u18 := hN18.up hB0; have uV := hV19.up hB0; have uX := hX3.mono hS
                              have uW : Below w.heap.size w wf := btr hW hB0
                              obtain ⟨z1, z2, z3, z3f, -⟩ := id u26
                              refine ⟨wf.setCell ⟨b26, 0, none⟩ (.slice p3 d5.length cap3), (by go_simp; try with_reducible rfl), fun x => (Below w.heap.size w x ∧ Bx x b12 c ∧ BM x b17 kk a ∧ BM x b18 kk b ∧ BoolsAt x q19 V ∧ Bx x b20 d1 ∧ Bx x b22 d2 ∧ Bx x b24 d3 ∧ ∃ D, Bx x b26 D ∧ LastOk V c d3 D a b va vb), ?_, ?_⟩
                              · exact ⟨uW.setCell (by have := hge27; dsimp only; omega) _, u12.far u26 n12, BM.far u17 u26 n17, BM.far u18 u26 n18, bools_far uV u26, u20.far u26 n20, u22.far u26 n22, u24.far u26 n24, d5, Bx.put uX u26, L5.out⟩
                              refine seqE_nil ?_
                              intro wz hS
                              go_wp2_with fail
                              go_meet
                              exact hS
                        case rest =>
                          clear hW hB12 hN17 hN18 hV19 hB20 hB22 hB24 hB26
                          obtain ⟨hW, hB12, hN17, hN18, hV19, hB20, hB22, hB24, D, hB26, LD⟩ := hcut
                          go_upto_region 15 with fail
                          obtain ⟨p12, c12, k12, k12f, hC12⟩ := id hB12
                          obtain ⟨p20, c20, k20, k20f, hC20⟩ := id hB20
                          obtain ⟨p22, c22, k22, k22f, hC22⟩ := id hB22
                          obtain ⟨p24, c24, k24, k24f, hC24⟩ := id hB24
                          obtain ⟨p26, c26, k26, k26f, hC26⟩ := id hB26
                          have hDl := LD.len
                          go_cut [126] from 100 to 125 (fun s126 wx => s126 = .bool false ∧ Below wc.heap.size wc wx)
                          case first =>
                            as_aux_lemma =>
                              have T0 := Lib.hid (fun (w' : World) (hB' : Below wc.heap.size wc w') => rvalid_is hC26 hB' (LD.good.valid (by omega)))
                              have T1 := Lib.hid (fun (w' : World) (hB' : Below wc.heap.size wc w') => prefix14_is hC12 hC20 hB' G1.out.pre)
                              have T2 := Lib.hid (fun (w' : World) (hB' : Below wc.heap.size wc w') => prefix14_is hC20 hC22 hB' G2.out.pre)
                              have T3 := Lib.hid (fun (w' : World) (hB' : Below wc.heap.size wc w') => prefix14_is hC22 hC24 hB' G3.out.pre)
                              have T4 := Lib.hid (fun (w' : World) (hB' : Below wc.heap.size wc w') => prefix14_is hC24 hC26 hB' LD.pre)
                              refine wp_region_seqT' (fun w' => Below wc.heap.size wc w') (by first | exact Below.refl _ _ | go_grown) ?_
                              refine seqT_pure (v := ?_) (by rfl) ?_ ?_
                              rotate_left
                              · (intro w hS; have kk := oldcell hS k26 (World.block_lt_of_cell? _ _ k26); go_simp; try with_reducible rfl)
                              (try simp only [Act.put, List.setIfInBounds_toArray, List.set_cons_zero, List.set_cons_succ])
                              refine seqT_call (v := .bool true) (f := ?_) (args := ?_) (by rfl) ?_ ?_ ?_
                              rotate_left 2
                              · (intro w hS; go_simp; first | done | with_reducible rfl | (refine ⟨?_, ?_⟩ <;> with_reducible rfl))
                              · (intro w hS; refine (T0.out w hS).mono ?_; rintro e w' ⟨he, hb⟩; exact ⟨he, btr hS hb⟩)
                              (try simp only [Act.put, List.setIfInBounds_toArray, List.set_cons_zero, List.set_cons_succ])
                              refine seqT_pure (v := ?_) (by rfl) ?_ ?_
                              rotate_left
                              · (intro w hS; go_simp; try with_reducible rfl)
                              (try simp only [Act.put, List.setIfInBounds_toArray, List.set_cons_zero, List.set_cons_succ])
                              refine seqT_pure (v := ?_) (by rfl) ?_ ?_
                              rotate_left
                              · (intro w hS; go_simp; try with_reducible rfl)
                              (try simp only [Act.put, List.setIfInBounds_toArray, List.set_cons_zero, List.set_cons_succ])
                              refine seqT_pure (v := ?_) (by rfl) ?_ ?_
                              rotate_left
                              · (intro w hS; have kk := oldcell hS k12 (World.block_lt_of_cell? _ _ k12); go_simp; try with_reducible rfl)
                              (try simp only [Act.put, List.setIfInBounds_toArray, List.set_cons_zero, List.set_cons_succ])
                              refine seqT_pure (v := ?_) (by rfl) ?_ ?_
                              rotate_left
                              · (intro w hS; have kk := oldcell hS k20 (World.block_lt_of_cell? _ _ k20); go_simp; try with_reducible rfl)
                              (try simp only [Act.put, List.setIfInBounds_toArray, List.set_cons_zero, List.set_cons_succ])
                              refine seqT_call (v := .bool true) (f := ?_) (args := ?_) (by rfl) ?_ ?_ ?_
                              rotate_left 2
                              · (intro w hS; go_simp; first | done | with_reducible rfl | (refine ⟨?_, ?_⟩ <;> with_reducible rfl))
                              · (intro w hS; refine (T1.out w hS).mono ?_; rintro e w' ⟨he, hb⟩; exact ⟨he, btr hS hb⟩)
                              (try simp only [Act.put, List.setIfInBounds_toArray, List.set_cons_zero, List.set_cons_succ])
                              refine seqT_pure (v := ?_) (by rfl) ?_ ?_
                              rotate_left
                              · (intro w hS; go_simp; try with_reducible rfl)
                              (try simp only [Act.put, List.setIfInBounds_toArray, List.set_cons_zero, List.set_cons_succ])
                              refine seqT_pure (v := ?_) (by rfl) ?_ ?_
                              rotate_left
                              · (intro w hS; go_simp; try with_reducible rfl)
                              (try simp only [Act.put, List.setIfInBounds_toArray, List.set_cons_zero, List.set_cons_succ])
                              refine seqT_pure (v := ?_) (by rfl) ?_ ?_
                              rotate_left
                              · (intro w hS; go_simp; try with_reducible rfl)
                              (try simp only [Act.put, List.setIfInBounds_toArray, List.set_cons_zero, List.set_cons_succ])
                              refine seqT_pure (v := ?_) (by rfl) ?_ ?_
                              rotate_left
                              · (intro w hS; have kk := oldcell hS k20 (World.block_lt_of_cell? _ _ k20); go_simp; try with_reducible rfl)
                              (try simp only [Act.put, List.setIfInBounds_toArray, List.set_cons_zero, List.set_cons_succ])
                              refine seqT_pure (v := ?_) (by rfl) ?_ ?_
                              rotate_left
                              · (intro w hS; have kk := oldcell hS k22 (World.block_lt_of_cell? _ _ k22); go_simp; try with_reducible rfl)
                              (try simp only [Act.put, List.setIfInBounds_toArray, List.set_cons_zero, List.set_cons_succ])
                              refine seqT_call (v := .bool true) (f := ?_) (args := ?_) (by rfl) ?_ ?_ ?_
                              rotate_left 2
                              · (intro w hS; go_simp; first | done | with_reducible rfl | (refine ⟨?_, ?_⟩ <;> with_reducible rfl))
                              · (intro w hS; refine (T2.out w hS).mono ?_; rintro e w' ⟨he, hb⟩; exact ⟨he, btr hS hb⟩)
                              (try simp only [Act.put, List.setIfInBounds_toArray, List.set_cons_zero, List.set_cons_succ])
                              refine seqT_pure (v := ?_) (by rfl) ?_ ?_
                              rotate_left
                              · (intro w hS; go_simp; try with_reducible rfl)
                              (try simp only [Act.put, List.setIfInBounds_toArray, List.set_cons_zero, List.set_cons_succ])
                              refine seqT_pure (v := ?_) (by rfl) ?_ ?_
                              rotate_left
                              · (intro w hS; go_simp; try with_reducible rfl)
                              (try simp only [Act.put, List.setIfInBounds_toArray, List.set_cons_zero, List.set_cons_succ])
                              refine seqT_pure (v := ?_) (by rfl) ?_ ?_
                              rotate_left
                              · (intro w hS; go_simp; try with_reducible rfl)
                              (try simp only [Act.put, List.setIfInBounds_toArray, List.set_cons_zero, List.set_cons_succ])
                              refine seqT_pure (v := ?_) (by rfl) ?_ ?_
                              rotate_left
                              · (intro w hS; have kk := oldcell hS k22 (World.block_lt_of_cell? _ _ k22); go_simp; try with_reducible rfl)
                              (try simp only [Act.put, List.setIfInBounds_toArray, List.set_cons_zero, List.set_cons_succ])
                              refine seqT_pure (v := ?_) (by rfl) ?_ ?_
                              rotate_left
                              · (intro w hS; have kk := oldcell hS k24 (World.block_lt_of_cell? _ _ k24); go_simp; try with_reducible rfl)
                              (try simp only [Act.put, List.setIfInBounds_toArray, List.set_cons_zero, List.set_cons_succ])
                              refine seqT_call (v := .bool true) (f := ?_) (args := ?_) (by rfl) ?_ ?_ ?_
                              rotate_left 2
                              · (intro w hS; go_simp; first | done | with_reducible rfl | (refine ⟨?_, ?_⟩ <;> with_reducible rfl))
                              · (intro w hS; refine (T3.out w hS).mono ?_; rintro e w' ⟨he, hb⟩; exact ⟨he, btr hS hb⟩)
                              (try simp only [Act.put, List.setIfInBounds_toArray, List.set_cons_zero, List.set_cons_succ])
                              refine seqT_pure (v := ?_) (by rfl) ?_ ?_
                              rotate_left
                              · (intro w hS; go_simp; try with_reducible rfl)
                              (try simp only [Act.put, List.setIfInBounds_toArray, List.set_cons_zero, List.set_cons_succ])
                              refine seqT_pure (v := ?_) (by rfl) ?_ ?_
                              rotate_left
                              · (intro w hS; go_simp; try with_reducible rfl)
                              (try simp only [Act.put, List.setIfInBounds_toArray, List.set_cons_zero, List.set_cons_succ])
                              refine seqT_pure (v := ?_) (by rfl) ?_ ?_
                              rotate_left
                              · (intro w hS; go_simp; try with_reducible rfl)
                              (try simp only [Act.put, List.setIfInBounds_toArray, List.set_cons_zero, List.set_cons_succ])
                              refine seqT_pure (v := ?_) (by rfl) ?_ ?_
                              rotate_left
                              · (intro w hS; have kk := oldcell hS k24 (World.block_lt_of_cell? _ _ k24); go_simp; try with_reducible rfl)
                              (try simp only [Act.put, List.setIfInBounds_toArray, List.set_cons_zero, List.set_cons_succ])
                              refine seqT_pure (v := ?_) (by rfl) ?_ ?_
                              rotate_left
                              · (intro w hS; have kk := oldcell hS k26 (World.block_lt_of_cell? _ _ k26); go_simp; try with_reducible rfl)
                              (try simp only [Act.put, List.setIfInBounds_toArray, List.set_cons_zero, List.set_cons_succ])
                              refine seqT_call (v := .bool true) (f := ?_) (args := ?_) (by rfl) ?_ ?_ ?_
                              rotate_left 2
                              · (intro w hS; go_simp; first | done | with_reducible rfl | (refine ⟨?_, ?_⟩ <;> with_reducible rfl))
                              · (intro w hS; refine (T4.out w hS).mono ?_; rintro e w' ⟨he, hb⟩; exact ⟨he, btr hS hb⟩)
                              (try simp only [Act.put, List.setIfInBounds_toArray, List.set_cons_zero, List.set_cons_succ])
                              refine seqT_pure (v := ?_) (by rfl) ?_ ?_
                              rotate_left
                              · (intro w hS; go_simp; try with_reducible rfl)
                              (try simp only [Act.put, List.setIfInBounds_toArray, List.set_cons_zero, List.set_cons_succ])
                              refine seqT_pure (v := ?_) (by rfl) ?_ ?_
                              rotate_left
                              · (intro w hS; go_simp; try with_reducible rfl)
                              (try simp only [Act.put, List.setIfInBounds_toArray, List.set_cons_zero, List.set_cons_succ])
                              refine seqT_nil ?_
                              intro w2 HB0
                              go_wp2_with fail
                              go_meet
                              exact ⟨rfl, HB0⟩
                          case rest =>
                            clear k12 k12f hC12 k20 k20f hC20 k22 k22f hC22 k24 k24f hC24 k26 k26f hC26
                            obtain ⟨rfl, hst⟩ := hcut
                            replace hB12 := hB12.up hst
                            replace hN17 := hN17.up hst
                            replace hN18 := hN18.up hst
                            replace hV19 := hV19.up hst
                            replace hB20 := hB20.up hst
                            replace hB22 := hB22.up hst
                            replace hB24 := hB24.up hst
                            replace hB26 := hB26.up hst
                            replace hW := btr hW hst
                            clear hst
                            have hVm : V.length ≤ maxLen := by have := HVL.out; unfold maxLen; omega
                            have hDl2 : D.length ≤ 20000 := by have := LD.len; omega
                            have hcl3 : c.length ≤ 20000 := by omega
                            go_upto_region 17 with fail
                            obtain ⟨p12, c12, k12, k12f, hC12⟩ := id hB12
                            obtain ⟨p26, c26, k26, k26f, hC26⟩ := id hB26
                            obtain ⟨q17, cq17, ⟨⟨m17, m17f⟩, ⟨n17, n17f⟩, -⟩, hM17⟩ := id hN17
                            obtain ⟨q18, cq18, ⟨⟨m18, m18f⟩, ⟨n18, n18f⟩, -⟩, hM18⟩ := id hN18
                            obtain ⟨s, hs0⟩ : ∃ s, w.heap.size = s := ⟨_, rfl⟩
                            have HS := Lib.hid hs0; clear hs0
                            have hbw := hW
                            have zz : s + 0 ≤ wc.heap.size := by have := HS.out; have := hW.size; omega
                            have hk : Cells wc [(b12, 0, .slice p12 (c).length c12), (b26, 0, .slice p26 (D).length c26), (b17, 0, .int .i64 kk), (b17, 1, .slice q17 (a).length cq17), (b18, 0, .int .i64 kk), (b18, 1, .slice q18 (b).length cq18)] := ⟨⟨k12, k12f⟩, ⟨k26, k26f⟩, ⟨m17, m17f⟩, ⟨n17, n17f⟩, ⟨m18, m18f⟩, ⟨n18, n18f⟩, trivial⟩
                            clear k12 k12f k26 k26f m17 m17f n17 n17f m18 m18f n18 n18f
                            have hacc : Below wc.heap.size wc wc := Below.refl _ _
                            clear hW
                            refine wp_region_seqE (fun x => Below wc.heap.size wc x) (.one 0 1 (.one 1 1 (.one 2 0 (.one 3 0 (.one 4 1 (.one 6 0 (.one 7 0 (.one 8 1 (.alt 5 2 (.alt 9 3 (.alt 10 2 (.one 11 1 (.one 12 1 (.one 13 0 (.one 14 0 (.one 15 1 (.one 17 0 (.one 18 0 (.one 19 1 (.alt 16 2 (.alt 20 3 (.alt 21 2 (.one 22 1 (.one 23 1 .nil)) .stop) .stop) .stop))))))))) .stop) .stop) .stop))))))))) (by kernel_rfl) (by kernel_rfl) (by kernel_rfl) (Below.drew (Below.refl _ _)) ?_
                            iterate 8 (first | (refine seqE_free (v := ?_) rfl (by rfl) ?_ ?_; rotate_left; (focus (intro w; go_simp; try with_reducible rfl)); (try simp only [Act.put, List.setIfInBounds_toArray, List.set_cons_zero, List.set_cons_succ])) | (refine seqE_pure (v := ?_) rfl (by rfl) ?_ ?_; rotate_left; (focus (intro w hS; obtain ⟨⟨k12, -⟩, ⟨k26, -⟩, ⟨m17, -⟩, ⟨n17, -⟩, ⟨m18, -⟩, ⟨n18, -⟩, -⟩ := hk.up hS; go_simp; try with_reducible rfl)); (try simp only [Act.put, List.setIfInBounds_toArray, List.set_cons_zero, List.set_cons_succ])))
                            refine seqE_call (f := ?_) (args := ?_) rfl (by rfl) ?_ ?_ seqE_stop
                            rotate_left 2
                            focus (intro w hS; go_simp; first | done | with_reducible rfl | (refine ⟨?_, ?_⟩ <;> with_reducible rfl))
                            intro w1 hS
                            refine (mvalue_is (V := V) (nv := V.length) (ar := kk) (p := p26) (cap := c26) (hC26.mono hS) (hM17.up hS) (hV19.mono hS) LD.good.wf hDl2 (by omega) rfl hVm LD.va).mono ?_
                            rintro e v1 ⟨y1, cy1, rfl, hX1, hbl⟩
                            refine ⟨_, rfl, (fun x => Below v1.heap.size v1 x), Below.refl _ _, fun x hx => btr (btr hS hbl) hx, ?_⟩
                            have hXw := Nat.le_trans zz hS.size; have hXa := Nat.le_trans hacc.size hS.size
                            have hX := btr hS hbl
                            replace hk := hk.up hX; replace hC12 := hC12.mono hX; replace hC26 := hC26.mono hX; replace hM17 := hM17.up hX; replace hM18 := hM18.up hX; replace hV19 := hV19.mono hX; replace hbw := btr hbw hX; replace zz := Nat.le_trans zz (Below.size hX); replace hacc := btr hacc hX
                            clear hX hS hbl hXw hXa
                            (try simp only [Act.put, List.setIfInBounds_toArray, List.set_cons_zero, List.set_cons_succ])
                            refine seqE_callB (f := ?_) (args := ?_) rfl (by rfl) ?_ ?_ seqE_stop
                            rotate_left 2
                            focus (intro w hS; go_simp; first | done | with_reducible rfl | (refine ⟨?_, ?_⟩ <;> with_reducible rfl))
                            intro w2 hS
                            refine (mvalue_is (V := V) (nv := V.length) (ar := kk) (p := p12) (cap := c12) (hC12.mono hS) (hM17.up hS) (hV19.mono hS) GC.out.wf hcl3 (by omega) rfl hVm HVA.out).mono ?_
                            rintro e v2 ⟨y2, cy2, rfl, hX2, hbl⟩
                            refine ⟨_, rfl, (fun x => Below v2.heap.size v2 x), Below.refl _ _, ?_⟩
                            have hXw := Nat.le_trans zz hS.size; have hXa := Nat.le_trans hacc.size hS.size
                            have hX := btr hS hbl
                            replace hk := hk.up hX; replace hC12 := hC12.mono hX; replace hC26 := hC26.mono hX; replace hM17 := hM17.up hX; replace hM18 := hM18.up hX; replace hV19 := hV19.mono hX; replace hX1 := hX1.up hX; replace hbw := btr hbw hX; replace zz := Nat.le_trans zz (Below.size hX); replace hacc := btr hacc hX
                            clear hX hS hbl hXw hXa
                            (try simp only [Act.put, List.setIfInBounds_toArray, List.set_cons_zero, List.set_cons_succ])
                            refine seqE_keep (v := .bool true) (f := ?_) (args := ?_) rfl (by rfl) ?_ ?_ ?_ seqE_stop
                            rotate_left 2
                            focus (intro w hS; go_simp; first | done | with_reducible rfl | (refine ⟨?_, ?_⟩ <;> with_reducible rfl))
                            focus (intro w hS; refine (requal_is (hX1.up hS) (hX2.up hS) rfl).mono ?_; rintro e w2 ⟨rfl, hbl⟩; exact ⟨rfl, btr hS hbl⟩)
                            (try simp only [Act.put, List.setIfInBounds_toArray, List.set_cons_zero, List.set_cons_succ])
                            iterate 8 (first | (refine seqE_free (v := ?_) rfl (by rfl) ?_ ?_; rotate_left; (focus (intro w; go_simp; try with_reducible rfl)); (try simp only [Act.put, List.setIfInBounds_toArray, List.set_cons_zero, List.set_cons_succ])) | (refine seqE_pure (v := ?_) rfl (by rfl) ?_ ?_; rotate_left; (focus (intro w hS; obtain ⟨⟨k12, -⟩, ⟨k26, -⟩, ⟨m17, -⟩, ⟨n17, -⟩, ⟨m18, -⟩, ⟨n18, -⟩, -⟩ := hk.up hS; go_simp; try with_reducible rfl)); (try simp only [Act.put, List.setIfInBounds_toArray, List.set_cons_zero, List.set_cons_succ])))
                            clear hk
                            refine seqE_call (f := ?_) (args := ?_) rfl (by rfl) ?_ ?_ seqE_stop
                            rotate_left 2
                            focus (intro w hS; go_simp; first | done | with_reducible rfl | (refine ⟨?_, ?_⟩ <;> with_reducible rfl))
                            intro w4 hS
                            refine (mvalue_is (V := V) (nv := V.length) (ar := kk) (p := p26) (cap := c26) (hC26.mono hS) (hM18.up hS) (hV19.mono hS) LD.good.wf hDl2 (by omega) rfl hVm LD.vb).mono ?_
                            rintro e v4 ⟨y3, cy3, rfl, hX3, hbl⟩
                            refine ⟨_, rfl, (fun x => Below v4.heap.size v4 x), Below.refl _ _, fun x hx => btr (btr hS hbl) hx, ?_⟩
                            have hXw := Nat.le_trans zz hS.size; have hXa := Nat.le_trans hacc.size hS.size
                            have hX := btr hS hbl
                            replace hC12 := hC12.mono hX; replace hC26 := hC26.mono hX; replace hM17 := hM17.up hX; replace hM18 := hM18.up hX; replace hV19 := hV19.mono hX; replace hX1 := hX1.up hX; replace hX2 := hX2.up hX; replace hbw := btr hbw hX; replace zz := Nat.le_trans zz (Below.size hX); replace hacc := btr hacc hX
                            clear hX hS hbl hXw hXa
                            (try simp only [Act.put, List.setIfInBounds_toArray, List.set_cons_zero, List.set_cons_succ])
                            refine seqE_callB (f := ?_) (args := ?_) rfl (by rfl) ?_ ?_ seqE_stop
                            rotate_left 2
                            focus (intro w hS; go_simp; first | done | with_reducible rfl | (refine ⟨?_, ?_⟩ <;> with_reducible rfl))
                            intro w5 hS
                            refine (mvalue_is (V := V) (nv := V.length) (ar := kk) (p := p12) (cap := c12) (hC12.mono hS) (hM18.up hS) (hV19.mono hS) GC.out.wf hcl3 (by omega) rfl hVm HVC.out).mono ?_
                            rintro e v5 ⟨y4, cy4, rfl, hX4, hbl⟩
                            refine ⟨_, rfl, (fun x => Below v5.heap.size v5 x), Below.refl _ _, ?_⟩
                            have hXw := Nat.le_trans zz hS.size; have hXa := Nat.le_trans hacc.size hS.size
                            have hX := btr hS hbl
                            replace hC12 := hC12.mono hX; replace hC26 := hC26.mono hX; replace hM17 := hM17.up hX; replace hM18 := hM18.up hX; replace hV19 := hV19.mono hX; replace hX1 := hX1.up hX; replace hX2 := hX2.up hX; replace hX3 := hX3.up hX; replace hbw := btr hbw hX; replace zz := Nat.le_trans zz (Below.size hX); replace hacc := btr hacc hX
                            clear hX hS hbl hXw hXa
                            (try simp only [Act.put, List.setIfInBounds_toArray, List.set_cons_zero, List.set_cons_succ])
                            refine seqE_keep (v := .bool true) (f := ?_) (args := ?_) rfl (by rfl) ?_ ?_ ?_ seqE_stop
                            rotate_left 2
                            focus (intro w hS; go_simp; first | done | with_reducible rfl | (refine ⟨?_, ?_⟩ <;> with_reducible rfl))
                            focus (intro w hS; refine (requal_is (hX3.up hS) (hX4.up hS) rfl).mono ?_; rintro e w2 ⟨rfl, hbl⟩; exact ⟨rfl, btr hS hbl⟩)
                            (try simp only [Act.put, List.setIfInBounds_toArray, List.set_cons_zero, List.set_cons_succ])
                            iterate 2 (refine seqE_free (v := ?_) rfl (by rfl) ?_ ?_; rotate_left; (focus (intro w; go_simp; try with_reducible rfl)); (try simp only [Act.put, List.setIfInBounds_toArray, List.set_cons_zero, List.set_cons_succ]))
                            refine seqE_nil ?_
                            intro wz hS
                            replace hC12 := hC12.mono hS; replace hC26 := hC26.mono hS; replace hM17 := hM17.up hS; replace hM18 := hM18.up hS; replace hV19 := hV19.mono hS; replace hX1 := hX1.up hS; replace hX2 := hX2.up hS; replace hX3 := hX3.up hS; replace hX4 := hX4.up hS; replace hbw := btr hbw hS; replace zz := Nat.le_trans zz (Below.size hS); replace hacc := btr hacc hS; clear hS
                            go_wp2_with fail
                            go_ret
                            exact ⟨rfl, hbw⟩
end Go.Proofs.Ytadilppdlbhjnaa
