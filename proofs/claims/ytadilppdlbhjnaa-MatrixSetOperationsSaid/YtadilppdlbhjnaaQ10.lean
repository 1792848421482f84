/- Walk of MatrixSetOperations. -/
import Derived.Test.YtadilppdlbhjnaaGY
import Derived.Test.YtadilppdlbhjnaaGT
namespace Go.Proofs.Ytadilppdlbhjnaa
set_option linter.unusedSimpArgs false
set_option linter.unusedVariables false
open Go.RowKit

theorem mxvalid_w {c : List Gate} {m : List Cell} {ar : Int} {p pm : Option Addr} {cap cm N : Nat} {w w' : World} (hM : MxAt w pm cm m) (hB : Below w.heap.size w w') (hm : MOk c (N : Int) m) (hl : c.length ≤ 20000) (hN2 : N ≤ 100000) (ha1 : 1 ≤ ar) (ha3 : ar ≤ 3) :
    Calls Try.prog 28 #[.agg #[.slice p c.length cap], .agg #[.int .i64 ar, .slice pm m.length cm]] w' (RetB w' true) := mxvalid_any c m ar p pm cap cm N w' (hM.up hB) hm hl hN2 ha1 ha3
theorem diff_is {c d : List Gate} {a b m : List Cell} {ar1 ar2 : Int} {p pa pb : Option Addr} {cap ca cb : Nat} {w : World} (hC : CAt w p cap c) (hA : MxAt w pa ca a) (hD : MxAt w pb cb b) (ra : ∀ x ∈ a, x.ref ≤ 100000) (rb : ∀ x ∈ b, x.ref ≤ 100000) (hl : c.length + (a.length + b.length) ≤ 20000) (hc0 : 0 < c.length) (e : mDiff c a b = (d, m)) :
    Calls Try.prog 52 #[.agg #[.slice p c.length cap], .agg #[.int .i64 ar1, .slice pa a.length ca], .agg #[.int .i64 ar2, .slice pb b.length cb]] w (RetCM w d ar1 m) := (diff_any c a b ar1 ar2 p pa pb cap ca cb w hC hA hD ra rb hl hc0).mono fun _ _ h => h.cm.eq e
theorem relunion_is {a b l : List Int} {ar1 ar2 : Int} {pa pb : Option Addr} {ca cb : Nat} {w : World} (hA : SI w pa ca a) (hD : SI w pb cb b) (hl : a.length + b.length ≤ 40000) (e : rUnion a b = l) :
    Calls Try.prog 63 #[.agg #[.int .i64 ar1, .slice pa a.length ca], .agg #[.int .i64 ar2, .slice pb b.length cb]] w (RetR w ar1 l) := by
  subst e
  exact (relunion_any a b ar1 ar2 pa pb ca cb w hA hD hl).mono fun e w' ⟨q, cq, h1, h2, _, h4⟩ => ⟨q, cq, h1, h2, h4⟩
theorem relinter_is {a b l : List Int} {ar1 ar2 : Int} {pa pb : Option Addr} {ca cb : Nat} {w : World} (hA : SI w pa ca a) (hD : SI w pb cb b) (hla : a.length ≤ 20000) (hlb : b.length ≤ 20000) (ha : ∀ x ∈ a, 0 ≤ x ∧ x < 100000) (hb : ∀ x ∈ b, 0 ≤ x ∧ x < 100000) (e : rInter a b = l) :
    Calls Try.prog 65 #[.agg #[.int .i64 ar1, .slice pa a.length ca], .agg #[.int .i64 ar2, .slice pb b.length cb]] w (RetR w ar1 l) := by
  subst e; exact relinter_any a b ar1 ar2 pa pb ca cb w hA hD hla hlb ha hb
theorem reldiff_is {a b l : List Int} {ar1 ar2 : Int} {pa pb : Option Addr} {ca cb : Nat} {w : World} (hA : SI w pa ca a) (hD : SI w pb cb b) (hla : a.length ≤ 20000) (hlb : b.length ≤ 20000) (ha : ∀ x ∈ a, 0 ≤ x ∧ x < 100000) (hb : ∀ x ∈ b, 0 ≤ x ∧ x < 100000) (e : rDiff a b = l) :
    Calls Try.prog 67 #[.agg #[.int .i64 ar1, .slice pa a.length ca], .agg #[.int .i64 ar2, .slice pb b.length cb]] w (RetR w ar1 l) := by
  subst e; exact reldiff_any a b ar1 ar2 pa pb ca cb w hA hD hla hlb ha hb
theorem relover_is {a b l : List Int} {ar1 : Int} {kk n : Nat} {pa pb : Option Addr} {ca cb : Nat} {w : World} (hA : SI w pa ca a) (hD : SI w pb cb b) (hla : a.length ≤ 10000) (hlb : b.length ≤ 10000) (ha : ∀ x ∈ a, 0 ≤ x ∧ x < 100000) (hb : ∀ x ∈ b, 0 ≤ x ∧ x < 100000) (hk0 : 0 < kk) (hk3 : kk ≤ 3) (hn0 : 0 < n) (hn : n ≤ 12) (e : rOver (n ^ (kk - 1)) a b = l) :
    Calls Try.prog 68 #[.int .i64 n, .agg #[.int .i64 ar1, .slice pa a.length ca], .agg #[.int .i64 kk, .slice pb b.length cb]] w (RetR w kk l) := by
  subst e
  obtain ⟨k, rfl⟩ : ∃ k, kk = k + 1 := ⟨kk - 1, by omega⟩
  have h := relover_any a b ar1 k n (n ^ k) pa pb ca cb w hA hD hla hlb ha hb (by omega) hn0 hn rfl
  rw [Nat.add_sub_cancel]
  rw [show ((k + 1 : Nat) : Int) = (k : Int) + 1 by omega]
  exact h

set_option maxRecDepth 100000 in
set_option maxHeartbeats 8000000 in
theorem matrixSetOperations_any (k : Nat) (st : List Step) (ps : Option Addr) (cs : Nat) (x : List Nat) (px : Option Addr) (cx : Nat) (y : List Nat) (py : Option Addr) (cy : Nat) (z : Nat) (w : World) (hk : k < 256) (hl : st.length ≤ maxLen) (hs : ∀ s ∈ st, s.k < 256 ∧ s.a < 256 ∧ s.b < 256) (hg : StepsAt w ps st) (hlx : x.length ≤ maxLen) (h8x : ∀ v ∈ x, v < 256) (hux : UbAt w px x) (hly : y.length ≤ maxLen) (h8y : ∀ v ∈ y, v < 256) (huy : UbAt w py y) (hz : z < 256) :
    Calls Try.prog 11 #[.int .u8 k, .slice ps st.length cs, .slice px x.length cx, .slice py y.length cy, .int .u8 z] w (RetB w true) := by
  unfold maxLen at hl
  have HS8 := Lib.hid hs; have HG := Lib.hid hg; have H8x := Lib.hid h8x; have HUx := Lib.hid hux; have H8y := Lib.hid h8y; have HUy := Lib.hid huy; clear hs hg h8x hux h8y huy
  by_cases h20 : (20 : Int) < (st.length : Int)
  case pos =>
    have hW : Below w.heap.size w w := Below.refl _ _
    go_enter Try.func11, Try.ntmps11
    go_wp2_with (first | (go_at_call 32; refine (head14_any _).mono ?_; rintro e w1 ⟨rfl, hb1⟩))
    go_ret
    exact ⟨rfl, hb1⟩
  case neg =>
    obtain ⟨n, hn⟩ : ∃ n, k % 3 + 1 = n := ⟨_, rfl⟩
    obtain ⟨kk, hkk⟩ : ∃ n, k / 3 % 2 + 1 = n := ⟨_, rfl⟩
    obtain ⟨k2, hk2⟩ : ∃ n, k / 6 % 2 + 1 = n := ⟨_, rfl⟩
    have hn0 : 0 < n := by omega
    have hn3 : n ≤ 3 := by omega
    have hkk0 : 0 < kk := by omega
    have hkk2 : kk ≤ 2 := by omega
    obtain ⟨c, refs, hcb, gc, hcl, hrl, hrr, hma⟩ := made_plain2 st (by omega)
    obtain ⟨N, hN, hN9⟩ : ∃ N, n ^ kk = N ∧ N ≤ 9 := ⟨_, rfl, pow_9 hn3 hkk2⟩
    have hc0 : 0 < c.length := gc.ne
    have hW : Below w.heap.size w w := Below.refl _ _
    obtain ⟨a, ha⟩ : ∃ a, mMade refs x N = a := ⟨_, rfl⟩
    obtain ⟨b, hb⟩ : ∃ a, mMade refs y N = a := ⟨_, rfl⟩
    have oa := (hma x N).1; have ob := (hma y N).1
    rw [ha] at oa; rw [hb] at ob
    have oa2 : MOk c ((n ^ kk : Nat) : Int) a := by rw [hN]; exact oa
    have ob2 : MOk c ((n ^ kk : Nat) : Int) b := by rw [hN]; exact ob
    have la : a.length ≤ 9 := Nat.le_trans oa2.len (pow_9 hn3 hkk2)
    have lb : b.length ≤ 9 := Nat.le_trans ob2.len (pow_9 hn3 hkk2)
    obtain ⟨V, hV0⟩ : ∃ V, vbits z 8 = V := ⟨_, rfl⟩
    have hVl : V.length = 8 := by rw [← hV0]; exact vbits_len _ _
    obtain ⟨va, hva⟩ : ∃ l, mValue c V a = l := ⟨_, rfl⟩
    obtain ⟨vb, hvb⟩ : ∃ l, mValue c V b = l := ⟨_, rfl⟩
    have rva := value_range V oa hN9; have rvb := value_range V ob hN9
    have lva := mValue_len c V a; have lvb := mValue_len c V b
    obtain ⟨d1, m1, d2, m2, d3, m3, d4, m4, e1, e2, e3, e4, g1, g2, g3, g4, o1, o2, o3, o4, hev⟩ := set_plain hkk0 hkk2 hn3 hn0 gc hcl oa2 ob2
    obtain ⟨ev1, ev2, ev3, ev4⟩ := hev V
    rw [hva] at rva lva ev1 ev2 ev3 ev4; rw [hvb] at rvb lvb ev1 ev2 ev3 ev4
    obtain ⟨u1, hu1⟩ : ∃ l, rUnion va vb = l := ⟨_, rfl⟩
    obtain ⟨u2, hu2⟩ : ∃ l, rInter va vb = l := ⟨_, rfl⟩
    obtain ⟨u3, hu3⟩ : ∃ l, rDiff va vb = l := ⟨_, rfl⟩
    obtain ⟨u4, hu4⟩ : ∃ l, rOver (n ^ (kk - 1)) va vb = l := ⟨_, rfl⟩
    rw [hu1] at ev1; rw [hu2] at ev2; rw [hu3] at ev3; rw [hu4] at ev4
    have k1 := g1.len; have k2' := g2.len; have k3 := g3.len; have k4 := g4.len
    have hd1 : d1.length ≤ 10000 := by omega
    have hd2 : d2.length ≤ 10000 := by omega
    have hd3 : d3.length ≤ 10000 := by omega
    have hd4 : d4.length ≤ 10000 := by omega
    have n9 := pow_9 hn3 hkk2
    have hm1 : m1.length ≤ 9 := Nat.le_trans o1.len n9
    have hm2 : m2.length ≤ 9 := Nat.le_trans o2.len n9
    have hm3 : m3.length ≤ 9 := Nat.le_trans o3.len n9
    have hm4 : m4.length ≤ 9 := Nat.le_trans o4.len n9
    have hlva : va.length ≤ 9 := Nat.le_trans lva la
    have hlvb : vb.length ≤ 9 := Nat.le_trans lvb lb
    have HA := Lib.hid ha; have HB := Lib.hid hb; have OA := Lib.hid oa2; have OB := Lib.hid ob2; have HVB := Lib.hid hV0; have HVL := Lib.hid hVl; have HVA := Lib.hid hva; have HVC := Lib.hid hvb; have RVA := Lib.hid rva; have RVB := Lib.hid rvb
    have OA1 := Lib.hid (oa2.up g1.ge); have OB1 := Lib.hid (ob2.up g1.ge); have OA2 := Lib.hid ((oa2.up g1.ge).up g2.ge); have OB2 := Lib.hid ((ob2.up g1.ge).up g2.ge); have OA3 := Lib.hid (((oa2.up g1.ge).up g2.ge).up g3.ge); have OB3 := Lib.hid (((ob2.up g1.ge).up g2.ge).up g3.ge)
    have E1 := Lib.hid e1; have E2 := Lib.hid e2; have E3 := Lib.hid e3; have E4 := Lib.hid e4; have G1 := Lib.hid g1.good; have G2 := Lib.hid g2.good; have G3 := Lib.hid g3.good; have G4 := Lib.hid g4.good; have O1 := Lib.hid o1; have O2 := Lib.hid o2; have O3 := Lib.hid o3; have O4 := Lib.hid o4
    have EV1 := Lib.hid ev1; have EV2 := Lib.hid ev2; have EV3 := Lib.hid ev3; have EV4 := Lib.hid ev4; have HU1 := Lib.hid hu1; have HU2 := Lib.hid hu2; have HU3 := Lib.hid hu3; have HU4 := Lib.hid hu4; have HN9 := Lib.hid n9
    clear ha hb oa ob oa2 ob2 hV0 hVl hva hvb rva rvb e1 e2 e3 e4 g1 g2 g3 g4 o1 o2 o3 o4 ev1 ev2 ev3 ev4 hev hu1 hu2 hu3 hu4 n9 lva lvb k1 k2' k3 k4
    have HN := Lib.hid hn; have HKK := Lib.hid hkk; have HK2 := Lib.hid hk2; have HCB := Lib.hid hcb; have GC := Lib.hid gc; have HR := Lib.hid hrr; have HNP := Lib.hid hN
    clear hn hkk hk2 hcb gc hrr hma hN
    go_enter Try.func11, Try.ntmps11
    go_upto_region 1 with fail
    go_cut [11] from 30 to 30 (fun s11 wx => (s11 = .bool true) ∧ Below w.heap.size w wx)
    case first =>
      as_aux_lemma =>
        go_wp2_with (first | (go_at_call 32; refine (head14_any _).mono ?_; rintro e w2 ⟨rfl, hbl⟩))
        go_meet
        exact ⟨rfl, (by first | exact hbl | exact btr (by go_grown) hbl)⟩
    case rest =>
      obtain ⟨rfl, hst⟩ := hcut
      replace hW := btr hW hst
      clear hst
      go_upto_region 4 with fail
      go_cut [12, 13] from 35 to 39 (fun s12 s13 wx => (∃ (b : Nat) (q : Option Addr) (cq : Nat), s12 = .pointer (some ⟨b, 0, none⟩) ∧ s13 = .slice q refs.length cq ∧ Bx wx b c ∧ LAt wx q refs) ∧ Below wc.heap.size wc wx)
      case first =>
        as_aux_lemma =>
          go_wp2_with (first | (go_at_call 33; refine (rbuild_any st ps cs _ (by omega) HS8.out (HG.out.mono hW)).mono ?_; rintro e w2 ⟨pc, cc, pr, cr, he, o1, o2, o3, o4, r1, r2, r3, r4, hbl⟩; rw [HCB.out] at he o1 o4 r1 r4; subst he; dsimp only at o1 o4 r1 r4; have hC2 : CAt w2 pc cc c := ⟨o1, o2, o3, o4⟩; have hL2 : LAt w2 pr refs := r4; clear o1 o2 o3 o4 r1 r2 r3 r4))
          go_meet
          exact ⟨⟨_, _, _, rfl, rfl, Bx.new hC2 _, hL2.up (bal (Below.refl _ _) _)⟩, bal hbl _⟩
      case rest =>
        obtain ⟨⟨b12, q13, cq13, rfl, rfl, hB12, hL13⟩, hst⟩ := hcut
        replace hW := btr hW hst
        clear hst
        go_upto_region 5 with fail
        go_cut [14, 15, 16] from 40 to 45 (fun s14 s15 s16 wx => (s14 = .int .i64 n ∧ s15 = .int .i64 kk ∧ s16 = .int .i64 k2) ∧ Below wc.heap.size wc wx)
        case first =>
          as_aux_lemma =>
            go_wp2_with (first | (go_at_call 34; refine (atoms_any k _ hk).mono ?_; rw [HN.out, HKK.out, HK2.out]; rintro e w2 ⟨rfl, hbl⟩))
            go_meet
            exact ⟨⟨rfl, rfl, rfl⟩, hbl⟩
        case rest =>
          obtain ⟨⟨rfl, rfl, rfl⟩, hst⟩ := hcut
          replace hB12 := hB12.up hst
          replace hL13 := hL13.up hst
          replace hW := btr hW hst
          clear hst
          go_upto_region 6 with fail
          go_cut [17] from 46 to 50 (fun s17 wx => (∃ (bk : Nat), s17 = .pointer (some ⟨bk, 0, none⟩) ∧ BM wx bk kk a) ∧ Below wc.heap.size wc wx)
          case first =>
            as_aux_lemma =>
              go_wp2_with (first | (go_at_call 35; refine ((made14_any refs x n kk q13 px cq13 cx _ hL13 (by omega) HR.out (HUx.out.mono hW) hlx H8x.out hn0 (by omega) hkk0 (by omega)).mono fun e w' h => RetMF.eq h ((congrArg _ HNP.out).trans HA.out)).mono ?_; rintro e w2 ⟨p2, cap2, rfl, hM2, hbl, -⟩))
              go_meet
              exact ⟨⟨_, rfl, BM.newAt hM2 _ rfl⟩, bal hbl _⟩
          case rest =>
            obtain ⟨⟨b17, rfl, hN17⟩, hst⟩ := hcut
            replace hB12 := hB12.up hst
            replace hL13 := hL13.up hst
            replace hW := btr hW hst
            clear hst
            go_upto_region 7 with fail
            go_cut [18] from 51 to 55 (fun s18 wx => (∃ (bk : Nat), s18 = .pointer (some ⟨bk, 0, none⟩) ∧ BM wx bk kk b) ∧ Below wc.heap.size wc wx)
            case first =>
              as_aux_lemma =>
                go_wp2_with (first | (go_at_call 35; refine ((made14_any refs y n kk q13 py cq13 cy _ hL13 (by omega) HR.out (HUy.out.mono hW) hly H8y.out hn0 (by omega) hkk0 (by omega)).mono fun e w' h => RetMF.eq h ((congrArg _ HNP.out).trans HB.out)).mono ?_; rintro e w2 ⟨p2, cap2, rfl, hM2, hbl, -⟩))
                go_meet
                exact ⟨⟨_, rfl, BM.newAt hM2 _ rfl⟩, bal hbl _⟩
            case rest =>
              obtain ⟨⟨b18, rfl, hN18⟩, hst⟩ := hcut
              replace hB12 := hB12.up hst
              replace hL13 := hL13.up hst
              replace hN17 := hN17.up hst
              replace hW := btr hW hst
              clear hst
              clear hL13
              go_upto_region 8 with fail
              go_cut [19] from 56 to 57 (fun s19 wx => (∃ (q : Option Addr) (cq : Nat), s19 = .slice q V.length cq ∧ BoolsAt wx q V) ∧ Below wc.heap.size wc wx)
              case first =>
                as_aux_lemma =>
                  go_wp2_with (first | (go_at_call 36; refine (values1_any z _ (by omega) (by omega)).mono ?_; rw [HVB.out]; rintro e w2 ⟨q2, cq2, rfl, hV2, hv0, hbl⟩))
                  go_meet
                  exact ⟨⟨_, _, rfl, hV2⟩, hbl⟩
              case rest =>
                obtain ⟨⟨q19, cq19, rfl, hV19⟩, hst⟩ := hcut
                replace hB12 := hB12.up hst
                replace hN17 := hN17.up hst
                replace hN18 := hN18.up hst
                replace hW := btr hW hst
                clear hst
                go_upto_region 9 with fail
                obtain ⟨p12, c12, k12, k12f, hC12⟩ := id hB12
                obtain ⟨q17, cq17, ⟨⟨m17, m17f⟩, ⟨n17, n17f⟩, -⟩, hM17⟩ := id hN17
                go_cut [20] from 58 to 61 (fun s20 wx => (∃ (b : Nat), s20 = .pointer (some ⟨b, 0, none⟩) ∧ BR wx b kk va) ∧ Below wc.heap.size wc wx)
                case first =>
                  as_aux_lemma =>
                    go_wp2_with (first | (go_at_call 30; refine (mvalue_is (V := V) (nv := V.length) hC12 hM17 hV19 GC.out.wf (by omega) (by omega) rfl (by have := HVL.out; unfold maxLen; omega) HVA.out).mono ?_; rintro e w1 ⟨p1, cap1, rfl, hR1, hb1⟩))
                    go_meet
                    exact ⟨⟨_, rfl, BR.newAt hR1 _ rfl⟩, bal hb1 _⟩
                case rest =>
                  clear k12 k12f hC12
                  obtain ⟨⟨b20, rfl, hN20⟩, hst⟩ := hcut
                  replace hB12 := hB12.up hst
                  replace hN17 := hN17.up hst
                  replace hN18 := hN18.up hst
                  replace hV19 := hV19.up hst
                  replace hW := btr hW hst
                  clear hst
                  clear m17 m17f n17 n17f hM17
                  go_upto_region 10 with fail
                  obtain ⟨p12, c12, k12, k12f, hC12⟩ := id hB12
                  obtain ⟨q18, cq18, ⟨⟨m18, m18f⟩, ⟨n18, n18f⟩, -⟩, hM18⟩ := id hN18
                  go_cut [21] from 62 to 65 (fun s21 wx => (∃ (b : Nat), s21 = .pointer (some ⟨b, 0, none⟩) ∧ BR wx b kk vb) ∧ Below wc.heap.size wc wx)
                  case first =>
                    as_aux_lemma =>
                      go_wp2_with (first | (go_at_call 30; refine (mvalue_is (V := V) (nv := V.length) hC12 hM18 hV19 GC.out.wf (by omega) (by omega) rfl (by have := HVL.out; unfold maxLen; omega) HVC.out).mono ?_; rintro e w1 ⟨p1, cap1, rfl, hR1, hb1⟩))
                      go_meet
                      exact ⟨⟨_, rfl, BR.newAt hR1 _ rfl⟩, bal hb1 _⟩
                  case rest =>
                    clear k12 k12f hC12
                    obtain ⟨⟨b21, rfl, hN21⟩, hst⟩ := hcut
                    replace hB12 := hB12.up hst
                    replace hN17 := hN17.up hst
                    replace hN18 := hN18.up hst
                    replace hV19 := hV19.up hst
                    replace hN20 := hN20.up hst
                    replace hW := btr hW hst
                    clear hst
                    clear m18 m18f n18 n18f hM18
                    go_upto_region 11 with fail
                    obtain ⟨p12, c12, k12, k12f, hC12⟩ := id hB12
                    obtain ⟨q17, cq17, ⟨⟨m17, m17f⟩, ⟨n17, n17f⟩, -⟩, hM17⟩ := id hN17
                    obtain ⟨q18, cq18, ⟨⟨m18, m18f⟩, ⟨n18, n18f⟩, -⟩, hM18⟩ := id hN18
                    go_cut [22, 23] from 66 to 72 (fun s22 s23 wx => (∃ (b b' : Nat), s22 = .pointer (some ⟨b, 0, none⟩) ∧ s23 = .pointer (some ⟨b', 0, none⟩) ∧ Bx wx b d1 ∧ BM wx b' kk m1) ∧ Below wc.heap.size wc wx)
                    case first =>
                      as_aux_lemma =>
                        go_wp2_with (first | (go_at_call 42; refine (union_is hC12 hM17 hM18 (OA.out.le (by omega)) (OB.out.le (by omega)) (by omega) hc0 E1.out).mono ?_; rintro e w2 ⟨p2, cap2, y2, cy2, rfl, hC2, hM2, hbl⟩))
                        go_meet
                        exact ⟨⟨_, _, rfl, rfl, (Bx.new hC2 _).up (by go_grown), BM.newAt (hM2.up (bal (Below.refl _ _) _)) _ (by simp)⟩, bal (bal hbl _) _⟩
                    case rest =>
                      clear k12 k12f hC12
                      obtain ⟨⟨b22, b23, rfl, rfl, hB22, hN23⟩, hst⟩ := hcut
                      replace hB12 := hB12.up hst
                      replace hN17 := hN17.up hst
                      replace hN18 := hN18.up hst
                      replace hV19 := hV19.up hst
                      replace hN20 := hN20.up hst
                      replace hN21 := hN21.up hst
                      replace hW := btr hW hst
                      clear hst
                      clear m17 m17f n17 n17f hM17
                      clear m18 m18f n18 n18f hM18
                      go_upto_region 12 with fail
                      obtain ⟨p22, c22, k22, k22f, hC22⟩ := id hB22
                      obtain ⟨q17, cq17, ⟨⟨m17, m17f⟩, ⟨n17, n17f⟩, -⟩, hM17⟩ := id hN17
                      obtain ⟨q18, cq18, ⟨⟨m18, m18f⟩, ⟨n18, n18f⟩, -⟩, hM18⟩ := id hN18
                      go_cut [24, 25] from 73 to 79 (fun s24 s25 wx => (∃ (b b' : Nat), s24 = .pointer (some ⟨b, 0, none⟩) ∧ s25 = .pointer (some ⟨b', 0, none⟩) ∧ Bx wx b d2 ∧ BM wx b' kk m2) ∧ Below wc.heap.size wc wx)
                      case first =>
                        as_aux_lemma =>
                          go_wp2_with (first | (go_at_call 50; refine (inter_is hC22 hM17 hM18 (OA1.out.le (by omega)) (OB1.out.le (by omega)) (by omega) G1.out.ne E2.out).mono ?_; rintro e w2 ⟨p2, cap2, y2, cy2, rfl, hC2, hM2, hbl⟩))
                          go_meet
                          exact ⟨⟨_, _, rfl, rfl, (Bx.new hC2 _).up (by go_grown), BM.newAt (hM2.up (bal (Below.refl _ _) _)) _ (by simp)⟩, bal (bal hbl _) _⟩
                      case rest =>
                        clear k22 k22f hC22
                        obtain ⟨⟨b24, b25, rfl, rfl, hB24, hN25⟩, hst⟩ := hcut
                        replace hB12 := hB12.up hst
                        replace hN17 := hN17.up hst
                        replace hN18 := hN18.up hst
                        replace hV19 := hV19.up hst
                        replace hN20 := hN20.up hst
                        replace hN21 := hN21.up hst
                        replace hB22 := hB22.up hst
                        replace hN23 := hN23.up hst
                        replace hW := btr hW hst
                        clear hst
                        clear m17 m17f n17 n17f hM17
                        clear m18 m18f n18 n18f hM18
                        go_upto_region 13 with fail
                        obtain ⟨p24, c24, k24, k24f, hC24⟩ := id hB24
                        obtain ⟨q17, cq17, ⟨⟨m17, m17f⟩, ⟨n17, n17f⟩, -⟩, hM17⟩ := id hN17
                        obtain ⟨q18, cq18, ⟨⟨m18, m18f⟩, ⟨n18, n18f⟩, -⟩, hM18⟩ := id hN18
                        go_cut [26, 27] from 80 to 86 (fun s26 s27 wx => (∃ (b b' : Nat), s26 = .pointer (some ⟨b, 0, none⟩) ∧ s27 = .pointer (some ⟨b', 0, none⟩) ∧ Bx wx b d3 ∧ BM wx b' kk m3) ∧ Below wc.heap.size wc wx)
                        case first =>
                          as_aux_lemma =>
                            go_wp2_with (first | (go_at_call 52; refine (diff_is hC24 hM17 hM18 (OA2.out.le (by omega)) (OB2.out.le (by omega)) (by omega) G2.out.ne E3.out).mono ?_; rintro e w2 ⟨p2, cap2, y2, cy2, rfl, hC2, hM2, hbl⟩))
                            go_meet
                            exact ⟨⟨_, _, rfl, rfl, (Bx.new hC2 _).up (by go_grown), BM.newAt (hM2.up (bal (Below.refl _ _) _)) _ (by simp)⟩, bal (bal hbl _) _⟩
                        case rest =>
                          clear k24 k24f hC24
                          obtain ⟨⟨b26, b27, rfl, rfl, hB26, hN27⟩, hst⟩ := hcut
                          replace hB12 := hB12.up hst
                          replace hN17 := hN17.up hst
                          replace hN18 := hN18.up hst
                          replace hV19 := hV19.up hst
                          replace hN20 := hN20.up hst
                          replace hN21 := hN21.up hst
                          replace hB22 := hB22.up hst
                          replace hN23 := hN23.up hst
                          replace hB24 := hB24.up hst
                          replace hN25 := hN25.up hst
                          replace hW := btr hW hst
                          clear hst
                          clear m17 m17f n17 n17f hM17
                          clear m18 m18f n18 n18f hM18
                          go_upto_region 14 with fail
                          obtain ⟨p26, c26, k26, k26f, hC26⟩ := id hB26
                          obtain ⟨q17, cq17, ⟨⟨m17, m17f⟩, ⟨n17, n17f⟩, -⟩, hM17⟩ := id hN17
                          obtain ⟨q18, cq18, ⟨⟨m18, m18f⟩, ⟨n18, n18f⟩, -⟩, hM18⟩ := id hN18
                          go_cut [28, 29] from 87 to 94 (fun s28 s29 wx => (∃ (b b' : Nat), s28 = .pointer (some ⟨b, 0, none⟩) ∧ s29 = .pointer (some ⟨b', 0, none⟩) ∧ Bx wx b d4 ∧ BM wx b' kk m4) ∧ Below wc.heap.size wc wx)
                          case first =>
                            as_aux_lemma =>
                              go_wp2_with (first | (go_at_call 43; refine (overrideL_is hkk0 hkk2 hn0 hn3 G3.out hd3 OA3.out OB3.out hC26 hM17 hM18 E4.out).mono ?_; rintro e w2 ⟨p2, cap2, y2, cy2, rfl, hC2, hM2, hbl⟩))
                              go_meet
                              exact ⟨⟨_, _, rfl, rfl, (Bx.new hC2 _).up (by go_grown), BM.newAt (hM2.up (bal (Below.refl _ _) _)) _ (by simp)⟩, bal (bal hbl _) _⟩
                          case rest =>
                            clear k26 k26f hC26
                            obtain ⟨⟨b28, b29, rfl, rfl, hB28, hN29⟩, hst⟩ := hcut
                            replace hB12 := hB12.up hst
                            replace hN17 := hN17.up hst
                            replace hN18 := hN18.up hst
                            replace hV19 := hV19.up hst
                            replace hN20 := hN20.up hst
                            replace hN21 := hN21.up hst
                            replace hB22 := hB22.up hst
                            replace hN23 := hN23.up hst
                            replace hB24 := hB24.up hst
                            replace hN25 := hN25.up hst
                            replace hB26 := hB26.up hst
                            replace hN27 := hN27.up hst
                            replace hW := btr hW hst
                            clear hst
                            clear m17 m17f n17 n17f hM17
                            clear m18 m18f n18 n18f hM18
                            clear hB12
                            clear hB22
                            clear hB24
                            clear hB26
                            clear hN17
                            clear hN18
                            go_upto_region 15 with fail
                            obtain ⟨p28, c28, k28, k28f, hC28⟩ := id hB28
                            obtain ⟨q23, cq23, ⟨⟨m23, m23f⟩, ⟨n23, n23f⟩, -⟩, hM23⟩ := id hN23
                            obtain ⟨q25, cq25, ⟨⟨m25, m25f⟩, ⟨n25, n25f⟩, -⟩, hM25⟩ := id hN25
                            obtain ⟨q27, cq27, ⟨⟨m27, m27f⟩, ⟨n27, n27f⟩, -⟩, hM27⟩ := id hN27
                            obtain ⟨q29, cq29, ⟨⟨m29, m29f⟩, ⟨n29, n29f⟩, -⟩, hM29⟩ := id hN29
                            go_cut [116] from 95 to 115 (fun s116 wx => s116 = .bool false ∧ Below wc.heap.size wc wx)
                            case first =>
                              as_aux_lemma =>
                                have T0 := Lib.hid (fun (w' : World) (hB' : Below wc.heap.size wc w') => mxvalid_w (p := p28) (cap := c28) (ar := (kk : Int)) hM23 hB' O1.out (by omega) (by have := HN9.out; omega) (by omega) (by omega))
                                have T1 := Lib.hid (fun (w' : World) (hB' : Below wc.heap.size wc w') => mxvalid_w (p := p28) (cap := c28) (ar := (kk : Int)) hM25 hB' O2.out (by omega) (by have := HN9.out; omega) (by omega) (by omega))
                                have T2 := Lib.hid (fun (w' : World) (hB' : Below wc.heap.size wc w') => mxvalid_w (p := p28) (cap := c28) (ar := (kk : Int)) hM27 hB' O3.out (by omega) (by have := HN9.out; omega) (by omega) (by omega))
                                have T3 := Lib.hid (fun (w' : World) (hB' : Below wc.heap.size wc w') => mxvalid_w (p := p28) (cap := c28) (ar := (kk : Int)) hM29 hB' O4.out (by omega) (by have := HN9.out; omega) (by omega) (by omega))
                                refine wp_region_seqT' (fun w' => Below wc.heap.size wc w') (by first | exact Below.refl _ _ | go_grown) ?_
                                refine seqT_pure (v := ?_) (by rfl) ?_ ?_
                                rotate_left
                                · (intro w hS; have kk := oldcell hS k28 (World.block_lt_of_cell? _ _ k28); go_simp; try with_reducible rfl)
                                (try simp only [Act.put, List.setIfInBounds_toArray, List.set_cons_zero, List.set_cons_succ])
                                refine seqT_pure (v := ?_) (by rfl) ?_ ?_
                                rotate_left
                                · (intro w hS; have kk := oldcell hS m23 (World.block_lt_of_cell? _ _ m23); have kk2 := oldcell hS n23 (World.block_lt_of_cell? _ _ n23); go_simp; try with_reducible rfl)
                                (try simp only [Act.put, List.setIfInBounds_toArray, List.set_cons_zero, List.set_cons_succ])
                                refine seqT_call (v := .bool true) (f := ?_) (args := ?_) (by rfl) ?_ ?_ ?_
                                rotate_left 2
                                · (intro w hS; go_simp; first | done | with_reducible rfl | (refine ⟨?_, ?_⟩ <;> with_reducible rfl))
                                · (intro w hS; refine (T0.out w hS).mono ?_; rintro e w' ⟨he, hb⟩; exact ⟨he, btr hS hb⟩)
                                (try simp only [Act.put, List.setIfInBounds_toArray, List.set_cons_zero, List.set_cons_succ])
                                refine seqT_pure (v := ?_) (by rfl) ?_ ?_
                                rotate_left
                                · (intro w hS; go_simp; try with_reducible rfl)
                                (try simp only [Act.put, List.setIfInBounds_toArray, List.set_cons_zero, List.set_cons_succ])
                                refine seqT_pure (v := ?_) (by rfl) ?_ ?_
                                rotate_left
                                · (intro w hS; go_simp; try with_reducible rfl)
                                (try simp only [Act.put, List.setIfInBounds_toArray, List.set_cons_zero, List.set_cons_succ])
                                refine seqT_pure (v := ?_) (by rfl) ?_ ?_
                                rotate_left
                                · (intro w hS; have kk := oldcell hS k28 (World.block_lt_of_cell? _ _ k28); go_simp; try with_reducible rfl)
                                (try simp only [Act.put, List.setIfInBounds_toArray, List.set_cons_zero, List.set_cons_succ])
                                refine seqT_pure (v := ?_) (by rfl) ?_ ?_
                                rotate_left
                                · (intro w hS; have kk := oldcell hS m25 (World.block_lt_of_cell? _ _ m25); have kk2 := oldcell hS n25 (World.block_lt_of_cell? _ _ n25); go_simp; try with_reducible rfl)
                                (try simp only [Act.put, List.setIfInBounds_toArray, List.set_cons_zero, List.set_cons_succ])
                                refine seqT_call (v := .bool true) (f := ?_) (args := ?_) (by rfl) ?_ ?_ ?_
                                rotate_left 2
                                · (intro w hS; go_simp; first | done | with_reducible rfl | (refine ⟨?_, ?_⟩ <;> with_reducible rfl))
                                · (intro w hS; refine (T1.out w hS).mono ?_; rintro e w' ⟨he, hb⟩; exact ⟨he, btr hS hb⟩)
                                (try simp only [Act.put, List.setIfInBounds_toArray, List.set_cons_zero, List.set_cons_succ])
                                refine seqT_pure (v := ?_) (by rfl) ?_ ?_
                                rotate_left
                                · (intro w hS; go_simp; try with_reducible rfl)
                                (try simp only [Act.put, List.setIfInBounds_toArray, List.set_cons_zero, List.set_cons_succ])
                                refine seqT_pure (v := ?_) (by rfl) ?_ ?_
                                rotate_left
                                · (intro w hS; go_simp; try with_reducible rfl)
                                (try simp only [Act.put, List.setIfInBounds_toArray, List.set_cons_zero, List.set_cons_succ])
                                refine seqT_pure (v := ?_) (by rfl) ?_ ?_
                                rotate_left
                                · (intro w hS; go_simp; try with_reducible rfl)
                                (try simp only [Act.put, List.setIfInBounds_toArray, List.set_cons_zero, List.set_cons_succ])
                                refine seqT_pure (v := ?_) (by rfl) ?_ ?_
                                rotate_left
                                · (intro w hS; have kk := oldcell hS k28 (World.block_lt_of_cell? _ _ k28); go_simp; try with_reducible rfl)
                                (try simp only [Act.put, List.setIfInBounds_toArray, List.set_cons_zero, List.set_cons_succ])
                                refine seqT_pure (v := ?_) (by rfl) ?_ ?_
                                rotate_left
                                · (intro w hS; have kk := oldcell hS m27 (World.block_lt_of_cell? _ _ m27); have kk2 := oldcell hS n27 (World.block_lt_of_cell? _ _ n27); go_simp; try with_reducible rfl)
                                (try simp only [Act.put, List.setIfInBounds_toArray, List.set_cons_zero, List.set_cons_succ])
                                refine seqT_call (v := .bool true) (f := ?_) (args := ?_) (by rfl) ?_ ?_ ?_
                                rotate_left 2
                                · (intro w hS; go_simp; first | done | with_reducible rfl | (refine ⟨?_, ?_⟩ <;> with_reducible rfl))
                                · (intro w hS; refine (T2.out w hS).mono ?_; rintro e w' ⟨he, hb⟩; exact ⟨he, btr hS hb⟩)
                                (try simp only [Act.put, List.setIfInBounds_toArray, List.set_cons_zero, List.set_cons_succ])
                                refine seqT_pure (v := ?_) (by rfl) ?_ ?_
                                rotate_left
                                · (intro w hS; go_simp; try with_reducible rfl)
                                (try simp only [Act.put, List.setIfInBounds_toArray, List.set_cons_zero, List.set_cons_succ])
                                refine seqT_pure (v := ?_) (by rfl) ?_ ?_
                                rotate_left
                                · (intro w hS; go_simp; try with_reducible rfl)
                                (try simp only [Act.put, List.setIfInBounds_toArray, List.set_cons_zero, List.set_cons_succ])
                                refine seqT_pure (v := ?_) (by rfl) ?_ ?_
                                rotate_left
                                · (intro w hS; go_simp; try with_reducible rfl)
                                (try simp only [Act.put, List.setIfInBounds_toArray, List.set_cons_zero, List.set_cons_succ])
                                refine seqT_pure (v := ?_) (by rfl) ?_ ?_
                                rotate_left
                                · (intro w hS; have kk := oldcell hS k28 (World.block_lt_of_cell? _ _ k28); go_simp; try with_reducible rfl)
                                (try simp only [Act.put, List.setIfInBounds_toArray, List.set_cons_zero, List.set_cons_succ])
                                refine seqT_pure (v := ?_) (by rfl) ?_ ?_
                                rotate_left
                                · (intro w hS; have kk := oldcell hS m29 (World.block_lt_of_cell? _ _ m29); have kk2 := oldcell hS n29 (World.block_lt_of_cell? _ _ n29); go_simp; try with_reducible rfl)
                                (try simp only [Act.put, List.setIfInBounds_toArray, List.set_cons_zero, List.set_cons_succ])
                                refine seqT_call (v := .bool true) (f := ?_) (args := ?_) (by rfl) ?_ ?_ ?_
                                rotate_left 2
                                · (intro w hS; go_simp; first | done | with_reducible rfl | (refine ⟨?_, ?_⟩ <;> with_reducible rfl))
                                · (intro w hS; refine (T3.out w hS).mono ?_; rintro e w' ⟨he, hb⟩; exact ⟨he, btr hS hb⟩)
                                (try simp only [Act.put, List.setIfInBounds_toArray, List.set_cons_zero, List.set_cons_succ])
                                refine seqT_pure (v := ?_) (by rfl) ?_ ?_
                                rotate_left
                                · (intro w hS; go_simp; try with_reducible rfl)
                                (try simp only [Act.put, List.setIfInBounds_toArray, List.set_cons_zero, List.set_cons_succ])
                                refine seqT_pure (v := ?_) (by rfl) ?_ ?_
                                rotate_left
                                · (intro w hS; go_simp; try with_reducible rfl)
                                (try simp only [Act.put, List.setIfInBounds_toArray, List.set_cons_zero, List.set_cons_succ])
                                refine seqT_nil ?_
                                intro w2 HB0
                                go_wp2_with fail
                                go_meet
                                exact ⟨rfl, HB0⟩
                            case rest =>
                              clear k28 k28f hC28
                              clear m23 m23f n23 n23f hM23
                              clear m25 m25f n25 n25f hM25
                              clear m27 m27f n27 n27f hM27
                              clear m29 m29f n29 n29f hM29
                              obtain ⟨rfl, hst⟩ := hcut
                              replace hV19 := hV19.up hst
                              replace hN20 := hN20.up hst
                              replace hN21 := hN21.up hst
                              replace hN23 := hN23.up hst
                              replace hN25 := hN25.up hst
                              replace hN27 := hN27.up hst
                              replace hB28 := hB28.up hst
                              replace hN29 := hN29.up hst
                              replace hW := btr hW hst
                              clear hst
                              have hVm : V.length ≤ maxLen := by have := HVL.out; unfold maxLen; omega
                              have hd4b : d4.length ≤ 20000 := by omega
                              go_upto_region 17 with fail
                              obtain ⟨p28, c28, k28, k28f, hC28⟩ := id hB28
                              obtain ⟨q20, cq20, ⟨⟨m20, m20f⟩, ⟨n20, n20f⟩, -⟩, hM20⟩ := id hN20
                              obtain ⟨q21, cq21, ⟨⟨m21, m21f⟩, ⟨n21, n21f⟩, -⟩, hM21⟩ := id hN21
                              obtain ⟨q23, cq23, ⟨⟨m23, m23f⟩, ⟨n23, n23f⟩, -⟩, hM23⟩ := id hN23
                              obtain ⟨q25, cq25, ⟨⟨m25, m25f⟩, ⟨n25, n25f⟩, -⟩, hM25⟩ := id hN25
                              obtain ⟨q27, cq27, ⟨⟨m27, m27f⟩, ⟨n27, n27f⟩, -⟩, hM27⟩ := id hN27
                              obtain ⟨q29, cq29, ⟨⟨m29, m29f⟩, ⟨n29, n29f⟩, -⟩, hM29⟩ := id hN29
                              obtain ⟨s, hs0⟩ : ∃ s, wc.heap.size = s := ⟨_, rfl⟩
                              have HS := Lib.hid hs0; clear hs0
                              obtain ⟨tab, htab⟩ : ∃ t : Nat → Ent, t = tabL [(5, eR kk u1), (8, eR kk u1), (9, eK (.bool true)), (15, eR kk u2), (18, eR kk u2), (19, eK (.bool true)), (25, eR kk u3), (28, eR kk u3), (29, eK (.bool true)), (35, eR kk u4), (39, eR kk u4), (40, eK (.bool true))] := ⟨_, rfl⟩
                              refine wp_region_tab wc tab [(0, 0), (1, 0), (2, 0), (3, 0), (4, 0), (5, 1), (6, 0), (7, 0), (8, 1), (9, 1), (10, 0), (11, 0), (12, 0), (13, 0), (14, 0), (15, 1), (16, 0), (17, 0), (18, 1), (19, 1), (20, 0), (21, 0), (22, 0), (23, 0), (24, 0), (25, 1), (26, 0), (27, 0), (28, 1), (29, 1), (30, 0), (31, 0), (32, 0), (33, 0), (34, 0), (35, 1), (36, 0), (37, 0), (38, 0), (39, 1), (40, 1), (41, 0), (42, 0)] .nil (by kernel_rfl) (by kernel_rfl) (by kernel_rfl) (Below.drew (Below.refl _ _)) ?_
                              refine seqX_pure (v := ?_) rfl (by rfl) ?_ ?_
                              rotate_left
                              · (intro w hS hF; go_simp; try with_reducible rfl)
                              (try simp only [Act.put, List.setIfInBounds_toArray, List.set_cons_zero, List.set_cons_succ])
                              refine seqX_pure (v := ?_) rfl (by rfl) ?_ ?_
                              rotate_left
                              · (intro w hS hF; go_simp; try with_reducible rfl)
                              (try simp only [Act.put, List.setIfInBounds_toArray, List.set_cons_zero, List.set_cons_succ])
                              refine seqX_pure (v := ?_) rfl (by rfl) ?_ ?_
                              rotate_left
                              · (intro w hS hF; have kk := oldcell hS k28 (World.block_lt_of_cell? _ _ k28); go_simp; try with_reducible rfl)
                              (try simp only [Act.put, List.setIfInBounds_toArray, List.set_cons_zero, List.set_cons_succ])
                              refine seqX_pure (v := ?_) rfl (by rfl) ?_ ?_
                              rotate_left
                              · (intro w hS hF; have kk := oldcell hS m23 (World.block_lt_of_cell? _ _ m23); have kk2 := oldcell hS n23 (World.block_lt_of_cell? _ _ n23); go_simp; try with_reducible rfl)
                              (try simp only [Act.put, List.setIfInBounds_toArray, List.set_cons_zero, List.set_cons_succ])
                              refine seqX_pure (v := ?_) rfl (by rfl) ?_ ?_
                              rotate_left
                              · (intro w hS hF; go_simp; try with_reducible rfl)
                              (try simp only [Act.put, List.setIfInBounds_toArray, List.set_cons_zero, List.set_cons_succ])
                              refine seqX_call (e := eR kk u1) (f := ?_) (args := ?_) (by rw [htab]; rfl) rfl (by rfl) ?_ ?_ ?_
                              rotate_left 2
                              · (intro w; go_simp; first | done | with_reducible rfl | (refine ⟨?_, ?_⟩ <;> with_reducible rfl))
                              · (intro w hS hF; refine (mvalue_is (V := V) (nv := V.length) (ar := kk) (p := p28) (cap := c28) (hC28.mono hS) (hM23.up hS) (hV19.mono hS) G4.out.wf hd4b (by omega) rfl hVm EV1.out).mono ?_; intro e w' h; exact RetR.x h)
                              rintro ⟨p122, c122, q122, d122, b122⟩
                              (try dsimp only [eCM, eC, eCI, eM, eR, eS, eX, eB, eK, eVC, eVM])
                              (try simp only [Act.put, List.setIfInBounds_toArray, List.set_cons_zero, List.set_cons_succ])
                              refine seqX_pure (v := ?_) rfl (by rfl) ?_ ?_
                              rotate_left
                              · (intro w hS hF; have kk := oldcell hS m20 (World.block_lt_of_cell? _ _ m20); have kk2 := oldcell hS n20 (World.block_lt_of_cell? _ _ n20); go_simp; try with_reducible rfl)
                              (try simp only [Act.put, List.setIfInBounds_toArray, List.set_cons_zero, List.set_cons_succ])
                              refine seqX_pure (v := ?_) rfl (by rfl) ?_ ?_
                              rotate_left
                              · (intro w hS hF; have kk := oldcell hS m21 (World.block_lt_of_cell? _ _ m21); have kk2 := oldcell hS n21 (World.block_lt_of_cell? _ _ n21); go_simp; try with_reducible rfl)
                              (try simp only [Act.put, List.setIfInBounds_toArray, List.set_cons_zero, List.set_cons_succ])
                              refine seqX_call (e := eR kk u1) (f := ?_) (args := ?_) (by rw [htab]; rfl) rfl (by rfl) ?_ ?_ ?_
                              rotate_left 2
                              · (intro w; go_simp; first | done | with_reducible rfl | (refine ⟨?_, ?_⟩ <;> with_reducible rfl))
                              · (intro w hS hF; refine (relunion_is (hM20.up hS) (hM21.up hS) (by omega) HU1.out).mono ?_; intro e w' h; exact RetR.x h)
                              rintro ⟨p125, c125, q125, d125, b125⟩
                              (try dsimp only [eCM, eC, eCI, eM, eR, eS, eX, eB, eK, eVC, eVM])
                              (try simp only [Act.put, List.setIfInBounds_toArray, List.set_cons_zero, List.set_cons_succ])
                              refine seqX_call (e := eK (.bool true)) (f := ?_) (args := ?_) (by rw [htab]; rfl) rfl (by rfl) ?_ ?_ ?_
                              rotate_left 2
                              · (intro w; go_simp; first | done | with_reducible rfl | (refine ⟨?_, ?_⟩ <;> with_reducible rfl))
                              · (intro w hS hF; have f1 : SI w q122 d122 u1 := hF 5 (by kernel_rfl); have f2 : SI w q125 d125 u1 := hF 8 (by kernel_rfl); refine (requal_is f1 f2 rfl).mono ?_; intro e w' h; exact keep_x h)
                              rintro ⟨p126, c126, q126, d126, b126⟩
                              (try dsimp only [eCM, eC, eCI, eM, eR, eS, eX, eB, eK, eVC, eVM])
                              (try simp only [Act.put, List.setIfInBounds_toArray, List.set_cons_zero, List.set_cons_succ])
                              refine seqX_pure (v := ?_) rfl (by rfl) ?_ ?_
                              rotate_left
                              · (intro w hS hF; go_simp; try with_reducible rfl)
                              (try simp only [Act.put, List.setIfInBounds_toArray, List.set_cons_zero, List.set_cons_succ])
                              refine seqX_pure (v := ?_) rfl (by rfl) ?_ ?_
                              rotate_left
                              · (intro w hS hF; go_simp; try with_reducible rfl)
                              (try simp only [Act.put, List.setIfInBounds_toArray, List.set_cons_zero, List.set_cons_succ])
                              refine seqX_pure (v := ?_) rfl (by rfl) ?_ ?_
                              rotate_left
                              · (intro w hS hF; have kk := oldcell hS k28 (World.block_lt_of_cell? _ _ k28); go_simp; try with_reducible rfl)
                              (try simp only [Act.put, List.setIfInBounds_toArray, List.set_cons_zero, List.set_cons_succ])
                              refine seqX_pure (v := ?_) rfl (by rfl) ?_ ?_
                              rotate_left
                              · (intro w hS hF; have kk := oldcell hS m25 (World.block_lt_of_cell? _ _ m25); have kk2 := oldcell hS n25 (World.block_lt_of_cell? _ _ n25); go_simp; try with_reducible rfl)
                              (try simp only [Act.put, List.setIfInBounds_toArray, List.set_cons_zero, List.set_cons_succ])
                              refine seqX_pure (v := ?_) rfl (by rfl) ?_ ?_
                              rotate_left
                              · (intro w hS hF; go_simp; try with_reducible rfl)
                              (try simp only [Act.put, List.setIfInBounds_toArray, List.set_cons_zero, List.set_cons_succ])
                              refine seqX_call (e := eR kk u2) (f := ?_) (args := ?_) (by rw [htab]; rfl) rfl (by rfl) ?_ ?_ ?_
                              rotate_left 2
                              · (intro w; go_simp; first | done | with_reducible rfl | (refine ⟨?_, ?_⟩ <;> with_reducible rfl))
                              · (intro w hS hF; refine (mvalue_is (V := V) (nv := V.length) (ar := kk) (p := p28) (cap := c28) (hC28.mono hS) (hM25.up hS) (hV19.mono hS) G4.out.wf hd4b (by omega) rfl hVm EV2.out).mono ?_; intro e w' h; exact RetR.x h)
                              rintro ⟨p132, c132, q132, d132, b132⟩
                              (try dsimp only [eCM, eC, eCI, eM, eR, eS, eX, eB, eK, eVC, eVM])
                              (try simp only [Act.put, List.setIfInBounds_toArray, List.set_cons_zero, List.set_cons_succ])
                              refine seqX_pure (v := ?_) rfl (by rfl) ?_ ?_
                              rotate_left
                              · (intro w hS hF; have kk := oldcell hS m20 (World.block_lt_of_cell? _ _ m20); have kk2 := oldcell hS n20 (World.block_lt_of_cell? _ _ n20); go_simp; try with_reducible rfl)
                              (try simp only [Act.put, List.setIfInBounds_toArray, List.set_cons_zero, List.set_cons_succ])
                              refine seqX_pure (v := ?_) rfl (by rfl) ?_ ?_
                              rotate_left
                              · (intro w hS hF; have kk := oldcell hS m21 (World.block_lt_of_cell? _ _ m21); have kk2 := oldcell hS n21 (World.block_lt_of_cell? _ _ n21); go_simp; try with_reducible rfl)
                              (try simp only [Act.put, List.setIfInBounds_toArray, List.set_cons_zero, List.set_cons_succ])
                              refine seqX_call (e := eR kk u2) (f := ?_) (args := ?_) (by rw [htab]; rfl) rfl (by rfl) ?_ ?_ ?_
                              rotate_left 2
                              · (intro w; go_simp; first | done | with_reducible rfl | (refine ⟨?_, ?_⟩ <;> with_reducible rfl))
                              · (intro w hS hF; refine (relinter_is (hM20.up hS) (hM21.up hS) (by omega) (by omega) RVA.out RVB.out HU2.out).mono ?_; intro e w' h; exact RetR.x h)
                              rintro ⟨p135, c135, q135, d135, b135⟩
                              (try dsimp only [eCM, eC, eCI, eM, eR, eS, eX, eB, eK, eVC, eVM])
                              (try simp only [Act.put, List.setIfInBounds_toArray, List.set_cons_zero, List.set_cons_succ])
                              refine seqX_call (e := eK (.bool true)) (f := ?_) (args := ?_) (by rw [htab]; rfl) rfl (by rfl) ?_ ?_ ?_
                              rotate_left 2
                              · (intro w; go_simp; first | done | with_reducible rfl | (refine ⟨?_, ?_⟩ <;> with_reducible rfl))
                              · (intro w hS hF; have f1 : SI w q132 d132 u2 := hF 15 (by kernel_rfl); have f2 : SI w q135 d135 u2 := hF 18 (by kernel_rfl); refine (requal_is f1 f2 rfl).mono ?_; intro e w' h; exact keep_x h)
                              rintro ⟨p136, c136, q136, d136, b136⟩
                              (try dsimp only [eCM, eC, eCI, eM, eR, eS, eX, eB, eK, eVC, eVM])
                              (try simp only [Act.put, List.setIfInBounds_toArray, List.set_cons_zero, List.set_cons_succ])
                              refine seqX_pure (v := ?_) rfl (by rfl) ?_ ?_
                              rotate_left
                              · (intro w hS hF; go_simp; try with_reducible rfl)
                              (try simp only [Act.put, List.setIfInBounds_toArray, List.set_cons_zero, List.set_cons_succ])
                              refine seqX_pure (v := ?_) rfl (by rfl) ?_ ?_
                              rotate_left
                              · (intro w hS hF; go_simp; try with_reducible rfl)
                              (try simp only [Act.put, List.setIfInBounds_toArray, List.set_cons_zero, List.set_cons_succ])
                              refine seqX_pure (v := ?_) rfl (by rfl) ?_ ?_
                              rotate_left
                              · (intro w hS hF; have kk := oldcell hS k28 (World.block_lt_of_cell? _ _ k28); go_simp; try with_reducible rfl)
                              (try simp only [Act.put, List.setIfInBounds_toArray, List.set_cons_zero, List.set_cons_succ])
                              refine seqX_pure (v := ?_) rfl (by rfl) ?_ ?_
                              rotate_left
                              · (intro w hS hF; have kk := oldcell hS m27 (World.block_lt_of_cell? _ _ m27); have kk2 := oldcell hS n27 (World.block_lt_of_cell? _ _ n27); go_simp; try with_reducible rfl)
                              (try simp only [Act.put, List.setIfInBounds_toArray, List.set_cons_zero, List.set_cons_succ])
                              refine seqX_pure (v := ?_) rfl (by rfl) ?_ ?_
                              rotate_left
                              · (intro w hS hF; go_simp; try with_reducible rfl)
                              (try simp only [Act.put, List.setIfInBounds_toArray, List.set_cons_zero, List.set_cons_succ])
                              refine seqX_call (e := eR kk u3) (f := ?_) (args := ?_) (by rw [htab]; rfl) rfl (by rfl) ?_ ?_ ?_
                              rotate_left 2
                              · (intro w; go_simp; first | done | with_reducible rfl | (refine ⟨?_, ?_⟩ <;> with_reducible rfl))
                              · (intro w hS hF; refine (mvalue_is (V := V) (nv := V.length) (ar := kk) (p := p28) (cap := c28) (hC28.mono hS) (hM27.up hS) (hV19.mono hS) G4.out.wf hd4b (by omega) rfl hVm EV3.out).mono ?_; intro e w' h; exact RetR.x h)
                              rintro ⟨p142, c142, q142, d142, b142⟩
                              (try dsimp only [eCM, eC, eCI, eM, eR, eS, eX, eB, eK, eVC, eVM])
                              (try simp only [Act.put, List.setIfInBounds_toArray, List.set_cons_zero, List.set_cons_succ])
                              refine seqX_pure (v := ?_) rfl (by rfl) ?_ ?_
                              rotate_left
                              · (intro w hS hF; have kk := oldcell hS m20 (World.block_lt_of_cell? _ _ m20); have kk2 := oldcell hS n20 (World.block_lt_of_cell? _ _ n20); go_simp; try with_reducible rfl)
                              (try simp only [Act.put, List.setIfInBounds_toArray, List.set_cons_zero, List.set_cons_succ])
                              refine seqX_pure (v := ?_) rfl (by rfl) ?_ ?_
                              rotate_left
                              · (intro w hS hF; have kk := oldcell hS m21 (World.block_lt_of_cell? _ _ m21); have kk2 := oldcell hS n21 (World.block_lt_of_cell? _ _ n21); go_simp; try with_reducible rfl)
                              (try simp only [Act.put, List.setIfInBounds_toArray, List.set_cons_zero, List.set_cons_succ])
                              refine seqX_call (e := eR kk u3) (f := ?_) (args := ?_) (by rw [htab]; rfl) rfl (by rfl) ?_ ?_ ?_
                              rotate_left 2
                              · (intro w; go_simp; first | done | with_reducible rfl | (refine ⟨?_, ?_⟩ <;> with_reducible rfl))
                              · (intro w hS hF; refine (reldiff_is (hM20.up hS) (hM21.up hS) (by omega) (by omega) RVA.out RVB.out HU3.out).mono ?_; intro e w' h; exact RetR.x h)
                              rintro ⟨p145, c145, q145, d145, b145⟩
                              (try dsimp only [eCM, eC, eCI, eM, eR, eS, eX, eB, eK, eVC, eVM])
                              (try simp only [Act.put, List.setIfInBounds_toArray, List.set_cons_zero, List.set_cons_succ])
                              refine seqX_call (e := eK (.bool true)) (f := ?_) (args := ?_) (by rw [htab]; rfl) rfl (by rfl) ?_ ?_ ?_
                              rotate_left 2
                              · (intro w; go_simp; first | done | with_reducible rfl | (refine ⟨?_, ?_⟩ <;> with_reducible rfl))
                              · (intro w hS hF; have f1 : SI w q142 d142 u3 := hF 25 (by kernel_rfl); have f2 : SI w q145 d145 u3 := hF 28 (by kernel_rfl); refine (requal_is f1 f2 rfl).mono ?_; intro e w' h; exact keep_x h)
                              rintro ⟨p146, c146, q146, d146, b146⟩
                              (try dsimp only [eCM, eC, eCI, eM, eR, eS, eX, eB, eK, eVC, eVM])
                              (try simp only [Act.put, List.setIfInBounds_toArray, List.set_cons_zero, List.set_cons_succ])
                              refine seqX_pure (v := ?_) rfl (by rfl) ?_ ?_
                              rotate_left
                              · (intro w hS hF; go_simp; try with_reducible rfl)
                              (try simp only [Act.put, List.setIfInBounds_toArray, List.set_cons_zero, List.set_cons_succ])
                              refine seqX_pure (v := ?_) rfl (by rfl) ?_ ?_
                              rotate_left
                              · (intro w hS hF; go_simp; try with_reducible rfl)
                              (try simp only [Act.put, List.setIfInBounds_toArray, List.set_cons_zero, List.set_cons_succ])
                              refine seqX_pure (v := ?_) rfl (by rfl) ?_ ?_
                              rotate_left
                              · (intro w hS hF; have kk := oldcell hS k28 (World.block_lt_of_cell? _ _ k28); go_simp; try with_reducible rfl)
                              (try simp only [Act.put, List.setIfInBounds_toArray, List.set_cons_zero, List.set_cons_succ])
                              refine seqX_pure (v := ?_) rfl (by rfl) ?_ ?_
                              rotate_left
                              · (intro w hS hF; have kk := oldcell hS m29 (World.block_lt_of_cell? _ _ m29); have kk2 := oldcell hS n29 (World.block_lt_of_cell? _ _ n29); go_simp; try with_reducible rfl)
                              (try simp only [Act.put, List.setIfInBounds_toArray, List.set_cons_zero, List.set_cons_succ])
                              refine seqX_pure (v := ?_) rfl (by rfl) ?_ ?_
                              rotate_left
                              · (intro w hS hF; go_simp; try with_reducible rfl)
                              (try simp only [Act.put, List.setIfInBounds_toArray, List.set_cons_zero, List.set_cons_succ])
                              refine seqX_call (e := eR kk u4) (f := ?_) (args := ?_) (by rw [htab]; rfl) rfl (by rfl) ?_ ?_ ?_
                              rotate_left 2
                              · (intro w; go_simp; first | done | with_reducible rfl | (refine ⟨?_, ?_⟩ <;> with_reducible rfl))
                              · (intro w hS hF; refine (mvalue_is (V := V) (nv := V.length) (ar := kk) (p := p28) (cap := c28) (hC28.mono hS) (hM29.up hS) (hV19.mono hS) G4.out.wf hd4b (by omega) rfl hVm EV4.out).mono ?_; intro e w' h; exact RetR.x h)
                              rintro ⟨p152, c152, q152, d152, b152⟩
                              (try dsimp only [eCM, eC, eCI, eM, eR, eS, eX, eB, eK, eVC, eVM])
                              (try simp only [Act.put, List.setIfInBounds_toArray, List.set_cons_zero, List.set_cons_succ])
                              refine seqX_pure (v := ?_) rfl (by rfl) ?_ ?_
                              rotate_left
                              · (intro w hS hF; go_simp; try with_reducible rfl)
                              (try simp only [Act.put, List.setIfInBounds_toArray, List.set_cons_zero, List.set_cons_succ])
                              refine seqX_pure (v := ?_) rfl (by rfl) ?_ ?_
                              rotate_left
                              · (intro w hS hF; have kk := oldcell hS m20 (World.block_lt_of_cell? _ _ m20); have kk2 := oldcell hS n20 (World.block_lt_of_cell? _ _ n20); go_simp; try with_reducible rfl)
                              (try simp only [Act.put, List.setIfInBounds_toArray, List.set_cons_zero, List.set_cons_succ])
                              refine seqX_pure (v := ?_) rfl (by rfl) ?_ ?_
                              rotate_left
                              · (intro w hS hF; have kk := oldcell hS m21 (World.block_lt_of_cell? _ _ m21); have kk2 := oldcell hS n21 (World.block_lt_of_cell? _ _ n21); go_simp; try with_reducible rfl)
                              (try simp only [Act.put, List.setIfInBounds_toArray, List.set_cons_zero, List.set_cons_succ])
                              refine seqX_call (e := eR kk u4) (f := ?_) (args := ?_) (by rw [htab]; rfl) rfl (by rfl) ?_ ?_ ?_
                              rotate_left 2
                              · (intro w; go_simp; first | done | with_reducible rfl | (refine ⟨?_, ?_⟩ <;> with_reducible rfl))
                              · (intro w hS hF; refine (relover_is (hM20.up hS) (hM21.up hS) (by omega) (by omega) RVA.out RVB.out hkk0 (by omega) hn0 (by omega) HU4.out).mono ?_; intro e w' h; exact RetR.x h)
                              rintro ⟨p156, c156, q156, d156, b156⟩
                              (try dsimp only [eCM, eC, eCI, eM, eR, eS, eX, eB, eK, eVC, eVM])
                              (try simp only [Act.put, List.setIfInBounds_toArray, List.set_cons_zero, List.set_cons_succ])
                              refine seqX_call (e := eK (.bool true)) (f := ?_) (args := ?_) (by rw [htab]; rfl) rfl (by rfl) ?_ ?_ ?_
                              rotate_left 2
                              · (intro w; go_simp; first | done | with_reducible rfl | (refine ⟨?_, ?_⟩ <;> with_reducible rfl))
                              · (intro w hS hF; have f1 : SI w q152 d152 u4 := hF 35 (by kernel_rfl); have f2 : SI w q156 d156 u4 := hF 39 (by kernel_rfl); refine (requal_is f1 f2 rfl).mono ?_; intro e w' h; exact keep_x h)
                              rintro ⟨p157, c157, q157, d157, b157⟩
                              (try dsimp only [eCM, eC, eCI, eM, eR, eS, eX, eB, eK, eVC, eVM])
                              (try simp only [Act.put, List.setIfInBounds_toArray, List.set_cons_zero, List.set_cons_succ])
                              refine seqX_pure (v := ?_) rfl (by rfl) ?_ ?_
                              rotate_left
                              · (intro w hS hF; go_simp; try with_reducible rfl)
                              (try simp only [Act.put, List.setIfInBounds_toArray, List.set_cons_zero, List.set_cons_succ])
                              refine seqX_pure (v := ?_) rfl (by rfl) ?_ ?_
                              rotate_left
                              · (intro w hS hF; go_simp; try with_reducible rfl)
                              (try simp only [Act.put, List.setIfInBounds_toArray, List.set_cons_zero, List.set_cons_succ])
                              refine seqX_nil ?_
                              refine seqE_nil ?_
                              intro w hS
                              go_wp2_with fail
                              go_ret
                              exact ⟨rfl, btr hW hS.1⟩
end Go.Proofs.Ytadilppdlbhjnaa
