/- Texts N22, Q3 in one. -/
import Derived.Test.YtadilppdlbhjnaaPlainP
import Derived.Test.YtadilppdlbhjnaaH14
namespace Go.Proofs.Ytadilppdlbhjnaa
set_option linter.unusedSimpArgs false
set_option linter.unusedVariables false
open Go.RowKit

theorem i64_small {x : Int} (h0 : -1000 ≤ x) (h1 : x ≤ 1000) : IntKind.i64.wrap x = x := by rw [IntWalk.i64_in]; omega
set_option maxRecDepth 100000 in
set_option maxHeartbeats 4000000 in
theorem atoms_any (k : Nat) (w : World) (hk : k < 256) :
    Calls Try.prog 34 #[.int .u8 k] w fun e w' => e = .returned (.tuple #[.int .i64 ((k % 3 + 1 : Nat) : Int), .int .i64 ((k / 3 % 2 + 1 : Nat) : Int), .int .i64 ((k / 6 % 2 + 1 : Nat) : Int)]) ∧ Below w.heap.size w w' := by
  obtain ⟨f1, f2, f3, f4⟩ := atoms_facts hk
  obtain ⟨a, ha⟩ : ∃ a, k % 3 = a := ⟨_, rfl⟩
  obtain ⟨b, hb⟩ : ∃ a, k / 3 % 2 = a := ⟨_, rfl⟩
  obtain ⟨c, hc⟩ : ∃ a, k / 6 % 2 = a := ⟨_, rfl⟩
  have ha3 : a < 3 := by omega
  have hb3 : b < 2 := by omega
  have hc3 : c < 2 := by omega
  have hd1 : (k : Int).tdiv 3 = ((k / 3 : Nat) : Int) := by rw [Int.tdiv_eq_ediv_of_nonneg (by omega)]; omega
  have hd2 : (k : Int).tdiv 6 = ((k / 6 : Nat) : Int) := by rw [Int.tdiv_eq_ediv_of_nonneg (by omega)]; omega
  rw [ha, hb, hc]
  rw [ha] at f2; rw [hb, hd1] at f3; rw [hc, hd2] at f4
  obtain ⟨x, hx⟩ : ∃ x, k / 3 = x := ⟨_, rfl⟩
  obtain ⟨y, hy⟩ : ∃ x, k / 6 = x := ⟨_, rfl⟩
  rw [hx] at hd1 f3; rw [hy] at hd2 f4
  have g1 : IntKind.i64.wrap (a : Int) = a := i64_small (by omega) (by omega)
  have g2 : IntKind.i64.wrap (b : Int) = b := i64_small (by omega) (by omega)
  have g3 : IntKind.i64.wrap (c : Int) = c := i64_small (by omega) (by omega)
  have g4 : IntKind.i64.wrap ((a : Int) + 1) = (a : Int) + 1 := i64_small (by omega) (by omega)
  have g5 : IntKind.i64.wrap ((b : Int) + 1) = (b : Int) + 1 := i64_small (by omega) (by omega)
  have g6 : IntKind.i64.wrap ((c : Int) + 1) = (c : Int) + 1 := i64_small (by omega) (by omega)
  have g7 : IntKind.i64.wrap (x : Int) = x := i64_small (by omega) (by omega)
  have g8 : IntKind.i64.wrap (y : Int) = y := i64_small (by omega) (by omega)
  clear hx hy ha hb hc ha3 hb3 hc3
  go_enter Try.func34, Try.ntmps34
  go_wp2_with fail
  refine bodyPost_ret (by simp [results, Try.results34, go_sem]; try rfl) rfl ?_
  exact ⟨by simp [f1, f2, f3, f4, hd1, hd2, g1, g2, g3, g4, g5, g6, g7, g8], Below.refl _ _⟩
end Go.Proofs.Ytadilppdlbhjnaa

namespace Go.Proofs.Ytadilppdlbhjnaa
set_option linter.unusedSimpArgs false
set_option linter.unusedVariables false
open Go.RowKit

theorem pow_9 {n k : Nat} (hn : n ≤ 3) (hk : k ≤ 2) : n ^ k ≤ 9 := by
  have h1 : n ^ k ≤ 3 ^ k := Nat.pow_le_pow_left hn k
  have h2 : 3 ^ k ≤ 3 ^ 2 := Nat.pow_le_pow_right (by omega) hk
  omega
theorem made_plain2 (st : List Step) (hs : st.length ≤ 20) : ∃ c refs, cbuild st = (c, refs) ∧ Good c ∧ c.length ≤ 61 ∧ refs.length ≤ 20 ∧ (∀ r ∈ refs, r ≤ 9223372036854775807) ∧ ∀ (vs : List Nat) (N : Nat), MOk c (N : Int) (mMade refs vs N) ∧ (mMade refs vs N).length ≤ N := by
  obtain ⟨c, refs, hcb⟩ : ∃ c refs, cbuild st = (c, refs) := ⟨_, _, rfl⟩
  have hb := built st (by omega)
  rw [hcb] at hb
  have hl := hb.len
  have hle := cbuild_le st
  rw [hcb] at hle
  have hr := hb.refs
  have hg := hb.good
  dsimp only at hl hle hr hg
  refine ⟨c, refs, hcb, hg, by omega, by omega, fun r hr => by have := hle.2.1 r hr; omega, fun vs N => ?_⟩
  have hm := mMade_ok hr hg.ne vs N
  exact ⟨hm, hm.len⟩
theorem BoolsAt.up {w w' : World} {p : Option Addr} {l : List Bool} (h : BoolsAt w p l) (hB : Below w.heap.size w w') : BoolsAt w' p l := h.mono hB
theorem value_range {c : List Gate} {N : Nat} {m : List Cell} (V : List Bool) (h : MOk c (N : Int) m) (hN : N ≤ 9) : ∀ x ∈ mValue c V m, 0 ≤ x ∧ x < 100000 := by
  intro x hx
  unfold mValue at hx
  obtain ⟨y, hy, rfl⟩ := List.mem_map.1 hx
  have := h.ranks y (List.mem_filter.1 hy).1
  omega

set_option maxRecDepth 100000 in
set_option maxHeartbeats 8000000 in
theorem matrixPredicates_any (k : Nat) (st : List Step) (ps : Option Addr) (cs : Nat) (x : List Nat) (px : Option Addr) (cx : Nat) (y : List Nat) (py : Option Addr) (cy : Nat) (z : Nat) (w : World) (hk : k < 256) (hl : st.length ≤ maxLen) (hs : ∀ s ∈ st, s.k < 256 ∧ s.a < 256 ∧ s.b < 256) (hg : StepsAt w ps st) (hlx : x.length ≤ maxLen) (h8x : ∀ v ∈ x, v < 256) (hux : UbAt w px x) (hly : y.length ≤ maxLen) (h8y : ∀ v ∈ y, v < 256) (huy : UbAt w py y) (hz : z < 256) :
    Calls Try.prog 5 #[.int .u8 k, .slice ps st.length cs, .slice px x.length cx, .slice py y.length cy, .int .u8 z] w (RetB w true) := by
  unfold maxLen at hl
  have HS8 := Lib.hid hs; have HG := Lib.hid hg; have H8x := Lib.hid h8x; have HUx := Lib.hid hux; have H8y := Lib.hid h8y; have HUy := Lib.hid huy; clear hs hg h8x hux h8y huy
  by_cases h20 : (20 : Int) < (st.length : Int)
  case pos =>
    have hW : Below w.heap.size w w := Below.refl _ _
    go_enter Try.func5, Try.ntmps5
    go_wp2_with (first | (go_at_call 32; refine (head14_any _).mono ?_; rintro e w1 ⟨rfl, hb1⟩))
    go_ret
    exact ⟨rfl, hb1⟩
  case neg =>
    obtain ⟨n, hn⟩ : ∃ n, k % 3 + 1 = n := ⟨_, rfl⟩
    obtain ⟨kk, hkk⟩ : ∃ n, k / 3 % 2 + 1 = n := ⟨_, rfl⟩
    obtain ⟨k2, hk2⟩ : ∃ n, k / 6 % 2 + 1 = n := ⟨_, rfl⟩
    have hn0 : 0 < n := by omega
    have hn3 : n ≤ 3 := by omega
    have hkk0 : 0 < kk := by omega
    have hkk2 : kk ≤ 2 := by omega
    obtain ⟨c, refs, hcb, gc, hcl, hrl, hrr, hma⟩ := made_plain2 st (by omega)
    obtain ⟨N, hN, hN9⟩ : ∃ N, n ^ kk = N ∧ N ≤ 9 := ⟨_, rfl, pow_9 hn3 hkk2⟩
    have hc0 : 0 < c.length := gc.ne
    have hW : Below w.heap.size w w := Below.refl _ _
    obtain ⟨a, ha⟩ : ∃ a, mMade refs x N = a := ⟨_, rfl⟩
    obtain ⟨b, hb⟩ : ∃ a, mMade refs y N = a := ⟨_, rfl⟩
    have oa := (hma x N).1; have la := (hma x N).2; have ob := (hma y N).1; have lb := (hma y N).2
    rw [ha] at oa la; rw [hb] at ob lb
    obtain ⟨V, hV0⟩ : ∃ V, vbits z 8 = V := ⟨_, rfl⟩
    have hVl : V.length = 8 := by rw [← hV0]; exact vbits_len _ _
    obtain ⟨va, hva⟩ : ∃ l, mValue c V a = l := ⟨_, rfl⟩
    obtain ⟨vb, hvb⟩ : ∃ l, mValue c V b = l := ⟨_, rfl⟩
    have rva := value_range V oa hN9; have rvb := value_range V ob hN9
    have lva := mValue_len c V a; have lvb := mValue_len c V b
    obtain ⟨d1, r1, d2, r2, d3, r3, e1, e2, e3, g1, g2, g3, ld1, ld2, ld3, oa1, oa2, hev⟩ := preds_plain gc hcl oa ob (by omega) (by omega)
    obtain ⟨ev1, ev2, ev3⟩ := hev V
    rw [hva] at rva lva ev1 ev2 ev3; rw [hvb] at rvb lvb ev1
    replace ev3 : ceval d3 V r3 = decide ((va.length : Int) ≤ 1) := ev3.trans (decide_eq_decide.2 (by omega))
    have HA := Lib.hid ha; have HB := Lib.hid hb; have OA := Lib.hid oa; have OB := Lib.hid ob; have HVB := Lib.hid hV0; have HVL := Lib.hid hVl; have HVA := Lib.hid hva; have HVC := Lib.hid hvb; have RVA := Lib.hid rva; have RVB := Lib.hid rvb
    have E1 := Lib.hid e1; have E2 := Lib.hid e2; have E3 := Lib.hid e3; have G1 := Lib.hid g1; have G2 := Lib.hid g2; have G3 := Lib.hid g3; have OA1 := Lib.hid oa1; have OA2 := Lib.hid oa2; have EV1 := Lib.hid ev1; have EV2 := Lib.hid ev2; have EV3 := Lib.hid ev3
    clear ha hb oa ob hV0 hVl hva hvb rva rvb e1 e2 e3 g1 g2 g3 oa1 oa2 ev1 ev2 ev3 hev
    have HN := Lib.hid hn; have HKK := Lib.hid hkk; have HK2 := Lib.hid hk2; have HCB := Lib.hid hcb; have GC := Lib.hid gc; have HR := Lib.hid hrr; have HNP := Lib.hid hN
    clear hn hkk hk2 hcb gc hrr hma hN
    go_enter Try.func5, Try.ntmps5
    go_upto_region 1 with fail
    go_cut [11] from 28 to 28 (fun s11 wx => (s11 = .bool true) ∧ Below w.heap.size w wx)
    case first =>
      as_aux_lemma =>
        go_wp2_with (first | (go_at_call 32; refine (head14_any _).mono ?_; rintro e w2 ⟨rfl, hbl⟩))
        go_meet
        exact ⟨rfl, (by first | exact hbl | exact btr (by go_grown) hbl)⟩
    case rest =>
      obtain ⟨rfl, hst⟩ := hcut
      replace hW := btr hW hst
      clear hst
      go_upto_region 4 with fail
      go_cut [12, 13] from 33 to 37 (fun s12 s13 wx => (∃ (b : Nat) (q : Option Addr) (cq : Nat), s12 = .pointer (some ⟨b, 0, none⟩) ∧ s13 = .slice q refs.length cq ∧ Bx wx b c ∧ LAt wx q refs) ∧ Below wc.heap.size wc wx)
      case first =>
        as_aux_lemma =>
          go_wp2_with (first | (go_at_call 33; refine (rbuild_any st ps cs _ (by omega) HS8.out (HG.out.mono hW)).mono ?_; rintro e w2 ⟨pc, cc, pr, cr, he, o1, o2, o3, o4, r1, r2, r3, r4, hbl⟩; rw [HCB.out] at he o1 o4 r1 r4; subst he; dsimp only at o1 o4 r1 r4; have hC2 : CAt w2 pc cc c := ⟨o1, o2, o3, o4⟩; have hL2 : LAt w2 pr refs := r4; clear o1 o2 o3 o4 r1 r2 r3 r4))
          go_meet
          exact ⟨⟨_, _, _, rfl, rfl, Bx.new hC2 _, hL2.up (bal (Below.refl _ _) _)⟩, bal hbl _⟩
      case rest =>
        obtain ⟨⟨b12, q13, cq13, rfl, rfl, hB12, hL13⟩, hst⟩ := hcut
        replace hW := btr hW hst
        clear hst
        go_upto_region 5 with fail
        go_cut [14, 15, 16] from 38 to 43 (fun s14 s15 s16 wx => (s14 = .int .i64 n ∧ s15 = .int .i64 kk ∧ s16 = .int .i64 k2) ∧ Below wc.heap.size wc wx)
        case first =>
          as_aux_lemma =>
            go_wp2_with (first | (go_at_call 34; refine (atoms_any k _ hk).mono ?_; rw [HN.out, HKK.out, HK2.out]; rintro e w2 ⟨rfl, hbl⟩))
            go_meet
            exact ⟨⟨rfl, rfl, rfl⟩, hbl⟩
        case rest =>
          obtain ⟨⟨rfl, rfl, rfl⟩, hst⟩ := hcut
          replace hB12 := hB12.up hst
          replace hL13 := hL13.up hst
          replace hW := btr hW hst
          clear hst
          go_upto_region 6 with fail
          go_cut [17] from 44 to 48 (fun s17 wx => (∃ (bk : Nat), s17 = .pointer (some ⟨bk, 0, none⟩) ∧ BM wx bk kk a) ∧ Below wc.heap.size wc wx)
          case first =>
            as_aux_lemma =>
              go_wp2_with (first | (go_at_call 35; refine ((made14_any refs x n kk q13 px cq13 cx _ hL13 (by omega) HR.out (HUx.out.mono hW) hlx H8x.out hn0 (by omega) hkk0 (by omega)).mono fun e w' h => RetMF.eq h ((congrArg _ HNP.out).trans HA.out)).mono ?_; rintro e w2 ⟨p2, cap2, rfl, hM2, hbl, -⟩))
              go_meet
              exact ⟨⟨_, rfl, BM.newAt hM2 _ rfl⟩, bal hbl _⟩
          case rest =>
            obtain ⟨⟨b17, rfl, hN17⟩, hst⟩ := hcut
            replace hB12 := hB12.up hst
            replace hL13 := hL13.up hst
            replace hW := btr hW hst
            clear hst
            go_upto_region 7 with fail
            go_cut [18] from 49 to 53 (fun s18 wx => (∃ (bk : Nat), s18 = .pointer (some ⟨bk, 0, none⟩) ∧ BM wx bk kk b) ∧ Below wc.heap.size wc wx)
            case first =>
              as_aux_lemma =>
                go_wp2_with (first | (go_at_call 35; refine ((made14_any refs y n kk q13 py cq13 cy _ hL13 (by omega) HR.out (HUy.out.mono hW) hly H8y.out hn0 (by omega) hkk0 (by omega)).mono fun e w' h => RetMF.eq h ((congrArg _ HNP.out).trans HB.out)).mono ?_; rintro e w2 ⟨p2, cap2, rfl, hM2, hbl, -⟩))
                go_meet
                exact ⟨⟨_, rfl, BM.newAt hM2 _ rfl⟩, bal hbl _⟩
            case rest =>
              obtain ⟨⟨b18, rfl, hN18⟩, hst⟩ := hcut
              replace hB12 := hB12.up hst
              replace hL13 := hL13.up hst
              replace hN17 := hN17.up hst
              replace hW := btr hW hst
              clear hst
              clear hL13
              go_upto_region 8 with fail
              go_cut [19] from 54 to 55 (fun s19 wx => (∃ (q : Option Addr) (cq : Nat), s19 = .slice q V.length cq ∧ BoolsAt wx q V) ∧ Below wc.heap.size wc wx)
              case first =>
                as_aux_lemma =>
                  go_wp2_with (first | (go_at_call 36; refine (values1_any z _ (by omega) (by omega)).mono ?_; rw [HVB.out]; rintro e w2 ⟨q2, cq2, rfl, hV2, hv0, hbl⟩))
                  go_meet
                  exact ⟨⟨_, _, rfl, hV2⟩, hbl⟩
              case rest =>
                obtain ⟨⟨q19, cq19, rfl, hV19⟩, hst⟩ := hcut
                replace hB12 := hB12.up hst
                replace hN17 := hN17.up hst
                replace hN18 := hN18.up hst
                replace hW := btr hW hst
                clear hst
                go_upto_region 9 with fail
                obtain ⟨p12, c12, k12, k12f, hC12⟩ := id hB12
                obtain ⟨q17, cq17, ⟨⟨m17, m17f⟩, ⟨n17, n17f⟩, -⟩, hM17⟩ := id hN17
                go_cut [20] from 56 to 59 (fun s20 wx => (∃ (b : Nat), s20 = .pointer (some ⟨b, 0, none⟩) ∧ BR wx b kk va) ∧ Below wc.heap.size wc wx)
                case first =>
                  as_aux_lemma =>
                    go_wp2_with (first | (go_at_call 30; refine (mvalue_is (V := V) (nv := V.length) hC12 hM17 hV19 GC.out.wf (by omega) (by omega) rfl (by have := HVL.out; unfold maxLen; omega) HVA.out).mono ?_; rintro e w1 ⟨p1, cap1, rfl, hR1, hb1⟩))
                    go_meet
                    exact ⟨⟨_, rfl, BR.newAt hR1 _ rfl⟩, bal hb1 _⟩
                case rest =>
                  clear k12 k12f hC12
                  obtain ⟨⟨b20, rfl, hN20⟩, hst⟩ := hcut
                  replace hB12 := hB12.up hst
                  replace hN17 := hN17.up hst
                  replace hN18 := hN18.up hst
                  replace hV19 := hV19.up hst
                  replace hW := btr hW hst
                  clear hst
                  clear m17 m17f n17 n17f hM17
                  go_upto_region 10 with fail
                  obtain ⟨p12, c12, k12, k12f, hC12⟩ := id hB12
                  obtain ⟨q18, cq18, ⟨⟨m18, m18f⟩, ⟨n18, n18f⟩, -⟩, hM18⟩ := id hN18
                  go_cut [21] from 60 to 63 (fun s21 wx => (∃ (b : Nat), s21 = .pointer (some ⟨b, 0, none⟩) ∧ BR wx b kk vb) ∧ Below wc.heap.size wc wx)
                  case first =>
                    as_aux_lemma =>
                      go_wp2_with (first | (go_at_call 30; refine (mvalue_is (V := V) (nv := V.length) hC12 hM18 hV19 GC.out.wf (by omega) (by omega) rfl (by have := HVL.out; unfold maxLen; omega) HVC.out).mono ?_; rintro e w1 ⟨p1, cap1, rfl, hR1, hb1⟩))
                      go_meet
                      exact ⟨⟨_, rfl, BR.newAt hR1 _ rfl⟩, bal hb1 _⟩
                  case rest =>
                    clear k12 k12f hC12
                    obtain ⟨⟨b21, rfl, hN21⟩, hst⟩ := hcut
                    replace hB12 := hB12.up hst
                    replace hN17 := hN17.up hst
                    replace hN18 := hN18.up hst
                    replace hV19 := hV19.up hst
                    replace hN20 := hN20.up hst
                    replace hW := btr hW hst
                    clear hst
                    clear m18 m18f n18 n18f hM18
                    go_upto_region 11 with fail
                    obtain ⟨p12, c12, k12, k12f, hC12⟩ := id hB12
                    obtain ⟨q17, cq17, ⟨⟨m17, m17f⟩, ⟨n17, n17f⟩, -⟩, hM17⟩ := id hN17
                    obtain ⟨q18, cq18, ⟨⟨m18, m18f⟩, ⟨n18, n18f⟩, -⟩, hM18⟩ := id hN18
                    go_cut [22, 23] from 64 to 70 (fun s22 s23 wx => (∃ (b : Nat), s22 = .pointer (some ⟨b, 0, none⟩) ∧ s23 = .int .i64 r1 ∧ Bx wx b d1) ∧ Below wc.heap.size wc wx)
                    case first =>
                      as_aux_lemma =>
                        go_wp2_with (first | (go_at_call 37; refine (in_is hC12 hM17 hM18 GC.out (by omega) OA.out OB.out (by omega) (by omega) E1.out).mono ?_; rintro e w2 ⟨p2, cap2, rfl, hC2, hbl⟩))
                        go_meet
                        exact ⟨⟨_, rfl, rfl, Bx.new hC2 _⟩, bal hbl _⟩
                    case rest =>
                      clear k12 k12f hC12
                      obtain ⟨⟨b22, rfl, rfl, hB22⟩, hst⟩ := hcut
                      replace hB12 := hB12.up hst
                      replace hN17 := hN17.up hst
                      replace hN18 := hN18.up hst
                      replace hV19 := hV19.up hst
                      replace hN20 := hN20.up hst
                      replace hN21 := hN21.up hst
                      replace hW := btr hW hst
                      clear hst
                      clear m17 m17f n17 n17f hM17
                      clear m18 m18f n18 n18f hM18
                      go_upto_region 12 with fail
                      obtain ⟨p22, c22, k22, k22f, hC22⟩ := id hB22
                      obtain ⟨q17, cq17, ⟨⟨m17, m17f⟩, ⟨n17, n17f⟩, -⟩, hM17⟩ := id hN17
                      go_cut [24, 25] from 71 to 76 (fun s24 s25 wx => (∃ (b : Nat), s24 = .pointer (some ⟨b, 0, none⟩) ∧ s25 = .int .i64 r2 ∧ Bx wx b d2) ∧ Below wc.heap.size wc wx)
                      case first =>
                        as_aux_lemma =>
                          go_wp2_with (first | (go_at_call 38; refine (some_is hC22 hM17 G1.out (by omega) OA1.out E2.out).mono ?_; rintro e w2 ⟨p2, cap2, rfl, hC2, hbl⟩))
                          go_meet
                          exact ⟨⟨_, rfl, rfl, Bx.new hC2 _⟩, bal hbl _⟩
                      case rest =>
                        clear k22 k22f hC22
                        obtain ⟨⟨b24, rfl, rfl, hB24⟩, hst⟩ := hcut
                        replace hB12 := hB12.up hst
                        replace hN17 := hN17.up hst
                        replace hN18 := hN18.up hst
                        replace hV19 := hV19.up hst
                        replace hN20 := hN20.up hst
                        replace hN21 := hN21.up hst
                        replace hB22 := hB22.up hst
                        replace hW := btr hW hst
                        clear hst
                        clear m17 m17f n17 n17f hM17
                        go_upto_region 13 with fail
                        obtain ⟨p24, c24, k24, k24f, hC24⟩ := id hB24
                        obtain ⟨q17, cq17, ⟨⟨m17, m17f⟩, ⟨n17, n17f⟩, -⟩, hM17⟩ := id hN17
                        go_cut [26, 27] from 77 to 82 (fun s26 s27 wx => (∃ (b : Nat), s26 = .pointer (some ⟨b, 0, none⟩) ∧ s27 = .int .i64 r3 ∧ Bx wx b d3) ∧ Below wc.heap.size wc wx)
                        case first =>
                          as_aux_lemma =>
                            go_wp2_with (first | (go_at_call 39; refine (lone_is hC24 hM17 G2.out (by omega) OA2.out E3.out).mono ?_; rintro e w2 ⟨p2, cap2, rfl, hC2, hbl⟩))
                            go_meet
                            exact ⟨⟨_, rfl, rfl, Bx.new hC2 _⟩, bal hbl _⟩
                        case rest =>
                          clear k24 k24f hC24
                          obtain ⟨⟨b26, rfl, rfl, hB26⟩, hst⟩ := hcut
                          replace hB12 := hB12.up hst
                          replace hN17 := hN17.up hst
                          replace hN18 := hN18.up hst
                          replace hV19 := hV19.up hst
                          replace hN20 := hN20.up hst
                          replace hN21 := hN21.up hst
                          replace hB22 := hB22.up hst
                          replace hB24 := hB24.up hst
                          replace hW := btr hW hst
                          clear hst
                          clear m17 m17f n17 n17f hM17
                          clear hB12
                          clear hB22
                          clear hB24
                          clear hN17
                          clear hN18
                          go_upto_region 14 with fail
                          obtain ⟨p26, c26, k26, k26f, hC26⟩ := id hB26
                          obtain ⟨q20, cq20, ⟨⟨m20, m20f⟩, ⟨n20, n20f⟩, -⟩, hM20⟩ := id hN20
                          obtain ⟨q21, cq21, ⟨⟨m21, m21f⟩, ⟨n21, n21f⟩, -⟩, hM21⟩ := id hN21
                          have T1 := Lib.hid (fun (w' : World) (hB' : Below wc.heap.size wc w') => reval_is (n := V.length) (cv := cq19) hC26 hB' (hV19.mono hB') G3.out.wf EV1.out rfl (by omega) (by have := HVL.out; unfold maxLen; omega))
                          have T2 := Lib.hid (fun (w' : World) (hB' : Below wc.heap.size wc w') => reval_is (n := V.length) (cv := cq19) hC26 hB' (hV19.mono hB') G3.out.wf EV2.out rfl (by omega) (by have := HVL.out; unfold maxLen; omega))
                          have T3 := Lib.hid (fun (w' : World) (hB' : Below wc.heap.size wc w') => reval_is (n := V.length) (cv := cq19) hC26 hB' (hV19.mono hB') G3.out.wf EV3.out rfl (by omega) (by have := HVL.out; unfold maxLen; omega))
                          have T0 := Lib.hid (fun (w' : World) (hB' : Below wc.heap.size wc w') => rin_any va vb kk kk q20 q21 cq20 cq21 w' (hM20.up hB') (hM21.up hB') (by omega) (by omega) RVA.out RVB.out)
                          refine wp_region_seq (fun w' => Below wc.heap.size wc w') (by kernel_rfl) (by kernel_rfl) (by first | assumption | go_grown) ?_
                          refine seq_pure (v := ?_) (by rfl) ?_ ?_
                          rotate_left
                          · (intro w hS; go_simp; try with_reducible rfl)
                          (try simp only [Act.put, List.setIfInBounds_toArray, List.set_cons_zero, List.set_cons_succ])
                          refine seq_pure (v := ?_) (by rfl) ?_ ?_
                          rotate_left
                          · (intro w hS; go_simp; try with_reducible rfl)
                          (try simp only [Act.put, List.setIfInBounds_toArray, List.set_cons_zero, List.set_cons_succ])
                          refine seq_pure (v := ?_) (by rfl) ?_ ?_
                          rotate_left
                          · (intro w hS; have kk := oldcell hS k26 (World.block_lt_of_cell? _ _ k26); go_simp; try with_reducible rfl)
                          (try simp only [Act.put, List.setIfInBounds_toArray, List.set_cons_zero, List.set_cons_succ])
                          refine seq_pure (v := ?_) (by rfl) ?_ ?_
                          rotate_left
                          · (intro w hS; go_simp; try with_reducible rfl)
                          (try simp only [Act.put, List.setIfInBounds_toArray, List.set_cons_zero, List.set_cons_succ])
                          refine seq_pure (v := ?_) (by rfl) ?_ ?_
                          rotate_left
                          · (intro w hS; go_simp; try with_reducible rfl)
                          (try simp only [Act.put, List.setIfInBounds_toArray, List.set_cons_zero, List.set_cons_succ])
                          refine seq_call (v := .bool ((rDiff va vb).length == 0)) (f := ?_) (args := ?_) (by rfl) ?_ ?_ ?_
                          rotate_left 2
                          · (intro w hS; go_simp; first | done | with_reducible rfl | (refine ⟨?_, ?_⟩ <;> with_reducible rfl))
                          · (intro w hS; refine (T1.out w hS).mono ?_; rintro e w' ⟨he, hb⟩; exact ⟨he, btr hS hb⟩)
                          (try simp only [Act.put, List.setIfInBounds_toArray, List.set_cons_zero, List.set_cons_succ])
                          refine seq_pure (v := ?_) (by rfl) ?_ ?_
                          rotate_left
                          · (intro w hS; have kk := oldcell hS m20 (World.block_lt_of_cell? _ _ m20); have kk2 := oldcell hS n20 (World.block_lt_of_cell? _ _ n20); go_simp; try with_reducible rfl)
                          (try simp only [Act.put, List.setIfInBounds_toArray, List.set_cons_zero, List.set_cons_succ])
                          refine seq_pure (v := ?_) (by rfl) ?_ ?_
                          rotate_left
                          · (intro w hS; have kk := oldcell hS m21 (World.block_lt_of_cell? _ _ m21); have kk2 := oldcell hS n21 (World.block_lt_of_cell? _ _ n21); go_simp; try with_reducible rfl)
                          (try simp only [Act.put, List.setIfInBounds_toArray, List.set_cons_zero, List.set_cons_succ])
                          refine seq_call (v := .bool ((rDiff va vb).length == 0)) (f := ?_) (args := ?_) (by rfl) ?_ ?_ ?_
                          rotate_left 2
                          · (intro w hS; go_simp; first | done | with_reducible rfl | (refine ⟨?_, ?_⟩ <;> with_reducible rfl))
                          · (intro w hS; refine (T0.out w hS).mono ?_; rintro e w' ⟨he, hb⟩; exact ⟨he, btr hS hb⟩)
                          (try simp only [Act.put, List.setIfInBounds_toArray, List.set_cons_zero, List.set_cons_succ])
                          refine seq_pure (v := ?_) (by rfl) ?_ ?_
                          rotate_left
                          · (intro w hS; go_simp; try with_reducible rfl)
                          (try simp only [Act.put, List.setIfInBounds_toArray, List.set_cons_zero, List.set_cons_succ])
                          refine seq_pure (v := ?_) (by rfl) ?_ ?_
                          rotate_left
                          · (intro w hS; go_simp; try with_reducible rfl)
                          (try simp only [Act.put, List.setIfInBounds_toArray, List.set_cons_zero, List.set_cons_succ])
                          refine seq_pure (v := ?_) (by rfl) ?_ ?_
                          rotate_left
                          · (intro w hS; go_simp; try with_reducible rfl)
                          (try simp only [Act.put, List.setIfInBounds_toArray, List.set_cons_zero, List.set_cons_succ])
                          refine seq_pure (v := ?_) (by rfl) ?_ ?_
                          rotate_left
                          · (intro w hS; have kk := oldcell hS k26 (World.block_lt_of_cell? _ _ k26); go_simp; try with_reducible rfl)
                          (try simp only [Act.put, List.setIfInBounds_toArray, List.set_cons_zero, List.set_cons_succ])
                          refine seq_pure (v := ?_) (by rfl) ?_ ?_
                          rotate_left
                          · (intro w hS; go_simp; try with_reducible rfl)
                          (try simp only [Act.put, List.setIfInBounds_toArray, List.set_cons_zero, List.set_cons_succ])
                          refine seq_pure (v := ?_) (by rfl) ?_ ?_
                          rotate_left
                          · (intro w hS; go_simp; try with_reducible rfl)
                          (try simp only [Act.put, List.setIfInBounds_toArray, List.set_cons_zero, List.set_cons_succ])
                          refine seq_call (v := .bool (decide (0 < va.length))) (f := ?_) (args := ?_) (by rfl) ?_ ?_ ?_
                          rotate_left 2
                          · (intro w hS; go_simp; first | done | with_reducible rfl | (refine ⟨?_, ?_⟩ <;> with_reducible rfl))
                          · (intro w hS; refine (T2.out w hS).mono ?_; rintro e w' ⟨he, hb⟩; exact ⟨he, btr hS hb⟩)
                          (try simp only [Act.put, List.setIfInBounds_toArray, List.set_cons_zero, List.set_cons_succ])
                          refine seq_pure (v := ?_) (by rfl) ?_ ?_
                          rotate_left
                          · (intro w hS; go_simp; try with_reducible rfl)
                          (try simp only [Act.put, List.setIfInBounds_toArray, List.set_cons_zero, List.set_cons_succ])
                          refine seq_pure (v := ?_) (by rfl) ?_ ?_
                          rotate_left
                          · (intro w hS; have kk := oldcell hS m20 (World.block_lt_of_cell? _ _ m20); have kk2 := oldcell hS n20 (World.block_lt_of_cell? _ _ n20); go_simp; try with_reducible rfl)
                          (try simp only [Act.put, List.setIfInBounds_toArray, List.set_cons_zero, List.set_cons_succ])
                          refine seq_pure (v := ?_) (by rfl) ?_ ?_
                          rotate_left
                          · (intro w hS; go_simp; try with_reducible rfl)
                          (try simp only [Act.put, List.setIfInBounds_toArray, List.set_cons_zero, List.set_cons_succ])
                          refine seq_pure (v := ?_) (by rfl) ?_ ?_
                          rotate_left
                          · (intro w hS; go_simp; try with_reducible rfl)
                          (try simp only [Act.put, List.setIfInBounds_toArray, List.set_cons_zero, List.set_cons_succ])
                          refine seq_pure (v := ?_) (by rfl) ?_ ?_
                          rotate_left
                          · (intro w hS; go_simp; try with_reducible rfl)
                          (try simp only [Act.put, List.setIfInBounds_toArray, List.set_cons_zero, List.set_cons_succ])
                          refine seq_pure (v := ?_) (by rfl) ?_ ?_
                          rotate_left
                          · (intro w hS; go_simp; try with_reducible rfl)
                          (try simp only [Act.put, List.setIfInBounds_toArray, List.set_cons_zero, List.set_cons_succ])
                          refine seq_pure (v := ?_) (by rfl) ?_ ?_
                          rotate_left
                          · (intro w hS; go_simp; try with_reducible rfl)
                          (try simp only [Act.put, List.setIfInBounds_toArray, List.set_cons_zero, List.set_cons_succ])
                          refine seq_pure (v := ?_) (by rfl) ?_ ?_
                          rotate_left
                          · (intro w hS; have kk := oldcell hS k26 (World.block_lt_of_cell? _ _ k26); go_simp; try with_reducible rfl)
                          (try simp only [Act.put, List.setIfInBounds_toArray, List.set_cons_zero, List.set_cons_succ])
                          refine seq_pure (v := ?_) (by rfl) ?_ ?_
                          rotate_left
                          · (intro w hS; go_simp; try with_reducible rfl)
                          (try simp only [Act.put, List.setIfInBounds_toArray, List.set_cons_zero, List.set_cons_succ])
                          refine seq_pure (v := ?_) (by rfl) ?_ ?_
                          rotate_left
                          · (intro w hS; go_simp; try with_reducible rfl)
                          (try simp only [Act.put, List.setIfInBounds_toArray, List.set_cons_zero, List.set_cons_succ])
                          refine seq_call (v := .bool (decide ((va.length : Int) ≤ 1))) (f := ?_) (args := ?_) (by rfl) ?_ ?_ ?_
                          rotate_left 2
                          · (intro w hS; go_simp; first | done | with_reducible rfl | (refine ⟨?_, ?_⟩ <;> with_reducible rfl))
                          · (intro w hS; refine (T3.out w hS).mono ?_; rintro e w' ⟨he, hb⟩; exact ⟨he, btr hS hb⟩)
                          (try simp only [Act.put, List.setIfInBounds_toArray, List.set_cons_zero, List.set_cons_succ])
                          refine seq_pure (v := ?_) (by rfl) ?_ ?_
                          rotate_left
                          · (intro w hS; go_simp; try with_reducible rfl)
                          (try simp only [Act.put, List.setIfInBounds_toArray, List.set_cons_zero, List.set_cons_succ])
                          refine seq_pure (v := ?_) (by rfl) ?_ ?_
                          rotate_left
                          · (intro w hS; have kk := oldcell hS m20 (World.block_lt_of_cell? _ _ m20); have kk2 := oldcell hS n20 (World.block_lt_of_cell? _ _ n20); go_simp; try with_reducible rfl)
                          (try simp only [Act.put, List.setIfInBounds_toArray, List.set_cons_zero, List.set_cons_succ])
                          refine seq_pure (v := ?_) (by rfl) ?_ ?_
                          rotate_left
                          · (intro w hS; go_simp; try with_reducible rfl)
                          (try simp only [Act.put, List.setIfInBounds_toArray, List.set_cons_zero, List.set_cons_succ])
                          refine seq_pure (v := ?_) (by rfl) ?_ ?_
                          rotate_left
                          · (intro w hS; go_simp; try with_reducible rfl)
                          (try simp only [Act.put, List.setIfInBounds_toArray, List.set_cons_zero, List.set_cons_succ])
                          refine seq_pure (v := ?_) (by rfl) ?_ ?_
                          rotate_left
                          · (intro w hS; go_simp; try with_reducible rfl)
                          (try simp only [Act.put, List.setIfInBounds_toArray, List.set_cons_zero, List.set_cons_succ])
                          refine seq_pure (v := ?_) (by rfl) ?_ ?_
                          rotate_left
                          · (intro w hS; go_simp; try with_reducible rfl)
                          (try simp only [Act.put, List.setIfInBounds_toArray, List.set_cons_zero, List.set_cons_succ])
                          refine seq_pure (v := ?_) (by rfl) ?_ ?_
                          rotate_left
                          · (intro w hS; go_simp; try with_reducible rfl)
                          (try simp only [Act.put, List.setIfInBounds_toArray, List.set_cons_zero, List.set_cons_succ])
                          refine seq_nil ?_
                          intro w2 HB0
                          go_wp2_with fail
                          go_ret
                          exact ⟨rfl, btr hW HB0⟩
end Go.Proofs.Ytadilppdlbhjnaa
