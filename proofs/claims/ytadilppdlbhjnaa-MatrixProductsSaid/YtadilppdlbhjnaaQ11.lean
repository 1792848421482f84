/- Walk of MatrixProducts. -/
import Derived.Test.YtadilppdlbhjnaaGY
import Derived.Test.YtadilppdlbhjnaaGT
namespace Go.Proofs.Ytadilppdlbhjnaa
set_option linter.unusedSimpArgs false
set_option linter.unusedVariables false
open Go.RowKit

theorem mxvalid_w {c : List Gate} {m : List Cell} {ar : Int} {p pm : Option Addr} {cap cm N : Nat} {w : World} (hM : MxAt w pm cm m) (hm : MOk c (N : Int) m) (hl : c.length ≤ 20000) (hN2 : N ≤ 100000) (ha1 : 1 ≤ ar) (ha3 : ar ≤ 3) :
    Calls Try.prog 28 #[.agg #[.slice p c.length cap], .agg #[.int .i64 ar, .slice pm m.length cm]] w (RetB w true) := mxvalid_any c m ar p pm cap cm N w hM hm hl hN2 ha1 ha3
theorem reljoin_is {a b l : List Int} {kk k2 n : Nat} {pa pb : Option Addr} {ca cb : Nat} {w : World} (hA : SI w pa ca a) (hD : SI w pb cb b) (hla : a.length ≤ 20) (hlb : b.length ≤ 20) (hra : ∀ x ∈ a, 0 ≤ x ∧ x < 2000) (hrb : ∀ x ∈ b, 0 ≤ x ∧ x < 2000) (hk0 : 0 < kk) (h20 : 0 < k2) (h3 : 2 < kk + k2) (hk : kk ≤ 2) (h2 : k2 ≤ 2) (hn0 : 0 < n) (hn : n ≤ 12) (e : rJoin n ((n ^ (k2 - 1) : Nat) : Int) a b = l) :
    Calls Try.prog 62 #[.int .i64 n, .agg #[.int .i64 kk, .slice pa a.length ca], .agg #[.int .i64 k2, .slice pb b.length cb]] w
      (fun e w' => ∃ q cq, e = .returned (.tuple #[.agg #[.int .i64 ((kk : Int) + k2 - 2), .slice q l.length cq], .int .i64 0]) ∧ SI w' q cq l ∧ Below w.heap.size w w') := by
  subst e
  obtain ⟨k, rfl⟩ : ∃ k, kk = k + 1 := ⟨kk - 1, by omega⟩
  obtain ⟨k', rfl⟩ : ∃ k, k2 = k + 1 := ⟨k2 - 1, by omega⟩
  have h := reljoin_any n k k' (n ^ k') a b ((k + 1 : Nat) : Int) ((k' + 1 : Nat) : Int) pa pb ca cb w hA hD hla hlb hra hrb hn0 hn (by omega) (by omega) (by omega) (by omega) rfl
  refine h.mono ?_
  rintro e w' ⟨q, cq, h1, h2, -, h4⟩
  refine ⟨q, cq, ?_, h2, h4⟩
  rw [h1, show ((k + 1 : Nat) : Int) + ((k' + 1 : Nat) : Int) - 2 = (k : Int) + k' by omega, Nat.add_sub_cancel]
theorem relproduct_is {a b l : List Int} {kk k2 n : Nat} {pa pb : Option Addr} {ca cb : Nat} {w : World} (hA : SI w pa ca a) (hD : SI w pb cb b) (hla : a.length ≤ 100) (hlb : b.length ≤ 100) (ha : ∀ x ∈ a, 0 ≤ x ∧ x < 100000) (hb : ∀ x ∈ b, 0 ≤ x ∧ x < 100000)
    (h3 : kk + k2 ≤ 3) (hn0 : 0 < n) (hn : n ≤ 12) (e : rProd ((n ^ k2 : Nat) : Int) a b = l) :
    Calls Try.prog 75 #[.int .i64 n, .agg #[.int .i64 kk, .slice pa a.length ca], .agg #[.int .i64 k2, .slice pb b.length cb]] w
      (fun e w' => ∃ q cq, e = .returned (.tuple #[.agg #[.int .i64 ((kk : Int) + k2), .slice q l.length cq], .int .i64 0]) ∧ SI w' q cq l ∧ Below w.heap.size w w') := by
  subst e
  exact relproduct_any a b kk k2 n (n ^ k2) pa pb ca cb w hA hD hla hlb ha hb (by omega) (by omega) hn0 hn rfl
theorem reltrans_is {n : Nat} {a l : List Int} {ar : Int} {pa : Option Addr} {ca : Nat} {w : World} (hA : SI w pa ca a) (hla : a.length ≤ 100) (hra : ∀ x ∈ a, 0 ≤ x ∧ x < 2000) (hn0 : 0 < n) (hn : n ≤ 12) (e : rTr n a = l) :
    Calls Try.prog 74 #[.int .i64 n, .agg #[.int .i64 ar, .slice pa a.length ca]] w (RetR w 2 l) := by
  subst e
  exact (reltrans_any n a ar pa ca w hA hla hra hn0 hn).mono fun e w' ⟨q, cq, h1, h2, _, h4⟩ => ⟨q, cq, h1, h2, h4⟩
/-- what the two values of the last line are -/
theorem trans_plain {c : List Gate} {n : Nat} {a : List Cell} (hn : n ≤ 3) (hg : Good c) (ha : MOk c ((n ^ 2 : Nat) : Int) a) (V : List Bool) : ∃ t, mTranspose n a = t ∧ MOk c ((n * n : Nat) : Int) a ∧ t.length ≤ 20000 ∧ mValue c V t = rTr n (mValue c V a) := by
  rw [Nat.pow_two] at ha
  have h := (transpose_ok hg ha).len
  have h2 : n * n ≤ 9 := Nat.mul_le_mul hn hn
  exact ⟨_, rfl, ha, by omega, transp_rel hg ha V⟩

set_option maxRecDepth 100000 in
set_option maxHeartbeats 8000000 in
theorem matrixProducts_any (k : Nat) (st : List Step) (ps : Option Addr) (cs : Nat) (x : List Nat) (px : Option Addr) (cx : Nat) (y : List Nat) (py : Option Addr) (cy : Nat) (z : Nat) (w : World) (hk : k < 256) (hl : st.length ≤ maxLen) (hs : ∀ s ∈ st, s.k < 256 ∧ s.a < 256 ∧ s.b < 256) (hg : StepsAt w ps st) (hlx : x.length ≤ maxLen) (h8x : ∀ v ∈ x, v < 256) (hux : UbAt w px x) (hly : y.length ≤ maxLen) (h8y : ∀ v ∈ y, v < 256) (huy : UbAt w py y) (hz : z < 256) :
    Calls Try.prog 15 #[.int .u8 k, .slice ps st.length cs, .slice px x.length cx, .slice py y.length cy, .int .u8 z] w (RetB w true) := by
  unfold maxLen at hl
  have HS8 := Lib.hid hs; have HG := Lib.hid hg; have H8x := Lib.hid h8x; have HUx := Lib.hid hux; have H8y := Lib.hid h8y; have HUy := Lib.hid huy; clear hs hg h8x hux h8y huy
  by_cases h20 : (20 : Int) < (st.length : Int)
  case pos =>
    have hW : Below w.heap.size w w := Below.refl _ _
    go_enter Try.func15, Try.ntmps15
    go_wp2_with (first | (go_at_call 32; refine (head14_any _).mono ?_; rintro e w1 ⟨rfl, hb1⟩))
    go_ret
    exact ⟨rfl, hb1⟩
  case neg =>
    obtain ⟨n, hn⟩ : ∃ n, k % 3 + 1 = n := ⟨_, rfl⟩
    obtain ⟨kk, hkk⟩ : ∃ n, k / 3 % 2 + 1 = n := ⟨_, rfl⟩
    obtain ⟨k2, hk2⟩ : ∃ n, k / 6 % 2 + 1 = n := ⟨_, rfl⟩
    have hn0 : 0 < n := by omega
    have hn3 : n ≤ 3 := by omega
    have hkk0 : 0 < kk := by omega
    have hkk2 : kk ≤ 2 := by omega
    obtain ⟨c, refs, hcb, gc, hcl, hrl, hrr, hma⟩ := made_plain2 st (by omega)
    obtain ⟨N, hN, hN9⟩ : ∃ N, n ^ kk = N ∧ N ≤ 9 := ⟨_, rfl, pow_9 hn3 hkk2⟩
    have hc0 : 0 < c.length := gc.ne
    have hW : Below w.heap.size w w := Below.refl _ _
    have hk20 : 0 < k2 := by omega
    have hk22 : k2 ≤ 2 := by omega
    obtain ⟨a, ha⟩ : ∃ a, mMade refs x N = a := ⟨_, rfl⟩
    obtain ⟨b, hb⟩ : ∃ a, mMade refs y (n ^ k2) = a := ⟨_, rfl⟩
    have oa := (hma x N).1; have la := (hma x N).2; have ob := (hma y (n ^ k2)).1; have lb := (hma y (n ^ k2)).2
    rw [ha] at oa la; rw [hb] at ob lb
    have lb9 : b.length ≤ 9 := Nat.le_trans lb (pow_9 hn3 hk22)
    have hcl2 : c.length ≤ 10000 := by omega
    have oa2 : MOk c ((n ^ kk : Nat) : Int) a := by rw [hN]; exact oa
    clear lb
    obtain ⟨V, hV0⟩ : ∃ V, vbits z 8 = V := ⟨_, rfl⟩
    have hVl : V.length = 8 := by rw [← hV0]; exact vbits_len _ _
    obtain ⟨va, hva⟩ : ∃ l, mValue c V a = l := ⟨_, rfl⟩
    obtain ⟨vb, hvb⟩ : ∃ l, mValue c V b = l := ⟨_, rfl⟩
    have rva := value_range V oa hN9; have rvb := value_range V ob (pow_9 hn3 hk22)
    have sva : ∀ x ∈ va, 0 ≤ x ∧ x < 2000 := fun x hx => by rw [← hva] at hx; obtain ⟨y, hy, -, rfl⟩ := (mem_val V oa x).1 hx; have := oa.ranks y hy; omega
    have svb : ∀ x ∈ vb, 0 ≤ x ∧ x < 2000 := fun x hx => by rw [← hvb] at hx; obtain ⟨y, hy, -, rfl⟩ := (mem_val V ob x).1 hx; have := ob.ranks y hy; have := pow_9 hn3 hk22; omega
    have lva := mValue_len c V a; have lvb := mValue_len c V b
    obtain ⟨d1, m1, e1, P1⟩ := join_plain hkk0 hkk2 hk20 hk22 hn0 hn3 gc hcl oa2 ob V
    obtain ⟨d2, m2, e2, P2⟩ := prod_plain hkk2 hk22 hn3 gc hcl oa2 ob V
    rw [hva] at rva lva P1 P2; rw [hvb] at rvb lvb P1 P2
    obtain ⟨u1, hu1⟩ : ∃ l, rJoin n ((n ^ (k2 - 1) : Nat) : Int) va vb = l := ⟨_, rfl⟩
    obtain ⟨u2, hu2⟩ : ∃ l, rProd ((n ^ k2 : Nat) : Int) va vb = l := ⟨_, rfl⟩
    rw [hu1] at P1; rw [hu2] at P2
    have hd1 : d1.length ≤ 20000 := by have := P1.len; omega
    have hd2 : d2.length ≤ 20000 := by have := P2.len; omega
    have hm1 := P1.mlen; have hm2 := P2.mlen
    have hlva : va.length ≤ 9 := by omega
    have hlvb : vb.length ≤ 9 := by omega
    have hj9 : 2 < kk + k2 → n ^ (kk - 1 + (k2 - 1)) ≤ 100000 := fun _ => by have := pow_9 hn3 (show kk - 1 + (k2 - 1) ≤ 2 by omega); omega
    have hp9 : n ^ (kk + k2) ≤ 100000 := by
      have h1 : n ^ (kk + k2) ≤ 3 ^ (kk + k2) := Nat.pow_le_pow_left hn3 _
      have h2 : 3 ^ (kk + k2) ≤ 3 ^ 4 := Nat.pow_le_pow_right (by omega) (by omega)
      omega
    have HJ9 := Lib.hid hj9; have HP9 := Lib.hid hp9
    have HA := Lib.hid ha; have HB := Lib.hid hb; have OA := Lib.hid oa; have OA2 := Lib.hid oa2; have OB := Lib.hid ob; have E1 := Lib.hid e1; have E2 := Lib.hid e2; have P1 := Lib.hid P1; have P2 := Lib.hid P2
    have HVB := Lib.hid hV0; have HVL := Lib.hid hVl; have HVA := Lib.hid hva; have HVC := Lib.hid hvb; have RVA := Lib.hid rva; have RVB := Lib.hid rvb; have SVA := Lib.hid sva; have SVB := Lib.hid svb; have HU1 := Lib.hid hu1; have HU2 := Lib.hid hu2
    clear ha hb oa oa2 ob e1 e2 hV0 hVl hva hvb rva rvb sva svb lva lvb hu1 hu2 hj9 hp9
    have HN := Lib.hid hn; have HKK := Lib.hid hkk; have HK2 := Lib.hid hk2; have HCB := Lib.hid hcb; have GC := Lib.hid gc; have HR := Lib.hid hrr; have HNP := Lib.hid hN
    clear hn hkk hk2 hcb gc hrr hma hN
    go_enter Try.func15, Try.ntmps15
    go_upto_region 1 with fail
    go_cut [11] from 30 to 30 (fun s11 wx => (s11 = .bool true) ∧ Below w.heap.size w wx)
    case first =>
      as_aux_lemma =>
        go_wp2_with (first | (go_at_call 32; refine (head14_any _).mono ?_; rintro e w2 ⟨rfl, hbl⟩))
        go_meet
        exact ⟨rfl, (by first | exact hbl | exact btr (by go_grown) hbl)⟩
    case rest =>
      obtain ⟨rfl, hst⟩ := hcut
      replace hW := btr hW hst
      clear hst
      go_upto_region 4 with fail
      go_cut [12, 13] from 35 to 39 (fun s12 s13 wx => (∃ (b : Nat) (q : Option Addr) (cq : Nat), s12 = .pointer (some ⟨b, 0, none⟩) ∧ s13 = .slice q refs.length cq ∧ Bx wx b c ∧ LAt wx q refs) ∧ Below wc.heap.size wc wx)
      case first =>
        as_aux_lemma =>
          go_wp2_with (first | (go_at_call 33; refine (rbuild_any st ps cs _ (by omega) HS8.out (HG.out.mono hW)).mono ?_; rintro e w2 ⟨pc, cc, pr, cr, he, o1, o2, o3, o4, r1, r2, r3, r4, hbl⟩; rw [HCB.out] at he o1 o4 r1 r4; subst he; dsimp only at o1 o4 r1 r4; have hC2 : CAt w2 pc cc c := ⟨o1, o2, o3, o4⟩; have hL2 : LAt w2 pr refs := r4; clear o1 o2 o3 o4 r1 r2 r3 r4))
          go_meet
          exact ⟨⟨_, _, _, rfl, rfl, Bx.new hC2 _, hL2.up (bal (Below.refl _ _) _)⟩, bal hbl _⟩
      case rest =>
        obtain ⟨⟨b12, q13, cq13, rfl, rfl, hB12, hL13⟩, hst⟩ := hcut
        replace hW := btr hW hst
        clear hst
        go_upto_region 5 with fail
        go_cut [14, 15, 16] from 40 to 45 (fun s14 s15 s16 wx => (s14 = .int .i64 n ∧ s15 = .int .i64 kk ∧ s16 = .int .i64 k2) ∧ Below wc.heap.size wc wx)
        case first =>
          as_aux_lemma =>
            go_wp2_with (first | (go_at_call 34; refine (atoms_any k _ hk).mono ?_; rw [HN.out, HKK.out, HK2.out]; rintro e w2 ⟨rfl, hbl⟩))
            go_meet
            exact ⟨⟨rfl, rfl, rfl⟩, hbl⟩
        case rest =>
          obtain ⟨⟨rfl, rfl, rfl⟩, hst⟩ := hcut
          replace hB12 := hB12.up hst
          replace hL13 := hL13.up hst
          replace hW := btr hW hst
          clear hst
          go_upto_region 6 with fail
          go_cut [17] from 46 to 50 (fun s17 wx => (∃ (bk : Nat), s17 = .pointer (some ⟨bk, 0, none⟩) ∧ BM wx bk kk a) ∧ Below wc.heap.size wc wx)
          case first =>
            as_aux_lemma =>
              go_wp2_with (first | (go_at_call 35; refine ((made14_any refs x n kk q13 px cq13 cx _ hL13 (by omega) HR.out (HUx.out.mono hW) hlx H8x.out hn0 (by omega) hkk0 (by omega)).mono fun e w' h => RetMF.eq h ((congrArg _ HNP.out).trans HA.out)).mono ?_; rintro e w2 ⟨p2, cap2, rfl, hM2, hbl, -⟩))
              go_meet
              exact ⟨⟨_, rfl, BM.newAt hM2 _ rfl⟩, bal hbl _⟩
          case rest =>
            obtain ⟨⟨b17, rfl, hN17⟩, hst⟩ := hcut
            replace hB12 := hB12.up hst
            replace hL13 := hL13.up hst
            replace hW := btr hW hst
            clear hst
            go_upto_region 7 with fail
            go_cut [18] from 51 to 55 (fun s18 wx => (∃ (bk : Nat), s18 = .pointer (some ⟨bk, 0, none⟩) ∧ BM wx bk k2 b) ∧ Below wc.heap.size wc wx)
            case first =>
              as_aux_lemma =>
                go_wp2_with (first | (go_at_call 35; refine ((made14_any refs y n k2 q13 py cq13 cy _ hL13 (by omega) HR.out (HUy.out.mono hW) hly H8y.out hn0 (by omega) hk20 (by omega)).mono fun e w' h => RetMF.eq h HB.out).mono ?_; rintro e w2 ⟨p2, cap2, rfl, hM2, hbl, -⟩))
                go_meet
                exact ⟨⟨_, rfl, BM.newAt hM2 _ rfl⟩, bal hbl _⟩
            case rest =>
              obtain ⟨⟨b18, rfl, hN18⟩, hst⟩ := hcut
              replace hB12 := hB12.up hst
              replace hL13 := hL13.up hst
              replace hN17 := hN17.up hst
              replace hW := btr hW hst
              clear hst
              clear hL13
              go_upto_region 8 with fail
              go_cut [19] from 56 to 57 (fun s19 wx => (∃ (q : Option Addr) (cq : Nat), s19 = .slice q V.length cq ∧ BoolsAt wx q V) ∧ Below wc.heap.size wc wx)
              case first =>
                as_aux_lemma =>
                  go_wp2_with (first | (go_at_call 36; refine (values1_any z _ (by omega) (by omega)).mono ?_; rw [HVB.out]; rintro e w2 ⟨q2, cq2, rfl, hV2, hv0, hbl⟩))
                  go_meet
                  exact ⟨⟨_, _, rfl, hV2⟩, hbl⟩
              case rest =>
                obtain ⟨⟨q19, cq19, rfl, hV19⟩, hst⟩ := hcut
                replace hB12 := hB12.up hst
                replace hN17 := hN17.up hst
                replace hN18 := hN18.up hst
                replace hW := btr hW hst
                clear hst
                go_upto_region 9 with fail
                obtain ⟨p12, c12, k12, k12f, hC12⟩ := id hB12
                obtain ⟨q17, cq17, ⟨⟨m17, m17f⟩, ⟨n17, n17f⟩, -⟩, hM17⟩ := id hN17
                go_cut [20] from 58 to 61 (fun s20 wx => (∃ (b : Nat), s20 = .pointer (some ⟨b, 0, none⟩) ∧ BR wx b kk va) ∧ Below wc.heap.size wc wx)
                case first =>
                  as_aux_lemma =>
                    go_wp2_with (first | (go_at_call 30; refine (mvalue_is (V := V) (nv := V.length) hC12 hM17 hV19 GC.out.wf (by omega) (by omega) rfl (by have := HVL.out; unfold maxLen; omega) HVA.out).mono ?_; rintro e w1 ⟨p1, cap1, rfl, hR1, hb1⟩))
                    go_meet
                    exact ⟨⟨_, rfl, BR.newAt hR1 _ rfl⟩, bal hb1 _⟩
                case rest =>
                  clear k12 k12f hC12
                  obtain ⟨⟨b20, rfl, hN20⟩, hst⟩ := hcut
                  replace hB12 := hB12.up hst
                  replace hN17 := hN17.up hst
                  replace hN18 := hN18.up hst
                  replace hV19 := hV19.up hst
                  replace hW := btr hW hst
                  clear hst
                  clear m17 m17f n17 n17f hM17
                  go_upto_region 10 with fail
                  obtain ⟨p12, c12, k12, k12f, hC12⟩ := id hB12
                  obtain ⟨q18, cq18, ⟨⟨m18, m18f⟩, ⟨n18, n18f⟩, -⟩, hM18⟩ := id hN18
                  go_cut [21] from 62 to 65 (fun s21 wx => (∃ (b : Nat), s21 = .pointer (some ⟨b, 0, none⟩) ∧ BR wx b k2 vb) ∧ Below wc.heap.size wc wx)
                  case first =>
                    as_aux_lemma =>
                      go_wp2_with (first | (go_at_call 30; refine (mvalue_is (V := V) (nv := V.length) hC12 hM18 hV19 GC.out.wf (by omega) (by omega) rfl (by have := HVL.out; unfold maxLen; omega) HVC.out).mono ?_; rintro e w1 ⟨p1, cap1, rfl, hR1, hb1⟩))
                      go_meet
                      exact ⟨⟨_, rfl, BR.newAt hR1 _ rfl⟩, bal hb1 _⟩
                  case rest =>
                    clear k12 k12f hC12
                    obtain ⟨⟨b21, rfl, hN21⟩, hst⟩ := hcut
                    replace hB12 := hB12.up hst
                    replace hN17 := hN17.up hst
                    replace hN18 := hN18.up hst
                    replace hV19 := hV19.up hst
                    replace hN20 := hN20.up hst
                    replace hW := btr hW hst
                    clear hst
                    clear m18 m18f n18 n18f hM18
                    have hVm : V.length ≤ maxLen := by have := HVL.out; unfold maxLen; omega
                    have hcl3 : c.length ≤ 20000 := by omega
                    have hwk : IntKind.i64.wrap ((kk : Int) + (k2 : Int)) = (kk : Int) + (k2 : Int) := i64_small (by omega) (by omega)
                    go_upto_if 69 with fail
                    go_cut [] from 22 to 101 (fun wx => Below w.heap.size w wx ∧ Bx wx b12 c ∧ BM wx b17 kk a ∧ BM wx b18 k2 b ∧ BoolsAt wx q19 V ∧ BR wx b20 kk va ∧ BR wx b21 k2 vb)
                    case first =>
                      as_aux_lemma =>
                        by_cases hif : (2 : Int) < (kk : Int) + (k2 : Int)
                        case neg =>
                          (have hif2 : decide ((2 : Int) < (kk : Int) + (k2 : Int)) = false := by simpa using hif)
                          go_wp2_with fail
                          go_meet
                          exact ⟨hW, hB12, hN17, hN18, hV19, hN20, hN21⟩
                        case pos =>
                          have hif2 : decide ((2 : Int) < (kk : Int) + (k2 : Int)) = true := by simpa using hif
                          rw [hif2]
                          clear hif2
                          go_upto_region 12 with fail
                          obtain ⟨p12, c12, k12, k12f, hC12⟩ := id hB12
                          obtain ⟨q17, cq17, ⟨⟨m17, m17f⟩, ⟨n17, n17f⟩, -⟩, hM17⟩ := id hN17
                          obtain ⟨q18, cq18, ⟨⟨m18, m18f⟩, ⟨n18, n18f⟩, -⟩, hM18⟩ := id hN18
                          go_cut [22, 23] from 70 to 77 (fun s22 s23 wx => (∃ (b b' : Nat), s22 = .pointer (some ⟨b, 0, none⟩) ∧ s23 = .pointer (some ⟨b', 0, none⟩) ∧ Bx wx b d1 ∧ BM wx b' ((kk : Int) + k2 - 2) m1) ∧ Below wc.heap.size wc wx)
                          case first =>
                            as_aux_lemma =>
                              go_wp2_with (first | (go_at_call 44; refine (joinL_is hC12 hM17 hM18 hkk0 hkk2 hk20 hk22 hn0 hn3 GC.out hcl2 OA2.out OB.out E1.out).mono ?_; rintro e w2 ⟨p2, cap2, y2, cy2, rfl, hC2, hM2, hbl⟩))
                              go_meet
                              exact ⟨⟨_, _, rfl, rfl, (Bx.new hC2 _).up (by go_grown), BM.newAt (hM2.up (bal (Below.refl _ _) _)) _ (by simp)⟩, bal (bal hbl _) _⟩
                          case rest =>
                            clear k12 k12f hC12
                            obtain ⟨⟨b22, b23, rfl, rfl, hB22, hN23⟩, hst⟩ := hcut
                            replace hB12 := hB12.up hst
                            replace hN17 := hN17.up hst
                            replace hN18 := hN18.up hst
                            replace hV19 := hV19.up hst
                            replace hN20 := hN20.up hst
                            replace hN21 := hN21.up hst
                            replace hW := btr hW hst
                            clear hst
                            clear m17 m17f n17 n17f hM17
                            clear m18 m18f n18 n18f hM18
                            go_upto_region 13 with fail
                            obtain ⟨q20, cq20, ⟨⟨m20, m20f⟩, ⟨n20, n20f⟩, -⟩, hM20⟩ := id hN20
                            obtain ⟨q21, cq21, ⟨⟨m21, m21f⟩, ⟨n21, n21f⟩, -⟩, hM21⟩ := id hN21
                            go_cut [24, 25] from 78 to 84 (fun s24 s25 wx => (∃ (b : Nat), s24 = .pointer (some ⟨b, 0, none⟩) ∧ s25 = .int .i64 0 ∧ BR wx b ((kk : Int) + k2 - 2) u1) ∧ Below wc.heap.size wc wx)
                            case first =>
                              as_aux_lemma =>
                                go_wp2_with (first | (go_at_call 62; refine (reljoin_is hM20 hM21 (by omega) (by omega) SVA.out SVB.out hkk0 hk20 (by omega) hkk2 hk22 hn0 (by omega) HU1.out).mono ?_; rintro e w1 ⟨p1, cap1, rfl, hR1, hb1⟩))
                                go_meet
                                exact ⟨⟨_, rfl, rfl, BR.newAt hR1 _ rfl⟩, bal hb1 _⟩
                            case rest =>
                              obtain ⟨⟨b24, rfl, rfl, hN24⟩, hst⟩ := hcut
                              replace hB12 := hB12.up hst
                              replace hN17 := hN17.up hst
                              replace hN18 := hN18.up hst
                              replace hV19 := hV19.up hst
                              replace hN20 := hN20.up hst
                              replace hN21 := hN21.up hst
                              replace hB22 := hB22.up hst
                              replace hN23 := hN23.up hst
                              replace hW := btr hW hst
                              clear hst
                              clear m20 m20f n20 n20f hM20
                              clear m21 m21f n21 n21f hM21
                              go_upto_region 14 with fail
                              obtain ⟨p22, c22, k22, k22f, hC22⟩ := id hB22
                              obtain ⟨q23, cq23, ⟨⟨m23, m23f⟩, ⟨n23, n23f⟩, -⟩, hM23⟩ := id hN23
                              obtain ⟨q24, cq24, ⟨⟨m24, m24f⟩, ⟨n24, n24f⟩, -⟩, hM24⟩ := id hN24
                              obtain ⟨s, hs0⟩ : ∃ s, wc.heap.size = s := ⟨_, rfl⟩
                              have HS := Lib.hid hs0; clear hs0
                              obtain ⟨tab, htab⟩ : ∃ t : Nat → Ent, t = tabL [(5, eK (.bool true)), (12, eR ((kk : Int) + k2 - 2) u1), (14, eK (.bool true))] := ⟨_, rfl⟩
                              refine wp_region_tab wc tab [(0, 0), (1, 0), (2, 0), (3, 0), (4, 0), (5, 1), (6, 0), (7, 0), (8, 0), (9, 0), (10, 0), (11, 0), (12, 1), (13, 0), (14, 1), (15, 0), (16, 0)] .nil (by kernel_rfl) (by kernel_rfl) (by kernel_rfl) (Below.drew (Below.refl _ _)) ?_
                              refine seqX_pure (v := ?_) rfl (by rfl) ?_ ?_
                              rotate_left
                              · (intro w hS hF; go_simp; try with_reducible rfl)
                              (try simp only [Act.put, List.setIfInBounds_toArray, List.set_cons_zero, List.set_cons_succ])
                              refine seqX_pure (v := ?_) rfl (by rfl) ?_ ?_
                              rotate_left
                              · (intro w hS hF; go_simp; try with_reducible rfl)
                              (try simp only [Act.put, List.setIfInBounds_toArray, List.set_cons_zero, List.set_cons_succ])
                              refine seqX_pure (v := ?_) rfl (by rfl) ?_ ?_
                              rotate_left
                              · (intro w hS hF; go_simp; try with_reducible rfl)
                              (try simp only [Act.put, List.setIfInBounds_toArray, List.set_cons_zero, List.set_cons_succ])
                              refine seqX_pure (v := ?_) rfl (by rfl) ?_ ?_
                              rotate_left
                              · (intro w hS hF; have kk := oldcell hS k22 (World.block_lt_of_cell? _ _ k22); go_simp; try with_reducible rfl)
                              (try simp only [Act.put, List.setIfInBounds_toArray, List.set_cons_zero, List.set_cons_succ])
                              refine seqX_pure (v := ?_) rfl (by rfl) ?_ ?_
                              rotate_left
                              · (intro w hS hF; have kk := oldcell hS m23 (World.block_lt_of_cell? _ _ m23); have kk2 := oldcell hS n23 (World.block_lt_of_cell? _ _ n23); go_simp; try with_reducible rfl)
                              (try simp only [Act.put, List.setIfInBounds_toArray, List.set_cons_zero, List.set_cons_succ])
                              refine seqX_call (e := eK (.bool true)) (f := ?_) (args := ?_) (by rw [htab]; rfl) rfl (by rfl) ?_ ?_ ?_
                              rotate_left 2
                              · (intro w; go_simp; first | done | with_reducible rfl | (refine ⟨?_, ?_⟩ <;> with_reducible rfl))
                              · (intro w hS hF; refine (mxvalid_w (p := p22) (cap := c22) (ar := (kk : Int) + k2 - 2) (hM23.up hS) P1.out.ok hd1 (HJ9.out (by omega)) (by omega) (by omega)).mono ?_; intro e w' h; exact keep_x h)
                              rintro ⟨p90, c90, q90, d90, b90⟩
                              (try dsimp only [eCM, eC, eCI, eM, eR, eS, eX, eB, eK, eVC, eVM])
                              (try simp only [Act.put, List.setIfInBounds_toArray, List.set_cons_zero, List.set_cons_succ])
                              refine seqX_pure (v := ?_) rfl (by rfl) ?_ ?_
                              rotate_left
                              · (intro w hS hF; go_simp; try with_reducible rfl)
                              (try simp only [Act.put, List.setIfInBounds_toArray, List.set_cons_zero, List.set_cons_succ])
                              refine seqX_pure (v := ?_) rfl (by rfl) ?_ ?_
                              rotate_left
                              · (intro w hS hF; go_simp; try with_reducible rfl)
                              (try simp only [Act.put, List.setIfInBounds_toArray, List.set_cons_zero, List.set_cons_succ])
                              refine seqX_pure (v := ?_) rfl (by rfl) ?_ ?_
                              rotate_left
                              · (intro w hS hF; go_simp; try with_reducible rfl)
                              (try simp only [Act.put, List.setIfInBounds_toArray, List.set_cons_zero, List.set_cons_succ])
                              refine seqX_pure (v := ?_) rfl (by rfl) ?_ ?_
                              rotate_left
                              · (intro w hS hF; have kk := oldcell hS k22 (World.block_lt_of_cell? _ _ k22); go_simp; try with_reducible rfl)
                              (try simp only [Act.put, List.setIfInBounds_toArray, List.set_cons_zero, List.set_cons_succ])
                              refine seqX_pure (v := ?_) rfl (by rfl) ?_ ?_
                              rotate_left
                              · (intro w hS hF; have kk := oldcell hS m23 (World.block_lt_of_cell? _ _ m23); have kk2 := oldcell hS n23 (World.block_lt_of_cell? _ _ n23); go_simp; try with_reducible rfl)
                              (try simp only [Act.put, List.setIfInBounds_toArray, List.set_cons_zero, List.set_cons_succ])
                              refine seqX_pure (v := ?_) rfl (by rfl) ?_ ?_
                              rotate_left
                              · (intro w hS hF; go_simp; try with_reducible rfl)
                              (try simp only [Act.put, List.setIfInBounds_toArray, List.set_cons_zero, List.set_cons_succ])
                              refine seqX_call (e := eR ((kk : Int) + k2 - 2) u1) (f := ?_) (args := ?_) (by rw [htab]; rfl) rfl (by rfl) ?_ ?_ ?_
                              rotate_left 2
                              · (intro w; go_simp; first | done | with_reducible rfl | (refine ⟨?_, ?_⟩ <;> with_reducible rfl))
                              · (intro w hS hF; refine (mvalue_is (V := V) (nv := V.length) (ar := (kk : Int) + k2 - 2) (p := p22) (cap := c22) (hC22.mono hS) (hM23.up hS) (hV19.mono hS) P1.out.good.wf hd1 (by omega) rfl hVm P1.out.val).mono ?_; intro e w' h; exact RetR.x h)
                              rintro ⟨p97, c97, q97, d97, b97⟩
                              (try dsimp only [eCM, eC, eCI, eM, eR, eS, eX, eB, eK, eVC, eVM])
                              (try simp only [Act.put, List.setIfInBounds_toArray, List.set_cons_zero, List.set_cons_succ])
                              refine seqX_pure (v := ?_) rfl (by rfl) ?_ ?_
                              rotate_left
                              · (intro w hS hF; have kk := oldcell hS m24 (World.block_lt_of_cell? _ _ m24); have kk2 := oldcell hS n24 (World.block_lt_of_cell? _ _ n24); go_simp; try with_reducible rfl)
                              (try simp only [Act.put, List.setIfInBounds_toArray, List.set_cons_zero, List.set_cons_succ])
                              refine seqX_call (e := eK (.bool true)) (f := ?_) (args := ?_) (by rw [htab]; rfl) rfl (by rfl) ?_ ?_ ?_
                              rotate_left 2
                              · (intro w; go_simp; first | done | with_reducible rfl | (refine ⟨?_, ?_⟩ <;> with_reducible rfl))
                              · (intro w hS hF; have f1 : SI w q97 d97 u1 := hF 12 (by kernel_rfl); refine (requal_is f1 (hM24.up hS) rfl).mono ?_; intro e w' h; exact keep_x h)
                              rintro ⟨p99, c99, q99, d99, b99⟩
                              (try dsimp only [eCM, eC, eCI, eM, eR, eS, eX, eB, eK, eVC, eVM])
                              (try simp only [Act.put, List.setIfInBounds_toArray, List.set_cons_zero, List.set_cons_succ])
                              refine seqX_pure (v := ?_) rfl (by rfl) ?_ ?_
                              rotate_left
                              · (intro w hS hF; go_simp; try with_reducible rfl)
                              (try simp only [Act.put, List.setIfInBounds_toArray, List.set_cons_zero, List.set_cons_succ])
                              refine seqX_pure (v := ?_) rfl (by rfl) ?_ ?_
                              rotate_left
                              · (intro w hS hF; go_simp; try with_reducible rfl)
                              (try simp only [Act.put, List.setIfInBounds_toArray, List.set_cons_zero, List.set_cons_succ])
                              refine seqX_nil ?_
                              refine seqE_nil ?_
                              intro w hS
                              have hXX := btr hW hS.1
                              replace hB12 := hB12.up hS.1; replace hN17 := hN17.up hS.1; replace hN18 := hN18.up hS.1; replace hV19 := hV19.up hS.1; replace hN20 := hN20.up hS.1; replace hN21 := hN21.up hS.1
                              go_wp2_with fail
                              go_meet
                              exact ⟨hXX, hB12, hN17, hN18, hV19, hN20, hN21⟩
                    case rest =>
                      clear hW hB12 hN17 hN18 hV19 hN20 hN21
                      obtain ⟨hW, hB12, hN17, hN18, hV19, hN20, hN21⟩ := hcut
                      go_upto_if 105 with fail
                      go_cut [] from 26 to 137 (fun wx => Below w.heap.size w wx ∧ Bx wx b12 c ∧ BM wx b17 kk a ∧ BM wx b18 k2 b ∧ BoolsAt wx q19 V ∧ BR wx b20 kk va ∧ BR wx b21 k2 vb)
                      case first =>
                        as_aux_lemma =>
                          by_cases hif : (kk : Int) + (k2 : Int) < (4 : Int)
                          case neg =>
                            (have hif2 : decide ((kk : Int) + (k2 : Int) < (4 : Int)) = false := by simpa using hif)
                            go_wp2_with fail
                            go_meet
                            exact ⟨hW, hB12, hN17, hN18, hV19, hN20, hN21⟩
                          case pos =>
                            have hif2 : decide ((kk : Int) + (k2 : Int) < (4 : Int)) = true := by simpa using hif
                            rw [hif2]
                            clear hif2
                            go_upto_region 17 with fail
                            obtain ⟨p12, c12, k12, k12f, hC12⟩ := id hB12
                            obtain ⟨q17, cq17, ⟨⟨m17, m17f⟩, ⟨n17, n17f⟩, -⟩, hM17⟩ := id hN17
                            obtain ⟨q18, cq18, ⟨⟨m18, m18f⟩, ⟨n18, n18f⟩, -⟩, hM18⟩ := id hN18
                            go_cut [26, 27] from 106 to 113 (fun s26 s27 wx => (∃ (b b' : Nat), s26 = .pointer (some ⟨b, 0, none⟩) ∧ s27 = .pointer (some ⟨b', 0, none⟩) ∧ Bx wx b d2 ∧ BM wx b' ((kk : Int) + k2) m2) ∧ Below wc.heap.size wc wx)
                            case first =>
                              as_aux_lemma =>
                                go_wp2_with (first | (go_at_call 70; refine (productL_is hC12 hM17 hM18 hkk2 hk22 hn0 hn3 GC.out hcl2 OA2.out OB.out E2.out).mono ?_; rintro e w2 ⟨p2, cap2, y2, cy2, rfl, hC2, hM2, hbl⟩))
                                go_meet
                                exact ⟨⟨_, _, rfl, rfl, (Bx.new hC2 _).up (by go_grown), BM.newAt (hM2.up (bal (Below.refl _ _) _)) _ (by simp)⟩, bal (bal hbl _) _⟩
                            case rest =>
                              clear k12 k12f hC12
                              obtain ⟨⟨b26, b27, rfl, rfl, hB26, hN27⟩, hst⟩ := hcut
                              replace hB12 := hB12.up hst
                              replace hN17 := hN17.up hst
                              replace hN18 := hN18.up hst
                              replace hV19 := hV19.up hst
                              replace hN20 := hN20.up hst
                              replace hN21 := hN21.up hst
                              replace hW := btr hW hst
                              clear hst
                              clear m17 m17f n17 n17f hM17
                              clear m18 m18f n18 n18f hM18
                              go_upto_region 18 with fail
                              obtain ⟨q20, cq20, ⟨⟨m20, m20f⟩, ⟨n20, n20f⟩, -⟩, hM20⟩ := id hN20
                              obtain ⟨q21, cq21, ⟨⟨m21, m21f⟩, ⟨n21, n21f⟩, -⟩, hM21⟩ := id hN21
                              go_cut [28, 29] from 114 to 120 (fun s28 s29 wx => (∃ (b : Nat), s28 = .pointer (some ⟨b, 0, none⟩) ∧ s29 = .int .i64 0 ∧ BR wx b ((kk : Int) + k2) u2) ∧ Below wc.heap.size wc wx)
                              case first =>
                                as_aux_lemma =>
                                  go_wp2_with (first | (go_at_call 75; refine (relproduct_is hM20 hM21 (by omega) (by omega) RVA.out RVB.out (by omega) hn0 (by omega) HU2.out).mono ?_; rintro e w1 ⟨p1, cap1, rfl, hR1, hb1⟩))
                                  go_meet
                                  exact ⟨⟨_, rfl, rfl, BR.newAt hR1 _ rfl⟩, bal hb1 _⟩
                              case rest =>
                                obtain ⟨⟨b28, rfl, rfl, hN28⟩, hst⟩ := hcut
                                replace hB12 := hB12.up hst
                                replace hN17 := hN17.up hst
                                replace hN18 := hN18.up hst
                                replace hV19 := hV19.up hst
                                replace hN20 := hN20.up hst
                                replace hN21 := hN21.up hst
                                replace hB26 := hB26.up hst
                                replace hN27 := hN27.up hst
                                replace hW := btr hW hst
                                clear hst
                                clear m20 m20f n20 n20f hM20
                                clear m21 m21f n21 n21f hM21
                                go_upto_region 19 with fail
                                obtain ⟨p26, c26, k26, k26f, hC26⟩ := id hB26
                                obtain ⟨q27, cq27, ⟨⟨m27, m27f⟩, ⟨n27, n27f⟩, -⟩, hM27⟩ := id hN27
                                obtain ⟨q28, cq28, ⟨⟨m28, m28f⟩, ⟨n28, n28f⟩, -⟩, hM28⟩ := id hN28
                                obtain ⟨s, hs0⟩ : ∃ s, wc.heap.size = s := ⟨_, rfl⟩
                                have HS := Lib.hid hs0; clear hs0
                                obtain ⟨tab, htab⟩ : ∃ t : Nat → Ent, t = tabL [(5, eK (.bool true)), (12, eR ((kk : Int) + k2) u2), (14, eK (.bool true))] := ⟨_, rfl⟩
                                refine wp_region_tab wc tab [(0, 0), (1, 0), (2, 0), (3, 0), (4, 0), (5, 1), (6, 0), (7, 0), (8, 0), (9, 0), (10, 0), (11, 0), (12, 1), (13, 0), (14, 1), (15, 0), (16, 0)] .nil (by kernel_rfl) (by kernel_rfl) (by kernel_rfl) (Below.drew (Below.refl _ _)) ?_
                                refine seqX_pure (v := ?_) rfl (by rfl) ?_ ?_
                                rotate_left
                                · (intro w hS hF; go_simp; try with_reducible rfl)
                                (try simp only [Act.put, List.setIfInBounds_toArray, List.set_cons_zero, List.set_cons_succ])
                                refine seqX_pure (v := ?_) rfl (by rfl) ?_ ?_
                                rotate_left
                                · (intro w hS hF; go_simp; try with_reducible rfl)
                                (try simp only [Act.put, List.setIfInBounds_toArray, List.set_cons_zero, List.set_cons_succ])
                                refine seqX_pure (v := ?_) rfl (by rfl) ?_ ?_
                                rotate_left
                                · (intro w hS hF; go_simp; try with_reducible rfl)
                                (try simp only [Act.put, List.setIfInBounds_toArray, List.set_cons_zero, List.set_cons_succ])
                                refine seqX_pure (v := ?_) rfl (by rfl) ?_ ?_
                                rotate_left
                                · (intro w hS hF; have kk := oldcell hS k26 (World.block_lt_of_cell? _ _ k26); go_simp; try with_reducible rfl)
                                (try simp only [Act.put, List.setIfInBounds_toArray, List.set_cons_zero, List.set_cons_succ])
                                refine seqX_pure (v := ?_) rfl (by rfl) ?_ ?_
                                rotate_left
                                · (intro w hS hF; have kk := oldcell hS m27 (World.block_lt_of_cell? _ _ m27); have kk2 := oldcell hS n27 (World.block_lt_of_cell? _ _ n27); go_simp; try with_reducible rfl)
                                (try simp only [Act.put, List.setIfInBounds_toArray, List.set_cons_zero, List.set_cons_succ])
                                refine seqX_call (e := eK (.bool true)) (f := ?_) (args := ?_) (by rw [htab]; rfl) rfl (by rfl) ?_ ?_ ?_
                                rotate_left 2
                                · (intro w; go_simp; first | done | with_reducible rfl | (refine ⟨?_, ?_⟩ <;> with_reducible rfl))
                                · (intro w hS hF; refine (mxvalid_w (p := p26) (cap := c26) (ar := (kk : Int) + k2) (hM27.up hS) P2.out.ok hd2 HP9.out (by omega) (by omega)).mono ?_; intro e w' h; exact keep_x h)
                                rintro ⟨p126, c126, q126, d126, b126⟩
                                (try dsimp only [eCM, eC, eCI, eM, eR, eS, eX, eB, eK, eVC, eVM])
                                (try simp only [Act.put, List.setIfInBounds_toArray, List.set_cons_zero, List.set_cons_succ])
                                refine seqX_pure (v := ?_) rfl (by rfl) ?_ ?_
                                rotate_left
                                · (intro w hS hF; go_simp; try with_reducible rfl)
                                (try simp only [Act.put, List.setIfInBounds_toArray, List.set_cons_zero, List.set_cons_succ])
                                refine seqX_pure (v := ?_) rfl (by rfl) ?_ ?_
                                rotate_left
                                · (intro w hS hF; go_simp; try with_reducible rfl)
                                (try simp only [Act.put, List.setIfInBounds_toArray, List.set_cons_zero, List.set_cons_succ])
                                refine seqX_pure (v := ?_) rfl (by rfl) ?_ ?_
                                rotate_left
                                · (intro w hS hF; go_simp; try with_reducible rfl)
                                (try simp only [Act.put, List.setIfInBounds_toArray, List.set_cons_zero, List.set_cons_succ])
                                refine seqX_pure (v := ?_) rfl (by rfl) ?_ ?_
                                rotate_left
                                · (intro w hS hF; have kk := oldcell hS k26 (World.block_lt_of_cell? _ _ k26); go_simp; try with_reducible rfl)
                                (try simp only [Act.put, List.setIfInBounds_toArray, List.set_cons_zero, List.set_cons_succ])
                                refine seqX_pure (v := ?_) rfl (by rfl) ?_ ?_
                                rotate_left
                                · (intro w hS hF; have kk := oldcell hS m27 (World.block_lt_of_cell? _ _ m27); have kk2 := oldcell hS n27 (World.block_lt_of_cell? _ _ n27); go_simp; try with_reducible rfl)
                                (try simp only [Act.put, List.setIfInBounds_toArray, List.set_cons_zero, List.set_cons_succ])
                                refine seqX_pure (v := ?_) rfl (by rfl) ?_ ?_
                                rotate_left
                                · (intro w hS hF; go_simp; try with_reducible rfl)
                                (try simp only [Act.put, List.setIfInBounds_toArray, List.set_cons_zero, List.set_cons_succ])
                                refine seqX_call (e := eR ((kk : Int) + k2) u2) (f := ?_) (args := ?_) (by rw [htab]; rfl) rfl (by rfl) ?_ ?_ ?_
                                rotate_left 2
                                · (intro w; go_simp; first | done | with_reducible rfl | (refine ⟨?_, ?_⟩ <;> with_reducible rfl))
                                · (intro w hS hF; refine (mvalue_is (V := V) (nv := V.length) (ar := (kk : Int) + k2) (p := p26) (cap := c26) (hC26.mono hS) (hM27.up hS) (hV19.mono hS) P2.out.good.wf hd2 (by omega) rfl hVm P2.out.val).mono ?_; intro e w' h; exact RetR.x h)
                                rintro ⟨p133, c133, q133, d133, b133⟩
                                (try dsimp only [eCM, eC, eCI, eM, eR, eS, eX, eB, eK, eVC, eVM])
                                (try simp only [Act.put, List.setIfInBounds_toArray, List.set_cons_zero, List.set_cons_succ])
                                refine seqX_pure (v := ?_) rfl (by rfl) ?_ ?_
                                rotate_left
                                · (intro w hS hF; have kk := oldcell hS m28 (World.block_lt_of_cell? _ _ m28); have kk2 := oldcell hS n28 (World.block_lt_of_cell? _ _ n28); go_simp; try with_reducible rfl)
                                (try simp only [Act.put, List.setIfInBounds_toArray, List.set_cons_zero, List.set_cons_succ])
                                refine seqX_call (e := eK (.bool true)) (f := ?_) (args := ?_) (by rw [htab]; rfl) rfl (by rfl) ?_ ?_ ?_
                                rotate_left 2
                                · (intro w; go_simp; first | done | with_reducible rfl | (refine ⟨?_, ?_⟩ <;> with_reducible rfl))
                                · (intro w hS hF; have f1 : SI w q133 d133 u2 := hF 12 (by kernel_rfl); refine (requal_is f1 (hM28.up hS) rfl).mono ?_; intro e w' h; exact keep_x h)
                                rintro ⟨p135, c135, q135, d135, b135⟩
                                (try dsimp only [eCM, eC, eCI, eM, eR, eS, eX, eB, eK, eVC, eVM])
                                (try simp only [Act.put, List.setIfInBounds_toArray, List.set_cons_zero, List.set_cons_succ])
                                refine seqX_pure (v := ?_) rfl (by rfl) ?_ ?_
                                rotate_left
                                · (intro w hS hF; go_simp; try with_reducible rfl)
                                (try simp only [Act.put, List.setIfInBounds_toArray, List.set_cons_zero, List.set_cons_succ])
                                refine seqX_pure (v := ?_) rfl (by rfl) ?_ ?_
                                rotate_left
                                · (intro w hS hF; go_simp; try with_reducible rfl)
                                (try simp only [Act.put, List.setIfInBounds_toArray, List.set_cons_zero, List.set_cons_succ])
                                refine seqX_nil ?_
                                refine seqE_nil ?_
                                intro w hS
                                have hXX := btr hW hS.1
                                replace hB12 := hB12.up hS.1; replace hN17 := hN17.up hS.1; replace hN18 := hN18.up hS.1; replace hV19 := hV19.up hS.1; replace hN20 := hN20.up hS.1; replace hN21 := hN21.up hS.1
                                go_wp2_with fail
                                go_meet
                                exact ⟨hXX, hB12, hN17, hN18, hV19, hN20, hN21⟩
                      case rest =>
                        clear hW hB12 hN17 hN18 hV19 hN20 hN21
                        obtain ⟨hW, hB12, hN17, hN18, hV19, hN20, hN21⟩ := hcut
                        clear hN18 hN21
                        by_cases h2k : kk = 2
                        case neg =>
                          have hk9 : ((kk : Int) != 2) = true := by simp; omega
                          have hk8 : ((kk : Int) == 2) = false := by simp; omega
                          go_upto_region 21 with fail
                          obtain ⟨q17, cq17, ⟨⟨m17, m17f⟩, ⟨n17, n17f⟩, -⟩, hM17⟩ := id hN17
                          obtain ⟨s, hs0⟩ : ∃ s, w.heap.size = s := ⟨_, rfl⟩
                          have HS := Lib.hid hs0; clear hs0
                          have hbw := hW
                          have zz : s + 0 ≤ wc.heap.size := by have := HS.out; have := hW.size; omega
                          have hk : Cells wc [(b17, 0, .int .i64 kk), (b17, 1, .slice q17 (a).length cq17)] := ⟨⟨m17, m17f⟩, ⟨n17, n17f⟩, trivial⟩
                          clear m17 m17f n17 n17f
                          have hacc : Below wc.heap.size wc wc := Below.refl _ _
                          clear hW
                          refine wp_region_seqE (fun x => Below wc.heap.size wc x) (.one 0 1 (.one 1 1 (.one 2 1 (.one 3 1 (.one 4 1 (.one 5 1 (.one 6 1 (.one 7 1 (.one 8 1 (.one 9 1 (.one 10 1 (.one 11 1 (.one 12 1 (.one 13 1 (.one 14 1 (.one 15 1 (.one 16 1 (.one 17 1 .nil)))))))))))))))))) (by kernel_rfl) (by kernel_rfl) (by kernel_rfl) (Below.drew (Below.refl _ _)) ?_
                          iterate 5 (refine seqE_free (v := ?_) rfl (by rfl) ?_ ?_; rotate_left; (focus (intro w; go_simp; try with_reducible rfl)); (try simp only [Act.put, List.setIfInBounds_toArray, List.set_cons_zero, List.set_cons_succ]))
                          refine seqE_off rfl (by rfl) ?_
                          (try simp only [Act.put, List.setIfInBounds_toArray, List.set_cons_zero, List.set_cons_succ])
                          refine seqE_off rfl (by rfl) ?_
                          (try simp only [Act.put, List.setIfInBounds_toArray, List.set_cons_zero, List.set_cons_succ])
                          refine seqE_off rfl (by rfl) ?_
                          (try simp only [Act.put, List.setIfInBounds_toArray, List.set_cons_zero, List.set_cons_succ])
                          refine seqE_off rfl (by rfl) ?_
                          (try simp only [Act.put, List.setIfInBounds_toArray, List.set_cons_zero, List.set_cons_succ])
                          refine seqE_off rfl (by rfl) ?_
                          (try simp only [Act.put, List.setIfInBounds_toArray, List.set_cons_zero, List.set_cons_succ])
                          refine seqE_off rfl (by rfl) ?_
                          (try simp only [Act.put, List.setIfInBounds_toArray, List.set_cons_zero, List.set_cons_succ])
                          refine seqE_off rfl (by rfl) ?_
                          (try simp only [Act.put, List.setIfInBounds_toArray, List.set_cons_zero, List.set_cons_succ])
                          refine seqE_off rfl (by rfl) ?_
                          (try simp only [Act.put, List.setIfInBounds_toArray, List.set_cons_zero, List.set_cons_succ])
                          refine seqE_off rfl (by rfl) ?_
                          (try simp only [Act.put, List.setIfInBounds_toArray, List.set_cons_zero, List.set_cons_succ])
                          refine seqE_off rfl (by rfl) ?_
                          (try simp only [Act.put, List.setIfInBounds_toArray, List.set_cons_zero, List.set_cons_succ])
                          iterate 3 (refine seqE_free (v := ?_) rfl (by rfl) ?_ ?_; rotate_left; (focus (intro w; go_simp; try with_reducible rfl)); (try simp only [Act.put, List.setIfInBounds_toArray, List.set_cons_zero, List.set_cons_succ]))
                          clear hk
                          refine seqE_nil ?_
                          intro wz hS
                          replace hM17 := hM17.up hS; replace hbw := btr hbw hS; replace zz := Nat.le_trans zz (Below.size hS); replace hacc := btr hacc hS; clear hS
                          go_wp2_with fail
                          go_ret
                          exact ⟨rfl, hbw⟩
                        case pos =>
                          subst h2k
                          obtain ⟨aT, haT, oa3, haTl, haV⟩ := trans_plain hn3 GC.out OA2.out V
                          rw [HVA.out] at haV
                          obtain ⟨u3, hu3⟩ : ∃ l, rTr n va = l := ⟨_, rfl⟩
                          rw [hu3] at haV
                          have HAT := Lib.hid haT; have OA3 := Lib.hid oa3; have HAV := Lib.hid haV; have HU3 := Lib.hid hu3
                          clear haT oa3 haV hu3
                          go_upto_region 21 with fail
                          obtain ⟨p12, c12, k12, k12f, hC12⟩ := id hB12
                          obtain ⟨q17, cq17, ⟨⟨m17, m17f⟩, ⟨n17, n17f⟩, -⟩, hM17⟩ := id hN17
                          obtain ⟨q20, cq20, ⟨⟨m20, m20f⟩, ⟨n20, n20f⟩, -⟩, hM20⟩ := id hN20
                          obtain ⟨s, hs0⟩ : ∃ s, w.heap.size = s := ⟨_, rfl⟩
                          have HS := Lib.hid hs0; clear hs0
                          have hbw := hW
                          have zz : s + 0 ≤ wc.heap.size := by have := HS.out; have := hW.size; omega
                          have hk : Cells wc [(b12, 0, .slice p12 (c).length c12), (b17, 0, .int .i64 2), (b17, 1, .slice q17 (a).length cq17), (b20, 0, .int .i64 2), (b20, 1, .slice q20 (va).length cq20)] := ⟨⟨k12, k12f⟩, ⟨m17, m17f⟩, ⟨n17, n17f⟩, ⟨m20, m20f⟩, ⟨n20, n20f⟩, trivial⟩
                          clear k12 k12f m17 m17f n17 n17f m20 m20f n20 n20f
                          have hacc : Below wc.heap.size wc wc := Below.refl _ _
                          clear hW
                          refine wp_region_seqE (fun x => Below wc.heap.size wc x) (.one 0 1 (.one 1 1 (.one 2 1 (.one 3 1 (.one 4 1 (.one 5 0 (.one 6 1 (.one 7 0 (.one 9 1 (.one 11 1 (.one 12 0 (.alt 8 2 (.alt 10 2 (.alt 13 3 (.alt 14 2 (.one 15 1 (.one 16 1 (.one 17 1 .nil))) .stop) .stop) .stop) .stop)))))))))))) (by kernel_rfl) (by kernel_rfl) (by kernel_rfl) (Below.drew (Below.refl _ _)) ?_
                          iterate 11 (first | (refine seqE_free (v := ?_) rfl (by rfl) ?_ ?_; rotate_left; (focus (intro w; go_simp; try with_reducible rfl)); (try simp only [Act.put, List.setIfInBounds_toArray, List.set_cons_zero, List.set_cons_succ])) | (refine seqE_pure (v := ?_) rfl (by rfl) ?_ ?_; rotate_left; (focus (intro w hS; obtain ⟨⟨k12, -⟩, ⟨m17, -⟩, ⟨n17, -⟩, ⟨m20, -⟩, ⟨n20, -⟩, -⟩ := hk.up hS; go_simp; try with_reducible rfl)); (try simp only [Act.put, List.setIfInBounds_toArray, List.set_cons_zero, List.set_cons_succ])))
                          clear hk
                          refine seqE_call (f := ?_) (args := ?_) rfl (by rfl) ?_ ?_ seqE_stop
                          rotate_left 2
                          focus (intro w hS; go_simp; first | done | with_reducible rfl | (refine ⟨?_, ?_⟩ <;> with_reducible rfl))
                          intro w1 hS
                          refine (mtransposeL_is (hM17.up hS) OA3.out hn0 hn3 HAT.out).mono ?_
                          rintro e v1 ⟨y1, cy1, rfl, hX1, hbl⟩
                          refine ⟨_, rfl, (fun x => Below v1.heap.size v1 x), Below.refl _ _, fun x hx => btr (btr hS hbl) hx, ?_⟩
                          have hXw := Nat.le_trans zz hS.size; have hXa := Nat.le_trans hacc.size hS.size
                          have hX := btr hS hbl
                          replace hC12 := hC12.mono hX; replace hM17 := hM17.up hX; replace hM20 := hM20.up hX; replace hV19 := hV19.mono hX; replace hbw := btr hbw hX; replace zz := Nat.le_trans zz (Below.size hX); replace hacc := btr hacc hX
                          clear hX hS hbl hXw hXa
                          (try simp only [Act.put, List.setIfInBounds_toArray, List.set_cons_zero, List.set_cons_succ])
                          refine seqE_call (f := ?_) (args := ?_) rfl (by rfl) ?_ ?_ seqE_stop
                          rotate_left 2
                          focus (intro w hS; go_simp; first | done | with_reducible rfl | (refine ⟨?_, ?_⟩ <;> with_reducible rfl))
                          intro w2 hS
                          refine (mvalue_is (V := V) (nv := V.length) (ar := 2) (p := p12) (cap := c12) (hC12.mono hS) (hX1.up hS) (hV19.mono hS) GC.out.wf hcl3 haTl rfl hVm HAV.out).mono ?_
                          rintro e v2 ⟨y2, cy2, rfl, hX2, hbl⟩
                          refine ⟨_, rfl, (fun x => Below v2.heap.size v2 x), Below.refl _ _, fun x hx => btr (btr hS hbl) hx, ?_⟩
                          have hXw := Nat.le_trans zz hS.size; have hXa := Nat.le_trans hacc.size hS.size
                          have hX := btr hS hbl
                          replace hC12 := hC12.mono hX; replace hM17 := hM17.up hX; replace hM20 := hM20.up hX; replace hV19 := hV19.mono hX; replace hX1 := hX1.up hX; replace hbw := btr hbw hX; replace zz := Nat.le_trans zz (Below.size hX); replace hacc := btr hacc hX
                          clear hX hS hbl hXw hXa
                          (try simp only [Act.put, List.setIfInBounds_toArray, List.set_cons_zero, List.set_cons_succ])
                          refine seqE_callB (f := ?_) (args := ?_) rfl (by rfl) ?_ ?_ seqE_stop
                          rotate_left 2
                          focus (intro w hS; go_simp; first | done | with_reducible rfl | (refine ⟨?_, ?_⟩ <;> with_reducible rfl))
                          intro w3 hS
                          refine (reltrans_is (hM20.up hS) (by omega) SVA.out hn0 (by omega) HU3.out).mono ?_
                          rintro e v3 ⟨y3, cy3, rfl, hX3, hbl⟩
                          refine ⟨_, rfl, (fun x => Below v3.heap.size v3 x), Below.refl _ _, ?_⟩
                          have hXw := Nat.le_trans zz hS.size; have hXa := Nat.le_trans hacc.size hS.size
                          have hX := btr hS hbl
                          replace hC12 := hC12.mono hX; replace hM17 := hM17.up hX; replace hM20 := hM20.up hX; replace hV19 := hV19.mono hX; replace hX1 := hX1.up hX; replace hX2 := hX2.up hX; replace hbw := btr hbw hX; replace zz := Nat.le_trans zz (Below.size hX); replace hacc := btr hacc hX
                          clear hX hS hbl hXw hXa
                          (try simp only [Act.put, List.setIfInBounds_toArray, List.set_cons_zero, List.set_cons_succ])
                          refine seqE_keep (v := .bool true) (f := ?_) (args := ?_) rfl (by rfl) ?_ ?_ ?_ seqE_stop
                          rotate_left 2
                          focus (intro w hS; go_simp; first | done | with_reducible rfl | (refine ⟨?_, ?_⟩ <;> with_reducible rfl))
                          focus (intro w hS; refine (requal_is (hX2.up hS) (hX3.up hS) rfl).mono ?_; rintro e w2 ⟨rfl, hbl⟩; exact ⟨rfl, btr hS hbl⟩)
                          (try simp only [Act.put, List.setIfInBounds_toArray, List.set_cons_zero, List.set_cons_succ])
                          iterate 3 (refine seqE_free (v := ?_) rfl (by rfl) ?_ ?_; rotate_left; (focus (intro w; go_simp; try with_reducible rfl)); (try simp only [Act.put, List.setIfInBounds_toArray, List.set_cons_zero, List.set_cons_succ]))
                          refine seqE_nil ?_
                          intro wz hS
                          replace hC12 := hC12.mono hS; replace hM17 := hM17.up hS; replace hM20 := hM20.up hS; replace hV19 := hV19.mono hS; replace hX1 := hX1.up hS; replace hX2 := hX2.up hS; replace hX3 := hX3.up hS; replace hbw := btr hbw hS; replace zz := Nat.le_trans zz (Below.size hS); replace hacc := btr hacc hS; clear hS
                          go_wp2_with fail
                          go_ret
                          exact ⟨rfl, hbw⟩
end Go.Proofs.Ytadilppdlbhjnaa
