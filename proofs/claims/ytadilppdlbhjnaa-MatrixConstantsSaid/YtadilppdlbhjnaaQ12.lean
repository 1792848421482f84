/- Walk of MatrixConstants. -/
import Derived.Test.YtadilppdlbhjnaaGY
import Derived.Test.YtadilppdlbhjnaaGT
namespace Go.Proofs.Ytadilppdlbhjnaa
set_option linter.unusedSimpArgs false
set_option linter.unusedVariables false
open Go.RowKit

theorem diff_is {c d : List Gate} {a b m : List Cell} {ar1 ar2 : Int} {p pa pb : Option Addr} {cap ca cb : Nat} {w : World} (hC : CAt w p cap c) (hA : MxAt w pa ca a) (hD : MxAt w pb cb b) (ra : ∀ x ∈ a, x.ref ≤ 100000) (rb : ∀ x ∈ b, x.ref ≤ 100000) (hl : c.length + (a.length + b.length) ≤ 20000) (hc0 : 0 < c.length) (e : mDiff c a b = (d, m)) :
    Calls Try.prog 52 #[.agg #[.slice p c.length cap], .agg #[.int .i64 ar1, .slice pa a.length ca], .agg #[.int .i64 ar2, .slice pb b.length cb]] w (RetCM w d ar1 m) := (diff_any c a b ar1 ar2 p pa pb cap ca cb w hC hA hD ra rb hl hc0).mono fun _ _ h => h.cm.eq e
theorem made_nil {vs : List Nat} {n k : Nat} {pv : Option Addr} {cv : Nat} {w : World} {m : List Cell} (hV : UbAt w pv vs) (hvl : vs.length ≤ maxLen) (hv8 : ∀ v ∈ vs, v < 256) (hn0 : 0 < n) (hn : n ≤ 12) (hk0 : 0 < k) (hk : k ≤ 3) (e : mMade [] vs (n ^ k) = m) :
    Calls Try.prog 35 #[.slice none 0 0, .int .i64 n, .int .i64 k, .slice pv vs.length cv] w (RetM w k m) := by
  subst e
  refine (made14_any [] vs n k none pv 0 cv w (.inl rfl) (by simp) (fun r hr => by cases hr) hV hvl hv8 hn0 hn hk0 hk).mono ?_
  rintro e w' ⟨p, cap, h1, h2, h3, -⟩
  exact ⟨p, cap, h1, h2, h3⟩
theorem mvalue_fr {c : List Gate} {m : List Cell} {V : List Bool} {ar : Int} {p pm pv : Option Addr} {cap cm cv nv : Nat} {w : World} {l : List Int} (hC : CAt w p cap c) (hM : MxAt w pm cm m) (hV : BoolsAt w pv V) (hw : WfC c) (hl : c.length ≤ 20000) (hml : m.length ≤ 20000) (hn : V.length = nv) (hvl : nv ≤ maxLen) (e : mValue c V m = l) :
    Calls Try.prog 30 #[.agg #[.slice p c.length cap], .agg #[.int .i64 ar, .slice pm m.length cm], .slice pv nv cv] w (fun e w' => ∃ q cq, e = .returned (.agg #[.int .i64 ar, .slice q l.length cq]) ∧ SI w' q cq l ∧ (∀ ad, q = some ad → w.heap.size ≤ ad.block) ∧ Below w.heap.size w w') := by
  subst hn e; exact mvalue_anyF c m V ar p pm pv cap cm cv w hC hM hV hw hl hml hvl
theorem relunion_is {a b l : List Int} {ar1 ar2 : Int} {pa pb : Option Addr} {ca cb : Nat} {w : World} (hA : SI w pa ca a) (hD : SI w pb cb b) (hl : a.length + b.length ≤ 40000) (e : rUnion a b = l) :
    Calls Try.prog 63 #[.agg #[.int .i64 ar1, .slice pa a.length ca], .agg #[.int .i64 ar2, .slice pb b.length cb]] w (RetR w ar1 l) := by
  subst e
  exact (relunion_any a b ar1 ar2 pa pb ca cb w hA hD hl).mono fun e w' ⟨q, cq, h1, h2, _, h4⟩ => ⟨q, cq, h1, h2, h4⟩
theorem reldiff_is {a b l : List Int} {ar1 ar2 : Int} {pa pb : Option Addr} {ca cb : Nat} {w : World} (hA : SI w pa ca a) (hD : SI w pb cb b) (hla : a.length ≤ 20000) (hlb : b.length ≤ 20000) (ha : ∀ x ∈ a, 0 ≤ x ∧ x < 100000) (hb : ∀ x ∈ b, 0 ≤ x ∧ x < 100000) (e : rDiff a b = l) :
    Calls Try.prog 67 #[.agg #[.int .i64 ar1, .slice pa a.length ca], .agg #[.int .i64 ar2, .slice pb b.length cb]] w (RetR w ar1 l) := by
  subst e; exact reldiff_any a b ar1 ar2 pa pb ca cb w hA hD hla hlb ha hb
theorem relover_is {a b l : List Int} {ar1 : Int} {kk n : Nat} {pa pb : Option Addr} {ca cb : Nat} {w : World} (hA : SI w pa ca a) (hD : SI w pb cb b) (hla : a.length ≤ 10000) (hlb : b.length ≤ 10000) (ha : ∀ x ∈ a, 0 ≤ x ∧ x < 100000) (hb : ∀ x ∈ b, 0 ≤ x ∧ x < 100000) (hk0 : 0 < kk) (hk3 : kk ≤ 3) (hn0 : 0 < n) (hn : n ≤ 12) (e : rOver (n ^ (kk - 1)) a b = l) :
    Calls Try.prog 68 #[.int .i64 n, .agg #[.int .i64 ar1, .slice pa a.length ca], .agg #[.int .i64 kk, .slice pb b.length cb]] w (RetR w kk l) := by
  subst e
  obtain ⟨k, rfl⟩ : ∃ k, kk = k + 1 := ⟨kk - 1, by omega⟩
  have h := relover_any a b ar1 k n (n ^ k) pa pb ca cb w hA hD hla hlb ha hb (by omega) hn0 hn rfl
  rw [Nat.add_sub_cancel]
  rw [show ((k + 1 : Nat) : Int) = (k : Int) + 1 by omega]
  exact h
theorem reljoin_is {a b l : List Int} {kk k2 n : Nat} {pa pb : Option Addr} {ca cb : Nat} {w : World} (hA : SI w pa ca a) (hD : SI w pb cb b) (hla : a.length ≤ 20) (hlb : b.length ≤ 20) (hra : ∀ x ∈ a, 0 ≤ x ∧ x < 2000) (hrb : ∀ x ∈ b, 0 ≤ x ∧ x < 2000) (hk0 : 0 < kk) (h20 : 0 < k2) (h3 : 2 < kk + k2) (hk : kk ≤ 2) (h2 : k2 ≤ 2) (hn0 : 0 < n) (hn : n ≤ 12) (e : rJoin n ((n ^ (k2 - 1) : Nat) : Int) a b = l) :
    Calls Try.prog 62 #[.int .i64 n, .agg #[.int .i64 kk, .slice pa a.length ca], .agg #[.int .i64 k2, .slice pb b.length cb]] w
      (fun e w' => ∃ q cq, e = .returned (.tuple #[.agg #[.int .i64 ((kk : Int) + k2 - 2), .slice q l.length cq], .int .i64 0]) ∧ SI w' q cq l ∧ Below w.heap.size w w') := by
  subst e
  obtain ⟨k, rfl⟩ : ∃ k, kk = k + 1 := ⟨kk - 1, by omega⟩
  obtain ⟨k', rfl⟩ : ∃ k, k2 = k + 1 := ⟨k2 - 1, by omega⟩
  have h := reljoin_any n k k' (n ^ k') a b ((k + 1 : Nat) : Int) ((k' + 1 : Nat) : Int) pa pb ca cb w hA hD hla hlb hra hrb hn0 hn (by omega) (by omega) (by omega) (by omega) rfl
  refine h.mono ?_
  rintro e w' ⟨q, cq, h1, h2, -, h4⟩
  refine ⟨q, cq, ?_, h2, h4⟩
  rw [h1, show ((k + 1 : Nat) : Int) + ((k' + 1 : Nat) : Int) - 2 = (k : Int) + k' by omega, Nat.add_sub_cancel]

set_option maxRecDepth 100000 in
set_option maxHeartbeats 8000000 in
theorem matrixConstants_any (k : Nat) (x : List Nat) (px : Option Addr) (cx : Nat) (y : List Nat) (py : Option Addr) (cy : Nat) (z : Nat) (w : World) (hk : k < 256) (hlx : x.length ≤ maxLen) (h8x : ∀ v ∈ x, v < 256) (hux : UbAt w px x) (hly : y.length ≤ maxLen) (h8y : ∀ v ∈ y, v < 256) (huy : UbAt w py y) (hz : z < 256) :
    Calls Try.prog 12 #[.int .u8 k, .slice px x.length cx, .slice py y.length cy, .int .u8 z] w (RetB w true) := by
  have H8x := Lib.hid h8x; have HUx := Lib.hid hux; have H8y := Lib.hid h8y; have HUy := Lib.hid huy; clear h8x hux h8y huy
  obtain ⟨n, hn⟩ : ∃ n, k % 3 + 1 = n := ⟨_, rfl⟩
  obtain ⟨kk, hkk⟩ : ∃ n, k / 3 % 2 + 1 = n := ⟨_, rfl⟩
  obtain ⟨k2, hk2⟩ : ∃ n, k / 6 % 2 + 1 = n := ⟨_, rfl⟩
  have hn0 : 0 < n := by omega
  have hn3 : n ≤ 3 := by omega
  have hkk0 : 0 < kk := by omega
  have hkk2 : kk ≤ 2 := by omega
  have hk20 : 0 < k2 := by omega
  have hk22 : k2 ≤ 2 := by omega
  have hcl : cnew.length = 1 := rfl
  obtain ⟨V, hV0⟩ : ∃ V, vbits z 8 = V := ⟨_, rfl⟩
  have hVl : V.length = 8 := by rw [← hV0]; exact vbits_len _ _
  have oa := mok_made x (n ^ kk); have ob := mok_made y (n ^ kk); have oz := mok_made y (n ^ k2)
  have ka := km_made x (n ^ kk); have kb := km_made y (n ^ kk); have kz := km_made y (n ^ k2)
  obtain ⟨a, ha⟩ : ∃ a, mMade [] x (n ^ kk) = a := ⟨_, rfl⟩
  obtain ⟨b, hb⟩ : ∃ a, mMade [] y (n ^ kk) = a := ⟨_, rfl⟩
  obtain ⟨za, hza⟩ : ∃ a, mMade [] y (n ^ k2) = a := ⟨_, rfl⟩
  rw [ha] at oa ka; rw [hb] at ob kb; rw [hza] at oz kz
  have n9 := pow_9 hn3 hkk2; have n92 := pow_9 hn3 hk22
  have la : a.length ≤ 9 := Nat.le_trans oa.len n9
  have lb : b.length ≤ 9 := Nat.le_trans ob.len n9
  have lz : za.length ≤ 9 := Nat.le_trans oz.len n92
  obtain ⟨m1, m2, m3, r, e1, e2, e3, e4, f0, f1, f2, f3, l1, l2, l3, hr⟩ := konst_plain hkk0 hkk2 hn3 hn0 oa ob ka kb V
  obtain ⟨m4, e5, f4, f5, l4⟩ := konst_join hkk0 hkk2 hk20 hk22 hn3 hn0 oa oz ka kz V
  have rva := value_range V oa n9; have rvb := value_range V ob n9
  have sva : ∀ x ∈ mValue cnew V a, 0 ≤ x ∧ x < 2000 := fun x hx => by obtain ⟨y, hy, -, rfl⟩ := (mem_val V oa x).1 hx; have := oa.ranks y hy; omega
  have svz : ∀ x ∈ mValue cnew V za, 0 ≤ x ∧ x < 2000 := fun x hx => by obtain ⟨y, hy, -, rfl⟩ := (mem_val V oz x).1 hx; have := oz.ranks y hy; omega
  have lva := mValue_len cnew V a; have lvb := mValue_len cnew V b; have lvz := mValue_len cnew V za
  obtain ⟨va, hva⟩ : ∃ l, mValue cnew V a = l := ⟨_, rfl⟩
  obtain ⟨vb, hvb⟩ : ∃ l, mValue cnew V b = l := ⟨_, rfl⟩
  obtain ⟨vz, hvz⟩ : ∃ l, mValue cnew V za = l := ⟨_, rfl⟩
  rw [hva] at f0 f1 f2 f3 f5 hr rva sva lva; rw [hvb] at f1 f2 f3 hr rvb lvb; rw [hvz] at f4 f5 svz lvz
  obtain ⟨u1, hu1⟩ : ∃ l, rUnion va vb = l := ⟨_, rfl⟩
  obtain ⟨u2, hu2⟩ : ∃ l, rDiff va vb = l := ⟨_, rfl⟩
  obtain ⟨u3, hu3⟩ : ∃ l, rOver (n ^ (kk - 1)) va vb = l := ⟨_, rfl⟩
  obtain ⟨u4, hu4⟩ : ∃ l, rJoin n ((n ^ (k2 - 1) : Nat) : Int) va vz = l := ⟨_, rfl⟩
  rw [hu1] at f1; rw [hu2] at f2; rw [hu3] at f3; rw [hu4] at f5
  have hlu1 : u1.length ≤ 9 := by have h := congrArg List.length f1; unfold mConst at h; rw [List.length_map] at h; omega
  have hlu2 : u2.length ≤ 9 := by have h := congrArg List.length f2; unfold mConst at h; rw [List.length_map] at h; omega
  have hlu3 : u3.length ≤ 9 := by have h := congrArg List.length f3; unfold mConst at h; rw [List.length_map] at h; omega
  have hlu4 : u4.length ≤ 9 := by have h := congrArg List.length f5; unfold mConst at h; rw [List.length_map] at h; omega
  have hlva : va.length ≤ 9 := by omega
  have hlvb : vb.length ≤ 9 := by omega
  have hlvz : vz.length ≤ 9 := by omega
  have hr0 : 0 ≤ r := by rcases hr with ⟨h, -⟩ | ⟨h, -⟩ <;> omega
  have hr1 : r ≤ 1 := by rcases hr with ⟨h, -⟩ | ⟨h, -⟩ <;> omega
  have hrb : (r == 0) = ((rDiff va vb).length == 0) := by rcases hr with ⟨h, h'⟩ | ⟨h, h'⟩ <;> (rw [h']; subst h; rfl)
  have hr0' : decide (r < 0) = false := decide_eq_false (by omega)
  have hr1' : decide (1 < r) = false := decide_eq_false (by omega)
  have HA := Lib.hid ha; have HB := Lib.hid hb; have HZA := Lib.hid hza; have OA := Lib.hid oa; have OB := Lib.hid ob; have OZ := Lib.hid oz; have HVB := Lib.hid hV0; have HVL := Lib.hid hVl
  have E1 := Lib.hid e1; have E2 := Lib.hid e2; have E3 := Lib.hid e3; have E4 := Lib.hid e4; have E5 := Lib.hid e5; have F0 := Lib.hid f0; have F1 := Lib.hid f1; have F2 := Lib.hid f2; have F3 := Lib.hid f3; have F4 := Lib.hid f4; have F5 := Lib.hid f5
  have RVA := Lib.hid rva; have RVB := Lib.hid rvb; have SVA := Lib.hid sva; have SVZ := Lib.hid svz; have HVA := Lib.hid hva; have HVC := Lib.hid hvb; have HVZ := Lib.hid hvz; have HU1 := Lib.hid hu1; have HU2 := Lib.hid hu2; have HU3 := Lib.hid hu3; have HU4 := Lib.hid hu4; have HRB := Lib.hid hrb; have HR0 := Lib.hid hr0'; have HR1 := Lib.hid hr1'; have HCL := Lib.hid hcl
  have HN := Lib.hid hn; have HKK := Lib.hid hkk; have HK2 := Lib.hid hk2
  have hW : Below w.heap.size w w := Below.refl _ _
  have gcn := good_cnew
  have hVm : V.length ≤ maxLen := by rw [hVl]; unfold maxLen; omega
  clear hcl ha hb hza oa ob oz ka kb kz hV0 hVl e1 e2 e3 e4 e5 f0 f1 f2 f3 f4 f5 rva rvb sva svz hva hvb hvz hu1 hu2 hu3 hu4 hn hkk hk2 hr hrb hr0' hr1' lva lvb lvz n9 n92
  go_enter Try.func12, Try.ntmps12
  go_upto_region 1 with fail
  go_cut [9] from 32 to 32 (fun s9 wx => (s9 = .bool true) ∧ Below w.heap.size w wx)
  case first =>
    as_aux_lemma =>
      go_wp2_with (first | (go_at_call 32; refine (head14_any _).mono ?_; rintro e w2 ⟨rfl, hbl⟩))
      go_meet
      exact ⟨rfl, (by first | exact hbl | exact btr (by go_grown) hbl)⟩
  case rest =>
    obtain ⟨rfl, hst⟩ := hcut
    replace hW := btr hW hst
    clear hst
    go_upto_region 2 with fail
    go_cut [10, 11, 12] from 33 to 38 (fun s10 s11 s12 wx => (s10 = .int .i64 n ∧ s11 = .int .i64 kk ∧ s12 = .int .i64 k2) ∧ Below wc.heap.size wc wx)
    case first =>
      as_aux_lemma =>
        go_wp2_with (first | (go_at_call 34; refine (atoms_any k _ hk).mono ?_; rw [HN.out, HKK.out, HK2.out]; rintro e w2 ⟨rfl, hbl⟩))
        go_meet
        exact ⟨⟨rfl, rfl, rfl⟩, hbl⟩
    case rest =>
      obtain ⟨⟨rfl, rfl, rfl⟩, hst⟩ := hcut
      replace hW := btr hW hst
      clear hst
      go_upto_region 3 with fail
      go_cut [13] from 39 to 40 (fun s13 wx => (∃ (q : Option Addr) (cq : Nat), s13 = .slice q V.length cq ∧ BoolsAt wx q V) ∧ Below wc.heap.size wc wx)
      case first =>
        as_aux_lemma =>
          go_wp2_with (first | (go_at_call 36; refine (values1_any z _ (by omega) (by omega)).mono ?_; rw [HVB.out]; rintro e w2 ⟨q2, cq2, rfl, hV2, hv0, hbl⟩))
          go_meet
          exact ⟨⟨_, _, rfl, hV2⟩, hbl⟩
      case rest =>
        obtain ⟨⟨q13, cq13, rfl, hV13⟩, hst⟩ := hcut
        replace hW := btr hW hst
        clear hst
        go_upto_region 4 with fail
        go_cut [14] from 41 to 41 (fun s14 wx => (∃ (b : Nat), s14 = .pointer (some ⟨b, 0, none⟩) ∧ Bx wx b cnew) ∧ Below wc.heap.size wc wx)
        case first =>
          as_aux_lemma =>
            go_wp2_with (first | (go_at_call 31; refine (rnew_is _).mono ?_; rintro e w2 ⟨p2, cap2, rfl, hC2, hbl⟩))
            go_meet
            exact ⟨⟨_, rfl, Bx.new hC2 _⟩, bal hbl _⟩
        case rest =>
          obtain ⟨⟨b14, rfl, hB14⟩, hst⟩ := hcut
          replace hV13 := hV13.up hst
          replace hW := btr hW hst
          clear hst
          go_upto_region 5 with fail
          go_cut [15] from 42 to 45 (fun s15 wx => (∃ (bk : Nat), s15 = .pointer (some ⟨bk, 0, none⟩) ∧ BM wx bk kk a) ∧ Below wc.heap.size wc wx)
          case first =>
            as_aux_lemma =>
              go_wp2_with (first | (go_at_call 35; refine (made_nil (HUx.out.mono hW) hlx H8x.out hn0 (by omega) hkk0 (by omega) HA.out).mono ?_; rintro e w2 ⟨p2, cap2, rfl, hM2, hbl⟩))
              go_meet
              exact ⟨⟨_, rfl, BM.newAt hM2 _ rfl⟩, bal hbl _⟩
          case rest =>
            obtain ⟨⟨b15, rfl, hN15⟩, hst⟩ := hcut
            replace hV13 := hV13.up hst
            replace hB14 := hB14.up hst
            replace hW := btr hW hst
            clear hst
            go_upto_region 6 with fail
            go_cut [16] from 46 to 49 (fun s16 wx => (∃ (bk : Nat), s16 = .pointer (some ⟨bk, 0, none⟩) ∧ BM wx bk kk b) ∧ Below wc.heap.size wc wx)
            case first =>
              as_aux_lemma =>
                go_wp2_with (first | (go_at_call 35; refine (made_nil (HUy.out.mono hW) hly H8y.out hn0 (by omega) hkk0 (by omega) HB.out).mono ?_; rintro e w2 ⟨p2, cap2, rfl, hM2, hbl⟩))
                go_meet
                exact ⟨⟨_, rfl, BM.newAt hM2 _ rfl⟩, bal hbl _⟩
            case rest =>
              obtain ⟨⟨b16, rfl, hN16⟩, hst⟩ := hcut
              replace hV13 := hV13.up hst
              replace hB14 := hB14.up hst
              replace hN15 := hN15.up hst
              replace hW := btr hW hst
              clear hst
              go_upto_region 7 with fail
              obtain ⟨p14, c14, k14, k14f, hC14⟩ := id hB14
              obtain ⟨q15, cq15, ⟨⟨m15, m15f⟩, ⟨n15, n15f⟩, -⟩, hM15⟩ := id hN15
              go_cut [17] from 50 to 53 (fun s17 wx => (∃ (b : Nat), s17 = .pointer (some ⟨b, 0, none⟩) ∧ BR wx b kk va) ∧ Below wc.heap.size wc wx)
              case first =>
                as_aux_lemma =>
                  go_wp2_with (first | (go_at_call 30; refine (mvalue_is (V := V) (nv := V.length) hC14 hM15 hV13 gcn.wf (by rw [HCL.out]; omega) (by omega) rfl hVm HVA.out).mono ?_; rintro e w1 ⟨p1, cap1, rfl, hR1, hb1⟩))
                  go_meet
                  exact ⟨⟨_, rfl, BR.newAt hR1 _ rfl⟩, bal hb1 _⟩
              case rest =>
                clear k14 k14f hC14
                obtain ⟨⟨b17, rfl, hN17⟩, hst⟩ := hcut
                replace hV13 := hV13.up hst
                replace hB14 := hB14.up hst
                replace hN15 := hN15.up hst
                replace hN16 := hN16.up hst
                replace hW := btr hW hst
                clear hst
                clear m15 m15f n15 n15f hM15
                go_upto_region 8 with fail
                obtain ⟨p14, c14, k14, k14f, hC14⟩ := id hB14
                obtain ⟨q16, cq16, ⟨⟨m16, m16f⟩, ⟨n16, n16f⟩, -⟩, hM16⟩ := id hN16
                go_cut [18] from 54 to 57 (fun s18 wx => (∃ (b : Nat), s18 = .pointer (some ⟨b, 0, none⟩) ∧ BR wx b kk vb) ∧ Below wc.heap.size wc wx)
                case first =>
                  as_aux_lemma =>
                    go_wp2_with (first | (go_at_call 30; refine (mvalue_is (V := V) (nv := V.length) hC14 hM16 hV13 gcn.wf (by rw [HCL.out]; omega) (by omega) rfl hVm HVC.out).mono ?_; rintro e w1 ⟨p1, cap1, rfl, hR1, hb1⟩))
                    go_meet
                    exact ⟨⟨_, rfl, BR.newAt hR1 _ rfl⟩, bal hb1 _⟩
                case rest =>
                  clear k14 k14f hC14
                  obtain ⟨⟨b18, rfl, hN18⟩, hst⟩ := hcut
                  replace hV13 := hV13.up hst
                  replace hB14 := hB14.up hst
                  replace hN15 := hN15.up hst
                  replace hN16 := hN16.up hst
                  replace hN17 := hN17.up hst
                  replace hW := btr hW hst
                  clear hst
                  clear m16 m16f n16 n16f hM16
                  go_upto_region 9 with fail
                  obtain ⟨p14, c14, k14, k14f, hC14⟩ := id hB14
                  obtain ⟨q15, cq15, ⟨⟨m15, m15f⟩, ⟨n15, n15f⟩, -⟩, hM15⟩ := id hN15
                  obtain ⟨q16, cq16, ⟨⟨m16, m16f⟩, ⟨n16, n16f⟩, -⟩, hM16⟩ := id hN16
                  go_cut [19, 20] from 58 to 64 (fun s19 s20 wx => (∃ (b b' : Nat), s19 = .pointer (some ⟨b, 0, none⟩) ∧ s20 = .pointer (some ⟨b', 0, none⟩) ∧ Bx wx b cnew ∧ BM wx b' kk m1) ∧ Below wc.heap.size wc wx)
                  case first =>
                    as_aux_lemma =>
                      go_wp2_with (first | (go_at_call 42; refine (union_is hC14 hM15 hM16 (OA.out.le (by rw [HCL.out]; omega)) (OB.out.le (by rw [HCL.out]; omega)) (by rw [HCL.out]; omega) gcn.ne E1.out).mono ?_; rintro e w2 ⟨p2, cap2, y2, cy2, rfl, hC2, hM2, hbl⟩))
                      go_meet
                      exact ⟨⟨_, _, rfl, rfl, (Bx.new hC2 _).up (by go_grown), BM.newAt (hM2.up (bal (Below.refl _ _) _)) _ (by simp)⟩, bal (bal hbl _) _⟩
                  case rest =>
                    clear k14 k14f hC14
                    obtain ⟨⟨b19, b20, rfl, rfl, hB19, hN20⟩, hst⟩ := hcut
                    replace hV13 := hV13.up hst
                    replace hB14 := hB14.up hst
                    replace hN15 := hN15.up hst
                    replace hN16 := hN16.up hst
                    replace hN17 := hN17.up hst
                    replace hN18 := hN18.up hst
                    replace hW := btr hW hst
                    clear hst
                    clear m15 m15f n15 n15f hM15
                    clear m16 m16f n16 n16f hM16
                    go_upto_region 10 with fail
                    obtain ⟨p14, c14, k14, k14f, hC14⟩ := id hB14
                    obtain ⟨q15, cq15, ⟨⟨m15, m15f⟩, ⟨n15, n15f⟩, -⟩, hM15⟩ := id hN15
                    obtain ⟨q16, cq16, ⟨⟨m16, m16f⟩, ⟨n16, n16f⟩, -⟩, hM16⟩ := id hN16
                    go_cut [21, 22] from 65 to 71 (fun s21 s22 wx => (∃ (b b' : Nat), s21 = .pointer (some ⟨b, 0, none⟩) ∧ s22 = .pointer (some ⟨b', 0, none⟩) ∧ Bx wx b cnew ∧ BM wx b' kk m2) ∧ Below wc.heap.size wc wx)
                    case first =>
                      as_aux_lemma =>
                        go_wp2_with (first | (go_at_call 52; refine (diff_is hC14 hM15 hM16 (OA.out.le (by rw [HCL.out]; omega)) (OB.out.le (by rw [HCL.out]; omega)) (by rw [HCL.out]; omega) gcn.ne E2.out).mono ?_; rintro e w2 ⟨p2, cap2, y2, cy2, rfl, hC2, hM2, hbl⟩))
                        go_meet
                        exact ⟨⟨_, _, rfl, rfl, (Bx.new hC2 _).up (by go_grown), BM.newAt (hM2.up (bal (Below.refl _ _) _)) _ (by simp)⟩, bal (bal hbl _) _⟩
                    case rest =>
                      clear k14 k14f hC14
                      obtain ⟨⟨b21, b22, rfl, rfl, hB21, hN22⟩, hst⟩ := hcut
                      replace hV13 := hV13.up hst
                      replace hB14 := hB14.up hst
                      replace hN15 := hN15.up hst
                      replace hN16 := hN16.up hst
                      replace hN17 := hN17.up hst
                      replace hN18 := hN18.up hst
                      replace hB19 := hB19.up hst
                      replace hN20 := hN20.up hst
                      replace hW := btr hW hst
                      clear hst
                      clear m15 m15f n15 n15f hM15
                      clear m16 m16f n16 n16f hM16
                      go_upto_region 11 with fail
                      obtain ⟨p14, c14, k14, k14f, hC14⟩ := id hB14
                      obtain ⟨q15, cq15, ⟨⟨m15, m15f⟩, ⟨n15, n15f⟩, -⟩, hM15⟩ := id hN15
                      obtain ⟨q16, cq16, ⟨⟨m16, m16f⟩, ⟨n16, n16f⟩, -⟩, hM16⟩ := id hN16
                      go_cut [23, 24] from 72 to 79 (fun s23 s24 wx => (∃ (b b' : Nat), s23 = .pointer (some ⟨b, 0, none⟩) ∧ s24 = .pointer (some ⟨b', 0, none⟩) ∧ Bx wx b cnew ∧ BM wx b' kk m3) ∧ Below wc.heap.size wc wx)
                      case first =>
                        as_aux_lemma =>
                          go_wp2_with (first | (go_at_call 43; refine (overrideL_is hkk0 hkk2 hn0 hn3 gcn (by rw [HCL.out]; omega) OA.out OB.out hC14 hM15 hM16 E3.out).mono ?_; rintro e w2 ⟨p2, cap2, y2, cy2, rfl, hC2, hM2, hbl⟩))
                          go_meet
                          exact ⟨⟨_, _, rfl, rfl, (Bx.new hC2 _).up (by go_grown), BM.newAt (hM2.up (bal (Below.refl _ _) _)) _ (by simp)⟩, bal (bal hbl _) _⟩
                      case rest =>
                        clear k14 k14f hC14
                        obtain ⟨⟨b23, b24, rfl, rfl, hB23, hN24⟩, hst⟩ := hcut
                        replace hV13 := hV13.up hst
                        replace hB14 := hB14.up hst
                        replace hN15 := hN15.up hst
                        replace hN16 := hN16.up hst
                        replace hN17 := hN17.up hst
                        replace hN18 := hN18.up hst
                        replace hB19 := hB19.up hst
                        replace hN20 := hN20.up hst
                        replace hB21 := hB21.up hst
                        replace hN22 := hN22.up hst
                        replace hW := btr hW hst
                        clear hst
                        clear m15 m15f n15 n15f hM15
                        clear m16 m16f n16 n16f hM16
                        go_upto_region 12 with fail
                        obtain ⟨p14, c14, k14, k14f, hC14⟩ := id hB14
                        obtain ⟨q15, cq15, ⟨⟨m15, m15f⟩, ⟨n15, n15f⟩, -⟩, hM15⟩ := id hN15
                        obtain ⟨q16, cq16, ⟨⟨m16, m16f⟩, ⟨n16, n16f⟩, -⟩, hM16⟩ := id hN16
                        go_cut [25, 26] from 80 to 86 (fun s25 s26 wx => (∃ (b : Nat), s25 = .pointer (some ⟨b, 0, none⟩) ∧ s26 = .int .i64 r ∧ Bx wx b cnew) ∧ Below wc.heap.size wc wx)
                        case first =>
                          as_aux_lemma =>
                            go_wp2_with (first | (go_at_call 37; refine (in_is hC14 hM15 hM16 gcn (by rw [HCL.out]; omega) OA.out OB.out (by have := pow_9 hn3 hkk2; omega) (by omega) E4.out).mono ?_; rintro e w2 ⟨p2, cap2, rfl, hC2, hbl⟩))
                            go_meet
                            exact ⟨⟨_, rfl, rfl, Bx.new hC2 _⟩, bal hbl _⟩
                        case rest =>
                          clear k14 k14f hC14
                          obtain ⟨⟨b25, rfl, rfl, hB25⟩, hst⟩ := hcut
                          replace hV13 := hV13.up hst
                          replace hB14 := hB14.up hst
                          replace hN15 := hN15.up hst
                          replace hN16 := hN16.up hst
                          replace hN17 := hN17.up hst
                          replace hN18 := hN18.up hst
                          replace hB19 := hB19.up hst
                          replace hN20 := hN20.up hst
                          replace hB21 := hB21.up hst
                          replace hN22 := hN22.up hst
                          replace hB23 := hB23.up hst
                          replace hN24 := hN24.up hst
                          replace hW := btr hW hst
                          clear hst
                          clear m15 m15f n15 n15f hM15
                          clear m16 m16f n16 n16f hM16
                          clear hN16
                          go_upto_region 13 with fail
                          obtain ⟨p19, c19, k19, k19f, hC19⟩ := id hB19
                          obtain ⟨p21, c21, k21, k21f, hC21⟩ := id hB21
                          obtain ⟨p23, c23, k23, k23f, hC23⟩ := id hB23
                          obtain ⟨p25, c25, k25, k25f, hC25⟩ := id hB25
                          obtain ⟨q15, cq15, ⟨⟨m15, m15f⟩, ⟨n15, n15f⟩, -⟩, hM15⟩ := id hN15
                          obtain ⟨q17, cq17, ⟨⟨m17, m17f⟩, ⟨n17, n17f⟩, -⟩, hM17⟩ := id hN17
                          obtain ⟨q18, cq18, ⟨⟨m18, m18f⟩, ⟨n18, n18f⟩, -⟩, hM18⟩ := id hN18
                          go_cut [131] from 87 to 130 (fun s131 wx => (s131 = .bool false) ∧ Below wc.heap.size wc wx)
                          case first =>
                            as_aux_lemma =>
                              obtain ⟨s, hs0⟩ : ∃ s, wc.heap.size = s := ⟨_, rfl⟩
                              have HS := Lib.hid hs0; clear hs0
                              obtain ⟨tab, htab⟩ : ∃ t : Nat → Ent, t = tabL [(1, eM kk a), (3, eK (.bool true)), (34, eK (.bool ((rDiff va vb).length == 0)))] := ⟨_, rfl⟩
                              refine wp_region_tab wc tab [(0, 0), (1, 1), (2, 0), (3, 1), (4, 0), (5, 0), (6, 0), (7, 0), (8, 0), (9, 0), (10, 0), (11, 0), (12, 0), (13, 0), (14, 0), (15, 0), (16, 0), (17, 0), (18, 0), (19, 0), (20, 0), (21, 0), (22, 0), (23, 0), (24, 0), (25, 0), (26, 0), (27, 0), (28, 0), (29, 0), (30, 0), (31, 0), (32, 0), (33, 0), (34, 1), (35, 0), (36, 0), (37, 0), (38, 0), (39, 0), (40, 0), (41, 0), (42, 0), (43, 0), (44, 0)] .nil (by kernel_rfl) (by kernel_rfl) (by kernel_rfl) (Below.drew (Below.refl _ _)) ?_
                              refine seqX_pure (v := ?_) rfl (by rfl) ?_ ?_
                              rotate_left
                              · (intro w hS hF; have kk := oldcell hS m17 (World.block_lt_of_cell? _ _ m17); have kk2 := oldcell hS n17 (World.block_lt_of_cell? _ _ n17); go_simp; try with_reducible rfl)
                              (try simp only [Act.put, List.setIfInBounds_toArray, List.set_cons_zero, List.set_cons_succ])
                              refine seqX_call (e := eM kk a) (f := ?_) (args := ?_) (by rw [htab]; rfl) rfl (by rfl) ?_ ?_ ?_
                              rotate_left 2
                              · (intro w; go_simp; first | done | with_reducible rfl | (refine ⟨?_, ?_⟩ <;> with_reducible rfl))
                              · (intro w hS hF; refine (const_is (ar := kk) (hM17.up hS) (by omega) F0.out).mono ?_; intro e w' h; exact RetM.x h)
                              rintro ⟨p88, c88, q88, d88, b88⟩
                              (try dsimp only [eCM, eC, eCI, eM, eR, eS, eX, eB, eK, eVC, eVM])
                              (try simp only [Act.put, List.setIfInBounds_toArray, List.set_cons_zero, List.set_cons_succ])
                              refine seqX_pure (v := ?_) rfl (by rfl) ?_ ?_
                              rotate_left
                              · (intro w hS hF; have kk := oldcell hS m15 (World.block_lt_of_cell? _ _ m15); have kk2 := oldcell hS n15 (World.block_lt_of_cell? _ _ n15); go_simp; try with_reducible rfl)
                              (try simp only [Act.put, List.setIfInBounds_toArray, List.set_cons_zero, List.set_cons_succ])
                              refine seqX_call (e := eK (.bool true)) (f := ?_) (args := ?_) (by rw [htab]; rfl) rfl (by rfl) ?_ ?_ ?_
                              rotate_left 2
                              · (intro w; go_simp; first | done | with_reducible rfl | (refine ⟨?_, ?_⟩ <;> with_reducible rfl))
                              · (intro w hS hF; have f1 : MxAt w q88 d88 a := hF 1 (by kernel_rfl); refine (same14_is (ar := kk) f1 (hM15.up hS) (Below.refl _ _) (by omega)).mono ?_; intro e w' h; exact keep_x h)
                              rintro ⟨p90, c90, q90, d90, b90⟩
                              (try dsimp only [eCM, eC, eCI, eM, eR, eS, eX, eB, eK, eVC, eVM])
                              (try simp only [Act.put, List.setIfInBounds_toArray, List.set_cons_zero, List.set_cons_succ])
                              refine seqX_pure (v := ?_) rfl (by rfl) ?_ ?_
                              rotate_left
                              · (intro w hS hF; go_simp; try with_reducible rfl)
                              (try simp only [Act.put, List.setIfInBounds_toArray, List.set_cons_zero, List.set_cons_succ])
                              refine seqX_pure (v := ?_) rfl (by rfl) ?_ ?_
                              rotate_left
                              · (intro w hS hF; go_simp; try with_reducible rfl)
                              (try simp only [Act.put, List.setIfInBounds_toArray, List.set_cons_zero, List.set_cons_succ])
                              refine seqX_pure (v := ?_) rfl (by rfl) ?_ ?_
                              rotate_left
                              · (intro w hS hF; go_simp; try with_reducible rfl)
                              (try simp only [Act.put, List.setIfInBounds_toArray, List.set_cons_zero, List.set_cons_succ])
                              refine seqX_pure (v := ?_) rfl (by rfl) ?_ ?_
                              rotate_left
                              · (intro w hS hF; have kk := oldcell hS k19 (World.block_lt_of_cell? _ _ k19); go_simp; try with_reducible rfl)
                              (try simp only [Act.put, List.setIfInBounds_toArray, List.set_cons_zero, List.set_cons_succ])
                              refine seqX_pure (v := ?_) rfl (by rfl) ?_ ?_
                              rotate_left
                              · (intro w hS hF; have hc := HCL.out; go_simp; try with_reducible rfl)
                              (try simp only [Act.put, List.setIfInBounds_toArray, List.set_cons_zero, List.set_cons_succ])
                              refine seqX_pure (v := ?_) rfl (by rfl) ?_ ?_
                              rotate_left
                              · (intro w hS hF; have hc := HCL.out; go_simp; try with_reducible rfl)
                              (try simp only [Act.put, List.setIfInBounds_toArray, List.set_cons_zero, List.set_cons_succ])
                              refine seqX_pure (v := ?_) rfl (by rfl) ?_ ?_
                              rotate_left
                              · (intro w hS hF; go_simp; try with_reducible rfl)
                              (try simp only [Act.put, List.setIfInBounds_toArray, List.set_cons_zero, List.set_cons_succ])
                              refine seqX_pure (v := ?_) rfl (by rfl) ?_ ?_
                              rotate_left
                              · (intro w hS hF; go_simp; try with_reducible rfl)
                              (try simp only [Act.put, List.setIfInBounds_toArray, List.set_cons_zero, List.set_cons_succ])
                              refine seqX_pure (v := ?_) rfl (by rfl) ?_ ?_
                              rotate_left
                              · (intro w hS hF; go_simp; try with_reducible rfl)
                              (try simp only [Act.put, List.setIfInBounds_toArray, List.set_cons_zero, List.set_cons_succ])
                              refine seqX_pure (v := ?_) rfl (by rfl) ?_ ?_
                              rotate_left
                              · (intro w hS hF; have kk := oldcell hS k21 (World.block_lt_of_cell? _ _ k21); go_simp; try with_reducible rfl)
                              (try simp only [Act.put, List.setIfInBounds_toArray, List.set_cons_zero, List.set_cons_succ])
                              refine seqX_pure (v := ?_) rfl (by rfl) ?_ ?_
                              rotate_left
                              · (intro w hS hF; have hc := HCL.out; go_simp; try with_reducible rfl)
                              (try simp only [Act.put, List.setIfInBounds_toArray, List.set_cons_zero, List.set_cons_succ])
                              refine seqX_pure (v := ?_) rfl (by rfl) ?_ ?_
                              rotate_left
                              · (intro w hS hF; have hc := HCL.out; go_simp; try with_reducible rfl)
                              (try simp only [Act.put, List.setIfInBounds_toArray, List.set_cons_zero, List.set_cons_succ])
                              refine seqX_pure (v := ?_) rfl (by rfl) ?_ ?_
                              rotate_left
                              · (intro w hS hF; go_simp; try with_reducible rfl)
                              (try simp only [Act.put, List.setIfInBounds_toArray, List.set_cons_zero, List.set_cons_succ])
                              refine seqX_pure (v := ?_) rfl (by rfl) ?_ ?_
                              rotate_left
                              · (intro w hS hF; go_simp; try with_reducible rfl)
                              (try simp only [Act.put, List.setIfInBounds_toArray, List.set_cons_zero, List.set_cons_succ])
                              refine seqX_pure (v := ?_) rfl (by rfl) ?_ ?_
                              rotate_left
                              · (intro w hS hF; go_simp; try with_reducible rfl)
                              (try simp only [Act.put, List.setIfInBounds_toArray, List.set_cons_zero, List.set_cons_succ])
                              refine seqX_pure (v := ?_) rfl (by rfl) ?_ ?_
                              rotate_left
                              · (intro w hS hF; have kk := oldcell hS k23 (World.block_lt_of_cell? _ _ k23); go_simp; try with_reducible rfl)
                              (try simp only [Act.put, List.setIfInBounds_toArray, List.set_cons_zero, List.set_cons_succ])
                              refine seqX_pure (v := ?_) rfl (by rfl) ?_ ?_
                              rotate_left
                              · (intro w hS hF; have hc := HCL.out; go_simp; try with_reducible rfl)
                              (try simp only [Act.put, List.setIfInBounds_toArray, List.set_cons_zero, List.set_cons_succ])
                              refine seqX_pure (v := ?_) rfl (by rfl) ?_ ?_
                              rotate_left
                              · (intro w hS hF; have hc := HCL.out; go_simp; try with_reducible rfl)
                              (try simp only [Act.put, List.setIfInBounds_toArray, List.set_cons_zero, List.set_cons_succ])
                              refine seqX_pure (v := ?_) rfl (by rfl) ?_ ?_
                              rotate_left
                              · (intro w hS hF; go_simp; try with_reducible rfl)
                              (try simp only [Act.put, List.setIfInBounds_toArray, List.set_cons_zero, List.set_cons_succ])
                              refine seqX_pure (v := ?_) rfl (by rfl) ?_ ?_
                              rotate_left
                              · (intro w hS hF; go_simp; try with_reducible rfl)
                              (try simp only [Act.put, List.setIfInBounds_toArray, List.set_cons_zero, List.set_cons_succ])
                              refine seqX_pure (v := ?_) rfl (by rfl) ?_ ?_
                              rotate_left
                              · (intro w hS hF; go_simp; try with_reducible rfl)
                              (try simp only [Act.put, List.setIfInBounds_toArray, List.set_cons_zero, List.set_cons_succ])
                              refine seqX_pure (v := ?_) rfl (by rfl) ?_ ?_
                              rotate_left
                              · (intro w hS hF; have kk := oldcell hS k25 (World.block_lt_of_cell? _ _ k25); go_simp; try with_reducible rfl)
                              (try simp only [Act.put, List.setIfInBounds_toArray, List.set_cons_zero, List.set_cons_succ])
                              refine seqX_pure (v := ?_) rfl (by rfl) ?_ ?_
                              rotate_left
                              · (intro w hS hF; have hc := HCL.out; go_simp; try with_reducible rfl)
                              (try simp only [Act.put, List.setIfInBounds_toArray, List.set_cons_zero, List.set_cons_succ])
                              refine seqX_pure (v := ?_) rfl (by rfl) ?_ ?_
                              rotate_left
                              · (intro w hS hF; have hc := HCL.out; go_simp; try with_reducible rfl)
                              (try simp only [Act.put, List.setIfInBounds_toArray, List.set_cons_zero, List.set_cons_succ])
                              refine seqX_pure (v := ?_) rfl (by rfl) ?_ ?_
                              rotate_left
                              · (intro w hS hF; go_simp; try with_reducible rfl)
                              (try simp only [Act.put, List.setIfInBounds_toArray, List.set_cons_zero, List.set_cons_succ])
                              refine seqX_pure (v := ?_) rfl (by rfl) ?_ ?_
                              rotate_left
                              · (intro w hS hF; go_simp; try with_reducible rfl)
                              (try simp only [Act.put, List.setIfInBounds_toArray, List.set_cons_zero, List.set_cons_succ])
                              refine seqX_pure (v := ?_) rfl (by rfl) ?_ ?_
                              rotate_left
                              · (intro w hS hF; go_simp; try with_reducible rfl)
                              (try simp only [Act.put, List.setIfInBounds_toArray, List.set_cons_zero, List.set_cons_succ])
                              refine seqX_pure (v := ?_) rfl (by rfl) ?_ ?_
                              rotate_left
                              · (intro w hS hF; have hc := HRB.out; go_simp; try with_reducible rfl)
                              (try simp only [Act.put, List.setIfInBounds_toArray, List.set_cons_zero, List.set_cons_succ])
                              refine seqX_pure (v := ?_) rfl (by rfl) ?_ ?_
                              rotate_left
                              · (intro w hS hF; have kk := oldcell hS m17 (World.block_lt_of_cell? _ _ m17); have kk2 := oldcell hS n17 (World.block_lt_of_cell? _ _ n17); go_simp; try with_reducible rfl)
                              (try simp only [Act.put, List.setIfInBounds_toArray, List.set_cons_zero, List.set_cons_succ])
                              refine seqX_pure (v := ?_) rfl (by rfl) ?_ ?_
                              rotate_left
                              · (intro w hS hF; have kk := oldcell hS m18 (World.block_lt_of_cell? _ _ m18); have kk2 := oldcell hS n18 (World.block_lt_of_cell? _ _ n18); go_simp; try with_reducible rfl)
                              (try simp only [Act.put, List.setIfInBounds_toArray, List.set_cons_zero, List.set_cons_succ])
                              refine seqX_call (e := eK (.bool ((rDiff va vb).length == 0))) (f := ?_) (args := ?_) (by rw [htab]; rfl) rfl (by rfl) ?_ ?_ ?_
                              rotate_left 2
                              · (intro w; go_simp; first | done | with_reducible rfl | (refine ⟨?_, ?_⟩ <;> with_reducible rfl))
                              · (intro w hS hF; refine (rin_any va vb kk kk q17 q18 cq17 cq18 w (hM17.up hS) (hM18.up hS) (by omega) (by omega) RVA.out RVB.out).mono ?_; intro e w' h; exact keep_x h)
                              rintro ⟨p121, c121, q121, d121, b121⟩
                              (try dsimp only [eCM, eC, eCI, eM, eR, eS, eX, eB, eK, eVC, eVM])
                              (try simp only [Act.put, List.setIfInBounds_toArray, List.set_cons_zero, List.set_cons_succ])
                              refine seqX_pure (v := ?_) rfl (by rfl) ?_ ?_
                              rotate_left
                              · (intro w hS hF; have hc := HRB.out; go_simp; try with_reducible rfl)
                              (try simp only [Act.put, List.setIfInBounds_toArray, List.set_cons_zero, List.set_cons_succ])
                              refine seqX_pure (v := ?_) rfl (by rfl) ?_ ?_
                              rotate_left
                              · (intro w hS hF; go_simp; try with_reducible rfl)
                              (try simp only [Act.put, List.setIfInBounds_toArray, List.set_cons_zero, List.set_cons_succ])
                              refine seqX_pure (v := ?_) rfl (by rfl) ?_ ?_
                              rotate_left
                              · (intro w hS hF; go_simp; try with_reducible rfl)
                              (try simp only [Act.put, List.setIfInBounds_toArray, List.set_cons_zero, List.set_cons_succ])
                              refine seqX_pure (v := ?_) rfl (by rfl) ?_ ?_
                              rotate_left
                              · (intro w hS hF; go_simp; try with_reducible rfl)
                              (try simp only [Act.put, List.setIfInBounds_toArray, List.set_cons_zero, List.set_cons_succ])
                              refine seqX_pure (v := ?_) rfl (by rfl) ?_ ?_
                              rotate_left
                              · (intro w hS hF; have hc := HR1.out; go_simp; try with_reducible rfl)
                              (try simp only [Act.put, List.setIfInBounds_toArray, List.set_cons_zero, List.set_cons_succ])
                              refine seqX_pure (v := ?_) rfl (by rfl) ?_ ?_
                              rotate_left
                              · (intro w hS hF; go_simp; try with_reducible rfl)
                              (try simp only [Act.put, List.setIfInBounds_toArray, List.set_cons_zero, List.set_cons_succ])
                              refine seqX_pure (v := ?_) rfl (by rfl) ?_ ?_
                              rotate_left
                              · (intro w hS hF; go_simp; try with_reducible rfl)
                              (try simp only [Act.put, List.setIfInBounds_toArray, List.set_cons_zero, List.set_cons_succ])
                              refine seqX_pure (v := ?_) rfl (by rfl) ?_ ?_
                              rotate_left
                              · (intro w hS hF; go_simp; try with_reducible rfl)
                              (try simp only [Act.put, List.setIfInBounds_toArray, List.set_cons_zero, List.set_cons_succ])
                              refine seqX_pure (v := ?_) rfl (by rfl) ?_ ?_
                              rotate_left
                              · (intro w hS hF; have hc := HR0.out; go_simp; try with_reducible rfl)
                              (try simp only [Act.put, List.setIfInBounds_toArray, List.set_cons_zero, List.set_cons_succ])
                              refine seqX_pure (v := ?_) rfl (by rfl) ?_ ?_
                              rotate_left
                              · (intro w hS hF; go_simp; try with_reducible rfl)
                              (try simp only [Act.put, List.setIfInBounds_toArray, List.set_cons_zero, List.set_cons_succ])
                              refine seqX_nil ?_
                              refine seqE_nil ?_
                              intro w hS
                              go_wp2_with fail
                              go_meet
                              exact ⟨rfl, hS.1⟩
                          case rest =>
                            clear k19 k19f hC19 k21 k21f hC21 k23 k23f hC23 k25 k25f hC25
                            clear m15 m15f n15 n15f hM15
                            clear m17 m17f n17 n17f hM17
                            clear m18 m18f n18 n18f hM18
                            obtain ⟨rfl, hst⟩ := hcut
                            replace hV13 := hV13.up hst
                            replace hB14 := hB14.up hst
                            replace hN15 := hN15.up hst
                            replace hN17 := hN17.up hst
                            replace hN18 := hN18.up hst
                            replace hB19 := hB19.up hst
                            replace hN20 := hN20.up hst
                            replace hB21 := hB21.up hst
                            replace hN22 := hN22.up hst
                            replace hB23 := hB23.up hst
                            replace hN24 := hN24.up hst
                            replace hB25 := hB25.up hst
                            replace hW := btr hW hst
                            clear hst
                            clear hB19
                            clear hB21
                            clear hB23
                            clear hB25
                            go_upto_region 15 with fail
                            obtain ⟨q17, cq17, ⟨⟨m17, m17f⟩, ⟨n17, n17f⟩, -⟩, hM17⟩ := id hN17
                            obtain ⟨q18, cq18, ⟨⟨m18, m18f⟩, ⟨n18, n18f⟩, -⟩, hM18⟩ := id hN18
                            obtain ⟨q20, cq20, ⟨⟨m20, m20f⟩, ⟨n20, n20f⟩, -⟩, hM20⟩ := id hN20
                            obtain ⟨q22, cq22, ⟨⟨m22, m22f⟩, ⟨n22, n22f⟩, -⟩, hM22⟩ := id hN22
                            obtain ⟨q24, cq24, ⟨⟨m24, m24f⟩, ⟨n24, n24f⟩, -⟩, hM24⟩ := id hN24
                            go_cut [157] from 132 to 156 (fun s157 wx => (s157 = .bool false) ∧ Below wc.heap.size wc wx)
                            case first =>
                              as_aux_lemma =>
                                obtain ⟨s, hs0⟩ : ∃ s, wc.heap.size = s := ⟨_, rfl⟩
                                have HS := Lib.hid hs0; clear hs0
                                obtain ⟨tab, htab⟩ : ∃ t : Nat → Ent, t = tabL [(3, eR kk u1), (4, eM kk m1), (5, eK (.bool true)), (11, eR kk u2), (12, eM kk m2), (13, eK (.bool true)), (21, eR kk u3), (22, eM kk m3), (23, eK (.bool true))] := ⟨_, rfl⟩
                                refine wp_region_tab wc tab [(0, 0), (1, 0), (2, 0), (3, 1), (4, 1), (5, 1), (6, 0), (7, 0), (8, 0), (9, 0), (10, 0), (11, 1), (12, 1), (13, 1), (14, 0), (15, 0), (16, 0), (17, 0), (18, 0), (19, 0), (20, 0), (21, 1), (22, 1), (23, 1), (24, 0), (25, 0)] .nil (by kernel_rfl) (by kernel_rfl) (by kernel_rfl) (Below.drew (Below.refl _ _)) ?_
                                refine seqX_pure (v := ?_) rfl (by rfl) ?_ ?_
                                rotate_left
                                · (intro w hS hF; have kk := oldcell hS m20 (World.block_lt_of_cell? _ _ m20); have kk2 := oldcell hS n20 (World.block_lt_of_cell? _ _ n20); go_simp; try with_reducible rfl)
                                (try simp only [Act.put, List.setIfInBounds_toArray, List.set_cons_zero, List.set_cons_succ])
                                refine seqX_pure (v := ?_) rfl (by rfl) ?_ ?_
                                rotate_left
                                · (intro w hS hF; have kk := oldcell hS m17 (World.block_lt_of_cell? _ _ m17); have kk2 := oldcell hS n17 (World.block_lt_of_cell? _ _ n17); go_simp; try with_reducible rfl)
                                (try simp only [Act.put, List.setIfInBounds_toArray, List.set_cons_zero, List.set_cons_succ])
                                refine seqX_pure (v := ?_) rfl (by rfl) ?_ ?_
                                rotate_left
                                · (intro w hS hF; have kk := oldcell hS m18 (World.block_lt_of_cell? _ _ m18); have kk2 := oldcell hS n18 (World.block_lt_of_cell? _ _ n18); go_simp; try with_reducible rfl)
                                (try simp only [Act.put, List.setIfInBounds_toArray, List.set_cons_zero, List.set_cons_succ])
                                refine seqX_call (e := eR kk u1) (f := ?_) (args := ?_) (by rw [htab]; rfl) rfl (by rfl) ?_ ?_ ?_
                                rotate_left 2
                                · (intro w; go_simp; first | done | with_reducible rfl | (refine ⟨?_, ?_⟩ <;> with_reducible rfl))
                                · (intro w hS hF; refine (relunion_is (hM17.up hS) (hM18.up hS) (by omega) HU1.out).mono ?_; intro e w' h; exact RetR.x h)
                                rintro ⟨p135, c135, q135, d135, b135⟩
                                (try dsimp only [eCM, eC, eCI, eM, eR, eS, eX, eB, eK, eVC, eVM])
                                (try simp only [Act.put, List.setIfInBounds_toArray, List.set_cons_zero, List.set_cons_succ])
                                refine seqX_call (e := eM kk m1) (f := ?_) (args := ?_) (by rw [htab]; rfl) rfl (by rfl) ?_ ?_ ?_
                                rotate_left 2
                                · (intro w; go_simp; first | done | with_reducible rfl | (refine ⟨?_, ?_⟩ <;> with_reducible rfl))
                                · (intro w hS hF; have f1 : SI w q135 d135 u1 := hF 3 (by kernel_rfl); refine (const_is (ar := kk) f1 (by omega) F1.out).mono ?_; intro e w' h; exact RetM.x h)
                                rintro ⟨p136, c136, q136, d136, b136⟩
                                (try dsimp only [eCM, eC, eCI, eM, eR, eS, eX, eB, eK, eVC, eVM])
                                (try simp only [Act.put, List.setIfInBounds_toArray, List.set_cons_zero, List.set_cons_succ])
                                refine seqX_call (e := eK (.bool true)) (f := ?_) (args := ?_) (by rw [htab]; rfl) rfl (by rfl) ?_ ?_ ?_
                                rotate_left 2
                                · (intro w; go_simp; first | done | with_reducible rfl | (refine ⟨?_, ?_⟩ <;> with_reducible rfl))
                                · (intro w hS hF; have f1 : MxAt w q136 d136 m1 := hF 4 (by kernel_rfl); refine (same14_is (ar := kk) (hM20.up hS) f1 (Below.refl _ _) (by omega)).mono ?_; intro e w' h; exact keep_x h)
                                rintro ⟨p137, c137, q137, d137, b137⟩
                                (try dsimp only [eCM, eC, eCI, eM, eR, eS, eX, eB, eK, eVC, eVM])
                                (try simp only [Act.put, List.setIfInBounds_toArray, List.set_cons_zero, List.set_cons_succ])
                                refine seqX_pure (v := ?_) rfl (by rfl) ?_ ?_
                                rotate_left
                                · (intro w hS hF; go_simp; try with_reducible rfl)
                                (try simp only [Act.put, List.setIfInBounds_toArray, List.set_cons_zero, List.set_cons_succ])
                                refine seqX_pure (v := ?_) rfl (by rfl) ?_ ?_
                                rotate_left
                                · (intro w hS hF; go_simp; try with_reducible rfl)
                                (try simp only [Act.put, List.setIfInBounds_toArray, List.set_cons_zero, List.set_cons_succ])
                                refine seqX_pure (v := ?_) rfl (by rfl) ?_ ?_
                                rotate_left
                                · (intro w hS hF; have kk := oldcell hS m22 (World.block_lt_of_cell? _ _ m22); have kk2 := oldcell hS n22 (World.block_lt_of_cell? _ _ n22); go_simp; try with_reducible rfl)
                                (try simp only [Act.put, List.setIfInBounds_toArray, List.set_cons_zero, List.set_cons_succ])
                                refine seqX_pure (v := ?_) rfl (by rfl) ?_ ?_
                                rotate_left
                                · (intro w hS hF; have kk := oldcell hS m17 (World.block_lt_of_cell? _ _ m17); have kk2 := oldcell hS n17 (World.block_lt_of_cell? _ _ n17); go_simp; try with_reducible rfl)
                                (try simp only [Act.put, List.setIfInBounds_toArray, List.set_cons_zero, List.set_cons_succ])
                                refine seqX_pure (v := ?_) rfl (by rfl) ?_ ?_
                                rotate_left
                                · (intro w hS hF; have kk := oldcell hS m18 (World.block_lt_of_cell? _ _ m18); have kk2 := oldcell hS n18 (World.block_lt_of_cell? _ _ n18); go_simp; try with_reducible rfl)
                                (try simp only [Act.put, List.setIfInBounds_toArray, List.set_cons_zero, List.set_cons_succ])
                                refine seqX_call (e := eR kk u2) (f := ?_) (args := ?_) (by rw [htab]; rfl) rfl (by rfl) ?_ ?_ ?_
                                rotate_left 2
                                · (intro w; go_simp; first | done | with_reducible rfl | (refine ⟨?_, ?_⟩ <;> with_reducible rfl))
                                · (intro w hS hF; refine (reldiff_is (hM17.up hS) (hM18.up hS) (by omega) (by omega) RVA.out RVB.out HU2.out).mono ?_; intro e w' h; exact RetR.x h)
                                rintro ⟨p143, c143, q143, d143, b143⟩
                                (try dsimp only [eCM, eC, eCI, eM, eR, eS, eX, eB, eK, eVC, eVM])
                                (try simp only [Act.put, List.setIfInBounds_toArray, List.set_cons_zero, List.set_cons_succ])
                                refine seqX_call (e := eM kk m2) (f := ?_) (args := ?_) (by rw [htab]; rfl) rfl (by rfl) ?_ ?_ ?_
                                rotate_left 2
                                · (intro w; go_simp; first | done | with_reducible rfl | (refine ⟨?_, ?_⟩ <;> with_reducible rfl))
                                · (intro w hS hF; have f1 : SI w q143 d143 u2 := hF 11 (by kernel_rfl); refine (const_is (ar := kk) f1 (by omega) F2.out).mono ?_; intro e w' h; exact RetM.x h)
                                rintro ⟨p144, c144, q144, d144, b144⟩
                                (try dsimp only [eCM, eC, eCI, eM, eR, eS, eX, eB, eK, eVC, eVM])
                                (try simp only [Act.put, List.setIfInBounds_toArray, List.set_cons_zero, List.set_cons_succ])
                                refine seqX_call (e := eK (.bool true)) (f := ?_) (args := ?_) (by rw [htab]; rfl) rfl (by rfl) ?_ ?_ ?_
                                rotate_left 2
                                · (intro w; go_simp; first | done | with_reducible rfl | (refine ⟨?_, ?_⟩ <;> with_reducible rfl))
                                · (intro w hS hF; have f1 : MxAt w q144 d144 m2 := hF 12 (by kernel_rfl); refine (same14_is (ar := kk) (hM22.up hS) f1 (Below.refl _ _) (by omega)).mono ?_; intro e w' h; exact keep_x h)
                                rintro ⟨p145, c145, q145, d145, b145⟩
                                (try dsimp only [eCM, eC, eCI, eM, eR, eS, eX, eB, eK, eVC, eVM])
                                (try simp only [Act.put, List.setIfInBounds_toArray, List.set_cons_zero, List.set_cons_succ])
                                refine seqX_pure (v := ?_) rfl (by rfl) ?_ ?_
                                rotate_left
                                · (intro w hS hF; go_simp; try with_reducible rfl)
                                (try simp only [Act.put, List.setIfInBounds_toArray, List.set_cons_zero, List.set_cons_succ])
                                refine seqX_pure (v := ?_) rfl (by rfl) ?_ ?_
                                rotate_left
                                · (intro w hS hF; go_simp; try with_reducible rfl)
                                (try simp only [Act.put, List.setIfInBounds_toArray, List.set_cons_zero, List.set_cons_succ])
                                refine seqX_pure (v := ?_) rfl (by rfl) ?_ ?_
                                rotate_left
                                · (intro w hS hF; go_simp; try with_reducible rfl)
                                (try simp only [Act.put, List.setIfInBounds_toArray, List.set_cons_zero, List.set_cons_succ])
                                refine seqX_pure (v := ?_) rfl (by rfl) ?_ ?_
                                rotate_left
                                · (intro w hS hF; have kk := oldcell hS m24 (World.block_lt_of_cell? _ _ m24); have kk2 := oldcell hS n24 (World.block_lt_of_cell? _ _ n24); go_simp; try with_reducible rfl)
                                (try simp only [Act.put, List.setIfInBounds_toArray, List.set_cons_zero, List.set_cons_succ])
                                refine seqX_pure (v := ?_) rfl (by rfl) ?_ ?_
                                rotate_left
                                · (intro w hS hF; go_simp; try with_reducible rfl)
                                (try simp only [Act.put, List.setIfInBounds_toArray, List.set_cons_zero, List.set_cons_succ])
                                refine seqX_pure (v := ?_) rfl (by rfl) ?_ ?_
                                rotate_left
                                · (intro w hS hF; have kk := oldcell hS m17 (World.block_lt_of_cell? _ _ m17); have kk2 := oldcell hS n17 (World.block_lt_of_cell? _ _ n17); go_simp; try with_reducible rfl)
                                (try simp only [Act.put, List.setIfInBounds_toArray, List.set_cons_zero, List.set_cons_succ])
                                refine seqX_pure (v := ?_) rfl (by rfl) ?_ ?_
                                rotate_left
                                · (intro w hS hF; have kk := oldcell hS m18 (World.block_lt_of_cell? _ _ m18); have kk2 := oldcell hS n18 (World.block_lt_of_cell? _ _ n18); go_simp; try with_reducible rfl)
                                (try simp only [Act.put, List.setIfInBounds_toArray, List.set_cons_zero, List.set_cons_succ])
                                refine seqX_call (e := eR kk u3) (f := ?_) (args := ?_) (by rw [htab]; rfl) rfl (by rfl) ?_ ?_ ?_
                                rotate_left 2
                                · (intro w; go_simp; first | done | with_reducible rfl | (refine ⟨?_, ?_⟩ <;> with_reducible rfl))
                                · (intro w hS hF; refine (relover_is (hM17.up hS) (hM18.up hS) (by omega) (by omega) RVA.out RVB.out hkk0 (by omega) hn0 (by omega) HU3.out).mono ?_; intro e w' h; exact RetR.x h)
                                rintro ⟨p153, c153, q153, d153, b153⟩
                                (try dsimp only [eCM, eC, eCI, eM, eR, eS, eX, eB, eK, eVC, eVM])
                                (try simp only [Act.put, List.setIfInBounds_toArray, List.set_cons_zero, List.set_cons_succ])
                                refine seqX_call (e := eM kk m3) (f := ?_) (args := ?_) (by rw [htab]; rfl) rfl (by rfl) ?_ ?_ ?_
                                rotate_left 2
                                · (intro w; go_simp; first | done | with_reducible rfl | (refine ⟨?_, ?_⟩ <;> with_reducible rfl))
                                · (intro w hS hF; have f1 : SI w q153 d153 u3 := hF 21 (by kernel_rfl); refine (const_is (ar := kk) f1 (by omega) F3.out).mono ?_; intro e w' h; exact RetM.x h)
                                rintro ⟨p154, c154, q154, d154, b154⟩
                                (try dsimp only [eCM, eC, eCI, eM, eR, eS, eX, eB, eK, eVC, eVM])
                                (try simp only [Act.put, List.setIfInBounds_toArray, List.set_cons_zero, List.set_cons_succ])
                                refine seqX_call (e := eK (.bool true)) (f := ?_) (args := ?_) (by rw [htab]; rfl) rfl (by rfl) ?_ ?_ ?_
                                rotate_left 2
                                · (intro w; go_simp; first | done | with_reducible rfl | (refine ⟨?_, ?_⟩ <;> with_reducible rfl))
                                · (intro w hS hF; have f1 : MxAt w q154 d154 m3 := hF 22 (by kernel_rfl); refine (same14_is (ar := kk) (hM24.up hS) f1 (Below.refl _ _) (by omega)).mono ?_; intro e w' h; exact keep_x h)
                                rintro ⟨p155, c155, q155, d155, b155⟩
                                (try dsimp only [eCM, eC, eCI, eM, eR, eS, eX, eB, eK, eVC, eVM])
                                (try simp only [Act.put, List.setIfInBounds_toArray, List.set_cons_zero, List.set_cons_succ])
                                refine seqX_pure (v := ?_) rfl (by rfl) ?_ ?_
                                rotate_left
                                · (intro w hS hF; go_simp; try with_reducible rfl)
                                (try simp only [Act.put, List.setIfInBounds_toArray, List.set_cons_zero, List.set_cons_succ])
                                refine seqX_pure (v := ?_) rfl (by rfl) ?_ ?_
                                rotate_left
                                · (intro w hS hF; go_simp; try with_reducible rfl)
                                (try simp only [Act.put, List.setIfInBounds_toArray, List.set_cons_zero, List.set_cons_succ])
                                refine seqX_nil ?_
                                refine seqE_nil ?_
                                intro w hS
                                go_wp2_with fail
                                go_meet
                                exact ⟨rfl, hS.1⟩
                            case rest =>
                              clear m17 m17f n17 n17f hM17
                              clear m18 m18f n18 n18f hM18
                              clear m20 m20f n20 n20f hM20
                              clear m22 m22f n22 n22f hM22
                              clear m24 m24f n24 n24f hM24
                              obtain ⟨rfl, hst⟩ := hcut
                              replace hV13 := hV13.up hst
                              replace hB14 := hB14.up hst
                              replace hN15 := hN15.up hst
                              replace hN17 := hN17.up hst
                              replace hN18 := hN18.up hst
                              replace hN20 := hN20.up hst
                              replace hN22 := hN22.up hst
                              replace hN24 := hN24.up hst
                              replace hW := btr hW hst
                              clear hst
                              clear hN18
                              clear hN20
                              clear hN22
                              clear hN24
                              have hwk : IntKind.i64.wrap ((kk : Int) + (k2 : Int)) = (kk : Int) + (k2 : Int) := i64_small (by omega) (by omega)
                              by_cases hif : (kk : Int) + (k2 : Int) < (3 : Int)
                              case pos =>
                                go_wp2_with fail
                                go_ret
                                exact ⟨rfl, hW⟩
                              case neg =>
                                go_upto_region 19 with fail
                                obtain ⟨p14, c14, k14, k14f, hC14⟩ := id hB14
                                go_cut [27] from 163 to 169 (fun s27 wx => (∃ (b : Nat), s27 = .pointer (some ⟨b, 0, none⟩) ∧ BR wx b k2 vz) ∧ Below wc.heap.size wc wx)
                                case first =>
                                  as_aux_lemma =>
                                    obtain ⟨s, hs0⟩ : ∃ s, w.heap.size = s := ⟨_, rfl⟩
                                    have HS := Lib.hid hs0; clear hs0
                                    have hbw := hW
                                    have zz : s + 0 ≤ wc.heap.size := by have := HS.out; have := hW.size; omega
                                    have hk : Cells wc [(b14, 0, .slice p14 (cnew).length c14)] := ⟨⟨k14, k14f⟩, trivial⟩
                                    clear k14 k14f
                                    have hacc : Below wc.heap.size wc wc := Below.refl _ _
                                    clear hW
                                    refine wp_region_seqE (fun x => Below wc.heap.size wc x) (.one 0 0 (.one 1 1 (.one 2 1 (.one 3 1 (.one 5 1 (.alt 4 2 (.alt 6 3 (.alt 7 2 (.alt 8 3 .nil .stop) .stop) (.alt 7 2 (.alt 6 3 (.alt 8 3 .nil .stop) .stop) .stop)) (.alt 7 2 (.alt 4 2 (.alt 6 3 (.alt 8 3 .nil .stop) .stop) .stop) .stop))))))) (by kernel_rfl) (by kernel_rfl) (by kernel_rfl) (Below.drew (Below.refl _ _)) ?_
                                    iterate 5 (first | (refine seqE_free (v := ?_) rfl (by rfl) ?_ ?_; rotate_left; (focus (intro w; go_simp; try with_reducible rfl)); (try simp only [Act.put, List.setIfInBounds_toArray, List.set_cons_zero, List.set_cons_succ])) | (refine seqE_pure (v := ?_) rfl (by rfl) ?_ ?_; rotate_left; (focus (intro w hS; obtain ⟨⟨k14, -⟩, -⟩ := hk.up hS; go_simp; try with_reducible rfl)); (try simp only [Act.put, List.setIfInBounds_toArray, List.set_cons_zero, List.set_cons_succ])))
                                    clear hk
                                    refine seqE_call (f := ?_) (args := ?_) rfl (by rfl) ?_ ?_ ?_
                                    rotate_left 2
                                    focus (intro w hS; go_simp; first | done | with_reducible rfl | (refine ⟨?_, ?_⟩ <;> with_reducible rfl))
                                    ·
                                     intro w1 hS
                                     refine (made_nil (HUy.out.mono (btr hbw hS)) hly H8y.out hn0 (by omega) hk20 (by omega) HZA.out).mono ?_
                                     rintro e v1 ⟨y1, cy1, rfl, hX1, hbl⟩
                                     refine ⟨_, rfl, (fun x => Below v1.heap.size v1 x), Below.refl _ _, fun x hx => btr (btr hS hbl) hx, ?_⟩
                                     have hXw := Nat.le_trans zz hS.size; have hXa := Nat.le_trans hacc.size hS.size
                                     have hX := btr hS hbl
                                     replace hC14 := hC14.mono hX; replace hV13 := hV13.mono hX; replace hbw := btr hbw hX; replace zz := Nat.le_trans zz (Below.size hX); replace hacc := btr hacc hX
                                     clear hX hS hbl hXw hXa
                                     (try simp only [Act.put, List.setIfInBounds_toArray, List.set_cons_zero, List.set_cons_succ])
                                     refine seqE_callB (f := ?_) (args := ?_) rfl (by rfl) ?_ ?_ ?_
                                     rotate_left 2
                                     focus (intro w hS; go_simp; first | done | with_reducible rfl | (refine ⟨?_, ?_⟩ <;> with_reducible rfl))
                                     ·
                                      intro w2 hS
                                      refine (mvalue_fr (V := V) (nv := V.length) (ar := k2) (p := p14) (cap := c14) (hC14.mono hS) (hX1.up hS) (hV13.mono hS) gcn.wf (by rw [HCL.out]; omega) (by omega) rfl hVm HVZ.out).mono ?_
                                      rintro e v2 ⟨y2, cy2, rfl, hX2, hfr, hbl⟩
                                      refine ⟨_, rfl, (fun x => Below v2.heap.size v2 x), Below.refl _ _, ?_⟩
                                      have hXw := Nat.le_trans zz hS.size; have hXa := Nat.le_trans hacc.size hS.size
                                      have hX := btr hS hbl
                                      replace hC14 := hC14.mono hX; replace hV13 := hV13.mono hX; replace hX1 := hX1.up hX; replace hbw := btr hbw hX; replace zz := Nat.le_trans zz (Below.size hX); replace hacc := btr hacc hX
                                      clear hfr
                                      clear hX hS hbl hXw hXa
                                      (try simp only [Act.put, List.setIfInBounds_toArray, List.set_cons_zero, List.set_cons_succ])
                                      refine seqE_move rfl (by rfl) ?_ seqE_stop
                                      intro w3 hS
                                      refine ⟨.pointer (some ⟨w3.heap.size, 0, none⟩), w3.alloc (.cells #[.int .i64 0, .slice none 0 0] 44), (by go_simp; try with_reducible rfl), ?_⟩
                                      obtain ⟨b27, hb27⟩ : ∃ b, b = w3.heap.size := ⟨_, rfl⟩
                                      obtain ⟨v3, hw3⟩ : ∃ zW, zW = w3.alloc (.cells #[.int .i64 0, .slice none 0 0] 44) := ⟨_, rfl⟩
                                      rw [← hw3, ← hb27]
                                      have hbl : Below w3.heap.size w3 v3 := by rw [hw3]; go_grown
                                      have hge27 : s + 0 ≤ b27 := by rw [hb27]; exact Nat.le_trans zz hS.size
                                      have hga27 : wc.heap.size ≤ b27 := by rw [hb27]; exact Nat.le_trans hacc.size hS.size
                                      have oF : ∀ ad, y2 = some ad → b27 ≠ ad.block := fun ad h e => by have h1 := hX2.lt ad h; have h2 := hS.size; omega
                                      refine ⟨(fun x => Below v3.heap.size v3 x), Below.refl _ _, fun x hx => btr (btr hS hbl) hx, ?_⟩
                                      have hX := btr hS hbl
                                      replace hC14 := hC14.mono hX; replace hX2 := hX2.up hX; replace hbw := btr hbw hX; replace zz := Nat.le_trans zz (Below.size hX); replace hacc := btr hacc hX
                                      have hs : Cells v3 [(b27, 0, .int .i64 0), (b27, 1, .slice none 0 0)] := ⟨⟨by rw [hw3, hb27]; go_cell, by rw [hw3, hb27]; go_cell⟩, ⟨by rw [hw3, hb27]; go_cell, by rw [hw3, hb27]; go_cell⟩, trivial⟩
                                      clear hX hS hbl hw3 hb27
                                      (try simp only [Act.put, List.setIfInBounds_toArray, List.set_cons_zero, List.set_cons_succ])
                                      refine seqE_storeB rfl (by rfl) ?_ seqE_stop
                                      intro w4 hS
                                      replace hs := hs.up hS; replace hC14 := hC14.mono hS; replace hX2 := hX2.up hS; replace hbw := btr hbw hS; replace zz := Nat.le_trans zz (Below.size hS); replace hacc := btr hacc hS
                                      obtain ⟨⟨d270, d270f⟩, ⟨d271, d271f⟩, -⟩ := id hs
                                      refine ⟨((w4.setCell ⟨b27, 0, none⟩ (.int .i64 k2)).setCell ⟨b27, 1, none⟩ (.slice y2 vz.length cy2)), (by go_simp; try with_reducible rfl), (fun x => Below (((w4.setCell ⟨b27, 0, none⟩ (.int .i64 k2)).setCell ⟨b27, 1, none⟩ (.slice y2 vz.length cy2))).heap.size (((w4.setCell ⟨b27, 0, none⟩ (.int .i64 k2)).setCell ⟨b27, 1, none⟩ (.slice y2 vz.length cy2))) x), Below.refl _ _, ?_⟩
                                      obtain ⟨v4, hw⟩ : ∃ zW, zW = ((w4.setCell ⟨b27, 0, none⟩ (.int .i64 k2)).setCell ⟨b27, 1, none⟩ (.slice y2 vz.length cy2)) := ⟨_, rfl⟩
                                      rw [← hw]
                                      replace hs : Cells v4 [(b27, 0, .int .i64 k2), (b27, 1, .slice y2 vz.length cy2)] := by rw [hw]; exact ⟨⟨by go_cell, (fz (fz d270f))⟩, ⟨by go_cell, (fz (fz d271f))⟩, trivial⟩
                                      replace hC14 : CAt v4 p14 c14 (cnew) := by rw [hw]; exact hC14.boxM d271 _ _
                                      replace hX2 : SI v4 y2 cy2 vz := by rw [hw]; exact ((hX2.set (oF) _).set (oF) _)
                                      replace hbw : Below w.heap.size w v4 := by rw [hw]; exact (Below.setCell (Below.setCell hbw (by have h := HS.out; (try dsimp only); omega) _) (by have h := HS.out; (try dsimp only); omega) _)
                                      replace hacc : Below wc.heap.size wc v4 := by rw [hw]; exact (Below.setCell (Below.setCell hacc (by have h := HS.out; (try dsimp only); omega) _) (by have h := HS.out; (try dsimp only); omega) _)
                                      replace zz : s + 0 ≤ v4.heap.size := by rw [hw]; simpa using zz
                                      clear hw
                                      clear d270 d270f d271 d271f
                                      clear hS
                                      (try simp only [Act.put, List.setIfInBounds_toArray, List.set_cons_zero, List.set_cons_succ])
                                      refine seqE_nil ?_
                                      intro wz hS
                                      replace hs := hs.up hS; replace hC14 := hC14.mono hS; replace hX2 := hX2.up hS; replace hbw := btr hbw hS; replace zz := Nat.le_trans zz (Below.size hS); replace hacc := btr hacc hS; clear hS
                                      obtain ⟨⟨d270, d270f⟩, ⟨d271, d271f⟩, -⟩ := id hs
                                      go_wp2_with fail
                                      go_meet
                                      exact ⟨⟨_, rfl, _, _, ⟨⟨d270, d270f⟩, ⟨d271, d271f⟩, trivial⟩, hX2⟩, hacc⟩
                                     refine seqE_move rfl (by rfl) ?_ seqE_stop
                                     intro w5 hS
                                     refine ⟨.pointer (some ⟨w5.heap.size, 0, none⟩), w5.alloc (.cells #[.int .i64 0, .slice none 0 0] 44), (by go_simp; try with_reducible rfl), ?_⟩
                                     obtain ⟨b27, hb27⟩ : ∃ b, b = w5.heap.size := ⟨_, rfl⟩
                                     obtain ⟨v5, hw5⟩ : ∃ zW, zW = w5.alloc (.cells #[.int .i64 0, .slice none 0 0] 44) := ⟨_, rfl⟩
                                     rw [← hw5, ← hb27]
                                     have hbl : Below w5.heap.size w5 v5 := by rw [hw5]; go_grown
                                     have hge27 : s + 0 ≤ b27 := by rw [hb27]; exact Nat.le_trans zz hS.size
                                     have hga27 : wc.heap.size ≤ b27 := by rw [hb27]; exact Nat.le_trans hacc.size hS.size
                                     refine ⟨(fun x => Below v5.heap.size v5 x), Below.refl _ _, fun x hx => btr (btr hS hbl) hx, ?_⟩
                                     have hX := btr hS hbl
                                     replace hC14 := hC14.mono hX; replace hV13 := hV13.mono hX; replace hX1 := hX1.up hX; replace hbw := btr hbw hX; replace zz := Nat.le_trans zz (Below.size hX); replace hacc := btr hacc hX
                                     have hs : Cells v5 [(b27, 0, .int .i64 0), (b27, 1, .slice none 0 0)] := ⟨⟨by rw [hw5, hb27]; go_cell, by rw [hw5, hb27]; go_cell⟩, ⟨by rw [hw5, hb27]; go_cell, by rw [hw5, hb27]; go_cell⟩, trivial⟩
                                     clear hX hS hbl hw5 hb27
                                     (try simp only [Act.put, List.setIfInBounds_toArray, List.set_cons_zero, List.set_cons_succ])
                                     refine seqE_callB (f := ?_) (args := ?_) rfl (by rfl) ?_ ?_ seqE_stop
                                     rotate_left 2
                                     focus (intro w hS; go_simp; first | done | with_reducible rfl | (refine ⟨?_, ?_⟩ <;> with_reducible rfl))
                                     intro w6 hS
                                     refine (mvalue_fr (V := V) (nv := V.length) (ar := k2) (p := p14) (cap := c14) (hC14.mono hS) (hX1.up hS) (hV13.mono hS) gcn.wf (by rw [HCL.out]; omega) (by omega) rfl hVm HVZ.out).mono ?_
                                     rintro e v6 ⟨y2, cy2, rfl, hX2, hfr, hbl⟩
                                     have oF : ∀ ad, y2 = some ad → b27 ≠ ad.block := fun ad h e => by have h1 := hfr ad h; have h2 : b27 < _ := World.block_lt_of_cell? _ _ hs.1.1; have h3 := hS.size; omega
                                     refine ⟨_, rfl, (fun x => Below v6.heap.size v6 x), Below.refl _ _, ?_⟩
                                     have hXw := Nat.le_trans zz hS.size; have hXa := Nat.le_trans hacc.size hS.size
                                     have hX := btr hS hbl
                                     replace hs := hs.up hX; replace hC14 := hC14.mono hX; replace hV13 := hV13.mono hX; replace hX1 := hX1.up hX; replace hbw := btr hbw hX; replace zz := Nat.le_trans zz (Below.size hX); replace hacc := btr hacc hX
                                     clear hfr
                                     clear hX hS hbl hXw hXa
                                     (try simp only [Act.put, List.setIfInBounds_toArray, List.set_cons_zero, List.set_cons_succ])
                                     refine seqE_storeB rfl (by rfl) ?_ seqE_stop
                                     intro w7 hS
                                     replace hs := hs.up hS; replace hC14 := hC14.mono hS; replace hX2 := hX2.up hS; replace hbw := btr hbw hS; replace zz := Nat.le_trans zz (Below.size hS); replace hacc := btr hacc hS
                                     obtain ⟨⟨d270, d270f⟩, ⟨d271, d271f⟩, -⟩ := id hs
                                     refine ⟨((w7.setCell ⟨b27, 0, none⟩ (.int .i64 k2)).setCell ⟨b27, 1, none⟩ (.slice y2 vz.length cy2)), (by go_simp; try with_reducible rfl), (fun x => Below (((w7.setCell ⟨b27, 0, none⟩ (.int .i64 k2)).setCell ⟨b27, 1, none⟩ (.slice y2 vz.length cy2))).heap.size (((w7.setCell ⟨b27, 0, none⟩ (.int .i64 k2)).setCell ⟨b27, 1, none⟩ (.slice y2 vz.length cy2))) x), Below.refl _ _, ?_⟩
                                     obtain ⟨v7, hw⟩ : ∃ zW, zW = ((w7.setCell ⟨b27, 0, none⟩ (.int .i64 k2)).setCell ⟨b27, 1, none⟩ (.slice y2 vz.length cy2)) := ⟨_, rfl⟩
                                     rw [← hw]
                                     replace hs : Cells v7 [(b27, 0, .int .i64 k2), (b27, 1, .slice y2 vz.length cy2)] := by rw [hw]; exact ⟨⟨by go_cell, (fz (fz d270f))⟩, ⟨by go_cell, (fz (fz d271f))⟩, trivial⟩
                                     replace hC14 : CAt v7 p14 c14 (cnew) := by rw [hw]; exact hC14.boxM d271 _ _
                                     replace hX2 : SI v7 y2 cy2 vz := by rw [hw]; exact ((hX2.set (oF) _).set (oF) _)
                                     replace hbw : Below w.heap.size w v7 := by rw [hw]; exact (Below.setCell (Below.setCell hbw (by have h := HS.out; (try dsimp only); omega) _) (by have h := HS.out; (try dsimp only); omega) _)
                                     replace hacc : Below wc.heap.size wc v7 := by rw [hw]; exact (Below.setCell (Below.setCell hacc (by have h := HS.out; (try dsimp only); omega) _) (by have h := HS.out; (try dsimp only); omega) _)
                                     replace zz : s + 0 ≤ v7.heap.size := by rw [hw]; simpa using zz
                                     clear hw
                                     clear d270 d270f d271 d271f
                                     clear hS
                                     (try simp only [Act.put, List.setIfInBounds_toArray, List.set_cons_zero, List.set_cons_succ])
                                     refine seqE_nil ?_
                                     intro wz hS
                                     replace hs := hs.up hS; replace hC14 := hC14.mono hS; replace hX2 := hX2.up hS; replace hbw := btr hbw hS; replace zz := Nat.le_trans zz (Below.size hS); replace hacc := btr hacc hS; clear hS
                                     obtain ⟨⟨d270, d270f⟩, ⟨d271, d271f⟩, -⟩ := id hs
                                     go_wp2_with fail
                                     go_meet
                                     exact ⟨⟨_, rfl, _, _, ⟨⟨d270, d270f⟩, ⟨d271, d271f⟩, trivial⟩, hX2⟩, hacc⟩
                                    refine seqE_move rfl (by rfl) ?_ seqE_stop
                                    intro w8 hS
                                    refine ⟨.pointer (some ⟨w8.heap.size, 0, none⟩), w8.alloc (.cells #[.int .i64 0, .slice none 0 0] 44), (by go_simp; try with_reducible rfl), ?_⟩
                                    obtain ⟨b27, hb27⟩ : ∃ b, b = w8.heap.size := ⟨_, rfl⟩
                                    obtain ⟨v8, hw8⟩ : ∃ zW, zW = w8.alloc (.cells #[.int .i64 0, .slice none 0 0] 44) := ⟨_, rfl⟩
                                    rw [← hw8, ← hb27]
                                    have hbl : Below w8.heap.size w8 v8 := by rw [hw8]; go_grown
                                    have hge27 : s + 0 ≤ b27 := by rw [hb27]; exact Nat.le_trans zz hS.size
                                    have hga27 : wc.heap.size ≤ b27 := by rw [hb27]; exact Nat.le_trans hacc.size hS.size
                                    refine ⟨(fun x => Below v8.heap.size v8 x), Below.refl _ _, fun x hx => btr (btr hS hbl) hx, ?_⟩
                                    have hX := btr hS hbl
                                    replace hC14 := hC14.mono hX; replace hV13 := hV13.mono hX; replace hbw := btr hbw hX; replace zz := Nat.le_trans zz (Below.size hX); replace hacc := btr hacc hX
                                    have hs : Cells v8 [(b27, 0, .int .i64 0), (b27, 1, .slice none 0 0)] := ⟨⟨by rw [hw8, hb27]; go_cell, by rw [hw8, hb27]; go_cell⟩, ⟨by rw [hw8, hb27]; go_cell, by rw [hw8, hb27]; go_cell⟩, trivial⟩
                                    clear hX hS hbl hw8 hb27
                                    (try simp only [Act.put, List.setIfInBounds_toArray, List.set_cons_zero, List.set_cons_succ])
                                    refine seqE_call (f := ?_) (args := ?_) rfl (by rfl) ?_ ?_ seqE_stop
                                    rotate_left 2
                                    focus (intro w hS; go_simp; first | done | with_reducible rfl | (refine ⟨?_, ?_⟩ <;> with_reducible rfl))
                                    intro w9 hS
                                    refine (made_nil (HUy.out.mono (btr hbw hS)) hly H8y.out hn0 (by omega) hk20 (by omega) HZA.out).mono ?_
                                    rintro e v9 ⟨y1, cy1, rfl, hX1, hbl⟩
                                    refine ⟨_, rfl, (fun x => Below v9.heap.size v9 x), Below.refl _ _, fun x hx => btr (btr hS hbl) hx, ?_⟩
                                    have hXw := Nat.le_trans zz hS.size; have hXa := Nat.le_trans hacc.size hS.size
                                    have hX := btr hS hbl
                                    replace hs := hs.up hX; replace hC14 := hC14.mono hX; replace hV13 := hV13.mono hX; replace hbw := btr hbw hX; replace zz := Nat.le_trans zz (Below.size hX); replace hacc := btr hacc hX
                                    clear hX hS hbl hXw hXa
                                    (try simp only [Act.put, List.setIfInBounds_toArray, List.set_cons_zero, List.set_cons_succ])
                                    refine seqE_callB (f := ?_) (args := ?_) rfl (by rfl) ?_ ?_ seqE_stop
                                    rotate_left 2
                                    focus (intro w hS; go_simp; first | done | with_reducible rfl | (refine ⟨?_, ?_⟩ <;> with_reducible rfl))
                                    intro w10 hS
                                    refine (mvalue_fr (V := V) (nv := V.length) (ar := k2) (p := p14) (cap := c14) (hC14.mono hS) (hX1.up hS) (hV13.mono hS) gcn.wf (by rw [HCL.out]; omega) (by omega) rfl hVm HVZ.out).mono ?_
                                    rintro e v10 ⟨y2, cy2, rfl, hX2, hfr, hbl⟩
                                    have oF : ∀ ad, y2 = some ad → b27 ≠ ad.block := fun ad h e => by have h1 := hfr ad h; have h2 : b27 < _ := World.block_lt_of_cell? _ _ hs.1.1; have h3 := hS.size; omega
                                    refine ⟨_, rfl, (fun x => Below v10.heap.size v10 x), Below.refl _ _, ?_⟩
                                    have hXw := Nat.le_trans zz hS.size; have hXa := Nat.le_trans hacc.size hS.size
                                    have hX := btr hS hbl
                                    replace hs := hs.up hX; replace hC14 := hC14.mono hX; replace hV13 := hV13.mono hX; replace hX1 := hX1.up hX; replace hbw := btr hbw hX; replace zz := Nat.le_trans zz (Below.size hX); replace hacc := btr hacc hX
                                    clear hfr
                                    clear hX hS hbl hXw hXa
                                    (try simp only [Act.put, List.setIfInBounds_toArray, List.set_cons_zero, List.set_cons_succ])
                                    refine seqE_storeB rfl (by rfl) ?_ seqE_stop
                                    intro w11 hS
                                    replace hs := hs.up hS; replace hC14 := hC14.mono hS; replace hX2 := hX2.up hS; replace hbw := btr hbw hS; replace zz := Nat.le_trans zz (Below.size hS); replace hacc := btr hacc hS
                                    obtain ⟨⟨d270, d270f⟩, ⟨d271, d271f⟩, -⟩ := id hs
                                    refine ⟨((w11.setCell ⟨b27, 0, none⟩ (.int .i64 k2)).setCell ⟨b27, 1, none⟩ (.slice y2 vz.length cy2)), (by go_simp; try with_reducible rfl), (fun x => Below (((w11.setCell ⟨b27, 0, none⟩ (.int .i64 k2)).setCell ⟨b27, 1, none⟩ (.slice y2 vz.length cy2))).heap.size (((w11.setCell ⟨b27, 0, none⟩ (.int .i64 k2)).setCell ⟨b27, 1, none⟩ (.slice y2 vz.length cy2))) x), Below.refl _ _, ?_⟩
                                    obtain ⟨v11, hw⟩ : ∃ zW, zW = ((w11.setCell ⟨b27, 0, none⟩ (.int .i64 k2)).setCell ⟨b27, 1, none⟩ (.slice y2 vz.length cy2)) := ⟨_, rfl⟩
                                    rw [← hw]
                                    replace hs : Cells v11 [(b27, 0, .int .i64 k2), (b27, 1, .slice y2 vz.length cy2)] := by rw [hw]; exact ⟨⟨by go_cell, (fz (fz d270f))⟩, ⟨by go_cell, (fz (fz d271f))⟩, trivial⟩
                                    replace hC14 : CAt v11 p14 c14 (cnew) := by rw [hw]; exact hC14.boxM d271 _ _
                                    replace hX2 : SI v11 y2 cy2 vz := by rw [hw]; exact ((hX2.set (oF) _).set (oF) _)
                                    replace hbw : Below w.heap.size w v11 := by rw [hw]; exact (Below.setCell (Below.setCell hbw (by have h := HS.out; (try dsimp only); omega) _) (by have h := HS.out; (try dsimp only); omega) _)
                                    replace hacc : Below wc.heap.size wc v11 := by rw [hw]; exact (Below.setCell (Below.setCell hacc (by have h := HS.out; (try dsimp only); omega) _) (by have h := HS.out; (try dsimp only); omega) _)
                                    replace zz : s + 0 ≤ v11.heap.size := by rw [hw]; simpa using zz
                                    clear hw
                                    clear d270 d270f d271 d271f
                                    clear hS
                                    (try simp only [Act.put, List.setIfInBounds_toArray, List.set_cons_zero, List.set_cons_succ])
                                    refine seqE_nil ?_
                                    intro wz hS
                                    replace hs := hs.up hS; replace hC14 := hC14.mono hS; replace hX2 := hX2.up hS; replace hbw := btr hbw hS; replace zz := Nat.le_trans zz (Below.size hS); replace hacc := btr hacc hS; clear hS
                                    obtain ⟨⟨d270, d270f⟩, ⟨d271, d271f⟩, -⟩ := id hs
                                    go_wp2_with fail
                                    go_meet
                                    exact ⟨⟨_, rfl, _, _, ⟨⟨d270, d270f⟩, ⟨d271, d271f⟩, trivial⟩, hX2⟩, hacc⟩
                                case rest =>
                                  clear k14 k14f hC14
                                  obtain ⟨⟨b27, rfl, hN27⟩, hst⟩ := hcut
                                  replace hV13 := hV13.up hst
                                  replace hB14 := hB14.up hst
                                  replace hN15 := hN15.up hst
                                  replace hN17 := hN17.up hst
                                  replace hW := btr hW hst
                                  clear hst
                                  clear hV13
                                  go_upto_region 20 with fail
                                  obtain ⟨p14, c14, k14, k14f, hC14⟩ := id hB14
                                  obtain ⟨q15, cq15, ⟨⟨m15, m15f⟩, ⟨n15, n15f⟩, -⟩, hM15⟩ := id hN15
                                  obtain ⟨q27, cq27, ⟨⟨m27, m27f⟩, ⟨n27, n27f⟩, -⟩, hM27⟩ := id hN27
                                  go_cut [28, 29] from 170 to 178 (fun s28 s29 wx => (∃ (b b' : Nat), s28 = .pointer (some ⟨b, 0, none⟩) ∧ s29 = .pointer (some ⟨b', 0, none⟩) ∧ Bx wx b cnew ∧ BM wx b' ((kk : Int) + k2 - 2) m4) ∧ Below wc.heap.size wc wx)
                                  case first =>
                                    as_aux_lemma =>
                                      obtain ⟨s, hs0⟩ : ∃ s, wc.heap.size = s := ⟨_, rfl⟩
                                      have HS := Lib.hid hs0; clear hs0
                                      obtain ⟨tab, htab⟩ : ∃ t : Nat → Ent, t = tabL [(4, eM k2 za), (5, eCM cnew ((kk : Int) + k2 - 2) m4), (9, eVC s), (10, eVM s)] := ⟨_, rfl⟩
                                      refine wp_region_tab wc tab [(0, 0), (1, 0), (2, 0), (3, 0), (4, 1), (5, 1), (6, 0), (7, 0), (9, 1), (10, 1), (8, 2)] (.alt 11 3 (.alt 12 3 .nil .stop) .stop) (by kernel_rfl) (by kernel_rfl) (by kernel_rfl) (Below.drew (Below.refl _ _)) ?_
                                      refine seqX_pure (v := ?_) rfl (by rfl) ?_ ?_
                                      rotate_left
                                      · (intro w hS hF; have kk := oldcell hS k14 (World.block_lt_of_cell? _ _ k14); go_simp; try with_reducible rfl)
                                      (try simp only [Act.put, List.setIfInBounds_toArray, List.set_cons_zero, List.set_cons_succ])
                                      refine seqX_pure (v := ?_) rfl (by rfl) ?_ ?_
                                      rotate_left
                                      · (intro w hS hF; go_simp; try with_reducible rfl)
                                      (try simp only [Act.put, List.setIfInBounds_toArray, List.set_cons_zero, List.set_cons_succ])
                                      refine seqX_pure (v := ?_) rfl (by rfl) ?_ ?_
                                      rotate_left
                                      · (intro w hS hF; have kk := oldcell hS m15 (World.block_lt_of_cell? _ _ m15); have kk2 := oldcell hS n15 (World.block_lt_of_cell? _ _ n15); go_simp; try with_reducible rfl)
                                      (try simp only [Act.put, List.setIfInBounds_toArray, List.set_cons_zero, List.set_cons_succ])
                                      refine seqX_pure (v := ?_) rfl (by rfl) ?_ ?_
                                      rotate_left
                                      · (intro w hS hF; have kk := oldcell hS m27 (World.block_lt_of_cell? _ _ m27); have kk2 := oldcell hS n27 (World.block_lt_of_cell? _ _ n27); go_simp; try with_reducible rfl)
                                      (try simp only [Act.put, List.setIfInBounds_toArray, List.set_cons_zero, List.set_cons_succ])
                                      refine seqX_call (e := eM k2 za) (f := ?_) (args := ?_) (by rw [htab]; rfl) rfl (by rfl) ?_ ?_ ?_
                                      rotate_left 2
                                      · (intro w; go_simp; first | done | with_reducible rfl | (refine ⟨?_, ?_⟩ <;> with_reducible rfl))
                                      · (intro w hS hF; refine (const_is (ar := k2) (hM27.up hS) (by omega) F4.out).mono ?_; intro e w' h; exact RetM.x h)
                                      rintro ⟨p175, c175, q175, d175, b175⟩
                                      (try dsimp only [eCM, eC, eCI, eM, eR, eS, eX, eB, eK, eVC, eVM])
                                      (try simp only [Act.put, List.setIfInBounds_toArray, List.set_cons_zero, List.set_cons_succ])
                                      refine seqX_call (e := eCM cnew ((kk : Int) + k2 - 2) m4) (f := ?_) (args := ?_) (by rw [htab]; rfl) rfl (by rfl) ?_ ?_ ?_
                                      rotate_left 2
                                      · (intro w; go_simp; first | done | with_reducible rfl | (refine ⟨?_, ?_⟩ <;> with_reducible rfl))
                                      · (intro w hS hF; have f1 : MxAt w q175 d175 za := hF 4 (by kernel_rfl); refine (joinL_is (hC14.mono hS) (hM15.up hS) f1 hkk0 hkk2 hk20 hk22 hn0 hn3 gcn (by rw [HCL.out]; omega) OA.out OZ.out E5.out).mono ?_; intro e w' h; exact RetCM.x h)
                                      rintro ⟨p176, c176, q176, d176, b176⟩
                                      (try dsimp only [eCM, eC, eCI, eM, eR, eS, eX, eB, eK, eVC, eVM])
                                      (try simp only [Act.put, List.setIfInBounds_toArray, List.set_cons_zero, List.set_cons_succ])
                                      refine seqX_pure (v := ?_) rfl (by rfl) ?_ ?_
                                      rotate_left
                                      · (intro w hS hF; go_simp; try with_reducible rfl)
                                      (try simp only [Act.put, List.setIfInBounds_toArray, List.set_cons_zero, List.set_cons_succ])
                                      refine seqX_pure (v := ?_) rfl (by rfl) ?_ ?_
                                      rotate_left
                                      · (intro w hS hF; go_simp; try with_reducible rfl)
                                      (try simp only [Act.put, List.setIfInBounds_toArray, List.set_cons_zero, List.set_cons_succ])
                                      refine seqX_move (e := eVC s) (by rw [htab]; rfl) rfl (by rfl) ?_ ?_
                                      · (intro w hS; exact ⟨⟨none, 0, none, 0, w.heap.size⟩, w.alloc (.cells #[.slice none 0 0] 27), (by go_simp; try with_reducible rfl), by go_grown, Nat.le_trans (Nat.le_of_eq HS.out.symm) hS.size, ⟨⟨by go_cell, by go_cell⟩, trivial⟩⟩)
                                      rintro ⟨p28, c28, q28, d28, b28⟩
                                      (try dsimp only [eCM, eC, eCI, eM, eR, eS, eX, eB, eK, eVC, eVM])
                                      (try simp only [Act.put, List.setIfInBounds_toArray, List.set_cons_zero, List.set_cons_succ])
                                      refine seqX_move (e := eVM s) (by rw [htab]; rfl) rfl (by rfl) ?_ ?_
                                      · (intro w hS; exact ⟨⟨none, 0, none, 0, w.heap.size⟩, w.alloc (.cells #[.int .i64 0, .slice none 0 0] 30), (by go_simp; try with_reducible rfl), by go_grown, Nat.le_trans (Nat.le_of_eq HS.out.symm) hS.size, ⟨⟨by go_cell, by go_cell⟩, ⟨by go_cell, by go_cell⟩, trivial⟩⟩)
                                      rintro ⟨p29, c29, q29, d29, b29⟩
                                      (try dsimp only [eCM, eC, eCI, eM, eR, eS, eX, eB, eK, eVC, eVM])
                                      (try simp only [Act.put, List.setIfInBounds_toArray, List.set_cons_zero, List.set_cons_succ])
                                      refine seqX_free (v := ?_) rfl (by rfl) ?_ ?_
                                      rotate_left
                                      · (intro w; go_simp; try with_reducible rfl)
                                      (try simp only [Act.put, List.setIfInBounds_toArray, List.set_cons_zero, List.set_cons_succ])
                                      refine seqX_nil ?_
                                      refine seqE_storeB rfl (by rfl) ?_ seqE_stop
                                      intro w hS
                                      obtain ⟨ga, ca⟩ : s ≤ b28 ∧ Cells w [(b28, 0, .slice none 0 0)] := hS.2 9
                                      obtain ⟨gm, cm⟩ : s ≤ b29 ∧ Cells w [(b29, 0, .int .i64 0), (b29, 1, .slice none 0 0)] := hS.2 10
                                      obtain ⟨fc, fm⟩ : CAt w p176 c176 (cnew) ∧ MxAt w q176 d176 (m4) := hS.2 5
                                      have ht : TLm s wc b28 b29 p176 c176 (cnew) q176 d176 (m4) w := ⟨hS.1, HS.out, ga, gm, ca, cm, fc, fm⟩
                                      obtain ⟨⟨u1, u1f⟩, -⟩ := ca
                                      refine ⟨w.setCell ⟨b28, 0, none⟩ (.slice p176 (cnew).length c176), (by go_simp; try with_reducible rfl), fun x => T2m s wc b28 b29 (cnew) q176 d176 (m4) x, ht.s1, ?_⟩
                                      (try simp only [Act.put, List.setIfInBounds_toArray, List.set_cons_zero, List.set_cons_succ])
                                      refine seqE_storeB rfl (by rfl) ?_ seqE_stop
                                      intro w hS
                                      obtain ⟨⟨u0, u0f⟩, ⟨u1, u1f⟩, -⟩ := hS.cm
                                      refine ⟨(w.setCell ⟨b29, 0, none⟩ (.int .i64 ((kk : Int) + k2 - 2))).setCell ⟨b29, 1, none⟩ (.slice q176 (m4).length d176), (by go_simp; try with_reducible rfl), fun x => Bx x b28 (cnew) ∧ BM x b29 ((kk : Int) + k2 - 2) (m4) ∧ Below wc.heap.size wc x, hS.s2, ?_⟩
                                      (try simp only [Act.put, List.setIfInBounds_toArray, List.set_cons_zero, List.set_cons_succ])
                                      refine seqE_nil ?_
                                      intro w hS
                                      go_wp2_with fail
                                      go_meet
                                      exact ⟨⟨_, _, rfl, rfl, hS.1, hS.2.1⟩, hS.2.2⟩
                                  case rest =>
                                    clear k14 k14f hC14
                                    clear m15 m15f n15 n15f hM15
                                    clear m27 m27f n27 n27f hM27
                                    obtain ⟨⟨b28, b29, rfl, rfl, hB28, hN29⟩, hst⟩ := hcut
                                    replace hB14 := hB14.up hst
                                    replace hN15 := hN15.up hst
                                    replace hN17 := hN17.up hst
                                    replace hN27 := hN27.up hst
                                    replace hW := btr hW hst
                                    clear hst
                                    clear hB14
                                    clear hN15
                                    go_upto_region 21 with fail
                                    obtain ⟨q17, cq17, ⟨⟨m17, m17f⟩, ⟨n17, n17f⟩, -⟩, hM17⟩ := id hN17
                                    obtain ⟨q27, cq27, ⟨⟨m27, m27f⟩, ⟨n27, n27f⟩, -⟩, hM27⟩ := id hN27
                                    go_cut [30, 31] from 179 to 185 (fun s30 s31 wx => (∃ (b : Nat), s30 = .pointer (some ⟨b, 0, none⟩) ∧ s31 = .int .i64 0 ∧ BR wx b ((kk : Int) + k2 - 2) u4) ∧ Below wc.heap.size wc wx)
                                    case first =>
                                      as_aux_lemma =>
                                        go_wp2_with (first | (go_at_call 62; refine (reljoin_is hM17 hM27 (by omega) (by omega) SVA.out SVZ.out hkk0 hk20 (by omega) hkk2 hk22 hn0 (by omega) HU4.out).mono ?_; rintro e w1 ⟨p1, cap1, rfl, hR1, hb1⟩))
                                        go_meet
                                        exact ⟨⟨_, rfl, rfl, BR.newAt hR1 _ rfl⟩, bal hb1 _⟩
                                    case rest =>
                                      obtain ⟨⟨b30, rfl, rfl, hN30⟩, hst⟩ := hcut
                                      replace hN17 := hN17.up hst
                                      replace hN27 := hN27.up hst
                                      replace hB28 := hB28.up hst
                                      replace hN29 := hN29.up hst
                                      replace hW := btr hW hst
                                      clear hst
                                      clear m17 m17f n17 n17f hM17
                                      clear m27 m27f n27 n27f hM27
                                      go_upto_region 22 with fail
                                      obtain ⟨p28, c28, k28, k28f, hC28⟩ := id hB28
                                      obtain ⟨q29, cq29, ⟨⟨m29, m29f⟩, ⟨n29, n29f⟩, -⟩, hM29⟩ := id hN29
                                      obtain ⟨q30, cq30, ⟨⟨m30, m30f⟩, ⟨n30, n30f⟩, -⟩, hM30⟩ := id hN30
                                      obtain ⟨s, hs0⟩ : ∃ s, wc.heap.size = s := ⟨_, rfl⟩
                                      have HS := Lib.hid hs0; clear hs0
                                      obtain ⟨tab, htab⟩ : ∃ t : Nat → Ent, t = tabL [(14, eM ((kk : Int) + k2 - 2) m4), (15, eK (.bool true))] := ⟨_, rfl⟩
                                      refine wp_region_tab wc tab [(0, 0), (1, 0), (2, 0), (3, 0), (4, 0), (5, 0), (6, 0), (7, 0), (8, 0), (9, 0), (10, 0), (11, 0), (12, 0), (13, 0), (14, 1), (15, 1), (16, 0), (17, 0)] .nil (by kernel_rfl) (by kernel_rfl) (by kernel_rfl) (Below.drew (Below.refl _ _)) ?_
                                      refine seqX_pure (v := ?_) rfl (by rfl) ?_ ?_
                                      rotate_left
                                      · (intro w hS hF; go_simp; try with_reducible rfl)
                                      (try simp only [Act.put, List.setIfInBounds_toArray, List.set_cons_zero, List.set_cons_succ])
                                      refine seqX_pure (v := ?_) rfl (by rfl) ?_ ?_
                                      rotate_left
                                      · (intro w hS hF; go_simp; try with_reducible rfl)
                                      (try simp only [Act.put, List.setIfInBounds_toArray, List.set_cons_zero, List.set_cons_succ])
                                      refine seqX_pure (v := ?_) rfl (by rfl) ?_ ?_
                                      rotate_left
                                      · (intro w hS hF; go_simp; try with_reducible rfl)
                                      (try simp only [Act.put, List.setIfInBounds_toArray, List.set_cons_zero, List.set_cons_succ])
                                      refine seqX_pure (v := ?_) rfl (by rfl) ?_ ?_
                                      rotate_left
                                      · (intro w hS hF; go_simp; try with_reducible rfl)
                                      (try simp only [Act.put, List.setIfInBounds_toArray, List.set_cons_zero, List.set_cons_succ])
                                      refine seqX_pure (v := ?_) rfl (by rfl) ?_ ?_
                                      rotate_left
                                      · (intro w hS hF; go_simp; try with_reducible rfl)
                                      (try simp only [Act.put, List.setIfInBounds_toArray, List.set_cons_zero, List.set_cons_succ])
                                      refine seqX_pure (v := ?_) rfl (by rfl) ?_ ?_
                                      rotate_left
                                      · (intro w hS hF; go_simp; try with_reducible rfl)
                                      (try simp only [Act.put, List.setIfInBounds_toArray, List.set_cons_zero, List.set_cons_succ])
                                      refine seqX_pure (v := ?_) rfl (by rfl) ?_ ?_
                                      rotate_left
                                      · (intro w hS hF; go_simp; try with_reducible rfl)
                                      (try simp only [Act.put, List.setIfInBounds_toArray, List.set_cons_zero, List.set_cons_succ])
                                      refine seqX_pure (v := ?_) rfl (by rfl) ?_ ?_
                                      rotate_left
                                      · (intro w hS hF; have kk := oldcell hS k28 (World.block_lt_of_cell? _ _ k28); go_simp; try with_reducible rfl)
                                      (try simp only [Act.put, List.setIfInBounds_toArray, List.set_cons_zero, List.set_cons_succ])
                                      refine seqX_pure (v := ?_) rfl (by rfl) ?_ ?_
                                      rotate_left
                                      · (intro w hS hF; have hc := HCL.out; go_simp; try with_reducible rfl)
                                      (try simp only [Act.put, List.setIfInBounds_toArray, List.set_cons_zero, List.set_cons_succ])
                                      refine seqX_pure (v := ?_) rfl (by rfl) ?_ ?_
                                      rotate_left
                                      · (intro w hS hF; have hc := HCL.out; go_simp; try with_reducible rfl)
                                      (try simp only [Act.put, List.setIfInBounds_toArray, List.set_cons_zero, List.set_cons_succ])
                                      refine seqX_pure (v := ?_) rfl (by rfl) ?_ ?_
                                      rotate_left
                                      · (intro w hS hF; go_simp; try with_reducible rfl)
                                      (try simp only [Act.put, List.setIfInBounds_toArray, List.set_cons_zero, List.set_cons_succ])
                                      refine seqX_pure (v := ?_) rfl (by rfl) ?_ ?_
                                      rotate_left
                                      · (intro w hS hF; go_simp; try with_reducible rfl)
                                      (try simp only [Act.put, List.setIfInBounds_toArray, List.set_cons_zero, List.set_cons_succ])
                                      refine seqX_pure (v := ?_) rfl (by rfl) ?_ ?_
                                      rotate_left
                                      · (intro w hS hF; have kk := oldcell hS m29 (World.block_lt_of_cell? _ _ m29); have kk2 := oldcell hS n29 (World.block_lt_of_cell? _ _ n29); go_simp; try with_reducible rfl)
                                      (try simp only [Act.put, List.setIfInBounds_toArray, List.set_cons_zero, List.set_cons_succ])
                                      refine seqX_pure (v := ?_) rfl (by rfl) ?_ ?_
                                      rotate_left
                                      · (intro w hS hF; have kk := oldcell hS m30 (World.block_lt_of_cell? _ _ m30); have kk2 := oldcell hS n30 (World.block_lt_of_cell? _ _ n30); go_simp; try with_reducible rfl)
                                      (try simp only [Act.put, List.setIfInBounds_toArray, List.set_cons_zero, List.set_cons_succ])
                                      refine seqX_call (e := eM ((kk : Int) + k2 - 2) m4) (f := ?_) (args := ?_) (by rw [htab]; rfl) rfl (by rfl) ?_ ?_ ?_
                                      rotate_left 2
                                      · (intro w; go_simp; first | done | with_reducible rfl | (refine ⟨?_, ?_⟩ <;> with_reducible rfl))
                                      · (intro w hS hF; refine (const_is (ar := (kk : Int) + k2 - 2) (hM30.up hS) (by omega) F5.out).mono ?_; intro e w' h; exact RetM.x h)
                                      rintro ⟨p200, c200, q200, d200, b200⟩
                                      (try dsimp only [eCM, eC, eCI, eM, eR, eS, eX, eB, eK, eVC, eVM])
                                      (try simp only [Act.put, List.setIfInBounds_toArray, List.set_cons_zero, List.set_cons_succ])
                                      refine seqX_call (e := eK (.bool true)) (f := ?_) (args := ?_) (by rw [htab]; rfl) rfl (by rfl) ?_ ?_ ?_
                                      rotate_left 2
                                      · (intro w; go_simp; first | done | with_reducible rfl | (refine ⟨?_, ?_⟩ <;> with_reducible rfl))
                                      · (intro w hS hF; have f1 : MxAt w q200 d200 m4 := hF 14 (by kernel_rfl); refine (same14_is (ar := (kk : Int) + k2 - 2) (hM29.up hS) f1 (Below.refl _ _) (by omega)).mono ?_; intro e w' h; exact keep_x h)
                                      rintro ⟨p201, c201, q201, d201, b201⟩
                                      (try dsimp only [eCM, eC, eCI, eM, eR, eS, eX, eB, eK, eVC, eVM])
                                      (try simp only [Act.put, List.setIfInBounds_toArray, List.set_cons_zero, List.set_cons_succ])
                                      refine seqX_pure (v := ?_) rfl (by rfl) ?_ ?_
                                      rotate_left
                                      · (intro w hS hF; go_simp; try with_reducible rfl)
                                      (try simp only [Act.put, List.setIfInBounds_toArray, List.set_cons_zero, List.set_cons_succ])
                                      refine seqX_pure (v := ?_) rfl (by rfl) ?_ ?_
                                      rotate_left
                                      · (intro w hS hF; go_simp; try with_reducible rfl)
                                      (try simp only [Act.put, List.setIfInBounds_toArray, List.set_cons_zero, List.set_cons_succ])
                                      refine seqX_nil ?_
                                      refine seqE_nil ?_
                                      intro w hS
                                      go_wp2_with fail
                                      go_ret
                                      exact ⟨rfl, btr hW hS.1⟩
end Go.Proofs.Ytadilppdlbhjnaa
