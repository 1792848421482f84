/- Walk of ClosureTransitive. -/
import Derived.Test.YtadilppdlbhjnaaGT
import Derived.Test.YtadilppdlbhjnaaGR
namespace Go.Proofs.Ytadilppdlbhjnaa
set_option linter.unusedSimpArgs false
set_option linter.unusedVariables false
open Go.RowKit

theorem rin_true {a b : List Int} {ar1 ar2 : Int} {pa pb : Option Addr} {ca cb : Nat} {w : World} (hA : SI w pa ca a) (hD : SI w pb cb b) (hla : a.length ≤ 20000) (hlb : b.length ≤ 20000) (ha : ∀ x ∈ a, 0 ≤ x ∧ x < 100000) (hb : ∀ x ∈ b, 0 ≤ x ∧ x < 100000) (h : ∀ x ∈ a, x ∈ b) :
    Calls Try.prog 41 #[.agg #[.int .i64 ar1, .slice pa a.length ca], .agg #[.int .i64 ar2, .slice pb b.length cb]] w (RetB w true) := by
  have e : ((rDiff a b).length == 0) = true := by rw [rDiff_none.2 h]; rfl
  have := rin_any a b ar1 ar2 pa pb ca cb w hA hD hla hlb ha hb
  rw [e] at this
  exact this
theorem rk_big {n : Nat} {l : List Int} (hn : n ≤ 4) (h : Rk n l) : ∀ x ∈ l, 0 ≤ x ∧ x < 100000 := fun x hx => by
  have h1 := h x hx; have h2 : n * n ≤ 16 := Nat.mul_le_mul hn hn; omega
theorem rk_mid {n : Nat} {l : List Int} (hn : n ≤ 4) (h : Rk n l) : ∀ x ∈ l, 0 ≤ x ∧ x < 2000 := fun x hx => by
  have h1 := h x hx; have h2 : n * n ≤ 16 := Nat.mul_le_mul hn hn; omega
theorem rk_16 {n : Nat} {l : List Int} (hn : n ≤ 4) (h : Rk n l) (hs : RS l) : l.length ≤ 16 := by
  have h1 := rs_len hs h; have h2 : n * n ≤ 16 := Nat.mul_le_mul hn hn; omega
theorem trans_facts {n : Nat} {a : List Cell} {c : List Gate} {V : List Bool} (hn0 : 0 < n) (hn : n ≤ 4) (hg : Good c) (ha : MOk c ((n * n : Nat) : Int) a) (hl : c.length + 2400 ≤ 20000) :
    (trTo n (mValue c V a) (n - 1)).2 = mValue (mSmaller c n a).1 V (mSmaller c n a).2 ∧ (∀ x ∈ mValue c V a, x ∈ mValue (mSmaller c n a).1 V (mSmaller c n a).2) ∧ (∀ x ∈ rJoin n n (mValue (mSmaller c n a).1 V (mSmaller c n a).2) (mValue (mSmaller c n a).1 V (mSmaller c n a).2), x ∈ mValue (mSmaller c n a).1 V (mSmaller c n a).2) ∧
      Rk n (mValue (mSmaller c n a).1 V (mSmaller c n a).2) ∧ RS (mValue (mSmaller c n a).1 V (mSmaller c n a).2) := by
  obtain ⟨g3, o3⟩ := smaller_ok hn hg (by omega) ha
  have hp : ∀ x y : Int, 0 ≤ x → x < n → 0 ≤ y → y < n → (PairIn n (mValue (mSmaller c n a).1 V (mSmaller c n a).2) x y ↔ PathN n (PairIn n (mValue c V a)) n x y) := fun x y h1 h2 h3 h4 => by
    rw [pair_value g3.good o3, pair_value hg ha]
    exact smaller_path hn hg ha V (by omega) h1 h2 h3 h4
  have k1 := value_rk V ha; have k2 := value_rs V ha; have k3 := value_rk V o3; have k4 := value_rs V o3
  exact ⟨trans_all hn0 k1 k2 k3 k4 hp, trans_in hn0 k1 hp, trans_two k3 hp, k3, k4⟩

set_option maxRecDepth 100000 in
set_option maxHeartbeats 8000000 in
theorem closureTransitive_any (k : Nat) (st : List Step) (ps : Option Addr) (cs : Nat) (vs : List Nat) (pv : Option Addr) (cv : Nat) (z : Nat) (w : World) (hk : k < 256) (hl : st.length ≤ maxLen) (hs : ∀ s ∈ st, s.k < 256 ∧ s.a < 256 ∧ s.b < 256) (hg : StepsAt w ps st) (hvl : vs.length ≤ maxLen) (hv8 : ∀ v ∈ vs, v < 256) (hV : UbAt w pv vs) (hz : z < 256) :
    Calls Try.prog 9 #[.int .u8 k, .slice ps st.length cs, .slice pv vs.length cv, .int .u8 z] w (RetB w true) := by
  unfold maxLen at hl
  have HS8 := Lib.hid hs; have HG := Lib.hid hg; have HV8 := Lib.hid hv8; have HV := Lib.hid hV; clear hs hg hv8 hV
  by_cases h20 : (20 : Int) < (st.length : Int)
  case pos =>
    go_enter Try.func9, Try.ntmps9
    go_wp2_with (first | (go_at_call 16; refine (head15_any _).mono ?_; rintro e w1 ⟨rfl, hb1⟩))
    go_ret
    exact ⟨rfl, hb1⟩
  case neg =>
    obtain ⟨n, hn⟩ : ∃ n, k % 4 + 1 = n := ⟨_, rfl⟩
    have hn0 : 0 < n := by omega
    have hn4 : n ≤ 4 := by omega
    obtain ⟨c, refs, a, hcb, ha, gc, hcl, ma, hrl, hrr, hal⟩ := made_plain st vs n (by omega) hn0 hn4
    have hc0 : 0 < c.length := gc.ne
    have hc2 : c.length + 2400 ≤ 20000 := by omega
    have hc3 : c.length ≤ 20000 := by omega
    obtain ⟨V, hV0⟩ : ∃ V, vbits z 8 = V := ⟨_, rfl⟩
    have hVl : V.length = 8 := by rw [← hV0]; exact vbits_len _ _
    have hVm : V.length ≤ maxLen := by unfold maxLen; omega
    obtain ⟨hall, hin, htwo, htk, hts⟩ := trans_facts (V := V) hn0 hn4 gc ma hc2
    have hrs := value_rs V ma; have hrk := value_rk V ma
    obtain ⟨g3, o3⟩ := smaller_ok hn4 gc (by omega) ma
    obtain ⟨d, m, e3⟩ : ∃ d m, mSmaller c n a = (d, m) := ⟨_, _, rfl⟩
    obtain ⟨r, hr0⟩ : ∃ l, mValue c V a = l := ⟨_, rfl⟩
    obtain ⟨t, ht0⟩ : ∃ l, mValue d V m = l := ⟨_, rfl⟩
    rw [e3] at hall hin htwo htk hts g3 o3
    dsimp only at hall hin htwo htk hts g3 o3
    rw [hr0] at hall hin hrs hrk
    rw [ht0] at hall hin htwo htk hts
    have k3 := g3.len
    have hd3 : d.length ≤ 20000 := by omega
    have hm3 : m.length ≤ 16 := mok_len hn4 o3
    have hrl := rk_16 hn4 hrk hrs; have htl := rk_16 hn4 htk hts
    have hrb := rk_big hn4 hrk; have htb := rk_big hn4 htk; have hrm := rk_mid hn4 hrk; have htm := rk_mid hn4 htk
    have hjk := htk.join htk
    obtain ⟨tw, htw⟩ : ∃ l, rJoin n n t t = l := ⟨_, rfl⟩
    have htwl : tw.length ≤ 16 := by rw [← htw]; exact rk_16 hn4 hjk (nrm_rs _)
    have htwb := rk_big hn4 hjk
    rw [htw] at htwo htwb
    have htr := trTo_ok hrk hrs
    have E3 := Lib.hid e3; have HR0 := Lib.hid hr0; have HT0 := Lib.hid ht0; have HVB := Lib.hid hV0; have HVL := Lib.hid hVl; have G3 := Lib.hid g3.good
    have HALL := Lib.hid hall; have HIN := Lib.hid hin; have HTWO := Lib.hid htwo; have HRB := Lib.hid hrb; have HTB := Lib.hid htb; have HRM := Lib.hid hrm; have HTM := Lib.hid htm; have HTW := Lib.hid htw; have HTWB := Lib.hid htwb; have HTR := Lib.hid htr
    clear e3 hr0 ht0 hV0 hVl g3 o3 hall hin htwo htk hts hrs hrk hrb htb hrm htm htw htwb hjk k3 htr
    have HN := Lib.hid hn; have HCB := Lib.hid hcb; have HA := Lib.hid ha; have GC := Lib.hid gc; have MA := Lib.hid ma; have HR := Lib.hid hrr
    clear hn hcb ha gc ma hrr
    have hW : Below w.heap.size w w := Below.refl _ _
    go_enter Try.func9, Try.ntmps9
    go_upto_region 1 with fail
    go_cut [9] from 25 to 25 (fun s9 wx => (s9 = .bool true) ∧ Below w.heap.size w wx)
    case first =>
      as_aux_lemma =>
        go_wp2_with (first | (go_at_call 16; refine (head15_any _).mono ?_; rintro e w2 ⟨rfl, hbl⟩))
        go_meet
        exact ⟨rfl, (by first | exact hbl | exact btr (by go_grown) hbl)⟩
    case rest =>
      obtain ⟨rfl, hst⟩ := hcut
      replace hW := btr hW hst
      clear hst
      go_upto_region 4 with fail
      go_cut [10, 11, 12] from 30 to 37 (fun s10 s11 s12 wx => (∃ (b b' : Nat), s10 = .pointer (some ⟨b, 0, none⟩) ∧ s11 = .int .i64 n ∧ s12 = .pointer (some ⟨b', 0, none⟩) ∧ Bx wx b c ∧ BM wx b' 2 a) ∧ Below wc.heap.size wc wx)
      case first =>
        as_aux_lemma =>
          go_wp2_with (first | (go_at_call 17; refine (made15_any k st vs c refs ps pv cs cv _ hk (HG.out.mono hW) (by omega) HS8.out (HV.out.mono hW) hvl HV8.out HCB.out hc0 (by omega) HR.out).mono ?_; rw [HN.out, HA.out]; rintro e w2 ⟨p2, cap2, y2, cy2, rfl, hC2, hM2, hbl⟩))
          go_meet
          exact ⟨⟨_, _, rfl, rfl, rfl, (Bx.new hC2 _).up (by go_grown), BM.newAt (hM2.up (bal (Below.refl _ _) _)) _ (by simp)⟩, bal (bal hbl _) _⟩
      case rest =>
        obtain ⟨⟨b10, b12, rfl, rfl, rfl, hB10, hN12⟩, hst⟩ := hcut
        replace hW := btr hW hst
        clear hst
        go_upto_region 5 with fail
        go_cut [13] from 38 to 39 (fun s13 wx => (∃ (q : Option Addr) (cq : Nat), s13 = .slice q V.length cq ∧ BoolsAt wx q V) ∧ Below wc.heap.size wc wx)
        case first =>
          as_aux_lemma =>
            go_wp2_with (first | (go_at_call 60; refine (values2_any z _ (by omega) (by omega)).mono ?_; rw [HVB.out]; rintro e w2 ⟨q2, cq2, rfl, hV2, hv0, hbl⟩))
            go_meet
            exact ⟨⟨_, _, rfl, hV2⟩, hbl⟩
        case rest =>
          obtain ⟨⟨q13, cq13, rfl, hV13⟩, hst⟩ := hcut
          replace hB10 := hB10.up hst
          replace hN12 := hN12.up hst
          replace hW := btr hW hst
          clear hst
          go_upto_region 6 with fail
          obtain ⟨p10, c10, k10, k10f, hC10⟩ := id hB10
          obtain ⟨q12, cq12, ⟨⟨m12, m12f⟩, ⟨n12, n12f⟩, -⟩, hM12⟩ := id hN12
          go_cut [14, 15] from 40 to 46 (fun s14 s15 wx => (∃ (b b' : Nat), s14 = .pointer (some ⟨b, 0, none⟩) ∧ s15 = .pointer (some ⟨b', 0, none⟩) ∧ Bx wx b d ∧ BM wx b' 2 m) ∧ Below wc.heap.size wc wx)
          case first =>
            as_aux_lemma =>
              go_wp2_with (first | (go_at_call 22; refine (smaller_is hC10 hM12 (Below.refl _ _) hn0 hn4 GC.out hc2 MA.out E3.out).mono ?_; rintro e w2 ⟨p2, cap2, y2, cy2, rfl, hC2, hM2, hbl⟩))
              go_meet
              exact ⟨⟨_, _, rfl, rfl, (Bx.new hC2 _).up (by go_grown), BM.newAt (hM2.up (bal (Below.refl _ _) _)) _ (by simp)⟩, bal (bal hbl _) _⟩
          case rest =>
            clear k10 k10f hC10
            obtain ⟨⟨b14, b15, rfl, rfl, hB14, hN15⟩, hst⟩ := hcut
            replace hB10 := hB10.up hst
            replace hN12 := hN12.up hst
            replace hV13 := hV13.up hst
            replace hW := btr hW hst
            clear hst
            clear m12 m12f n12 n12f hM12
            go_upto_region 7 with fail
            obtain ⟨p10, c10, k10, k10f, hC10⟩ := id hB10
            obtain ⟨q12, cq12, ⟨⟨m12, m12f⟩, ⟨n12, n12f⟩, -⟩, hM12⟩ := id hN12
            go_cut [16] from 47 to 50 (fun s16 wx => (∃ (b : Nat), s16 = .pointer (some ⟨b, 0, none⟩) ∧ BR wx b 2 r) ∧ Below wc.heap.size wc wx)
            case first =>
              as_aux_lemma =>
                go_wp2_with (first | (go_at_call 30; refine (mvalue_is (V := V) (nv := V.length) hC10 hM12 hV13 GC.out.wf hc3 (by omega) rfl hVm HR0.out).mono ?_; rintro e w1 ⟨p1, cap1, rfl, hR1, hb1⟩))
                go_meet
                exact ⟨⟨_, rfl, BR.newAt hR1 _ rfl⟩, bal hb1 _⟩
            case rest =>
              clear k10 k10f hC10
              obtain ⟨⟨b16, rfl, hN16⟩, hst⟩ := hcut
              replace hB10 := hB10.up hst
              replace hN12 := hN12.up hst
              replace hV13 := hV13.up hst
              replace hB14 := hB14.up hst
              replace hN15 := hN15.up hst
              replace hW := btr hW hst
              clear hst
              clear m12 m12f n12 n12f hM12
              go_upto_region 8 with fail
              obtain ⟨p14, c14, k14, k14f, hC14⟩ := id hB14
              obtain ⟨q15, cq15, ⟨⟨m15, m15f⟩, ⟨n15, n15f⟩, -⟩, hM15⟩ := id hN15
              go_cut [17] from 51 to 54 (fun s17 wx => (∃ (b : Nat), s17 = .pointer (some ⟨b, 0, none⟩) ∧ BR wx b 2 t) ∧ Below wc.heap.size wc wx)
              case first =>
                as_aux_lemma =>
                  go_wp2_with (first | (go_at_call 30; refine (mvalue_is (V := V) (nv := V.length) hC14 hM15 hV13 G3.out.wf hd3 (by omega) rfl hVm HT0.out).mono ?_; rintro e w1 ⟨p1, cap1, rfl, hR1, hb1⟩))
                  go_meet
                  exact ⟨⟨_, rfl, BR.newAt hR1 _ rfl⟩, bal hb1 _⟩
              case rest =>
                clear k14 k14f hC14
                obtain ⟨⟨b17, rfl, hN17⟩, hst⟩ := hcut
                replace hB10 := hB10.up hst
                replace hN12 := hN12.up hst
                replace hV13 := hV13.up hst
                replace hB14 := hB14.up hst
                replace hN15 := hN15.up hst
                replace hN16 := hN16.up hst
                replace hW := btr hW hst
                clear hst
                clear m15 m15f n15 n15f hM15
                go_upto_region 9 with fail
                obtain ⟨q17, cq17, ⟨⟨m17, m17f⟩, ⟨n17, n17f⟩, -⟩, hM17⟩ := id hN17
                go_cut [18, 19] from 55 to 61 (fun s18 s19 wx => (∃ (b : Nat), s18 = .pointer (some ⟨b, 0, none⟩) ∧ s19 = .int .i64 0 ∧ BR wx b 2 tw) ∧ Below wc.heap.size wc wx)
                case first =>
                  as_aux_lemma =>
                    go_wp2_with (first | (go_at_call 62; refine (reljoin_any n 1 1 n t t 2 2 q17 q17 cq17 cq17 _ hM17 hM17 (by omega) (by omega) HTM.out HTM.out hn0 (by omega) rfl rfl (by omega) (by omega) (Nat.pow_one n)).mono ?_; rw [HTW.out]; rintro e w1 ⟨q5, cq5, he, hR5, hq5, hb5⟩; rw [show ((1 : Nat) : Int) + ((1 : Nat) : Int) = 2 from rfl] at he; subst he))
                    go_meet
                    exact ⟨⟨_, rfl, rfl, BR.newAt hR5 _ rfl⟩, bal hb5 _⟩
                case rest =>
                  obtain ⟨⟨b18, rfl, rfl, hN18⟩, hst⟩ := hcut
                  replace hB10 := hB10.up hst
                  replace hN12 := hN12.up hst
                  replace hV13 := hV13.up hst
                  replace hB14 := hB14.up hst
                  replace hN15 := hN15.up hst
                  replace hN16 := hN16.up hst
                  replace hN17 := hN17.up hst
                  replace hW := btr hW hst
                  clear hst
                  clear m17 m17f n17 n17f hM17
                  clear hB10
                  clear hN12
                  clear hV13
                  clear hB14
                  clear hN15
                  go_upto_region 10 with fail
                  obtain ⟨q16, cq16, ⟨⟨m16, m16f⟩, ⟨n16, n16f⟩, -⟩, hM16⟩ := id hN16
                  obtain ⟨q17, cq17, ⟨⟨m17, m17f⟩, ⟨n17, n17f⟩, -⟩, hM17⟩ := id hN17
                  obtain ⟨q18, cq18, ⟨⟨m18, m18f⟩, ⟨n18, n18f⟩, -⟩, hM18⟩ := id hN18
                  have T1 := Lib.hid (fun (w' : World) (hB' : Below wc.heap.size wc w') => rin_true (ar1 := 2) (ar2 := 2) (hM16.up hB') (hM17.up hB') (by omega) (by omega) HRB.out HTB.out HIN.out)
                  have T2 := Lib.hid (fun (w' : World) (hB' : Below wc.heap.size wc w') => rin_true (ar1 := 2) (ar2 := 2) (hM18.up hB') (hM17.up hB') (by omega) (by omega) HTWB.out HTB.out HTWO.out)
                  go_cut [75] from 62 to 74 (fun s75 wx => (s75 = .bool false) ∧ Below wc.heap.size wc wx)
                  case first =>
                    as_aux_lemma =>
                      go_wp2_with (first | (go_at_call 41; (with_reducible refine (T1.out _ (Below.refl _ _)).mono ?_); rintro e w1 ⟨rfl, hb1⟩; have m18 := oldcell hb1 m18 (World.block_lt_of_cell? _ _ m18); have n18 := oldcell hb1 n18 (World.block_lt_of_cell? _ _ n18); have m17 := oldcell hb1 m17 (World.block_lt_of_cell? _ _ m17); have n17 := oldcell hb1 n17 (World.block_lt_of_cell? _ _ n17)) | (go_at_call 41; (with_reducible refine (T2.out _ hb1).mono ?_); rintro e w2 ⟨rfl, hb2⟩))
                      go_meet
                      exact ⟨rfl, btr hb1 hb2⟩
                  case rest =>
                    obtain ⟨rfl, hst⟩ := hcut
                    replace hN16 := hN16.up hst
                    replace hN17 := hN17.up hst
                    replace hN18 := hN18.up hst
                    replace hW := btr hW hst
                    clear hst
                    clear T1 T2
                    clear m16 m16f n16 n16f hM16
                    clear m17 m17f n17 n17f hM17
                    clear m18 m18f n18 n18f hM18
                    clear hN18
                    go_upto_region 12 with fail
                    obtain ⟨q16, cq16, ⟨⟨m16, m16f⟩, ⟨n16, n16f⟩, -⟩, hM16⟩ := id hN16
                    obtain ⟨q17, cq17, ⟨⟨m17, m17f⟩, ⟨n17, n17f⟩, -⟩, hM17⟩ := id hN17
                    have ka1 : ∀ x, (wc.alloc x).cell? ⟨b16, 0, none⟩ = some (.int .i64 2) := fun x => keep_alloc m16
                    have ka2 : ∀ x, (wc.alloc x).cell? ⟨b16, 1, none⟩ = some (.slice q16 r.length cq16) := fun x => keep_alloc n16
                    go_upto_region 15 with fail
                    obtain ⟨b20, hb20⟩ : ∃ b, b = wc.heap.size := ⟨_, rfl⟩
                    obtain ⟨w4, hw4⟩ : ∃ x, x = (wc.alloc (.cells #[.int .i64 2, .slice q16 r.length cq16] 44)).alloc (.cells #[.int .i64 2, .slice q16 r.length cq16] 44) := ⟨_, rfl⟩
                    try rw [← hw4, ← hb20]
                    
                    have hB4 : Below wc.heap.size wc w4 := by rw [hw4]; go_grown
                    have p0 : w4.cell? ⟨b20, 0, none⟩ = some (.int .i64 2) := by rw [hw4, hb20]; go_cell
                    have p1 : w4.cell? ⟨b20, 1, none⟩ = some (.slice q16 r.length cq16) := by rw [hw4, hb20]; go_cell
                    have p0f : w4.frozen? ⟨b20, 0, none⟩ = false := by rw [hw4, hb20]; go_cell
                    have p1f : w4.frozen? ⟨b20, 1, none⟩ = false := by rw [hw4, hb20]; go_cell
                    have a0 : w4.cell? ⟨b20 + 1, 0, none⟩ = some (.int .i64 2) := by rw [hw4, hb20]; go_cell
                    have a1 : w4.cell? ⟨b20 + 1, 1, none⟩ = some (.slice q16 r.length cq16) := by rw [hw4, hb20]; go_cell
                    have a0f : w4.frozen? ⟨b20 + 1, 0, none⟩ = false := by rw [hw4, hb20]; go_cell
                    have a1f : w4.frozen? ⟨b20 + 1, 1, none⟩ = false := by rw [hw4, hb20]; go_cell
                    have l16 : b16 < b20 := by rw [hb20]; exact World.block_lt_of_cell? _ _ m16
                    have l17 : b17 < b20 := by rw [hb20]; exact World.block_lt_of_cell? _ _ m17
                    replace m16 := oldcell hB4 m16 (World.block_lt_of_cell? _ _ m16); replace n16 := oldcell hB4 n16 (World.block_lt_of_cell? _ _ n16)
                    replace m17 := oldcell hB4 m17 (World.block_lt_of_cell? _ _ m17); replace n17 := oldcell hB4 n17 (World.block_lt_of_cell? _ _ n17)
                    have o16 : ∀ ad, q16 = some ad → ad.block < b20 := fun ad h => by rw [hb20]; exact hM16.lt ad h
                    have o17 : ∀ ad, q17 = some ad → ad.block < b20 := fun ad h => by rw [hb20]; exact hM17.lt ad h
                    have H16 := Lib.hid (hM16.up hB4); have H17 := Lib.hid (hM17.up hB4); have O16 := Lib.hid o16; have O17 := Lib.hid o17
                    have z4 : w4.heap.size = b20 + 2 := by rw [hw4, hb20]; simp
                    have hW4 := btr hW hB4
                    have hwb : w.heap.size ≤ b20 := by rw [hb20]; exact hW.size
                    have HW4 := Lib.hid hW4
                    clear hw4 hb20 hB4 hM16 hM17 m16f n16f m17f n17f hN16 hN17 o16 o17 hW hW4
                    have hk16 : ∀ (w' : World), KeepX [b20, b20 + 1] w4 w' → w'.cell? ⟨b16, 0, none⟩ = some (.int .i64 2) ∧ w'.cell? ⟨b16, 1, none⟩ = some (.slice q16 r.length cq16) ∧ w'.cell? ⟨b17, 0, none⟩ = some (.int .i64 2) ∧ w'.cell? ⟨b17, 1, none⟩ = some (.slice q17 t.length cq17) ∧ SI w' q16 cq16 r ∧ SI w' q17 cq17 t := fun _ hk =>
                      ⟨hk.cell m16 (by simp; omega), hk.cell n16 (by simp; omega), hk.cell m17 (by simp; omega), hk.cell n17 (by simp; omega),
                       ⟨H16.out.le, H16.out.cm, H16.out.q0, H16.out.at'.keep hk (fun ad h => by have := O16.out ad h; simp; omega), fun ad h => Nat.lt_of_lt_of_le (H16.out.lt ad h) hk.size⟩,
                       ⟨H17.out.le, H17.out.cm, H17.out.q0, H17.out.at'.keep hk (fun ad h => by have := O17.out ad h; simp; omega), fun ad h => Nat.lt_of_lt_of_le (H17.out.lt ad h) hk.size⟩⟩
                    have HK16 := Lib.hid hk16
                    clear hk16 m16 n16 m17 n17
                    go_wp2_with fail
                    go_loopg [22] (n - 1) (fun M s22 wr => ∃ (I : Nat) (P L : List Int) (qp ql : Option Addr) (cp cl : Nat), s22 = .int .i64 ((I : Int) + 1) ∧ I ≤ n - 1 ∧ M = n - 1 - I ∧ Hid (trTo n r I = (P, L)) ∧ wr.cell? ⟨b20, 0, none⟩ = some (.int .i64 2) ∧ wr.cell? ⟨b20, 1, none⟩ = some (.slice qp P.length cp) ∧ wr.cell? ⟨b20 + 1, 0, none⟩ = some (.int .i64 2) ∧ wr.cell? ⟨b20 + 1, 1, none⟩ = some (.slice ql L.length cl) ∧
                      (wr.frozen? ⟨b20, 0, none⟩ = false ∧ wr.frozen? ⟨b20, 1, none⟩ = false ∧ wr.frozen? ⟨b20 + 1, 0, none⟩ = false ∧ wr.frozen? ⟨b20 + 1, 1, none⟩ = false) ∧ Hid (SI wr qp cp P) ∧ Hid (SI wr ql cl L) ∧ Hid (∀ ad, qp = some ad → ad.block ≠ b20 ∧ ad.block ≠ b20 + 1) ∧ Hid (∀ ad, ql = some ad → ad.block ≠ b20 ∧ ad.block ≠ b20 + 1) ∧ KeepX [b20, b20 + 1] w4 wr)
                    case atStart => exact ⟨0, r, r, q16, q16, cq16, cq16, rfl, by omega, rfl, Lib.hid rfl, p0, p1, a0, a1, ⟨p0f, p1f, a0f, a1f⟩, H16, H16, Lib.hid (fun ad h => by have := O16.out ad h; omega), Lib.hid (fun ad h => by have := O16.out ad h; omega), KeepX.refl _ _⟩
                    case round =>
                      clear p0 p1 a0 a1 p0f p1f a0f a1f
                      obtain ⟨I, P, L, qp, ql, cp, cl, rfl, hI, hM, HTRI, p0, p1, a0, a1, ⟨p0f, p1f, a0f, a1f⟩, HSP, HSL, HQP, HQL, hkx⟩ := hrel
                      have HM := Lib.hid hM; clear hM
                      have hsz := hkx.size
                      have hbr : Below w.heap.size w wr := KeepX.below' HW4.out hkx HW4.out.size (by simp; omega)
                      obtain ⟨m16, n16, m17, n17, hS16, hS17⟩ := HK16.out _ hkx
                      have HPK := Lib.hid (show Rk n P ∧ Rk n L ∧ P.length ≤ 16 ∧ L.length ≤ 16 from by
                        obtain ⟨h1, h2, h3, h4, -⟩ := HTR.out I
                        rw [HTRI.out] at h1 h2 h3 h4
                        exact ⟨h1, h2, rk_16 hn4 h1 h3, rk_16 hn4 h2 h4⟩)
                      obtain ⟨-, -, hPl, hLl⟩ := HPK.out
                      have HS16 := Lib.hid hS16; have HS17 := Lib.hid hS17
                      clear hS16 hS17
                      by_cases hlt : I + 1 < n
                      case neg =>
                        have hIe : I = n - 1 := by omega
                        have hLt : L = t := by have h1 := HALL.out; rw [← hIe, HTRI.out] at h1; exact h1
                        subst hLt
                        have hnl : ¬ ((I : Int) + 1 < (n : Int)) := by omega
                        go_wp2_with (first | (go_at_call 47; refine (requal_is HSL.out HS17.out rfl).mono ?_; rintro e w2 ⟨rfl, hb2⟩))
                        go_ret
                        exact ⟨rfl, btr hbr hb2⟩
                      case pos =>
                        have hlt1 : (I : Int) + 1 < (n : Int) := by omega
                        obtain ⟨J, hJ⟩ : ∃ J, rJoin n n P r = J := ⟨_, rfl⟩
                        obtain ⟨U, hU⟩ : ∃ U, rUnion L J = U := ⟨_, rfl⟩
                        have hJl : J.length ≤ 16 := by
                          obtain ⟨h1, h2, h3, h4, -⟩ := HTR.out (I + 1)
                          have e : (trTo n r (I + 1)).1 = J := by show rJoin n n (trTo n r I).1 r = _; rw [HTRI.out]; exact hJ
                          rw [e] at h1 h3
                          exact rk_16 hn4 h1 h3
                        have HTN := Lib.hid (show trTo n r (I + 1) = (J, U) by
                          show (rJoin n n (trTo n r I).1 r, rUnion (trTo n r I).2 (rJoin n n (trTo n r I).1 r)) = _
                          rw [HTRI.out]; dsimp only; rw [hJ, hU])
                        have HJ := Lib.hid hJ; have HU := Lib.hid hU
                        have HPM := Lib.hid (rk_mid hn4 HPK.out.1)
                        have hwi : IntKind.i64.wrap ((I : Int) + 1 + 1) = (I : Int) + 1 + 1 := by rw [IntWalk.i64_in]; omega
                        have hb20r : b20 + 2 ≤ wr.heap.size := by omega
                        clear hJ hU
                        go_upto_region 18 with (first | (go_at_call 62; refine (reljoin_any n 1 1 n P r 2 2 qp q16 cp cq16 wr HSP.out HS16.out (by omega) (by omega) HPM.out HRM.out hn0 (by omega) rfl rfl (by omega) (by omega) (Nat.pow_one n)).mono ?_; rw [HJ.out]; rintro e w5 ⟨q5, cq5, he, hR5, hq5, hb5⟩; rw [show ((1 : Nat) : Int) + ((1 : Nat) : Int) = 2 from rfl] at he; subst he))
                        obtain ⟨b23, hb23⟩ : ∃ b, b = w5.heap.size := ⟨_, rfl⟩
                        obtain ⟨w6, hw6⟩ : ∃ x, x = w5.alloc (.cells #[.int .i64 2, .slice q5 J.length cq5] 44) := ⟨_, rfl⟩
                        rw [← hw6, ← hb23]
                        have hb56 : Below wr.heap.size wr w6 := by rw [hw6]; exact bal hb5 _
                        have d0 : w6.cell? ⟨b23, 0, none⟩ = some (.int .i64 2) := by rw [hw6, hb23]; go_cell
                        have d1 : w6.cell? ⟨b23, 1, none⟩ = some (.slice q5 J.length cq5) := by rw [hw6, hb23]; go_cell
                        have HR6 := Lib.hid (show SI w6 q5 cq5 J by rw [hw6]; exact hR5.up (by go_grown))
                        have hbb : b20 + 2 ≤ b23 := by have := hb5.size; omega
                        have HQ5 := Lib.hid (show ∀ ad, q5 = some ad → b20 + 2 ≤ ad.block from fun ad h => by have := hq5 ad h; omega)
                        replace p0 := oldcell hb56 p0 (by omega); replace p1 := oldcell hb56 p1 (by omega); replace p0f := oldfree hb56 p0f (by omega); replace p1f := oldfree hb56 p1f (by omega)
                        replace a0 := oldcell hb56 a0 (by omega); replace a1 := oldcell hb56 a1 (by omega); replace a0f := oldfree hb56 a0f (by omega); replace a1f := oldfree hb56 a1f (by omega)
                        have HL6 := Lib.hid (HSL.out.up hb56)
                        have HK6 := Lib.hid (hkx.upB hb56)
                        clear hw6 hb23 hb5 hR5 hq5 hb56 w5 hkx HS16 HS17 m16 n16 m17 n17 HSP HSL hbr
                        go_upto_region 21 with fail
                        obtain ⟨w7, hw7⟩ : ∃ x, x = (w6.setCell ⟨b20, 0, none⟩ (.int .i64 2)).setCell ⟨b20, 1, none⟩ (.slice q5 J.length cq5) := ⟨_, rfl⟩
                        rw [← hw7]
                        have e0 : w7.cell? ⟨b20, 0, none⟩ = some (.int .i64 2) := by rw [hw7]; go_cell
                        have e1 : w7.cell? ⟨b20, 1, none⟩ = some (.slice q5 J.length cq5) := by rw [hw7]; go_cell
                        have e0f : w7.frozen? ⟨b20, 0, none⟩ = false := by rw [hw7, World.frozen?_setCell, World.frozen?_setCell]; exact p0f
                        have e1f : w7.frozen? ⟨b20, 1, none⟩ = false := by rw [hw7, World.frozen?_setCell, World.frozen?_setCell]; exact p1f
                        have f0 : w7.cell? ⟨b20 + 1, 0, none⟩ = some (.int .i64 2) := by rw [hw7]; exact keep_far (keep_far a0 (by simp)) (by simp)
                        have f1 : w7.cell? ⟨b20 + 1, 1, none⟩ = some (.slice ql L.length cl) := by rw [hw7]; exact keep_far (keep_far a1 (by simp)) (by simp)
                        have f0f : w7.frozen? ⟨b20 + 1, 0, none⟩ = false := by rw [hw7, World.frozen?_setCell, World.frozen?_setCell]; exact a0f
                        have f1f : w7.frozen? ⟨b20 + 1, 1, none⟩ = false := by rw [hw7, World.frozen?_setCell, World.frozen?_setCell]; exact a1f
                        have g0 : w7.cell? ⟨b23, 0, none⟩ = some (.int .i64 2) := by rw [hw7]; exact keep_far (keep_far d0 (by simp; omega)) (by simp; omega)
                        have g1 : w7.cell? ⟨b23, 1, none⟩ = some (.slice q5 J.length cq5) := by rw [hw7]; exact keep_far (keep_far d1 (by simp; omega)) (by simp; omega)
                        have HR7 := Lib.hid (show SI w7 q5 cq5 J by rw [hw7]; exact (HR6.out.set (fun ad h e => by have := HQ5.out ad h; omega) _).set (fun ad h e => by have := HQ5.out ad h; omega) _)
                        have HL7 := Lib.hid (show SI w7 ql cl L by rw [hw7]; exact (HL6.out.set (fun ad h e => (HQL.out ad h).1 e.symm) _).set (fun ad h e => (HQL.out ad h).1 e.symm) _)
                        have HK7 := Lib.hid (show KeepX [b20, b20 + 1] w4 w7 by rw [hw7]; exact (HK6.out.setCell (by simp) _).setCell (by simp) _)
                        have hz7 : b20 + 2 ≤ w7.heap.size := by have := HK7.out.size; omega
                        clear hw7 p0 p1 p0f p1f a0 a1 a0f a1f d0 d1 HR6 HL6 HK6 w6
                        go_wp2_with (first | (go_at_call 63; refine (relunion_any L J 2 2 ql q5 cl cq5 w7 HL7.out HR7.out (by omega)).mono ?_; rw [HU.out]; rintro e w8 ⟨q8, cq8, rfl, hR8, hq8, hb8⟩; have e0 := oldcell hb8 e0 (by omega); have e1 := oldcell hb8 e1 (by omega); have e0f := oldfree hb8 e0f (by omega); have e1f := oldfree hb8 e1f (by omega); have f0 := oldcell hb8 f0 (by omega); have f1 := oldcell hb8 f1 (by omega); have f0f := oldfree hb8 f0f (by omega); have f1f := oldfree hb8 f1f (by omega); have HR8 := Lib.hid hR8; have HQ8 := Lib.hid (show ∀ ad, q8 = some ad → b20 + 2 ≤ ad.block from fun ad h => by have := hq8 ad h; omega); have HP8 := Lib.hid (HR7.out.up hb8); have HK8 := Lib.hid (HK7.out.upB hb8); clear hR8 hq8 hb8 g0 g1))
                        obtain ⟨w9, hw9⟩ : ∃ x, x = (w8.setCell ⟨b20 + 1, 0, none⟩ (.int .i64 2)).setCell ⟨b20 + 1, 1, none⟩ (.slice q8 U.length cq8) := ⟨_, rfl⟩
                        rw [← hw9]
                        have h0 : w9.cell? ⟨b20, 0, none⟩ = some (.int .i64 2) := by rw [hw9]; exact keep_far (keep_far e0 (by simp)) (by simp)
                        have h1 : w9.cell? ⟨b20, 1, none⟩ = some (.slice q5 J.length cq5) := by rw [hw9]; exact keep_far (keep_far e1 (by simp)) (by simp)
                        have h2 : w9.cell? ⟨b20 + 1, 0, none⟩ = some (.int .i64 2) := by rw [hw9]; go_cell
                        have h3 : w9.cell? ⟨b20 + 1, 1, none⟩ = some (.slice q8 U.length cq8) := by rw [hw9]; go_cell
                        have h4 : w9.frozen? ⟨b20, 0, none⟩ = false ∧ w9.frozen? ⟨b20, 1, none⟩ = false ∧ w9.frozen? ⟨b20 + 1, 0, none⟩ = false ∧ w9.frozen? ⟨b20 + 1, 1, none⟩ = false := by rw [hw9]; simp only [World.frozen?_setCell]; exact ⟨e0f, e1f, f0f, f1f⟩
                        have h5 : SI w9 q5 cq5 J := by rw [hw9]; exact (HP8.out.set (fun ad h e => by have := HQ5.out ad h; omega) _).set (fun ad h e => by have := HQ5.out ad h; omega) _
                        have h6 : SI w9 q8 cq8 U := by rw [hw9]; exact (HR8.out.set (fun ad h e => by have := HQ8.out ad h; omega) _).set (fun ad h e => by have := HQ8.out ad h; omega) _
                        have h7 : KeepX [b20, b20 + 1] w4 w9 := by rw [hw9]; exact (HK8.out.setCell (by simp) _).setCell (by simp) _
                        clear hw9
                        go_roundg (n - 1 - (I + 1))
                        case measure => (have := HM.out; omega)
                        case rel => exact ⟨I + 1, J, U, q5, q8, cq5, cq8, by go_num, by omega, rfl, HTN, h0, h1, h2, h3, h4, Lib.hid h5, Lib.hid h6, Lib.hid (fun ad h => by have := HQ5.out ad h; omega), Lib.hid (fun ad h => by have := HQ8.out ad h; omega), h7⟩
end Go.Proofs.Ytadilppdlbhjnaa
