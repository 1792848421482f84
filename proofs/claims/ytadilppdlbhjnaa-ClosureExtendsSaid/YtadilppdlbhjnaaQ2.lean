/- Walk of ClosureExtends. -/
import Derived.Test.YtadilppdlbhjnaaLB
import Derived.Test.YtadilppdlbhjnaaH15
import Derived.Test.YtadilppdlbhjnaaPlainM9
namespace Go.Proofs.Ytadilppdlbhjnaa
set_option linter.unusedSimpArgs false
set_option linter.unusedVariables false
open Go.RowKit

theorem seq_call {P : Program} {ops : Array Oper} {S : World → Prop} {fin : Act → Prop} {o : Oper} {rest : List Oper} {a : Act} {v : Value} {f : FuncId} {args : Array Value} (hw : Region.wanted o (yielded ops a.tmps) = true) (hy : ∀ w, S w → (execOp a.eval o).run P w = .ok (.enter f args) w)
    (hc : ∀ w, S w → Calls P f args w fun e w' => e = .returned v ∧ S w') (h : SeqOk P ops S fin rest (a.put o.dst v)) : SeqOk P ops S fin (o :: rest) a :=
  ⟨v, .inl ⟨hw, fun w hS => by rw [hy w hS]; exact hc w hS⟩, h⟩
theorem grow_take {c d : List Gate} {k : Nat} (g : Grow c d k) : d.take c.length = c := (List.prefix_iff_eq_take.1 g.pre).symm
theorem CAt.pre {w : World} {p : Option Addr} {cap : Nat} {c d : List Gate} (h : CAt w p cap d) (hp : d.take c.length = c) (hl : c.length ≤ d.length) : CAt w p cap c :=
  ⟨Nat.le_trans hl h.le, h.cm, h.p0, by have h1 := SlAt.take h.at' c.length; rw [hp] at h1; exact h1⟩
theorem mxvalid_is {c : List Gate} {m : List Cell} {ar : Int} {p pm : Option Addr} {cap cm N : Nat} {w : World} (hM : MxAt w pm cm m) (hm : MOk c (N : Int) m) (hl : c.length ≤ 20000) (hN2 : N ≤ 100000) (ha1 : 1 ≤ ar) (ha3 : ar ≤ 3) :
    Calls Try.prog 28 #[.agg #[.slice p c.length cap], .agg #[.int .i64 ar, .slice pm m.length cm]] w (RetB w true) := mxvalid_any c m ar p pm cap cm N w hM hm hl hN2 ha1 ha3

set_option maxRecDepth 100000 in
set_option maxHeartbeats 8000000 in
theorem closureExtends_any (k : Nat) (st : List Step) (ps : Option Addr) (cs : Nat) (vs : List Nat) (pv : Option Addr) (cv : Nat) (w : World) (hk : k < 256) (hl : st.length ≤ maxLen) (hs : ∀ s ∈ st, s.k < 256 ∧ s.a < 256 ∧ s.b < 256) (hg : StepsAt w ps st) (hvl : vs.length ≤ maxLen) (hv8 : ∀ v ∈ vs, v < 256) (hV : UbAt w pv vs) :
    Calls Try.prog 4 #[.int .u8 k, .slice ps st.length cs, .slice pv vs.length cv] w (RetB w true) := by
  unfold maxLen at hl
  have HS8 := Lib.hid hs; have HG := Lib.hid hg; have HV8 := Lib.hid hv8; have HV := Lib.hid hV; clear hs hg hv8 hV
  by_cases h20 : (20 : Int) < (st.length : Int)
  case pos =>
    go_enter Try.func4, Try.ntmps4
    go_wp2_with (first | (go_at_call 16; refine (head15_any _).mono ?_; rintro e w1 ⟨rfl, hb1⟩))
    go_ret
    exact ⟨rfl, hb1⟩
  case neg =>
    obtain ⟨n, hn⟩ : ∃ n, k % 4 + 1 = n := ⟨_, rfl⟩
    have hn0 : 0 < n := by omega
    have hn4 : n ≤ 4 := by omega
    obtain ⟨c, refs, a, hcb, ha, gc, hcl, ma, hrl, hrr, hal⟩ := made_plain st vs n (by omega) hn0 hn4
    have hc0 : 0 < c.length := gc.ne
    have hc2 : c.length + 2400 ≤ 20000 := by omega
    have hc3 : c.length ≤ 20000 := by omega
    have hnn : n * n ≤ 16 := Nat.mul_le_mul hn4 hn4
    obtain ⟨d1, m1, e1⟩ : ∃ d m, mSquaring c n a = (d, m) := ⟨_, _, rfl⟩
    obtain ⟨d2, m2, e2⟩ : ∃ d m, mStepwise c n a = (d, m) := ⟨_, _, rfl⟩
    obtain ⟨d3, m3, e3⟩ : ∃ d m, mSmaller c n a = (d, m) := ⟨_, _, rfl⟩
    obtain ⟨g1, o1⟩ := squaring_ok hn4 gc (by omega) ma
    obtain ⟨g2, o2⟩ := stepwise_ok hn4 gc (by omega) ma
    obtain ⟨g3, o3⟩ := smaller_ok hn4 gc (by omega) ma
    have hmn := smaller_min (n := n) (a := a) (c := c)
    rw [e1] at g1 o1 hmn; rw [e2] at g2 o2 hmn; rw [e3] at g3 o3 hmn
    dsimp only at g1 o1 g2 o2 g3 o3 hmn
    have k1 := g1.len; have k2 := g2.len; have k3 := g3.len; have k4 := g3.ge
    have hd1 : d1.length ≤ 20000 := by omega
    have hd2 : d2.length ≤ 20000 := by omega
    have hd3 : d3.length ≤ 20000 := by omega
    have hm1 : m1.length ≤ 16 := mok_len hn4 o1
    have hm2 : m2.length ≤ 16 := mok_len hn4 o2
    have hm3 : m3.length ≤ 16 := mok_len hn4 o3
    obtain ⟨l, hl0⟩ : ∃ l, mValue c [] a = l := ⟨_, rfl⟩
    obtain ⟨q, hq⟩ : ∃ q, mConst l = q := ⟨_, rfl⟩
    have oq : MOk cnew ((n * n : Nat) : Int) q := by rw [← hq, ← hl0]; exact const_value_ok ma []
    have kq : KM q := by rw [← hq]; exact k_const l
    have hll : l.length ≤ 16 := by rw [← hl0]; exact Nat.le_trans (mValue_len c [] a) hal
    have hql : q.length ≤ 16 := mok_len hn4 oq
    obtain ⟨d4, m4, e4⟩ : ∃ d m, mSmaller cnew n q = (d, m) := ⟨_, _, rfl⟩
    obtain ⟨d5, r5, e5⟩ : ∃ d r, mAcyclic cnew n q = (d, r) := ⟨_, _, rfl⟩
    have f4 := (k_smaller hn4 oq kq).1; have f5 := k_acyclic hn4 oq kq
    rw [e4] at f4; rw [e5] at f5; dsimp only at f4 f5
    have E1 := Lib.hid e1; have E2 := Lib.hid e2; have E3 := Lib.hid e3; have E4 := Lib.hid e4; have E5 := Lib.hid e5
    have O1 := Lib.hid o1; have O2 := Lib.hid o2; have O3 := Lib.hid o3; have OQ := Lib.hid oq; have HL := Lib.hid hl0; have HQ := Lib.hid hq
    have HMN := Lib.hid hmn; have HT := Lib.hid (grow_take g3); have F4 := Lib.hid f4; have F5 := Lib.hid f5
    clear hmn e1 e2 e3 e4 e5 o1 o2 o3 oq g1 g2 g3 hl0 hq f4 f5 kq
    have HN := Lib.hid hn; have HCB := Lib.hid hcb; have HA := Lib.hid ha; have GC := Lib.hid gc; have MA := Lib.hid ma; have HR := Lib.hid hrr
    clear hn hcb ha gc ma hrr
    have hW : Below w.heap.size w w := Below.refl _ _
    go_enter Try.func4, Try.ntmps4
    go_upto_region 1 with fail
    go_cut [7] from 22 to 22 (fun s7 wx => (s7 = .bool true) ∧ Below w.heap.size w wx)
    case first =>
      as_aux_lemma =>
        go_wp2_with (first | (go_at_call 16; refine (head15_any _).mono ?_; rintro e w2 ⟨rfl, hbl⟩))
        go_meet
        exact ⟨rfl, (by first | exact hbl | exact btr (by go_grown) hbl)⟩
    case rest =>
      obtain ⟨rfl, hst⟩ := hcut
      replace hW := btr hW hst
      clear hst
      go_upto_region 4 with fail
      go_cut [8, 9, 10] from 27 to 34 (fun s8 s9 s10 wx => (∃ (b b' : Nat), s8 = .pointer (some ⟨b, 0, none⟩) ∧ s9 = .int .i64 n ∧ s10 = .pointer (some ⟨b', 0, none⟩) ∧ Bx wx b c ∧ BM wx b' 2 a) ∧ Below wc.heap.size wc wx)
      case first =>
        as_aux_lemma =>
          go_wp2_with (first | (go_at_call 17; refine (made15_any k st vs c refs ps pv cs cv _ hk (HG.out.mono hW) (by omega) HS8.out (HV.out.mono hW) hvl HV8.out HCB.out hc0 (by omega) HR.out).mono ?_; rw [HN.out, HA.out]; rintro e w2 ⟨p2, cap2, y2, cy2, rfl, hC2, hM2, hbl⟩))
          go_meet
          exact ⟨⟨_, _, rfl, rfl, rfl, (Bx.new hC2 _).up (by go_grown), BM.newAt (hM2.up (bal (Below.refl _ _) _)) _ (by simp)⟩, bal (bal hbl _) _⟩
      case rest =>
        obtain ⟨⟨b8, b10, rfl, rfl, rfl, hB8, hN10⟩, hst⟩ := hcut
        replace hW := btr hW hst
        clear hst
        go_upto_region 5 with fail
        obtain ⟨p8, c8, k8, k8f, hC8⟩ := id hB8
        obtain ⟨q10, cq10, ⟨⟨m10, m10f⟩, ⟨n10, n10f⟩, -⟩, hM10⟩ := id hN10
        go_cut [11, 12] from 35 to 41 (fun s11 s12 wx => (∃ (b b' : Nat), s11 = .pointer (some ⟨b, 0, none⟩) ∧ s12 = .pointer (some ⟨b', 0, none⟩) ∧ Bx wx b d1 ∧ BM wx b' 2 m1) ∧ Below wc.heap.size wc wx)
        case first =>
          as_aux_lemma =>
            go_wp2_with (first | (go_at_call 18; refine (squaring_is hC8 hM10 (Below.refl _ _) hn0 hn4 GC.out hc2 MA.out E1.out).mono ?_; rintro e w2 ⟨p2, cap2, y2, cy2, rfl, hC2, hM2, hbl⟩))
            go_meet
            exact ⟨⟨_, _, rfl, rfl, (Bx.new hC2 _).up (by go_grown), BM.newAt (hM2.up (bal (Below.refl _ _) _)) _ (by simp)⟩, bal (bal hbl _) _⟩
        case rest =>
          clear k8 k8f hC8
          obtain ⟨⟨b11, b12, rfl, rfl, hB11, hN12⟩, hst⟩ := hcut
          replace hB8 := hB8.up hst
          replace hN10 := hN10.up hst
          replace hW := btr hW hst
          clear hst
          clear m10 m10f n10 n10f hM10
          go_upto_region 6 with fail
          obtain ⟨p8, c8, k8, k8f, hC8⟩ := id hB8
          obtain ⟨q10, cq10, ⟨⟨m10, m10f⟩, ⟨n10, n10f⟩, -⟩, hM10⟩ := id hN10
          go_cut [13, 14] from 42 to 48 (fun s13 s14 wx => (∃ (b b' : Nat), s13 = .pointer (some ⟨b, 0, none⟩) ∧ s14 = .pointer (some ⟨b', 0, none⟩) ∧ Bx wx b d2 ∧ BM wx b' 2 m2) ∧ Below wc.heap.size wc wx)
          case first =>
            as_aux_lemma =>
              go_wp2_with (first | (go_at_call 20; refine (stepwise_is hC8 hM10 (Below.refl _ _) hn0 hn4 GC.out hc2 MA.out E2.out).mono ?_; rintro e w2 ⟨p2, cap2, y2, cy2, rfl, hC2, hM2, hbl⟩))
              go_meet
              exact ⟨⟨_, _, rfl, rfl, (Bx.new hC2 _).up (by go_grown), BM.newAt (hM2.up (bal (Below.refl _ _) _)) _ (by simp)⟩, bal (bal hbl _) _⟩
          case rest =>
            clear k8 k8f hC8
            obtain ⟨⟨b13, b14, rfl, rfl, hB13, hN14⟩, hst⟩ := hcut
            replace hB8 := hB8.up hst
            replace hN10 := hN10.up hst
            replace hB11 := hB11.up hst
            replace hN12 := hN12.up hst
            replace hW := btr hW hst
            clear hst
            clear m10 m10f n10 n10f hM10
            go_upto_region 7 with fail
            obtain ⟨p8, c8, k8, k8f, hC8⟩ := id hB8
            obtain ⟨q10, cq10, ⟨⟨m10, m10f⟩, ⟨n10, n10f⟩, -⟩, hM10⟩ := id hN10
            go_cut [15, 16] from 49 to 55 (fun s15 s16 wx => (∃ (b b' : Nat), s15 = .pointer (some ⟨b, 0, none⟩) ∧ s16 = .pointer (some ⟨b', 0, none⟩) ∧ Bx wx b d3 ∧ BM wx b' 2 m3) ∧ Below wc.heap.size wc wx)
            case first =>
              as_aux_lemma =>
                go_wp2_with (first | (go_at_call 22; refine (smaller_is hC8 hM10 (Below.refl _ _) hn0 hn4 GC.out hc2 MA.out E3.out).mono ?_; rintro e w2 ⟨p2, cap2, y2, cy2, rfl, hC2, hM2, hbl⟩))
                go_meet
                exact ⟨⟨_, _, rfl, rfl, (Bx.new hC2 _).up (by go_grown), BM.newAt (hM2.up (bal (Below.refl _ _) _)) _ (by simp)⟩, bal (bal hbl _) _⟩
            case rest =>
              clear k8 k8f hC8
              obtain ⟨⟨b15, b16, rfl, rfl, hB15, hN16⟩, hst⟩ := hcut
              replace hB8 := hB8.up hst
              replace hN10 := hN10.up hst
              replace hB11 := hB11.up hst
              replace hN12 := hN12.up hst
              replace hB13 := hB13.up hst
              replace hN14 := hN14.up hst
              replace hW := btr hW hst
              clear hst
              clear m10 m10f n10 n10f hM10
              go_upto_region 8 with fail
              obtain ⟨p8, c8, k8, k8f, hC8⟩ := id hB8
              obtain ⟨p11, c11, k11, k11f, hC11⟩ := id hB11
              obtain ⟨p13, c13, k13, k13f, hC13⟩ := id hB13
              obtain ⟨p15, c15, k15, k15f, hC15⟩ := id hB15
              obtain ⟨q12, cq12, ⟨⟨m12, m12f⟩, ⟨n12, n12f⟩, -⟩, hM12⟩ := id hN12
              obtain ⟨q14, cq14, ⟨⟨m14, m14f⟩, ⟨n14, n14f⟩, -⟩, hM14⟩ := id hN14
              obtain ⟨q16, cq16, ⟨⟨m16, m16f⟩, ⟨n16, n16f⟩, -⟩, hM16⟩ := id hN16
              go_cut [105] from 56 to 104 (fun s105 wx => s105 = .bool false ∧ Below wc.heap.size wc wx)
              case first =>
                as_aux_lemma =>
                  have T0 := Lib.hid (fun (w' : World) (hB' : Below wc.heap.size wc w') => mxvalid_is (ar := 2) (p := p11) (cap := c11) (N := n * n) (hM12.up hB') O1.out hd1 (by omega) (by omega) (by omega))
                  have T1 := Lib.hid (fun (w' : World) (hB' : Below wc.heap.size wc w') => mxvalid_is (ar := 2) (p := p13) (cap := c13) (N := n * n) (hM14.up hB') O2.out hd2 (by omega) (by omega) (by omega))
                  have T2 := Lib.hid (fun (w' : World) (hB' : Below wc.heap.size wc w') => mxvalid_is (ar := 2) (p := p15) (cap := c15) (N := n * n) (hM16.up hB') O3.out hd3 (by omega) (by omega) (by omega))
                  have T3 := Lib.hid (fun (w' : World) (hB' : Below wc.heap.size wc w') => same_is hC8 (hC15.pre HT.out (by omega)) hB' (csame_self c))
                  have hN1 : ((d3.length : Int) != min (d1.length : Int) (d2.length : Int)) = false := by
                    rw [HMN.out, show ((min d1.length d2.length : Nat) : Int) = min (d1.length : Int) (d2.length : Int) from by omega]; simp
                  have hN3 : ¬ (d3.length : Int) < (c.length : Int) := by omega
                  have hcc : c.length ≤ c15 := by have := hC15.le; omega
                  have HN1 := Lib.hid hN1; have HN3 := Lib.hid hN3
                  clear hN1 hN3
                  refine wp_region_seq (fun w' => Below wc.heap.size wc w') (by kernel_rfl) (by kernel_rfl) (by first | assumption | go_grown) ?_
                  refine seq_pure (v := ?_) (by rfl) ?_ ?_
                  rotate_left
                  · (intro w hS; have kk := oldcell hS k11 (World.block_lt_of_cell? _ _ k11); go_simp; try with_reducible rfl)
                  (try simp only [Act.put, List.setIfInBounds_toArray, List.set_cons_zero, List.set_cons_succ])
                  refine seq_pure (v := ?_) (by rfl) ?_ ?_
                  rotate_left
                  · (intro w hS; have kk := oldcell hS m12 (World.block_lt_of_cell? _ _ m12); have kk2 := oldcell hS n12 (World.block_lt_of_cell? _ _ n12); go_simp; try with_reducible rfl)
                  (try simp only [Act.put, List.setIfInBounds_toArray, List.set_cons_zero, List.set_cons_succ])
                  refine seq_call (v := .bool true) (f := ?_) (args := ?_) (by rfl) ?_ ?_ ?_
                  rotate_left 2
                  · (intro w hS; go_simp; first | done | with_reducible rfl | (refine ⟨?_, ?_⟩ <;> with_reducible rfl))
                  · (intro w hS; refine (T0.out w hS).mono ?_; rintro e w' ⟨he, hb⟩; exact ⟨he, btr hS hb⟩)
                  (try simp only [Act.put, List.setIfInBounds_toArray, List.set_cons_zero, List.set_cons_succ])
                  refine seq_pure (v := ?_) (by rfl) ?_ ?_
                  rotate_left
                  · (intro w hS; go_simp; try with_reducible rfl)
                  (try simp only [Act.put, List.setIfInBounds_toArray, List.set_cons_zero, List.set_cons_succ])
                  refine seq_pure (v := ?_) (by rfl) ?_ ?_
                  rotate_left
                  · (intro w hS; go_simp; try with_reducible rfl)
                  (try simp only [Act.put, List.setIfInBounds_toArray, List.set_cons_zero, List.set_cons_succ])
                  refine seq_pure (v := ?_) (by rfl) ?_ ?_
                  rotate_left
                  · (intro w hS; have kk := oldcell hS k13 (World.block_lt_of_cell? _ _ k13); go_simp; try with_reducible rfl)
                  (try simp only [Act.put, List.setIfInBounds_toArray, List.set_cons_zero, List.set_cons_succ])
                  refine seq_pure (v := ?_) (by rfl) ?_ ?_
                  rotate_left
                  · (intro w hS; have kk := oldcell hS m14 (World.block_lt_of_cell? _ _ m14); have kk2 := oldcell hS n14 (World.block_lt_of_cell? _ _ n14); go_simp; try with_reducible rfl)
                  (try simp only [Act.put, List.setIfInBounds_toArray, List.set_cons_zero, List.set_cons_succ])
                  refine seq_call (v := .bool true) (f := ?_) (args := ?_) (by rfl) ?_ ?_ ?_
                  rotate_left 2
                  · (intro w hS; go_simp; first | done | with_reducible rfl | (refine ⟨?_, ?_⟩ <;> with_reducible rfl))
                  · (intro w hS; refine (T1.out w hS).mono ?_; rintro e w' ⟨he, hb⟩; exact ⟨he, btr hS hb⟩)
                  (try simp only [Act.put, List.setIfInBounds_toArray, List.set_cons_zero, List.set_cons_succ])
                  refine seq_pure (v := ?_) (by rfl) ?_ ?_
                  rotate_left
                  · (intro w hS; go_simp; try with_reducible rfl)
                  (try simp only [Act.put, List.setIfInBounds_toArray, List.set_cons_zero, List.set_cons_succ])
                  refine seq_pure (v := ?_) (by rfl) ?_ ?_
                  rotate_left
                  · (intro w hS; go_simp; try with_reducible rfl)
                  (try simp only [Act.put, List.setIfInBounds_toArray, List.set_cons_zero, List.set_cons_succ])
                  refine seq_pure (v := ?_) (by rfl) ?_ ?_
                  rotate_left
                  · (intro w hS; go_simp; try with_reducible rfl)
                  (try simp only [Act.put, List.setIfInBounds_toArray, List.set_cons_zero, List.set_cons_succ])
                  refine seq_pure (v := ?_) (by rfl) ?_ ?_
                  rotate_left
                  · (intro w hS; have kk := oldcell hS k15 (World.block_lt_of_cell? _ _ k15); go_simp; try with_reducible rfl)
                  (try simp only [Act.put, List.setIfInBounds_toArray, List.set_cons_zero, List.set_cons_succ])
                  refine seq_pure (v := ?_) (by rfl) ?_ ?_
                  rotate_left
                  · (intro w hS; have kk := oldcell hS m16 (World.block_lt_of_cell? _ _ m16); have kk2 := oldcell hS n16 (World.block_lt_of_cell? _ _ n16); go_simp; try with_reducible rfl)
                  (try simp only [Act.put, List.setIfInBounds_toArray, List.set_cons_zero, List.set_cons_succ])
                  refine seq_call (v := .bool true) (f := ?_) (args := ?_) (by rfl) ?_ ?_ ?_
                  rotate_left 2
                  · (intro w hS; go_simp; first | done | with_reducible rfl | (refine ⟨?_, ?_⟩ <;> with_reducible rfl))
                  · (intro w hS; refine (T2.out w hS).mono ?_; rintro e w' ⟨he, hb⟩; exact ⟨he, btr hS hb⟩)
                  (try simp only [Act.put, List.setIfInBounds_toArray, List.set_cons_zero, List.set_cons_succ])
                  refine seq_pure (v := ?_) (by rfl) ?_ ?_
                  rotate_left
                  · (intro w hS; go_simp; try with_reducible rfl)
                  (try simp only [Act.put, List.setIfInBounds_toArray, List.set_cons_zero, List.set_cons_succ])
                  refine seq_pure (v := ?_) (by rfl) ?_ ?_
                  rotate_left
                  · (intro w hS; go_simp; try with_reducible rfl)
                  (try simp only [Act.put, List.setIfInBounds_toArray, List.set_cons_zero, List.set_cons_succ])
                  refine seq_pure (v := ?_) (by rfl) ?_ ?_
                  rotate_left
                  · (intro w hS; go_simp; try with_reducible rfl)
                  (try simp only [Act.put, List.setIfInBounds_toArray, List.set_cons_zero, List.set_cons_succ])
                  refine seq_pure (v := ?_) (by rfl) ?_ ?_
                  rotate_left
                  · (intro w hS; go_simp; try with_reducible rfl)
                  (try simp only [Act.put, List.setIfInBounds_toArray, List.set_cons_zero, List.set_cons_succ])
                  refine seq_pure (v := ?_) (by rfl) ?_ ?_
                  rotate_left
                  · (intro w hS; have kk := oldcell hS k15 (World.block_lt_of_cell? _ _ k15); go_simp; try with_reducible rfl)
                  (try simp only [Act.put, List.setIfInBounds_toArray, List.set_cons_zero, List.set_cons_succ])
                  refine seq_pure (v := ?_) (by rfl) ?_ ?_
                  rotate_left
                  · (intro w hS; go_simp; try with_reducible rfl)
                  (try simp only [Act.put, List.setIfInBounds_toArray, List.set_cons_zero, List.set_cons_succ])
                  refine seq_pure (v := ?_) (by rfl) ?_ ?_
                  rotate_left
                  · (intro w hS; go_simp; try with_reducible rfl)
                  (try simp only [Act.put, List.setIfInBounds_toArray, List.set_cons_zero, List.set_cons_succ])
                  refine seq_pure (v := ?_) (by rfl) ?_ ?_
                  rotate_left
                  · (intro w hS; have kk := oldcell hS k11 (World.block_lt_of_cell? _ _ k11); go_simp; try with_reducible rfl)
                  (try simp only [Act.put, List.setIfInBounds_toArray, List.set_cons_zero, List.set_cons_succ])
                  refine seq_pure (v := ?_) (by rfl) ?_ ?_
                  rotate_left
                  · (intro w hS; go_simp; try with_reducible rfl)
                  (try simp only [Act.put, List.setIfInBounds_toArray, List.set_cons_zero, List.set_cons_succ])
                  refine seq_pure (v := ?_) (by rfl) ?_ ?_
                  rotate_left
                  · (intro w hS; go_simp; try with_reducible rfl)
                  (try simp only [Act.put, List.setIfInBounds_toArray, List.set_cons_zero, List.set_cons_succ])
                  refine seq_pure (v := ?_) (by rfl) ?_ ?_
                  rotate_left
                  · (intro w hS; have kk := oldcell hS k13 (World.block_lt_of_cell? _ _ k13); go_simp; try with_reducible rfl)
                  (try simp only [Act.put, List.setIfInBounds_toArray, List.set_cons_zero, List.set_cons_succ])
                  refine seq_pure (v := ?_) (by rfl) ?_ ?_
                  rotate_left
                  · (intro w hS; go_simp; try with_reducible rfl)
                  (try simp only [Act.put, List.setIfInBounds_toArray, List.set_cons_zero, List.set_cons_succ])
                  refine seq_pure (v := ?_) (by rfl) ?_ ?_
                  rotate_left
                  · (intro w hS; go_simp; try with_reducible rfl)
                  (try simp only [Act.put, List.setIfInBounds_toArray, List.set_cons_zero, List.set_cons_succ])
                  refine seq_pure (v := ?_) (by rfl) ?_ ?_
                  rotate_left
                  · (intro w hS; have hN1 := HN1.out; go_simp; try with_reducible rfl)
                  (try simp only [Act.put, List.setIfInBounds_toArray, List.set_cons_zero, List.set_cons_succ])
                  refine seq_pure (v := ?_) (by rfl) ?_ ?_
                  rotate_left
                  · (intro w hS; go_simp; try with_reducible rfl)
                  (try simp only [Act.put, List.setIfInBounds_toArray, List.set_cons_zero, List.set_cons_succ])
                  refine seq_pure (v := ?_) (by rfl) ?_ ?_
                  rotate_left
                  · (intro w hS; go_simp; try with_reducible rfl)
                  (try simp only [Act.put, List.setIfInBounds_toArray, List.set_cons_zero, List.set_cons_succ])
                  refine seq_pure (v := ?_) (by rfl) ?_ ?_
                  rotate_left
                  · (intro w hS; go_simp; try with_reducible rfl)
                  (try simp only [Act.put, List.setIfInBounds_toArray, List.set_cons_zero, List.set_cons_succ])
                  refine seq_pure (v := ?_) (by rfl) ?_ ?_
                  rotate_left
                  · (intro w hS; have kk := oldcell hS k15 (World.block_lt_of_cell? _ _ k15); go_simp; try with_reducible rfl)
                  (try simp only [Act.put, List.setIfInBounds_toArray, List.set_cons_zero, List.set_cons_succ])
                  refine seq_pure (v := ?_) (by rfl) ?_ ?_
                  rotate_left
                  · (intro w hS; go_simp; try with_reducible rfl)
                  (try simp only [Act.put, List.setIfInBounds_toArray, List.set_cons_zero, List.set_cons_succ])
                  refine seq_pure (v := ?_) (by rfl) ?_ ?_
                  rotate_left
                  · (intro w hS; go_simp; try with_reducible rfl)
                  (try simp only [Act.put, List.setIfInBounds_toArray, List.set_cons_zero, List.set_cons_succ])
                  refine seq_pure (v := ?_) (by rfl) ?_ ?_
                  rotate_left
                  · (intro w hS; have kk := oldcell hS k8 (World.block_lt_of_cell? _ _ k8); go_simp; try with_reducible rfl)
                  (try simp only [Act.put, List.setIfInBounds_toArray, List.set_cons_zero, List.set_cons_succ])
                  refine seq_pure (v := ?_) (by rfl) ?_ ?_
                  rotate_left
                  · (intro w hS; go_simp; try with_reducible rfl)
                  (try simp only [Act.put, List.setIfInBounds_toArray, List.set_cons_zero, List.set_cons_succ])
                  refine seq_pure (v := ?_) (by rfl) ?_ ?_
                  rotate_left
                  · (intro w hS; have hN3 := HN3.out; go_simp; try with_reducible rfl)
                  (try simp only [Act.put, List.setIfInBounds_toArray, List.set_cons_zero, List.set_cons_succ])
                  refine seq_pure (v := ?_) (by rfl) ?_ ?_
                  rotate_left
                  · (intro w hS; go_simp; try with_reducible rfl)
                  (try simp only [Act.put, List.setIfInBounds_toArray, List.set_cons_zero, List.set_cons_succ])
                  refine seq_pure (v := ?_) (by rfl) ?_ ?_
                  rotate_left
                  · (intro w hS; go_simp; try with_reducible rfl)
                  (try simp only [Act.put, List.setIfInBounds_toArray, List.set_cons_zero, List.set_cons_succ])
                  refine seq_pure (v := ?_) (by rfl) ?_ ?_
                  rotate_left
                  · (intro w hS; have kk := oldcell hS k8 (World.block_lt_of_cell? _ _ k8); go_simp; try with_reducible rfl)
                  (try simp only [Act.put, List.setIfInBounds_toArray, List.set_cons_zero, List.set_cons_succ])
                  refine seq_pure (v := ?_) (by rfl) ?_ ?_
                  rotate_left
                  · (intro w hS; go_simp; try with_reducible rfl)
                  (try simp only [Act.put, List.setIfInBounds_toArray, List.set_cons_zero, List.set_cons_succ])
                  refine seq_pure (v := ?_) (by rfl) ?_ ?_
                  rotate_left
                  · (intro w hS; have kk := oldcell hS k15 (World.block_lt_of_cell? _ _ k15); go_simp; try with_reducible rfl)
                  (try simp only [Act.put, List.setIfInBounds_toArray, List.set_cons_zero, List.set_cons_succ])
                  refine seq_pure (v := ?_) (by rfl) ?_ ?_
                  rotate_left
                  · (intro w hS; go_simp; try with_reducible rfl)
                  (try simp only [Act.put, List.setIfInBounds_toArray, List.set_cons_zero, List.set_cons_succ])
                  refine seq_pure (v := ?_) (by rfl) ?_ ?_
                  rotate_left
                  · (intro w hS; have kk := oldcell hS k8 (World.block_lt_of_cell? _ _ k8); go_simp; try with_reducible rfl)
                  (try simp only [Act.put, List.setIfInBounds_toArray, List.set_cons_zero, List.set_cons_succ])
                  refine seq_pure (v := ?_) (by rfl) ?_ ?_
                  rotate_left
                  · (intro w hS; go_simp; try with_reducible rfl)
                  (try simp only [Act.put, List.setIfInBounds_toArray, List.set_cons_zero, List.set_cons_succ])
                  refine seq_pure (v := ?_) (by rfl) ?_ ?_
                  rotate_left
                  · (intro w hS; go_simp; try with_reducible rfl)
                  (try simp only [Act.put, List.setIfInBounds_toArray, List.set_cons_zero, List.set_cons_succ])
                  refine seq_pure (v := ?_) (by rfl) ?_ ?_
                  rotate_left
                  · (intro w hS; go_simp; try with_reducible rfl)
                  (try simp only [Act.put, List.setIfInBounds_toArray, List.set_cons_zero, List.set_cons_succ])
                  refine seq_call (v := .bool true) (f := ?_) (args := ?_) (by rfl) ?_ ?_ ?_
                  rotate_left 2
                  · (intro w hS; go_simp; first | done | with_reducible rfl | (refine ⟨?_, ?_⟩ <;> with_reducible rfl))
                  · (intro w hS; refine (T3.out w hS).mono ?_; rintro e w' ⟨he, hb⟩; exact ⟨he, btr hS hb⟩)
                  (try simp only [Act.put, List.setIfInBounds_toArray, List.set_cons_zero, List.set_cons_succ])
                  refine seq_pure (v := ?_) (by rfl) ?_ ?_
                  rotate_left
                  · (intro w hS; go_simp; try with_reducible rfl)
                  (try simp only [Act.put, List.setIfInBounds_toArray, List.set_cons_zero, List.set_cons_succ])
                  refine seq_pure (v := ?_) (by rfl) ?_ ?_
                  rotate_left
                  · (intro w hS; go_simp; try with_reducible rfl)
                  (try simp only [Act.put, List.setIfInBounds_toArray, List.set_cons_zero, List.set_cons_succ])
                  refine seq_nil ?_
                  intro w2 HB0
                  go_wp2_with fail
                  go_meet
                  exact ⟨rfl, HB0⟩
              case rest =>
                clear k8 k8f hC8 k11 k11f hC11 k13 k13f hC13 k15 k15f hC15 m12 m12f n12 n12f hM12 m14 m14f n14 n14f hM14 m16 m16f n16 n16f hM16
                obtain ⟨rfl, hst⟩ := hcut
                replace hB8 := hB8.up hst
                replace hN10 := hN10.up hst
                replace hB11 := hB11.up hst
                replace hN12 := hN12.up hst
                replace hB13 := hB13.up hst
                replace hN14 := hN14.up hst
                replace hB15 := hB15.up hst
                replace hN16 := hN16.up hst
                replace hW := btr hW hst
                clear hst
                clear hB11
                clear hB13
                clear hB15
                clear hN12
                clear hN14
                clear hN16
                go_upto_region 10 with fail
                obtain ⟨p8, c8, k8, k8f, hC8⟩ := id hB8
                obtain ⟨q10, cq10, ⟨⟨m10, m10f⟩, ⟨n10, n10f⟩, -⟩, hM10⟩ := id hN10
                go_cut [17] from 106 to 109 (fun s17 wx => (∃ (b : Nat), s17 = .pointer (some ⟨b, 0, none⟩) ∧ BM wx b 2 q) ∧ Below wc.heap.size wc wx)
                case first =>
                  as_aux_lemma =>
                    go_wp2_with (first | (go_at_call 30; refine (mvalue_is (V := []) (nv := 0) hC8 hM10 (bools_nil _) GC.out.wf hc3 (by omega) rfl (by omega) HL.out).mono ?_; rintro e w1 ⟨p1, cap1, rfl, hR1, hb1⟩) | (go_at_call 29; refine (const_is hR1 (by omega) HQ.out).mono ?_; rintro e w2 ⟨p2, cap2, rfl, hM2, hbl⟩))
                    go_meet
                    exact ⟨⟨_, rfl, BM.newAt hM2 _ rfl⟩, bal (btr hb1 hbl) _⟩
                case rest =>
                  clear k8 k8f hC8
                  obtain ⟨⟨b17, rfl, hN17⟩, hst⟩ := hcut
                  replace hB8 := hB8.up hst
                  replace hN10 := hN10.up hst
                  replace hW := btr hW hst
                  clear hst
                  clear m10 m10f n10 n10f hM10
                  go_upto_region 11 with fail
                  obtain ⟨q17, cq17, ⟨⟨m17, m17f⟩, ⟨n17, n17f⟩, -⟩, hM17⟩ := id hN17
                  go_cut [18, 19] from 110 to 116 (fun s18 s19 wx => (∃ (b : Nat), s18 = .pointer (some ⟨b, 0, none⟩) ∧ Bx wx b d4) ∧ Below wc.heap.size wc wx)
                  case first =>
                    as_aux_lemma =>
                      obtain ⟨s, hs0⟩ : ∃ s, w.heap.size = s := ⟨_, rfl⟩
                      have HS := Lib.hid hs0; clear hs0
                      have hbw := hW
                      have zz : s + 0 ≤ wc.heap.size := by have := HS.out; have := hW.size; omega
                      have hk : Cells wc [(b17, 0, .int .i64 2), (b17, 1, .slice q17 (q).length cq17)] := ⟨⟨m17, m17f⟩, ⟨n17, n17f⟩, trivial⟩
                      clear m17 m17f n17 n17f
                      have hacc : Below wc.heap.size wc wc := Below.refl _ _
                      clear hW
                      refine wp_region_seqE (fun x => Below wc.heap.size wc x) (.one 1 1 (.one 2 0 (.alt 0 2 (.alt 3 3 (.one 4 1 (.one 5 1 (.one 6 1 (.alt 7 2 (.alt 8 2 (.alt 9 3 (.alt 10 3 .nil .stop) .stop) .stop) (.alt 8 2 (.alt 7 2 (.alt 9 3 (.alt 10 3 .nil .stop) .stop) .stop) .stop))))) (.alt 7 2 (.alt 3 3 (.one 4 1 (.one 5 1 (.one 6 1 (.alt 8 2 (.alt 9 3 (.alt 10 3 .nil .stop) .stop) .stop)))) (.alt 8 2 (.alt 3 3 (.one 4 1 (.one 5 1 (.one 6 1 (.alt 9 3 (.alt 10 3 .nil .stop) .stop)))) .stop) .stop)) (.alt 8 2 (.alt 3 3 (.one 4 1 (.one 5 1 (.one 6 1 (.alt 7 2 (.alt 9 3 (.alt 10 3 .nil .stop) .stop) .stop)))) (.alt 7 2 (.alt 3 3 (.one 4 1 (.one 5 1 (.one 6 1 (.alt 9 3 (.alt 10 3 .nil .stop) .stop)))) .stop) .stop)) .stop))) (.alt 7 2 (.alt 0 2 (.alt 3 3 (.one 4 1 (.one 5 1 (.one 6 1 (.alt 8 2 (.alt 9 3 (.alt 10 3 .nil .stop) .stop) .stop)))) (.alt 8 2 (.alt 3 3 (.one 4 1 (.one 5 1 (.one 6 1 (.alt 9 3 (.alt 10 3 .nil .stop) .stop)))) .stop) .stop)) (.alt 8 2 (.alt 0 2 (.alt 3 3 (.one 4 1 (.one 5 1 (.one 6 1 (.alt 9 3 (.alt 10 3 .nil .stop) .stop)))) .stop) .stop) .stop)) (.alt 8 2 (.alt 0 2 (.alt 3 3 (.one 4 1 (.one 5 1 (.one 6 1 (.alt 7 2 (.alt 9 3 (.alt 10 3 .nil .stop) .stop) .stop)))) (.alt 7 2 (.alt 3 3 (.one 4 1 (.one 5 1 (.one 6 1 (.alt 9 3 (.alt 10 3 .nil .stop) .stop)))) .stop) .stop)) (.alt 7 2 (.alt 0 2 (.alt 3 3 (.one 4 1 (.one 5 1 (.one 6 1 (.alt 9 3 (.alt 10 3 .nil .stop) .stop)))) .stop) .stop) .stop)) .stop))))) (by kernel_rfl) (by kernel_rfl) (by kernel_rfl) (Below.drew (Below.refl _ _)) ?_
                      iterate 2 (first | (refine seqE_free (v := ?_) rfl (by rfl) ?_ ?_; rotate_left; (focus (intro w; go_simp; try with_reducible rfl)); (try simp only [Act.put, List.setIfInBounds_toArray, List.set_cons_zero, List.set_cons_succ])) | (refine seqE_pure (v := ?_) rfl (by rfl) ?_ ?_; rotate_left; (focus (intro w hS; obtain ⟨⟨m17, -⟩, ⟨n17, -⟩, -⟩ := hk.up hS; go_simp; try with_reducible rfl)); (try simp only [Act.put, List.setIfInBounds_toArray, List.set_cons_zero, List.set_cons_succ])))
                      clear hk
                      refine seqE_call (f := ?_) (args := ?_) rfl (by rfl) ?_ ?_ ?_
                      rotate_left 2
                      focus (intro w hS; go_simp; first | done | with_reducible rfl | (refine ⟨?_, ?_⟩ <;> with_reducible rfl))
                      ·
                       intro w1 hS
                       refine (rnew_is w1).mono ?_
                       rintro e v1 ⟨p2, cap2, rfl, hX2, hbl⟩
                       refine ⟨_, rfl, (fun x => Below v1.heap.size v1 x), Below.refl _ _, fun x hx => btr (btr hS hbl) hx, ?_⟩
                       have hXw := Nat.le_trans zz hS.size; have hXa := Nat.le_trans hacc.size hS.size
                       have hX := btr hS hbl
                       replace hM17 := hM17.up hX; replace hbw := btr hbw hX; replace zz := Nat.le_trans zz (Below.size hX); replace hacc := btr hacc hX
                       clear hX hS hbl hXw hXa
                       (try simp only [Act.put, List.setIfInBounds_toArray, List.set_cons_zero, List.set_cons_succ])
                       refine seqE_callB (f := ?_) (args := ?_) rfl (by rfl) ?_ ?_ ?_
                       rotate_left 2
                       focus (intro w hS; go_simp; first | done | with_reducible rfl | (refine ⟨?_, ?_⟩ <;> with_reducible rfl))
                       ·
                        intro w2 hS
                        refine (smaller_is (hX2.mono hS) (hM17.up hS) (Below.refl _ _) hn0 hn4 good_new (by rw [cnew_len]; omega) OQ.out E4.out).mono ?_
                        rintro e v2 ⟨p3, cap3, y3, cy3, rfl, hX3, hM3, hbl⟩
                        refine ⟨_, rfl, (fun x => Below v2.heap.size v2 x), Below.refl _ _, ?_⟩
                        have hXw := Nat.le_trans zz hS.size; have hXa := Nat.le_trans hacc.size hS.size
                        have hX := btr hS hbl
                        replace hM17 := hM17.up hX; replace hX2 := hX2.mono hX; replace hbw := btr hbw hX; replace zz := Nat.le_trans zz (Below.size hX); replace hacc := btr hacc hX
                        clear hX hS hbl hXw hXa
                        (try simp only [Act.put, List.setIfInBounds_toArray, List.set_cons_zero, List.set_cons_succ])
                        iterate 3 (refine seqE_free (v := ?_) rfl (by rfl) ?_ ?_; rotate_left; (focus (intro w; go_simp; try with_reducible rfl)); (try simp only [Act.put, List.setIfInBounds_toArray, List.set_cons_zero, List.set_cons_succ]))
                        refine seqE_move rfl (by rfl) ?_ ?_
                        ·
                         intro w3 hS
                         refine ⟨.pointer (some ⟨w3.heap.size, 0, none⟩), w3.alloc (.cells #[.slice none 0 0] 27), (by go_simp; try with_reducible rfl), ?_⟩
                         obtain ⟨b18, hb18⟩ : ∃ b, b = w3.heap.size := ⟨_, rfl⟩
                         obtain ⟨v3, hw3⟩ : ∃ zW, zW = w3.alloc (.cells #[.slice none 0 0] 27) := ⟨_, rfl⟩
                         rw [← hw3, ← hb18]
                         have hbl : Below w3.heap.size w3 v3 := by rw [hw3]; go_grown
                         have hge18 : s + 0 ≤ b18 := by rw [hb18]; exact Nat.le_trans zz hS.size
                         have hga18 : wc.heap.size ≤ b18 := by rw [hb18]; exact Nat.le_trans hacc.size hS.size
                         refine ⟨(fun x => Below v3.heap.size v3 x), Below.refl _ _, fun x hx => btr (btr hS hbl) hx, ?_⟩
                         have hX := btr hS hbl
                         replace hM17 := hM17.up hX; replace hX2 := hX2.mono hX; replace hX3 := hX3.mono hX; replace hM3 := hM3.up hX; replace hbw := btr hbw hX; replace zz := Nat.le_trans zz (Below.size hX); replace hacc := btr hacc hX
                         have hs : Cells v3 [(b18, 0, .slice none 0 0)] := ⟨⟨by rw [hw3, hb18]; go_cell, by rw [hw3, hb18]; go_cell⟩, trivial⟩
                         clear hX hS hbl hw3 hb18
                         (try simp only [Act.put, List.setIfInBounds_toArray, List.set_cons_zero, List.set_cons_succ])
                         refine seqE_move rfl (by rfl) ?_ seqE_stop
                         intro w4 hS
                         refine ⟨.pointer (some ⟨w4.heap.size, 0, none⟩), w4.alloc (.cells #[.int .i64 0, .slice none 0 0] 30), (by go_simp; try with_reducible rfl), ?_⟩
                         obtain ⟨b19, hb19⟩ : ∃ b, b = w4.heap.size := ⟨_, rfl⟩
                         obtain ⟨v4, hw4⟩ : ∃ zW, zW = w4.alloc (.cells #[.int .i64 0, .slice none 0 0] 30) := ⟨_, rfl⟩
                         rw [← hw4, ← hb19]
                         have hbl : Below w4.heap.size w4 v4 := by rw [hw4]; go_grown
                         have hge19 : s + 0 ≤ b19 := by rw [hb19]; exact Nat.le_trans zz hS.size
                         have hga19 : wc.heap.size ≤ b19 := by rw [hb19]; exact Nat.le_trans hacc.size hS.size
                         have hlb18_19 : b18 < b19 := by rw [hb19]; exact Nat.lt_of_lt_of_le (World.block_lt_of_cell? _ _ hs.1.1) hS.size
                         refine ⟨(fun x => Below v4.heap.size v4 x), Below.refl _ _, fun x hx => btr (btr hS hbl) hx, ?_⟩
                         have hX := btr hS hbl
                         replace hs := hs.up hX; replace hM17 := hM17.up hX; replace hX2 := hX2.mono hX; replace hX3 := hX3.mono hX; replace hM3 := hM3.up hX; replace hbw := btr hbw hX; replace zz := Nat.le_trans zz (Below.size hX); replace hacc := btr hacc hX
                         replace hs : Cells v4 [(b19, 0, .int .i64 0), (b19, 1, .slice none 0 0), (b18, 0, .slice none 0 0)] := ⟨⟨by rw [hw4, hb19]; go_cell, by rw [hw4, hb19]; go_cell⟩, ⟨by rw [hw4, hb19]; go_cell, by rw [hw4, hb19]; go_cell⟩, hs⟩
                         clear hX hS hbl hw4 hb19
                         (try simp only [Act.put, List.setIfInBounds_toArray, List.set_cons_zero, List.set_cons_succ])
                         refine seqE_storeB rfl (by rfl) ?_ seqE_stop
                         intro w5 hS
                         replace hs := hs.up hS; replace hM17 := hM17.up hS; replace hX2 := hX2.mono hS; replace hX3 := hX3.mono hS; replace hM3 := hM3.up hS; replace hbw := btr hbw hS; replace zz := Nat.le_trans zz (Below.size hS); replace hacc := btr hacc hS
                         obtain ⟨⟨d190, d190f⟩, ⟨d191, d191f⟩, ⟨d180, d180f⟩, -⟩ := id hs
                         refine ⟨(w5.setCell ⟨b18, 0, none⟩ (.slice p3 d4.length cap3)), (by go_simp; try with_reducible rfl), (fun x => Below ((w5.setCell ⟨b18, 0, none⟩ (.slice p3 d4.length cap3))).heap.size ((w5.setCell ⟨b18, 0, none⟩ (.slice p3 d4.length cap3))) x), Below.refl _ _, ?_⟩
                         obtain ⟨v5, hw⟩ : ∃ zW, zW = (w5.setCell ⟨b18, 0, none⟩ (.slice p3 d4.length cap3)) := ⟨_, rfl⟩
                         rw [← hw]
                         replace hs : Cells v5 [(b19, 0, .int .i64 0), (b19, 1, .slice none 0 0), (b18, 0, .slice p3 d4.length cap3)] := by rw [hw]; exact ⟨⟨by go_cell, (fz d190f)⟩, ⟨by go_cell, (fz d191f)⟩, ⟨by go_cell, (fz d180f)⟩, trivial⟩
                         replace hM17 : MxAt v5 q17 cq17 (q) := by rw [hw]; exact hM17.box d180 _
                         replace hX2 : CAt v5 p2 cap2 cnew := by rw [hw]; exact hX2.box d180 _
                         replace hX3 : CAt v5 p3 cap3 d4 := by rw [hw]; exact hX3.box d180 _
                         replace hM3 : MxAt v5 y3 cy3 m4 := by rw [hw]; exact hM3.box d180 _
                         replace hbw : Below w.heap.size w v5 := by rw [hw]; exact (Below.setCell hbw (by have h := HS.out; (try dsimp only); omega) _)
                         replace hacc : Below wc.heap.size wc v5 := by rw [hw]; exact (Below.setCell hacc (by have h := HS.out; (try dsimp only); omega) _)
                         replace zz : s + 0 ≤ v5.heap.size := by rw [hw]; simpa using zz
                         clear hw
                         clear d190 d190f d191 d191f d180 d180f
                         clear hS
                         (try simp only [Act.put, List.setIfInBounds_toArray, List.set_cons_zero, List.set_cons_succ])
                         refine seqE_storeB rfl (by rfl) ?_ seqE_stop
                         intro w6 hS
                         replace hs := hs.up hS; replace hM17 := hM17.up hS; replace hX2 := hX2.mono hS; replace hX3 := hX3.mono hS; replace hM3 := hM3.up hS; replace hbw := btr hbw hS; replace zz := Nat.le_trans zz (Below.size hS); replace hacc := btr hacc hS
                         obtain ⟨⟨d190, d190f⟩, ⟨d191, d191f⟩, ⟨d180, d180f⟩, -⟩ := id hs
                         refine ⟨((w6.setCell ⟨b19, 0, none⟩ (.int .i64 2)).setCell ⟨b19, 1, none⟩ (.slice y3 m4.length cy3)), (by go_simp; try with_reducible rfl), (fun x => Below (((w6.setCell ⟨b19, 0, none⟩ (.int .i64 2)).setCell ⟨b19, 1, none⟩ (.slice y3 m4.length cy3))).heap.size (((w6.setCell ⟨b19, 0, none⟩ (.int .i64 2)).setCell ⟨b19, 1, none⟩ (.slice y3 m4.length cy3))) x), Below.refl _ _, ?_⟩
                         obtain ⟨v6, hw⟩ : ∃ zW, zW = ((w6.setCell ⟨b19, 0, none⟩ (.int .i64 2)).setCell ⟨b19, 1, none⟩ (.slice y3 m4.length cy3)) := ⟨_, rfl⟩
                         rw [← hw]
                         replace hs : Cells v6 [(b19, 0, .int .i64 2), (b19, 1, .slice y3 m4.length cy3), (b18, 0, .slice p3 d4.length cap3)] := by rw [hw]; exact ⟨⟨by go_cell, (fz (fz d190f))⟩, ⟨by go_cell, (fz (fz d191f))⟩, ⟨by go_cell, (fz (fz d180f))⟩, trivial⟩
                         replace hM17 : MxAt v6 q17 cq17 (q) := by rw [hw]; exact hM17.boxM d191 _ _
                         replace hX2 : CAt v6 p2 cap2 cnew := by rw [hw]; exact hX2.boxM d191 _ _
                         replace hX3 : CAt v6 p3 cap3 d4 := by rw [hw]; exact hX3.boxM d191 _ _
                         replace hM3 : MxAt v6 y3 cy3 m4 := by rw [hw]; exact hM3.boxM d191 _ _
                         replace hbw : Below w.heap.size w v6 := by rw [hw]; exact (Below.setCell (Below.setCell hbw (by have h := HS.out; (try dsimp only); omega) _) (by have h := HS.out; (try dsimp only); omega) _)
                         replace hacc : Below wc.heap.size wc v6 := by rw [hw]; exact (Below.setCell (Below.setCell hacc (by have h := HS.out; (try dsimp only); omega) _) (by have h := HS.out; (try dsimp only); omega) _)
                         replace zz : s + 0 ≤ v6.heap.size := by rw [hw]; simpa using zz
                         clear hw
                         clear d190 d190f d191 d191f d180 d180f
                         clear hS
                         (try simp only [Act.put, List.setIfInBounds_toArray, List.set_cons_zero, List.set_cons_succ])
                         refine seqE_nil ?_
                         intro wz hS
                         replace hs := hs.up hS; replace hM17 := hM17.up hS; replace hX2 := hX2.mono hS; replace hX3 := hX3.mono hS; replace hM3 := hM3.up hS; replace hbw := btr hbw hS; replace zz := Nat.le_trans zz (Below.size hS); replace hacc := btr hacc hS; clear hS
                         obtain ⟨⟨d190, d190f⟩, ⟨d191, d191f⟩, ⟨d180, d180f⟩, -⟩ := id hs
                         go_wp2_with fail
                         go_meet
                         exact ⟨⟨_, rfl, Bx.at hX3 d180 d180f⟩, hacc⟩
                        refine seqE_move rfl (by rfl) ?_ seqE_stop
                        intro w7 hS
                        refine ⟨.pointer (some ⟨w7.heap.size, 0, none⟩), w7.alloc (.cells #[.int .i64 0, .slice none 0 0] 30), (by go_simp; try with_reducible rfl), ?_⟩
                        obtain ⟨b19, hb19⟩ : ∃ b, b = w7.heap.size := ⟨_, rfl⟩
                        obtain ⟨v7, hw7⟩ : ∃ zW, zW = w7.alloc (.cells #[.int .i64 0, .slice none 0 0] 30) := ⟨_, rfl⟩
                        rw [← hw7, ← hb19]
                        have hbl : Below w7.heap.size w7 v7 := by rw [hw7]; go_grown
                        have hge19 : s + 0 ≤ b19 := by rw [hb19]; exact Nat.le_trans zz hS.size
                        have hga19 : wc.heap.size ≤ b19 := by rw [hb19]; exact Nat.le_trans hacc.size hS.size
                        refine ⟨(fun x => Below v7.heap.size v7 x), Below.refl _ _, fun x hx => btr (btr hS hbl) hx, ?_⟩
                        have hX := btr hS hbl
                        replace hM17 := hM17.up hX; replace hX2 := hX2.mono hX; replace hX3 := hX3.mono hX; replace hM3 := hM3.up hX; replace hbw := btr hbw hX; replace zz := Nat.le_trans zz (Below.size hX); replace hacc := btr hacc hX
                        have hs : Cells v7 [(b19, 0, .int .i64 0), (b19, 1, .slice none 0 0)] := ⟨⟨by rw [hw7, hb19]; go_cell, by rw [hw7, hb19]; go_cell⟩, ⟨by rw [hw7, hb19]; go_cell, by rw [hw7, hb19]; go_cell⟩, trivial⟩
                        clear hX hS hbl hw7 hb19
                        (try simp only [Act.put, List.setIfInBounds_toArray, List.set_cons_zero, List.set_cons_succ])
                        refine seqE_move rfl (by rfl) ?_ seqE_stop
                        intro w8 hS
                        refine ⟨.pointer (some ⟨w8.heap.size, 0, none⟩), w8.alloc (.cells #[.slice none 0 0] 27), (by go_simp; try with_reducible rfl), ?_⟩
                        obtain ⟨b18, hb18⟩ : ∃ b, b = w8.heap.size := ⟨_, rfl⟩
                        obtain ⟨v8, hw8⟩ : ∃ zW, zW = w8.alloc (.cells #[.slice none 0 0] 27) := ⟨_, rfl⟩
                        rw [← hw8, ← hb18]
                        have hbl : Below w8.heap.size w8 v8 := by rw [hw8]; go_grown
                        have hge18 : s + 0 ≤ b18 := by rw [hb18]; exact Nat.le_trans zz hS.size
                        have hga18 : wc.heap.size ≤ b18 := by rw [hb18]; exact Nat.le_trans hacc.size hS.size
                        have hlb19_18 : b19 < b18 := by rw [hb18]; exact Nat.lt_of_lt_of_le (World.block_lt_of_cell? _ _ hs.1.1) hS.size
                        refine ⟨(fun x => Below v8.heap.size v8 x), Below.refl _ _, fun x hx => btr (btr hS hbl) hx, ?_⟩
                        have hX := btr hS hbl
                        replace hs := hs.up hX; replace hM17 := hM17.up hX; replace hX2 := hX2.mono hX; replace hX3 := hX3.mono hX; replace hM3 := hM3.up hX; replace hbw := btr hbw hX; replace zz := Nat.le_trans zz (Below.size hX); replace hacc := btr hacc hX
                        replace hs : Cells v8 [(b18, 0, .slice none 0 0), (b19, 0, .int .i64 0), (b19, 1, .slice none 0 0)] := ⟨⟨by rw [hw8, hb18]; go_cell, by rw [hw8, hb18]; go_cell⟩, hs⟩
                        clear hX hS hbl hw8 hb18
                        (try simp only [Act.put, List.setIfInBounds_toArray, List.set_cons_zero, List.set_cons_succ])
                        refine seqE_storeB rfl (by rfl) ?_ seqE_stop
                        intro w9 hS
                        replace hs := hs.up hS; replace hM17 := hM17.up hS; replace hX2 := hX2.mono hS; replace hX3 := hX3.mono hS; replace hM3 := hM3.up hS; replace hbw := btr hbw hS; replace zz := Nat.le_trans zz (Below.size hS); replace hacc := btr hacc hS
                        obtain ⟨⟨d180, d180f⟩, ⟨d190, d190f⟩, ⟨d191, d191f⟩, -⟩ := id hs
                        refine ⟨(w9.setCell ⟨b18, 0, none⟩ (.slice p3 d4.length cap3)), (by go_simp; try with_reducible rfl), (fun x => Below ((w9.setCell ⟨b18, 0, none⟩ (.slice p3 d4.length cap3))).heap.size ((w9.setCell ⟨b18, 0, none⟩ (.slice p3 d4.length cap3))) x), Below.refl _ _, ?_⟩
                        obtain ⟨v9, hw⟩ : ∃ zW, zW = (w9.setCell ⟨b18, 0, none⟩ (.slice p3 d4.length cap3)) := ⟨_, rfl⟩
                        rw [← hw]
                        replace hs : Cells v9 [(b18, 0, .slice p3 d4.length cap3), (b19, 0, .int .i64 0), (b19, 1, .slice none 0 0)] := by rw [hw]; exact ⟨⟨by go_cell, (fz d180f)⟩, ⟨by go_cell, (fz d190f)⟩, ⟨by go_cell, (fz d191f)⟩, trivial⟩
                        replace hM17 : MxAt v9 q17 cq17 (q) := by rw [hw]; exact hM17.box d180 _
                        replace hX2 : CAt v9 p2 cap2 cnew := by rw [hw]; exact hX2.box d180 _
                        replace hX3 : CAt v9 p3 cap3 d4 := by rw [hw]; exact hX3.box d180 _
                        replace hM3 : MxAt v9 y3 cy3 m4 := by rw [hw]; exact hM3.box d180 _
                        replace hbw : Below w.heap.size w v9 := by rw [hw]; exact (Below.setCell hbw (by have h := HS.out; (try dsimp only); omega) _)
                        replace hacc : Below wc.heap.size wc v9 := by rw [hw]; exact (Below.setCell hacc (by have h := HS.out; (try dsimp only); omega) _)
                        replace zz : s + 0 ≤ v9.heap.size := by rw [hw]; simpa using zz
                        clear hw
                        clear d180 d180f d190 d190f d191 d191f
                        clear hS
                        (try simp only [Act.put, List.setIfInBounds_toArray, List.set_cons_zero, List.set_cons_succ])
                        refine seqE_storeB rfl (by rfl) ?_ seqE_stop
                        intro w10 hS
                        replace hs := hs.up hS; replace hM17 := hM17.up hS; replace hX2 := hX2.mono hS; replace hX3 := hX3.mono hS; replace hM3 := hM3.up hS; replace hbw := btr hbw hS; replace zz := Nat.le_trans zz (Below.size hS); replace hacc := btr hacc hS
                        obtain ⟨⟨d180, d180f⟩, ⟨d190, d190f⟩, ⟨d191, d191f⟩, -⟩ := id hs
                        refine ⟨((w10.setCell ⟨b19, 0, none⟩ (.int .i64 2)).setCell ⟨b19, 1, none⟩ (.slice y3 m4.length cy3)), (by go_simp; try with_reducible rfl), (fun x => Below (((w10.setCell ⟨b19, 0, none⟩ (.int .i64 2)).setCell ⟨b19, 1, none⟩ (.slice y3 m4.length cy3))).heap.size (((w10.setCell ⟨b19, 0, none⟩ (.int .i64 2)).setCell ⟨b19, 1, none⟩ (.slice y3 m4.length cy3))) x), Below.refl _ _, ?_⟩
                        obtain ⟨v10, hw⟩ : ∃ zW, zW = ((w10.setCell ⟨b19, 0, none⟩ (.int .i64 2)).setCell ⟨b19, 1, none⟩ (.slice y3 m4.length cy3)) := ⟨_, rfl⟩
                        rw [← hw]
                        replace hs : Cells v10 [(b18, 0, .slice p3 d4.length cap3), (b19, 0, .int .i64 2), (b19, 1, .slice y3 m4.length cy3)] := by rw [hw]; exact ⟨⟨by go_cell, (fz (fz d180f))⟩, ⟨by go_cell, (fz (fz d190f))⟩, ⟨by go_cell, (fz (fz d191f))⟩, trivial⟩
                        replace hM17 : MxAt v10 q17 cq17 (q) := by rw [hw]; exact hM17.boxM d191 _ _
                        replace hX2 : CAt v10 p2 cap2 cnew := by rw [hw]; exact hX2.boxM d191 _ _
                        replace hX3 : CAt v10 p3 cap3 d4 := by rw [hw]; exact hX3.boxM d191 _ _
                        replace hM3 : MxAt v10 y3 cy3 m4 := by rw [hw]; exact hM3.boxM d191 _ _
                        replace hbw : Below w.heap.size w v10 := by rw [hw]; exact (Below.setCell (Below.setCell hbw (by have h := HS.out; (try dsimp only); omega) _) (by have h := HS.out; (try dsimp only); omega) _)
                        replace hacc : Below wc.heap.size wc v10 := by rw [hw]; exact (Below.setCell (Below.setCell hacc (by have h := HS.out; (try dsimp only); omega) _) (by have h := HS.out; (try dsimp only); omega) _)
                        replace zz : s + 0 ≤ v10.heap.size := by rw [hw]; simpa using zz
                        clear hw
                        clear d180 d180f d190 d190f d191 d191f
                        clear hS
                        (try simp only [Act.put, List.setIfInBounds_toArray, List.set_cons_zero, List.set_cons_succ])
                        refine seqE_nil ?_
                        intro wz hS
                        replace hs := hs.up hS; replace hM17 := hM17.up hS; replace hX2 := hX2.mono hS; replace hX3 := hX3.mono hS; replace hM3 := hM3.up hS; replace hbw := btr hbw hS; replace zz := Nat.le_trans zz (Below.size hS); replace hacc := btr hacc hS; clear hS
                        obtain ⟨⟨d180, d180f⟩, ⟨d190, d190f⟩, ⟨d191, d191f⟩, -⟩ := id hs
                        go_wp2_with fail
                        go_meet
                        exact ⟨⟨_, rfl, Bx.at hX3 d180 d180f⟩, hacc⟩
                       refine seqE_move rfl (by rfl) ?_ ?_
                       ·
                        intro w11 hS
                        refine ⟨.pointer (some ⟨w11.heap.size, 0, none⟩), w11.alloc (.cells #[.slice none 0 0] 27), (by go_simp; try with_reducible rfl), ?_⟩
                        obtain ⟨b18, hb18⟩ : ∃ b, b = w11.heap.size := ⟨_, rfl⟩
                        obtain ⟨v11, hw11⟩ : ∃ zW, zW = w11.alloc (.cells #[.slice none 0 0] 27) := ⟨_, rfl⟩
                        rw [← hw11, ← hb18]
                        have hbl : Below w11.heap.size w11 v11 := by rw [hw11]; go_grown
                        have hge18 : s + 0 ≤ b18 := by rw [hb18]; exact Nat.le_trans zz hS.size
                        have hga18 : wc.heap.size ≤ b18 := by rw [hb18]; exact Nat.le_trans hacc.size hS.size
                        refine ⟨(fun x => Below v11.heap.size v11 x), Below.refl _ _, fun x hx => btr (btr hS hbl) hx, ?_⟩
                        have hX := btr hS hbl
                        replace hM17 := hM17.up hX; replace hX2 := hX2.mono hX; replace hbw := btr hbw hX; replace zz := Nat.le_trans zz (Below.size hX); replace hacc := btr hacc hX
                        have hs : Cells v11 [(b18, 0, .slice none 0 0)] := ⟨⟨by rw [hw11, hb18]; go_cell, by rw [hw11, hb18]; go_cell⟩, trivial⟩
                        clear hX hS hbl hw11 hb18
                        (try simp only [Act.put, List.setIfInBounds_toArray, List.set_cons_zero, List.set_cons_succ])
                        refine seqE_callB (f := ?_) (args := ?_) rfl (by rfl) ?_ ?_ ?_
                        rotate_left 2
                        focus (intro w hS; go_simp; first | done | with_reducible rfl | (refine ⟨?_, ?_⟩ <;> with_reducible rfl))
                        ·
                         intro w12 hS
                         refine (smaller_is (hX2.mono hS) (hM17.up hS) (Below.refl _ _) hn0 hn4 good_new (by rw [cnew_len]; omega) OQ.out E4.out).mono ?_
                         rintro e v12 ⟨p3, cap3, y3, cy3, rfl, hX3, hM3, hbl⟩
                         refine ⟨_, rfl, (fun x => Below v12.heap.size v12 x), Below.refl _ _, ?_⟩
                         have hXw := Nat.le_trans zz hS.size; have hXa := Nat.le_trans hacc.size hS.size
                         have hX := btr hS hbl
                         replace hs := hs.up hX; replace hM17 := hM17.up hX; replace hX2 := hX2.mono hX; replace hbw := btr hbw hX; replace zz := Nat.le_trans zz (Below.size hX); replace hacc := btr hacc hX
                         clear hX hS hbl hXw hXa
                         (try simp only [Act.put, List.setIfInBounds_toArray, List.set_cons_zero, List.set_cons_succ])
                         iterate 3 (refine seqE_free (v := ?_) rfl (by rfl) ?_ ?_; rotate_left; (focus (intro w; go_simp; try with_reducible rfl)); (try simp only [Act.put, List.setIfInBounds_toArray, List.set_cons_zero, List.set_cons_succ]))
                         refine seqE_move rfl (by rfl) ?_ seqE_stop
                         intro w13 hS
                         refine ⟨.pointer (some ⟨w13.heap.size, 0, none⟩), w13.alloc (.cells #[.int .i64 0, .slice none 0 0] 30), (by go_simp; try with_reducible rfl), ?_⟩
                         obtain ⟨b19, hb19⟩ : ∃ b, b = w13.heap.size := ⟨_, rfl⟩
                         obtain ⟨v13, hw13⟩ : ∃ zW, zW = w13.alloc (.cells #[.int .i64 0, .slice none 0 0] 30) := ⟨_, rfl⟩
                         rw [← hw13, ← hb19]
                         have hbl : Below w13.heap.size w13 v13 := by rw [hw13]; go_grown
                         have hge19 : s + 0 ≤ b19 := by rw [hb19]; exact Nat.le_trans zz hS.size
                         have hga19 : wc.heap.size ≤ b19 := by rw [hb19]; exact Nat.le_trans hacc.size hS.size
                         have hlb18_19 : b18 < b19 := by rw [hb19]; exact Nat.lt_of_lt_of_le (World.block_lt_of_cell? _ _ hs.1.1) hS.size
                         refine ⟨(fun x => Below v13.heap.size v13 x), Below.refl _ _, fun x hx => btr (btr hS hbl) hx, ?_⟩
                         have hX := btr hS hbl
                         replace hs := hs.up hX; replace hM17 := hM17.up hX; replace hX2 := hX2.mono hX; replace hX3 := hX3.mono hX; replace hM3 := hM3.up hX; replace hbw := btr hbw hX; replace zz := Nat.le_trans zz (Below.size hX); replace hacc := btr hacc hX
                         replace hs : Cells v13 [(b19, 0, .int .i64 0), (b19, 1, .slice none 0 0), (b18, 0, .slice none 0 0)] := ⟨⟨by rw [hw13, hb19]; go_cell, by rw [hw13, hb19]; go_cell⟩, ⟨by rw [hw13, hb19]; go_cell, by rw [hw13, hb19]; go_cell⟩, hs⟩
                         clear hX hS hbl hw13 hb19
                         (try simp only [Act.put, List.setIfInBounds_toArray, List.set_cons_zero, List.set_cons_succ])
                         refine seqE_storeB rfl (by rfl) ?_ seqE_stop
                         intro w14 hS
                         replace hs := hs.up hS; replace hM17 := hM17.up hS; replace hX2 := hX2.mono hS; replace hX3 := hX3.mono hS; replace hM3 := hM3.up hS; replace hbw := btr hbw hS; replace zz := Nat.le_trans zz (Below.size hS); replace hacc := btr hacc hS
                         obtain ⟨⟨d190, d190f⟩, ⟨d191, d191f⟩, ⟨d180, d180f⟩, -⟩ := id hs
                         refine ⟨(w14.setCell ⟨b18, 0, none⟩ (.slice p3 d4.length cap3)), (by go_simp; try with_reducible rfl), (fun x => Below ((w14.setCell ⟨b18, 0, none⟩ (.slice p3 d4.length cap3))).heap.size ((w14.setCell ⟨b18, 0, none⟩ (.slice p3 d4.length cap3))) x), Below.refl _ _, ?_⟩
                         obtain ⟨v14, hw⟩ : ∃ zW, zW = (w14.setCell ⟨b18, 0, none⟩ (.slice p3 d4.length cap3)) := ⟨_, rfl⟩
                         rw [← hw]
                         replace hs : Cells v14 [(b19, 0, .int .i64 0), (b19, 1, .slice none 0 0), (b18, 0, .slice p3 d4.length cap3)] := by rw [hw]; exact ⟨⟨by go_cell, (fz d190f)⟩, ⟨by go_cell, (fz d191f)⟩, ⟨by go_cell, (fz d180f)⟩, trivial⟩
                         replace hM17 : MxAt v14 q17 cq17 (q) := by rw [hw]; exact hM17.box d180 _
                         replace hX2 : CAt v14 p2 cap2 cnew := by rw [hw]; exact hX2.box d180 _
                         replace hX3 : CAt v14 p3 cap3 d4 := by rw [hw]; exact hX3.box d180 _
                         replace hM3 : MxAt v14 y3 cy3 m4 := by rw [hw]; exact hM3.box d180 _
                         replace hbw : Below w.heap.size w v14 := by rw [hw]; exact (Below.setCell hbw (by have h := HS.out; (try dsimp only); omega) _)
                         replace hacc : Below wc.heap.size wc v14 := by rw [hw]; exact (Below.setCell hacc (by have h := HS.out; (try dsimp only); omega) _)
                         replace zz : s + 0 ≤ v14.heap.size := by rw [hw]; simpa using zz
                         clear hw
                         clear d190 d190f d191 d191f d180 d180f
                         clear hS
                         (try simp only [Act.put, List.setIfInBounds_toArray, List.set_cons_zero, List.set_cons_succ])
                         refine seqE_storeB rfl (by rfl) ?_ seqE_stop
                         intro w15 hS
                         replace hs := hs.up hS; replace hM17 := hM17.up hS; replace hX2 := hX2.mono hS; replace hX3 := hX3.mono hS; replace hM3 := hM3.up hS; replace hbw := btr hbw hS; replace zz := Nat.le_trans zz (Below.size hS); replace hacc := btr hacc hS
                         obtain ⟨⟨d190, d190f⟩, ⟨d191, d191f⟩, ⟨d180, d180f⟩, -⟩ := id hs
                         refine ⟨((w15.setCell ⟨b19, 0, none⟩ (.int .i64 2)).setCell ⟨b19, 1, none⟩ (.slice y3 m4.length cy3)), (by go_simp; try with_reducible rfl), (fun x => Below (((w15.setCell ⟨b19, 0, none⟩ (.int .i64 2)).setCell ⟨b19, 1, none⟩ (.slice y3 m4.length cy3))).heap.size (((w15.setCell ⟨b19, 0, none⟩ (.int .i64 2)).setCell ⟨b19, 1, none⟩ (.slice y3 m4.length cy3))) x), Below.refl _ _, ?_⟩
                         obtain ⟨v15, hw⟩ : ∃ zW, zW = ((w15.setCell ⟨b19, 0, none⟩ (.int .i64 2)).setCell ⟨b19, 1, none⟩ (.slice y3 m4.length cy3)) := ⟨_, rfl⟩
                         rw [← hw]
                         replace hs : Cells v15 [(b19, 0, .int .i64 2), (b19, 1, .slice y3 m4.length cy3), (b18, 0, .slice p3 d4.length cap3)] := by rw [hw]; exact ⟨⟨by go_cell, (fz (fz d190f))⟩, ⟨by go_cell, (fz (fz d191f))⟩, ⟨by go_cell, (fz (fz d180f))⟩, trivial⟩
                         replace hM17 : MxAt v15 q17 cq17 (q) := by rw [hw]; exact hM17.boxM d191 _ _
                         replace hX2 : CAt v15 p2 cap2 cnew := by rw [hw]; exact hX2.boxM d191 _ _
                         replace hX3 : CAt v15 p3 cap3 d4 := by rw [hw]; exact hX3.boxM d191 _ _
                         replace hM3 : MxAt v15 y3 cy3 m4 := by rw [hw]; exact hM3.boxM d191 _ _
                         replace hbw : Below w.heap.size w v15 := by rw [hw]; exact (Below.setCell (Below.setCell hbw (by have h := HS.out; (try dsimp only); omega) _) (by have h := HS.out; (try dsimp only); omega) _)
                         replace hacc : Below wc.heap.size wc v15 := by rw [hw]; exact (Below.setCell (Below.setCell hacc (by have h := HS.out; (try dsimp only); omega) _) (by have h := HS.out; (try dsimp only); omega) _)
                         replace zz : s + 0 ≤ v15.heap.size := by rw [hw]; simpa using zz
                         clear hw
                         clear d190 d190f d191 d191f d180 d180f
                         clear hS
                         (try simp only [Act.put, List.setIfInBounds_toArray, List.set_cons_zero, List.set_cons_succ])
                         refine seqE_nil ?_
                         intro wz hS
                         replace hs := hs.up hS; replace hM17 := hM17.up hS; replace hX2 := hX2.mono hS; replace hX3 := hX3.mono hS; replace hM3 := hM3.up hS; replace hbw := btr hbw hS; replace zz := Nat.le_trans zz (Below.size hS); replace hacc := btr hacc hS; clear hS
                         obtain ⟨⟨d190, d190f⟩, ⟨d191, d191f⟩, ⟨d180, d180f⟩, -⟩ := id hs
                         go_wp2_with fail
                         go_meet
                         exact ⟨⟨_, rfl, Bx.at hX3 d180 d180f⟩, hacc⟩
                        refine seqE_move rfl (by rfl) ?_ seqE_stop
                        intro w16 hS
                        refine ⟨.pointer (some ⟨w16.heap.size, 0, none⟩), w16.alloc (.cells #[.int .i64 0, .slice none 0 0] 30), (by go_simp; try with_reducible rfl), ?_⟩
                        obtain ⟨b19, hb19⟩ : ∃ b, b = w16.heap.size := ⟨_, rfl⟩
                        obtain ⟨v16, hw16⟩ : ∃ zW, zW = w16.alloc (.cells #[.int .i64 0, .slice none 0 0] 30) := ⟨_, rfl⟩
                        rw [← hw16, ← hb19]
                        have hbl : Below w16.heap.size w16 v16 := by rw [hw16]; go_grown
                        have hge19 : s + 0 ≤ b19 := by rw [hb19]; exact Nat.le_trans zz hS.size
                        have hga19 : wc.heap.size ≤ b19 := by rw [hb19]; exact Nat.le_trans hacc.size hS.size
                        have hlb18_19 : b18 < b19 := by rw [hb19]; exact Nat.lt_of_lt_of_le (World.block_lt_of_cell? _ _ hs.1.1) hS.size
                        refine ⟨(fun x => Below v16.heap.size v16 x), Below.refl _ _, fun x hx => btr (btr hS hbl) hx, ?_⟩
                        have hX := btr hS hbl
                        replace hs := hs.up hX; replace hM17 := hM17.up hX; replace hX2 := hX2.mono hX; replace hbw := btr hbw hX; replace zz := Nat.le_trans zz (Below.size hX); replace hacc := btr hacc hX
                        replace hs : Cells v16 [(b19, 0, .int .i64 0), (b19, 1, .slice none 0 0), (b18, 0, .slice none 0 0)] := ⟨⟨by rw [hw16, hb19]; go_cell, by rw [hw16, hb19]; go_cell⟩, ⟨by rw [hw16, hb19]; go_cell, by rw [hw16, hb19]; go_cell⟩, hs⟩
                        clear hX hS hbl hw16 hb19
                        (try simp only [Act.put, List.setIfInBounds_toArray, List.set_cons_zero, List.set_cons_succ])
                        refine seqE_callB (f := ?_) (args := ?_) rfl (by rfl) ?_ ?_ seqE_stop
                        rotate_left 2
                        focus (intro w hS; go_simp; first | done | with_reducible rfl | (refine ⟨?_, ?_⟩ <;> with_reducible rfl))
                        intro w17 hS
                        refine (smaller_is (hX2.mono hS) (hM17.up hS) (Below.refl _ _) hn0 hn4 good_new (by rw [cnew_len]; omega) OQ.out E4.out).mono ?_
                        rintro e v17 ⟨p3, cap3, y3, cy3, rfl, hX3, hM3, hbl⟩
                        refine ⟨_, rfl, (fun x => Below v17.heap.size v17 x), Below.refl _ _, ?_⟩
                        have hXw := Nat.le_trans zz hS.size; have hXa := Nat.le_trans hacc.size hS.size
                        have hX := btr hS hbl
                        replace hs := hs.up hX; replace hM17 := hM17.up hX; replace hX2 := hX2.mono hX; replace hbw := btr hbw hX; replace zz := Nat.le_trans zz (Below.size hX); replace hacc := btr hacc hX
                        clear hX hS hbl hXw hXa
                        (try simp only [Act.put, List.setIfInBounds_toArray, List.set_cons_zero, List.set_cons_succ])
                        iterate 3 (refine seqE_free (v := ?_) rfl (by rfl) ?_ ?_; rotate_left; (focus (intro w; go_simp; try with_reducible rfl)); (try simp only [Act.put, List.setIfInBounds_toArray, List.set_cons_zero, List.set_cons_succ]))
                        refine seqE_storeB rfl (by rfl) ?_ seqE_stop
                        intro w18 hS
                        replace hs := hs.up hS; replace hM17 := hM17.up hS; replace hX2 := hX2.mono hS; replace hX3 := hX3.mono hS; replace hM3 := hM3.up hS; replace hbw := btr hbw hS; replace zz := Nat.le_trans zz (Below.size hS); replace hacc := btr hacc hS
                        obtain ⟨⟨d190, d190f⟩, ⟨d191, d191f⟩, ⟨d180, d180f⟩, -⟩ := id hs
                        refine ⟨(w18.setCell ⟨b18, 0, none⟩ (.slice p3 d4.length cap3)), (by go_simp; try with_reducible rfl), (fun x => Below ((w18.setCell ⟨b18, 0, none⟩ (.slice p3 d4.length cap3))).heap.size ((w18.setCell ⟨b18, 0, none⟩ (.slice p3 d4.length cap3))) x), Below.refl _ _, ?_⟩
                        obtain ⟨v18, hw⟩ : ∃ zW, zW = (w18.setCell ⟨b18, 0, none⟩ (.slice p3 d4.length cap3)) := ⟨_, rfl⟩
                        rw [← hw]
                        replace hs : Cells v18 [(b19, 0, .int .i64 0), (b19, 1, .slice none 0 0), (b18, 0, .slice p3 d4.length cap3)] := by rw [hw]; exact ⟨⟨by go_cell, (fz d190f)⟩, ⟨by go_cell, (fz d191f)⟩, ⟨by go_cell, (fz d180f)⟩, trivial⟩
                        replace hM17 : MxAt v18 q17 cq17 (q) := by rw [hw]; exact hM17.box d180 _
                        replace hX2 : CAt v18 p2 cap2 cnew := by rw [hw]; exact hX2.box d180 _
                        replace hX3 : CAt v18 p3 cap3 d4 := by rw [hw]; exact hX3.box d180 _
                        replace hM3 : MxAt v18 y3 cy3 m4 := by rw [hw]; exact hM3.box d180 _
                        replace hbw : Below w.heap.size w v18 := by rw [hw]; exact (Below.setCell hbw (by have h := HS.out; (try dsimp only); omega) _)
                        replace hacc : Below wc.heap.size wc v18 := by rw [hw]; exact (Below.setCell hacc (by have h := HS.out; (try dsimp only); omega) _)
                        replace zz : s + 0 ≤ v18.heap.size := by rw [hw]; simpa using zz
                        clear hw
                        clear d190 d190f d191 d191f d180 d180f
                        clear hS
                        (try simp only [Act.put, List.setIfInBounds_toArray, List.set_cons_zero, List.set_cons_succ])
                        refine seqE_storeB rfl (by rfl) ?_ seqE_stop
                        intro w19 hS
                        replace hs := hs.up hS; replace hM17 := hM17.up hS; replace hX2 := hX2.mono hS; replace hX3 := hX3.mono hS; replace hM3 := hM3.up hS; replace hbw := btr hbw hS; replace zz := Nat.le_trans zz (Below.size hS); replace hacc := btr hacc hS
                        obtain ⟨⟨d190, d190f⟩, ⟨d191, d191f⟩, ⟨d180, d180f⟩, -⟩ := id hs
                        refine ⟨((w19.setCell ⟨b19, 0, none⟩ (.int .i64 2)).setCell ⟨b19, 1, none⟩ (.slice y3 m4.length cy3)), (by go_simp; try with_reducible rfl), (fun x => Below (((w19.setCell ⟨b19, 0, none⟩ (.int .i64 2)).setCell ⟨b19, 1, none⟩ (.slice y3 m4.length cy3))).heap.size (((w19.setCell ⟨b19, 0, none⟩ (.int .i64 2)).setCell ⟨b19, 1, none⟩ (.slice y3 m4.length cy3))) x), Below.refl _ _, ?_⟩
                        obtain ⟨v19, hw⟩ : ∃ zW, zW = ((w19.setCell ⟨b19, 0, none⟩ (.int .i64 2)).setCell ⟨b19, 1, none⟩ (.slice y3 m4.length cy3)) := ⟨_, rfl⟩
                        rw [← hw]
                        replace hs : Cells v19 [(b19, 0, .int .i64 2), (b19, 1, .slice y3 m4.length cy3), (b18, 0, .slice p3 d4.length cap3)] := by rw [hw]; exact ⟨⟨by go_cell, (fz (fz d190f))⟩, ⟨by go_cell, (fz (fz d191f))⟩, ⟨by go_cell, (fz (fz d180f))⟩, trivial⟩
                        replace hM17 : MxAt v19 q17 cq17 (q) := by rw [hw]; exact hM17.boxM d191 _ _
                        replace hX2 : CAt v19 p2 cap2 cnew := by rw [hw]; exact hX2.boxM d191 _ _
                        replace hX3 : CAt v19 p3 cap3 d4 := by rw [hw]; exact hX3.boxM d191 _ _
                        replace hM3 : MxAt v19 y3 cy3 m4 := by rw [hw]; exact hM3.boxM d191 _ _
                        replace hbw : Below w.heap.size w v19 := by rw [hw]; exact (Below.setCell (Below.setCell hbw (by have h := HS.out; (try dsimp only); omega) _) (by have h := HS.out; (try dsimp only); omega) _)
                        replace hacc : Below wc.heap.size wc v19 := by rw [hw]; exact (Below.setCell (Below.setCell hacc (by have h := HS.out; (try dsimp only); omega) _) (by have h := HS.out; (try dsimp only); omega) _)
                        replace zz : s + 0 ≤ v19.heap.size := by rw [hw]; simpa using zz
                        clear hw
                        clear d190 d190f d191 d191f d180 d180f
                        clear hS
                        (try simp only [Act.put, List.setIfInBounds_toArray, List.set_cons_zero, List.set_cons_succ])
                        refine seqE_nil ?_
                        intro wz hS
                        replace hs := hs.up hS; replace hM17 := hM17.up hS; replace hX2 := hX2.mono hS; replace hX3 := hX3.mono hS; replace hM3 := hM3.up hS; replace hbw := btr hbw hS; replace zz := Nat.le_trans zz (Below.size hS); replace hacc := btr hacc hS; clear hS
                        obtain ⟨⟨d190, d190f⟩, ⟨d191, d191f⟩, ⟨d180, d180f⟩, -⟩ := id hs
                        go_wp2_with fail
                        go_meet
                        exact ⟨⟨_, rfl, Bx.at hX3 d180 d180f⟩, hacc⟩
                       refine seqE_move rfl (by rfl) ?_ seqE_stop
                       intro w20 hS
                       refine ⟨.pointer (some ⟨w20.heap.size, 0, none⟩), w20.alloc (.cells #[.int .i64 0, .slice none 0 0] 30), (by go_simp; try with_reducible rfl), ?_⟩
                       obtain ⟨b19, hb19⟩ : ∃ b, b = w20.heap.size := ⟨_, rfl⟩
                       obtain ⟨v20, hw20⟩ : ∃ zW, zW = w20.alloc (.cells #[.int .i64 0, .slice none 0 0] 30) := ⟨_, rfl⟩
                       rw [← hw20, ← hb19]
                       have hbl : Below w20.heap.size w20 v20 := by rw [hw20]; go_grown
                       have hge19 : s + 0 ≤ b19 := by rw [hb19]; exact Nat.le_trans zz hS.size
                       have hga19 : wc.heap.size ≤ b19 := by rw [hb19]; exact Nat.le_trans hacc.size hS.size
                       refine ⟨(fun x => Below v20.heap.size v20 x), Below.refl _ _, fun x hx => btr (btr hS hbl) hx, ?_⟩
                       have hX := btr hS hbl
                       replace hM17 := hM17.up hX; replace hX2 := hX2.mono hX; replace hbw := btr hbw hX; replace zz := Nat.le_trans zz (Below.size hX); replace hacc := btr hacc hX
                       have hs : Cells v20 [(b19, 0, .int .i64 0), (b19, 1, .slice none 0 0)] := ⟨⟨by rw [hw20, hb19]; go_cell, by rw [hw20, hb19]; go_cell⟩, ⟨by rw [hw20, hb19]; go_cell, by rw [hw20, hb19]; go_cell⟩, trivial⟩
                       clear hX hS hbl hw20 hb19
                       (try simp only [Act.put, List.setIfInBounds_toArray, List.set_cons_zero, List.set_cons_succ])
                       refine seqE_callB (f := ?_) (args := ?_) rfl (by rfl) ?_ ?_ ?_
                       rotate_left 2
                       focus (intro w hS; go_simp; first | done | with_reducible rfl | (refine ⟨?_, ?_⟩ <;> with_reducible rfl))
                       ·
                        intro w21 hS
                        refine (smaller_is (hX2.mono hS) (hM17.up hS) (Below.refl _ _) hn0 hn4 good_new (by rw [cnew_len]; omega) OQ.out E4.out).mono ?_
                        rintro e v21 ⟨p3, cap3, y3, cy3, rfl, hX3, hM3, hbl⟩
                        refine ⟨_, rfl, (fun x => Below v21.heap.size v21 x), Below.refl _ _, ?_⟩
                        have hXw := Nat.le_trans zz hS.size; have hXa := Nat.le_trans hacc.size hS.size
                        have hX := btr hS hbl
                        replace hs := hs.up hX; replace hM17 := hM17.up hX; replace hX2 := hX2.mono hX; replace hbw := btr hbw hX; replace zz := Nat.le_trans zz (Below.size hX); replace hacc := btr hacc hX
                        clear hX hS hbl hXw hXa
                        (try simp only [Act.put, List.setIfInBounds_toArray, List.set_cons_zero, List.set_cons_succ])
                        iterate 3 (refine seqE_free (v := ?_) rfl (by rfl) ?_ ?_; rotate_left; (focus (intro w; go_simp; try with_reducible rfl)); (try simp only [Act.put, List.setIfInBounds_toArray, List.set_cons_zero, List.set_cons_succ]))
                        refine seqE_move rfl (by rfl) ?_ seqE_stop
                        intro w22 hS
                        refine ⟨.pointer (some ⟨w22.heap.size, 0, none⟩), w22.alloc (.cells #[.slice none 0 0] 27), (by go_simp; try with_reducible rfl), ?_⟩
                        obtain ⟨b18, hb18⟩ : ∃ b, b = w22.heap.size := ⟨_, rfl⟩
                        obtain ⟨v22, hw22⟩ : ∃ zW, zW = w22.alloc (.cells #[.slice none 0 0] 27) := ⟨_, rfl⟩
                        rw [← hw22, ← hb18]
                        have hbl : Below w22.heap.size w22 v22 := by rw [hw22]; go_grown
                        have hge18 : s + 0 ≤ b18 := by rw [hb18]; exact Nat.le_trans zz hS.size
                        have hga18 : wc.heap.size ≤ b18 := by rw [hb18]; exact Nat.le_trans hacc.size hS.size
                        have hlb19_18 : b19 < b18 := by rw [hb18]; exact Nat.lt_of_lt_of_le (World.block_lt_of_cell? _ _ hs.1.1) hS.size
                        refine ⟨(fun x => Below v22.heap.size v22 x), Below.refl _ _, fun x hx => btr (btr hS hbl) hx, ?_⟩
                        have hX := btr hS hbl
                        replace hs := hs.up hX; replace hM17 := hM17.up hX; replace hX2 := hX2.mono hX; replace hX3 := hX3.mono hX; replace hM3 := hM3.up hX; replace hbw := btr hbw hX; replace zz := Nat.le_trans zz (Below.size hX); replace hacc := btr hacc hX
                        replace hs : Cells v22 [(b18, 0, .slice none 0 0), (b19, 0, .int .i64 0), (b19, 1, .slice none 0 0)] := ⟨⟨by rw [hw22, hb18]; go_cell, by rw [hw22, hb18]; go_cell⟩, hs⟩
                        clear hX hS hbl hw22 hb18
                        (try simp only [Act.put, List.setIfInBounds_toArray, List.set_cons_zero, List.set_cons_succ])
                        refine seqE_storeB rfl (by rfl) ?_ seqE_stop
                        intro w23 hS
                        replace hs := hs.up hS; replace hM17 := hM17.up hS; replace hX2 := hX2.mono hS; replace hX3 := hX3.mono hS; replace hM3 := hM3.up hS; replace hbw := btr hbw hS; replace zz := Nat.le_trans zz (Below.size hS); replace hacc := btr hacc hS
                        obtain ⟨⟨d180, d180f⟩, ⟨d190, d190f⟩, ⟨d191, d191f⟩, -⟩ := id hs
                        refine ⟨(w23.setCell ⟨b18, 0, none⟩ (.slice p3 d4.length cap3)), (by go_simp; try with_reducible rfl), (fun x => Below ((w23.setCell ⟨b18, 0, none⟩ (.slice p3 d4.length cap3))).heap.size ((w23.setCell ⟨b18, 0, none⟩ (.slice p3 d4.length cap3))) x), Below.refl _ _, ?_⟩
                        obtain ⟨v23, hw⟩ : ∃ zW, zW = (w23.setCell ⟨b18, 0, none⟩ (.slice p3 d4.length cap3)) := ⟨_, rfl⟩
                        rw [← hw]
                        replace hs : Cells v23 [(b18, 0, .slice p3 d4.length cap3), (b19, 0, .int .i64 0), (b19, 1, .slice none 0 0)] := by rw [hw]; exact ⟨⟨by go_cell, (fz d180f)⟩, ⟨by go_cell, (fz d190f)⟩, ⟨by go_cell, (fz d191f)⟩, trivial⟩
                        replace hM17 : MxAt v23 q17 cq17 (q) := by rw [hw]; exact hM17.box d180 _
                        replace hX2 : CAt v23 p2 cap2 cnew := by rw [hw]; exact hX2.box d180 _
                        replace hX3 : CAt v23 p3 cap3 d4 := by rw [hw]; exact hX3.box d180 _
                        replace hM3 : MxAt v23 y3 cy3 m4 := by rw [hw]; exact hM3.box d180 _
                        replace hbw : Below w.heap.size w v23 := by rw [hw]; exact (Below.setCell hbw (by have h := HS.out; (try dsimp only); omega) _)
                        replace hacc : Below wc.heap.size wc v23 := by rw [hw]; exact (Below.setCell hacc (by have h := HS.out; (try dsimp only); omega) _)
                        replace zz : s + 0 ≤ v23.heap.size := by rw [hw]; simpa using zz
                        clear hw
                        clear d180 d180f d190 d190f d191 d191f
                        clear hS
                        (try simp only [Act.put, List.setIfInBounds_toArray, List.set_cons_zero, List.set_cons_succ])
                        refine seqE_storeB rfl (by rfl) ?_ seqE_stop
                        intro w24 hS
                        replace hs := hs.up hS; replace hM17 := hM17.up hS; replace hX2 := hX2.mono hS; replace hX3 := hX3.mono hS; replace hM3 := hM3.up hS; replace hbw := btr hbw hS; replace zz := Nat.le_trans zz (Below.size hS); replace hacc := btr hacc hS
                        obtain ⟨⟨d180, d180f⟩, ⟨d190, d190f⟩, ⟨d191, d191f⟩, -⟩ := id hs
                        refine ⟨((w24.setCell ⟨b19, 0, none⟩ (.int .i64 2)).setCell ⟨b19, 1, none⟩ (.slice y3 m4.length cy3)), (by go_simp; try with_reducible rfl), (fun x => Below (((w24.setCell ⟨b19, 0, none⟩ (.int .i64 2)).setCell ⟨b19, 1, none⟩ (.slice y3 m4.length cy3))).heap.size (((w24.setCell ⟨b19, 0, none⟩ (.int .i64 2)).setCell ⟨b19, 1, none⟩ (.slice y3 m4.length cy3))) x), Below.refl _ _, ?_⟩
                        obtain ⟨v24, hw⟩ : ∃ zW, zW = ((w24.setCell ⟨b19, 0, none⟩ (.int .i64 2)).setCell ⟨b19, 1, none⟩ (.slice y3 m4.length cy3)) := ⟨_, rfl⟩
                        rw [← hw]
                        replace hs : Cells v24 [(b18, 0, .slice p3 d4.length cap3), (b19, 0, .int .i64 2), (b19, 1, .slice y3 m4.length cy3)] := by rw [hw]; exact ⟨⟨by go_cell, (fz (fz d180f))⟩, ⟨by go_cell, (fz (fz d190f))⟩, ⟨by go_cell, (fz (fz d191f))⟩, trivial⟩
                        replace hM17 : MxAt v24 q17 cq17 (q) := by rw [hw]; exact hM17.boxM d191 _ _
                        replace hX2 : CAt v24 p2 cap2 cnew := by rw [hw]; exact hX2.boxM d191 _ _
                        replace hX3 : CAt v24 p3 cap3 d4 := by rw [hw]; exact hX3.boxM d191 _ _
                        replace hM3 : MxAt v24 y3 cy3 m4 := by rw [hw]; exact hM3.boxM d191 _ _
                        replace hbw : Below w.heap.size w v24 := by rw [hw]; exact (Below.setCell (Below.setCell hbw (by have h := HS.out; (try dsimp only); omega) _) (by have h := HS.out; (try dsimp only); omega) _)
                        replace hacc : Below wc.heap.size wc v24 := by rw [hw]; exact (Below.setCell (Below.setCell hacc (by have h := HS.out; (try dsimp only); omega) _) (by have h := HS.out; (try dsimp only); omega) _)
                        replace zz : s + 0 ≤ v24.heap.size := by rw [hw]; simpa using zz
                        clear hw
                        clear d180 d180f d190 d190f d191 d191f
                        clear hS
                        (try simp only [Act.put, List.setIfInBounds_toArray, List.set_cons_zero, List.set_cons_succ])
                        refine seqE_nil ?_
                        intro wz hS
                        replace hs := hs.up hS; replace hM17 := hM17.up hS; replace hX2 := hX2.mono hS; replace hX3 := hX3.mono hS; replace hM3 := hM3.up hS; replace hbw := btr hbw hS; replace zz := Nat.le_trans zz (Below.size hS); replace hacc := btr hacc hS; clear hS
                        obtain ⟨⟨d180, d180f⟩, ⟨d190, d190f⟩, ⟨d191, d191f⟩, -⟩ := id hs
                        go_wp2_with fail
                        go_meet
                        exact ⟨⟨_, rfl, Bx.at hX3 d180 d180f⟩, hacc⟩
                       refine seqE_move rfl (by rfl) ?_ seqE_stop
                       intro w25 hS
                       refine ⟨.pointer (some ⟨w25.heap.size, 0, none⟩), w25.alloc (.cells #[.slice none 0 0] 27), (by go_simp; try with_reducible rfl), ?_⟩
                       obtain ⟨b18, hb18⟩ : ∃ b, b = w25.heap.size := ⟨_, rfl⟩
                       obtain ⟨v25, hw25⟩ : ∃ zW, zW = w25.alloc (.cells #[.slice none 0 0] 27) := ⟨_, rfl⟩
                       rw [← hw25, ← hb18]
                       have hbl : Below w25.heap.size w25 v25 := by rw [hw25]; go_grown
                       have hge18 : s + 0 ≤ b18 := by rw [hb18]; exact Nat.le_trans zz hS.size
                       have hga18 : wc.heap.size ≤ b18 := by rw [hb18]; exact Nat.le_trans hacc.size hS.size
                       have hlb19_18 : b19 < b18 := by rw [hb18]; exact Nat.lt_of_lt_of_le (World.block_lt_of_cell? _ _ hs.1.1) hS.size
                       refine ⟨(fun x => Below v25.heap.size v25 x), Below.refl _ _, fun x hx => btr (btr hS hbl) hx, ?_⟩
                       have hX := btr hS hbl
                       replace hs := hs.up hX; replace hM17 := hM17.up hX; replace hX2 := hX2.mono hX; replace hbw := btr hbw hX; replace zz := Nat.le_trans zz (Below.size hX); replace hacc := btr hacc hX
                       replace hs : Cells v25 [(b18, 0, .slice none 0 0), (b19, 0, .int .i64 0), (b19, 1, .slice none 0 0)] := ⟨⟨by rw [hw25, hb18]; go_cell, by rw [hw25, hb18]; go_cell⟩, hs⟩
                       clear hX hS hbl hw25 hb18
                       (try simp only [Act.put, List.setIfInBounds_toArray, List.set_cons_zero, List.set_cons_succ])
                       refine seqE_callB (f := ?_) (args := ?_) rfl (by rfl) ?_ ?_ seqE_stop
                       rotate_left 2
                       focus (intro w hS; go_simp; first | done | with_reducible rfl | (refine ⟨?_, ?_⟩ <;> with_reducible rfl))
                       intro w26 hS
                       refine (smaller_is (hX2.mono hS) (hM17.up hS) (Below.refl _ _) hn0 hn4 good_new (by rw [cnew_len]; omega) OQ.out E4.out).mono ?_
                       rintro e v26 ⟨p3, cap3, y3, cy3, rfl, hX3, hM3, hbl⟩
                       refine ⟨_, rfl, (fun x => Below v26.heap.size v26 x), Below.refl _ _, ?_⟩
                       have hXw := Nat.le_trans zz hS.size; have hXa := Nat.le_trans hacc.size hS.size
                       have hX := btr hS hbl
                       replace hs := hs.up hX; replace hM17 := hM17.up hX; replace hX2 := hX2.mono hX; replace hbw := btr hbw hX; replace zz := Nat.le_trans zz (Below.size hX); replace hacc := btr hacc hX
                       clear hX hS hbl hXw hXa
                       (try simp only [Act.put, List.setIfInBounds_toArray, List.set_cons_zero, List.set_cons_succ])
                       iterate 3 (refine seqE_free (v := ?_) rfl (by rfl) ?_ ?_; rotate_left; (focus (intro w; go_simp; try with_reducible rfl)); (try simp only [Act.put, List.setIfInBounds_toArray, List.set_cons_zero, List.set_cons_succ]))
                       refine seqE_storeB rfl (by rfl) ?_ seqE_stop
                       intro w27 hS
                       replace hs := hs.up hS; replace hM17 := hM17.up hS; replace hX2 := hX2.mono hS; replace hX3 := hX3.mono hS; replace hM3 := hM3.up hS; replace hbw := btr hbw hS; replace zz := Nat.le_trans zz (Below.size hS); replace hacc := btr hacc hS
                       obtain ⟨⟨d180, d180f⟩, ⟨d190, d190f⟩, ⟨d191, d191f⟩, -⟩ := id hs
                       refine ⟨(w27.setCell ⟨b18, 0, none⟩ (.slice p3 d4.length cap3)), (by go_simp; try with_reducible rfl), (fun x => Below ((w27.setCell ⟨b18, 0, none⟩ (.slice p3 d4.length cap3))).heap.size ((w27.setCell ⟨b18, 0, none⟩ (.slice p3 d4.length cap3))) x), Below.refl _ _, ?_⟩
                       obtain ⟨v27, hw⟩ : ∃ zW, zW = (w27.setCell ⟨b18, 0, none⟩ (.slice p3 d4.length cap3)) := ⟨_, rfl⟩
                       rw [← hw]
                       replace hs : Cells v27 [(b18, 0, .slice p3 d4.length cap3), (b19, 0, .int .i64 0), (b19, 1, .slice none 0 0)] := by rw [hw]; exact ⟨⟨by go_cell, (fz d180f)⟩, ⟨by go_cell, (fz d190f)⟩, ⟨by go_cell, (fz d191f)⟩, trivial⟩
                       replace hM17 : MxAt v27 q17 cq17 (q) := by rw [hw]; exact hM17.box d180 _
                       replace hX2 : CAt v27 p2 cap2 cnew := by rw [hw]; exact hX2.box d180 _
                       replace hX3 : CAt v27 p3 cap3 d4 := by rw [hw]; exact hX3.box d180 _
                       replace hM3 : MxAt v27 y3 cy3 m4 := by rw [hw]; exact hM3.box d180 _
                       replace hbw : Below w.heap.size w v27 := by rw [hw]; exact (Below.setCell hbw (by have h := HS.out; (try dsimp only); omega) _)
                       replace hacc : Below wc.heap.size wc v27 := by rw [hw]; exact (Below.setCell hacc (by have h := HS.out; (try dsimp only); omega) _)
                       replace zz : s + 0 ≤ v27.heap.size := by rw [hw]; simpa using zz
                       clear hw
                       clear d180 d180f d190 d190f d191 d191f
                       clear hS
                       (try simp only [Act.put, List.setIfInBounds_toArray, List.set_cons_zero, List.set_cons_succ])
                       refine seqE_storeB rfl (by rfl) ?_ seqE_stop
                       intro w28 hS
                       replace hs := hs.up hS; replace hM17 := hM17.up hS; replace hX2 := hX2.mono hS; replace hX3 := hX3.mono hS; replace hM3 := hM3.up hS; replace hbw := btr hbw hS; replace zz := Nat.le_trans zz (Below.size hS); replace hacc := btr hacc hS
                       obtain ⟨⟨d180, d180f⟩, ⟨d190, d190f⟩, ⟨d191, d191f⟩, -⟩ := id hs
                       refine ⟨((w28.setCell ⟨b19, 0, none⟩ (.int .i64 2)).setCell ⟨b19, 1, none⟩ (.slice y3 m4.length cy3)), (by go_simp; try with_reducible rfl), (fun x => Below (((w28.setCell ⟨b19, 0, none⟩ (.int .i64 2)).setCell ⟨b19, 1, none⟩ (.slice y3 m4.length cy3))).heap.size (((w28.setCell ⟨b19, 0, none⟩ (.int .i64 2)).setCell ⟨b19, 1, none⟩ (.slice y3 m4.length cy3))) x), Below.refl _ _, ?_⟩
                       obtain ⟨v28, hw⟩ : ∃ zW, zW = ((w28.setCell ⟨b19, 0, none⟩ (.int .i64 2)).setCell ⟨b19, 1, none⟩ (.slice y3 m4.length cy3)) := ⟨_, rfl⟩
                       rw [← hw]
                       replace hs : Cells v28 [(b18, 0, .slice p3 d4.length cap3), (b19, 0, .int .i64 2), (b19, 1, .slice y3 m4.length cy3)] := by rw [hw]; exact ⟨⟨by go_cell, (fz (fz d180f))⟩, ⟨by go_cell, (fz (fz d190f))⟩, ⟨by go_cell, (fz (fz d191f))⟩, trivial⟩
                       replace hM17 : MxAt v28 q17 cq17 (q) := by rw [hw]; exact hM17.boxM d191 _ _
                       replace hX2 : CAt v28 p2 cap2 cnew := by rw [hw]; exact hX2.boxM d191 _ _
                       replace hX3 : CAt v28 p3 cap3 d4 := by rw [hw]; exact hX3.boxM d191 _ _
                       replace hM3 : MxAt v28 y3 cy3 m4 := by rw [hw]; exact hM3.boxM d191 _ _
                       replace hbw : Below w.heap.size w v28 := by rw [hw]; exact (Below.setCell (Below.setCell hbw (by have h := HS.out; (try dsimp only); omega) _) (by have h := HS.out; (try dsimp only); omega) _)
                       replace hacc : Below wc.heap.size wc v28 := by rw [hw]; exact (Below.setCell (Below.setCell hacc (by have h := HS.out; (try dsimp only); omega) _) (by have h := HS.out; (try dsimp only); omega) _)
                       replace zz : s + 0 ≤ v28.heap.size := by rw [hw]; simpa using zz
                       clear hw
                       clear d180 d180f d190 d190f d191 d191f
                       clear hS
                       (try simp only [Act.put, List.setIfInBounds_toArray, List.set_cons_zero, List.set_cons_succ])
                       refine seqE_nil ?_
                       intro wz hS
                       replace hs := hs.up hS; replace hM17 := hM17.up hS; replace hX2 := hX2.mono hS; replace hX3 := hX3.mono hS; replace hM3 := hM3.up hS; replace hbw := btr hbw hS; replace zz := Nat.le_trans zz (Below.size hS); replace hacc := btr hacc hS; clear hS
                       obtain ⟨⟨d180, d180f⟩, ⟨d190, d190f⟩, ⟨d191, d191f⟩, -⟩ := id hs
                       go_wp2_with fail
                       go_meet
                       exact ⟨⟨_, rfl, Bx.at hX3 d180 d180f⟩, hacc⟩
                      refine seqE_move rfl (by rfl) ?_ ?_
                      ·
                       intro w29 hS
                       refine ⟨.pointer (some ⟨w29.heap.size, 0, none⟩), w29.alloc (.cells #[.slice none 0 0] 27), (by go_simp; try with_reducible rfl), ?_⟩
                       obtain ⟨b18, hb18⟩ : ∃ b, b = w29.heap.size := ⟨_, rfl⟩
                       obtain ⟨v29, hw29⟩ : ∃ zW, zW = w29.alloc (.cells #[.slice none 0 0] 27) := ⟨_, rfl⟩
                       rw [← hw29, ← hb18]
                       have hbl : Below w29.heap.size w29 v29 := by rw [hw29]; go_grown
                       have hge18 : s + 0 ≤ b18 := by rw [hb18]; exact Nat.le_trans zz hS.size
                       have hga18 : wc.heap.size ≤ b18 := by rw [hb18]; exact Nat.le_trans hacc.size hS.size
                       refine ⟨(fun x => Below v29.heap.size v29 x), Below.refl _ _, fun x hx => btr (btr hS hbl) hx, ?_⟩
                       have hX := btr hS hbl
                       replace hM17 := hM17.up hX; replace hbw := btr hbw hX; replace zz := Nat.le_trans zz (Below.size hX); replace hacc := btr hacc hX
                       have hs : Cells v29 [(b18, 0, .slice none 0 0)] := ⟨⟨by rw [hw29, hb18]; go_cell, by rw [hw29, hb18]; go_cell⟩, trivial⟩
                       clear hX hS hbl hw29 hb18
                       (try simp only [Act.put, List.setIfInBounds_toArray, List.set_cons_zero, List.set_cons_succ])
                       refine seqE_call (f := ?_) (args := ?_) rfl (by rfl) ?_ ?_ ?_
                       rotate_left 2
                       focus (intro w hS; go_simp; first | done | with_reducible rfl | (refine ⟨?_, ?_⟩ <;> with_reducible rfl))
                       ·
                        intro w30 hS
                        refine (rnew_is w30).mono ?_
                        rintro e v30 ⟨p2, cap2, rfl, hX2, hbl⟩
                        refine ⟨_, rfl, (fun x => Below v30.heap.size v30 x), Below.refl _ _, fun x hx => btr (btr hS hbl) hx, ?_⟩
                        have hXw := Nat.le_trans zz hS.size; have hXa := Nat.le_trans hacc.size hS.size
                        have hX := btr hS hbl
                        replace hs := hs.up hX; replace hM17 := hM17.up hX; replace hbw := btr hbw hX; replace zz := Nat.le_trans zz (Below.size hX); replace hacc := btr hacc hX
                        clear hX hS hbl hXw hXa
                        (try simp only [Act.put, List.setIfInBounds_toArray, List.set_cons_zero, List.set_cons_succ])
                        refine seqE_callB (f := ?_) (args := ?_) rfl (by rfl) ?_ ?_ ?_
                        rotate_left 2
                        focus (intro w hS; go_simp; first | done | with_reducible rfl | (refine ⟨?_, ?_⟩ <;> with_reducible rfl))
                        ·
                         intro w31 hS
                         refine (smaller_is (hX2.mono hS) (hM17.up hS) (Below.refl _ _) hn0 hn4 good_new (by rw [cnew_len]; omega) OQ.out E4.out).mono ?_
                         rintro e v31 ⟨p3, cap3, y3, cy3, rfl, hX3, hM3, hbl⟩
                         refine ⟨_, rfl, (fun x => Below v31.heap.size v31 x), Below.refl _ _, ?_⟩
                         have hXw := Nat.le_trans zz hS.size; have hXa := Nat.le_trans hacc.size hS.size
                         have hX := btr hS hbl
                         replace hs := hs.up hX; replace hM17 := hM17.up hX; replace hX2 := hX2.mono hX; replace hbw := btr hbw hX; replace zz := Nat.le_trans zz (Below.size hX); replace hacc := btr hacc hX
                         clear hX hS hbl hXw hXa
                         (try simp only [Act.put, List.setIfInBounds_toArray, List.set_cons_zero, List.set_cons_succ])
                         iterate 3 (refine seqE_free (v := ?_) rfl (by rfl) ?_ ?_; rotate_left; (focus (intro w; go_simp; try with_reducible rfl)); (try simp only [Act.put, List.setIfInBounds_toArray, List.set_cons_zero, List.set_cons_succ]))
                         refine seqE_move rfl (by rfl) ?_ seqE_stop
                         intro w32 hS
                         refine ⟨.pointer (some ⟨w32.heap.size, 0, none⟩), w32.alloc (.cells #[.int .i64 0, .slice none 0 0] 30), (by go_simp; try with_reducible rfl), ?_⟩
                         obtain ⟨b19, hb19⟩ : ∃ b, b = w32.heap.size := ⟨_, rfl⟩
                         obtain ⟨v32, hw32⟩ : ∃ zW, zW = w32.alloc (.cells #[.int .i64 0, .slice none 0 0] 30) := ⟨_, rfl⟩
                         rw [← hw32, ← hb19]
                         have hbl : Below w32.heap.size w32 v32 := by rw [hw32]; go_grown
                         have hge19 : s + 0 ≤ b19 := by rw [hb19]; exact Nat.le_trans zz hS.size
                         have hga19 : wc.heap.size ≤ b19 := by rw [hb19]; exact Nat.le_trans hacc.size hS.size
                         have hlb18_19 : b18 < b19 := by rw [hb19]; exact Nat.lt_of_lt_of_le (World.block_lt_of_cell? _ _ hs.1.1) hS.size
                         refine ⟨(fun x => Below v32.heap.size v32 x), Below.refl _ _, fun x hx => btr (btr hS hbl) hx, ?_⟩
                         have hX := btr hS hbl
                         replace hs := hs.up hX; replace hM17 := hM17.up hX; replace hX2 := hX2.mono hX; replace hX3 := hX3.mono hX; replace hM3 := hM3.up hX; replace hbw := btr hbw hX; replace zz := Nat.le_trans zz (Below.size hX); replace hacc := btr hacc hX
                         replace hs : Cells v32 [(b19, 0, .int .i64 0), (b19, 1, .slice none 0 0), (b18, 0, .slice none 0 0)] := ⟨⟨by rw [hw32, hb19]; go_cell, by rw [hw32, hb19]; go_cell⟩, ⟨by rw [hw32, hb19]; go_cell, by rw [hw32, hb19]; go_cell⟩, hs⟩
                         clear hX hS hbl hw32 hb19
                         (try simp only [Act.put, List.setIfInBounds_toArray, List.set_cons_zero, List.set_cons_succ])
                         refine seqE_storeB rfl (by rfl) ?_ seqE_stop
                         intro w33 hS
                         replace hs := hs.up hS; replace hM17 := hM17.up hS; replace hX2 := hX2.mono hS; replace hX3 := hX3.mono hS; replace hM3 := hM3.up hS; replace hbw := btr hbw hS; replace zz := Nat.le_trans zz (Below.size hS); replace hacc := btr hacc hS
                         obtain ⟨⟨d190, d190f⟩, ⟨d191, d191f⟩, ⟨d180, d180f⟩, -⟩ := id hs
                         refine ⟨(w33.setCell ⟨b18, 0, none⟩ (.slice p3 d4.length cap3)), (by go_simp; try with_reducible rfl), (fun x => Below ((w33.setCell ⟨b18, 0, none⟩ (.slice p3 d4.length cap3))).heap.size ((w33.setCell ⟨b18, 0, none⟩ (.slice p3 d4.length cap3))) x), Below.refl _ _, ?_⟩
                         obtain ⟨v33, hw⟩ : ∃ zW, zW = (w33.setCell ⟨b18, 0, none⟩ (.slice p3 d4.length cap3)) := ⟨_, rfl⟩
                         rw [← hw]
                         replace hs : Cells v33 [(b19, 0, .int .i64 0), (b19, 1, .slice none 0 0), (b18, 0, .slice p3 d4.length cap3)] := by rw [hw]; exact ⟨⟨by go_cell, (fz d190f)⟩, ⟨by go_cell, (fz d191f)⟩, ⟨by go_cell, (fz d180f)⟩, trivial⟩
                         replace hM17 : MxAt v33 q17 cq17 (q) := by rw [hw]; exact hM17.box d180 _
                         replace hX2 : CAt v33 p2 cap2 cnew := by rw [hw]; exact hX2.box d180 _
                         replace hX3 : CAt v33 p3 cap3 d4 := by rw [hw]; exact hX3.box d180 _
                         replace hM3 : MxAt v33 y3 cy3 m4 := by rw [hw]; exact hM3.box d180 _
                         replace hbw : Below w.heap.size w v33 := by rw [hw]; exact (Below.setCell hbw (by have h := HS.out; (try dsimp only); omega) _)
                         replace hacc : Below wc.heap.size wc v33 := by rw [hw]; exact (Below.setCell hacc (by have h := HS.out; (try dsimp only); omega) _)
                         replace zz : s + 0 ≤ v33.heap.size := by rw [hw]; simpa using zz
                         clear hw
                         clear d190 d190f d191 d191f d180 d180f
                         clear hS
                         (try simp only [Act.put, List.setIfInBounds_toArray, List.set_cons_zero, List.set_cons_succ])
                         refine seqE_storeB rfl (by rfl) ?_ seqE_stop
                         intro w34 hS
                         replace hs := hs.up hS; replace hM17 := hM17.up hS; replace hX2 := hX2.mono hS; replace hX3 := hX3.mono hS; replace hM3 := hM3.up hS; replace hbw := btr hbw hS; replace zz := Nat.le_trans zz (Below.size hS); replace hacc := btr hacc hS
                         obtain ⟨⟨d190, d190f⟩, ⟨d191, d191f⟩, ⟨d180, d180f⟩, -⟩ := id hs
                         refine ⟨((w34.setCell ⟨b19, 0, none⟩ (.int .i64 2)).setCell ⟨b19, 1, none⟩ (.slice y3 m4.length cy3)), (by go_simp; try with_reducible rfl), (fun x => Below (((w34.setCell ⟨b19, 0, none⟩ (.int .i64 2)).setCell ⟨b19, 1, none⟩ (.slice y3 m4.length cy3))).heap.size (((w34.setCell ⟨b19, 0, none⟩ (.int .i64 2)).setCell ⟨b19, 1, none⟩ (.slice y3 m4.length cy3))) x), Below.refl _ _, ?_⟩
                         obtain ⟨v34, hw⟩ : ∃ zW, zW = ((w34.setCell ⟨b19, 0, none⟩ (.int .i64 2)).setCell ⟨b19, 1, none⟩ (.slice y3 m4.length cy3)) := ⟨_, rfl⟩
                         rw [← hw]
                         replace hs : Cells v34 [(b19, 0, .int .i64 2), (b19, 1, .slice y3 m4.length cy3), (b18, 0, .slice p3 d4.length cap3)] := by rw [hw]; exact ⟨⟨by go_cell, (fz (fz d190f))⟩, ⟨by go_cell, (fz (fz d191f))⟩, ⟨by go_cell, (fz (fz d180f))⟩, trivial⟩
                         replace hM17 : MxAt v34 q17 cq17 (q) := by rw [hw]; exact hM17.boxM d191 _ _
                         replace hX2 : CAt v34 p2 cap2 cnew := by rw [hw]; exact hX2.boxM d191 _ _
                         replace hX3 : CAt v34 p3 cap3 d4 := by rw [hw]; exact hX3.boxM d191 _ _
                         replace hM3 : MxAt v34 y3 cy3 m4 := by rw [hw]; exact hM3.boxM d191 _ _
                         replace hbw : Below w.heap.size w v34 := by rw [hw]; exact (Below.setCell (Below.setCell hbw (by have h := HS.out; (try dsimp only); omega) _) (by have h := HS.out; (try dsimp only); omega) _)
                         replace hacc : Below wc.heap.size wc v34 := by rw [hw]; exact (Below.setCell (Below.setCell hacc (by have h := HS.out; (try dsimp only); omega) _) (by have h := HS.out; (try dsimp only); omega) _)
                         replace zz : s + 0 ≤ v34.heap.size := by rw [hw]; simpa using zz
                         clear hw
                         clear d190 d190f d191 d191f d180 d180f
                         clear hS
                         (try simp only [Act.put, List.setIfInBounds_toArray, List.set_cons_zero, List.set_cons_succ])
                         refine seqE_nil ?_
                         intro wz hS
                         replace hs := hs.up hS; replace hM17 := hM17.up hS; replace hX2 := hX2.mono hS; replace hX3 := hX3.mono hS; replace hM3 := hM3.up hS; replace hbw := btr hbw hS; replace zz := Nat.le_trans zz (Below.size hS); replace hacc := btr hacc hS; clear hS
                         obtain ⟨⟨d190, d190f⟩, ⟨d191, d191f⟩, ⟨d180, d180f⟩, -⟩ := id hs
                         go_wp2_with fail
                         go_meet
                         exact ⟨⟨_, rfl, Bx.at hX3 d180 d180f⟩, hacc⟩
                        refine seqE_move rfl (by rfl) ?_ seqE_stop
                        intro w35 hS
                        refine ⟨.pointer (some ⟨w35.heap.size, 0, none⟩), w35.alloc (.cells #[.int .i64 0, .slice none 0 0] 30), (by go_simp; try with_reducible rfl), ?_⟩
                        obtain ⟨b19, hb19⟩ : ∃ b, b = w35.heap.size := ⟨_, rfl⟩
                        obtain ⟨v35, hw35⟩ : ∃ zW, zW = w35.alloc (.cells #[.int .i64 0, .slice none 0 0] 30) := ⟨_, rfl⟩
                        rw [← hw35, ← hb19]
                        have hbl : Below w35.heap.size w35 v35 := by rw [hw35]; go_grown
                        have hge19 : s + 0 ≤ b19 := by rw [hb19]; exact Nat.le_trans zz hS.size
                        have hga19 : wc.heap.size ≤ b19 := by rw [hb19]; exact Nat.le_trans hacc.size hS.size
                        have hlb18_19 : b18 < b19 := by rw [hb19]; exact Nat.lt_of_lt_of_le (World.block_lt_of_cell? _ _ hs.1.1) hS.size
                        refine ⟨(fun x => Below v35.heap.size v35 x), Below.refl _ _, fun x hx => btr (btr hS hbl) hx, ?_⟩
                        have hX := btr hS hbl
                        replace hs := hs.up hX; replace hM17 := hM17.up hX; replace hX2 := hX2.mono hX; replace hbw := btr hbw hX; replace zz := Nat.le_trans zz (Below.size hX); replace hacc := btr hacc hX
                        replace hs : Cells v35 [(b19, 0, .int .i64 0), (b19, 1, .slice none 0 0), (b18, 0, .slice none 0 0)] := ⟨⟨by rw [hw35, hb19]; go_cell, by rw [hw35, hb19]; go_cell⟩, ⟨by rw [hw35, hb19]; go_cell, by rw [hw35, hb19]; go_cell⟩, hs⟩
                        clear hX hS hbl hw35 hb19
                        (try simp only [Act.put, List.setIfInBounds_toArray, List.set_cons_zero, List.set_cons_succ])
                        refine seqE_callB (f := ?_) (args := ?_) rfl (by rfl) ?_ ?_ seqE_stop
                        rotate_left 2
                        focus (intro w hS; go_simp; first | done | with_reducible rfl | (refine ⟨?_, ?_⟩ <;> with_reducible rfl))
                        intro w36 hS
                        refine (smaller_is (hX2.mono hS) (hM17.up hS) (Below.refl _ _) hn0 hn4 good_new (by rw [cnew_len]; omega) OQ.out E4.out).mono ?_
                        rintro e v36 ⟨p3, cap3, y3, cy3, rfl, hX3, hM3, hbl⟩
                        refine ⟨_, rfl, (fun x => Below v36.heap.size v36 x), Below.refl _ _, ?_⟩
                        have hXw := Nat.le_trans zz hS.size; have hXa := Nat.le_trans hacc.size hS.size
                        have hX := btr hS hbl
                        replace hs := hs.up hX; replace hM17 := hM17.up hX; replace hX2 := hX2.mono hX; replace hbw := btr hbw hX; replace zz := Nat.le_trans zz (Below.size hX); replace hacc := btr hacc hX
                        clear hX hS hbl hXw hXa
                        (try simp only [Act.put, List.setIfInBounds_toArray, List.set_cons_zero, List.set_cons_succ])
                        iterate 3 (refine seqE_free (v := ?_) rfl (by rfl) ?_ ?_; rotate_left; (focus (intro w; go_simp; try with_reducible rfl)); (try simp only [Act.put, List.setIfInBounds_toArray, List.set_cons_zero, List.set_cons_succ]))
                        refine seqE_storeB rfl (by rfl) ?_ seqE_stop
                        intro w37 hS
                        replace hs := hs.up hS; replace hM17 := hM17.up hS; replace hX2 := hX2.mono hS; replace hX3 := hX3.mono hS; replace hM3 := hM3.up hS; replace hbw := btr hbw hS; replace zz := Nat.le_trans zz (Below.size hS); replace hacc := btr hacc hS
                        obtain ⟨⟨d190, d190f⟩, ⟨d191, d191f⟩, ⟨d180, d180f⟩, -⟩ := id hs
                        refine ⟨(w37.setCell ⟨b18, 0, none⟩ (.slice p3 d4.length cap3)), (by go_simp; try with_reducible rfl), (fun x => Below ((w37.setCell ⟨b18, 0, none⟩ (.slice p3 d4.length cap3))).heap.size ((w37.setCell ⟨b18, 0, none⟩ (.slice p3 d4.length cap3))) x), Below.refl _ _, ?_⟩
                        obtain ⟨v37, hw⟩ : ∃ zW, zW = (w37.setCell ⟨b18, 0, none⟩ (.slice p3 d4.length cap3)) := ⟨_, rfl⟩
                        rw [← hw]
                        replace hs : Cells v37 [(b19, 0, .int .i64 0), (b19, 1, .slice none 0 0), (b18, 0, .slice p3 d4.length cap3)] := by rw [hw]; exact ⟨⟨by go_cell, (fz d190f)⟩, ⟨by go_cell, (fz d191f)⟩, ⟨by go_cell, (fz d180f)⟩, trivial⟩
                        replace hM17 : MxAt v37 q17 cq17 (q) := by rw [hw]; exact hM17.box d180 _
                        replace hX2 : CAt v37 p2 cap2 cnew := by rw [hw]; exact hX2.box d180 _
                        replace hX3 : CAt v37 p3 cap3 d4 := by rw [hw]; exact hX3.box d180 _
                        replace hM3 : MxAt v37 y3 cy3 m4 := by rw [hw]; exact hM3.box d180 _
                        replace hbw : Below w.heap.size w v37 := by rw [hw]; exact (Below.setCell hbw (by have h := HS.out; (try dsimp only); omega) _)
                        replace hacc : Below wc.heap.size wc v37 := by rw [hw]; exact (Below.setCell hacc (by have h := HS.out; (try dsimp only); omega) _)
                        replace zz : s + 0 ≤ v37.heap.size := by rw [hw]; simpa using zz
                        clear hw
                        clear d190 d190f d191 d191f d180 d180f
                        clear hS
                        (try simp only [Act.put, List.setIfInBounds_toArray, List.set_cons_zero, List.set_cons_succ])
                        refine seqE_storeB rfl (by rfl) ?_ seqE_stop
                        intro w38 hS
                        replace hs := hs.up hS; replace hM17 := hM17.up hS; replace hX2 := hX2.mono hS; replace hX3 := hX3.mono hS; replace hM3 := hM3.up hS; replace hbw := btr hbw hS; replace zz := Nat.le_trans zz (Below.size hS); replace hacc := btr hacc hS
                        obtain ⟨⟨d190, d190f⟩, ⟨d191, d191f⟩, ⟨d180, d180f⟩, -⟩ := id hs
                        refine ⟨((w38.setCell ⟨b19, 0, none⟩ (.int .i64 2)).setCell ⟨b19, 1, none⟩ (.slice y3 m4.length cy3)), (by go_simp; try with_reducible rfl), (fun x => Below (((w38.setCell ⟨b19, 0, none⟩ (.int .i64 2)).setCell ⟨b19, 1, none⟩ (.slice y3 m4.length cy3))).heap.size (((w38.setCell ⟨b19, 0, none⟩ (.int .i64 2)).setCell ⟨b19, 1, none⟩ (.slice y3 m4.length cy3))) x), Below.refl _ _, ?_⟩
                        obtain ⟨v38, hw⟩ : ∃ zW, zW = ((w38.setCell ⟨b19, 0, none⟩ (.int .i64 2)).setCell ⟨b19, 1, none⟩ (.slice y3 m4.length cy3)) := ⟨_, rfl⟩
                        rw [← hw]
                        replace hs : Cells v38 [(b19, 0, .int .i64 2), (b19, 1, .slice y3 m4.length cy3), (b18, 0, .slice p3 d4.length cap3)] := by rw [hw]; exact ⟨⟨by go_cell, (fz (fz d190f))⟩, ⟨by go_cell, (fz (fz d191f))⟩, ⟨by go_cell, (fz (fz d180f))⟩, trivial⟩
                        replace hM17 : MxAt v38 q17 cq17 (q) := by rw [hw]; exact hM17.boxM d191 _ _
                        replace hX2 : CAt v38 p2 cap2 cnew := by rw [hw]; exact hX2.boxM d191 _ _
                        replace hX3 : CAt v38 p3 cap3 d4 := by rw [hw]; exact hX3.boxM d191 _ _
                        replace hM3 : MxAt v38 y3 cy3 m4 := by rw [hw]; exact hM3.boxM d191 _ _
                        replace hbw : Below w.heap.size w v38 := by rw [hw]; exact (Below.setCell (Below.setCell hbw (by have h := HS.out; (try dsimp only); omega) _) (by have h := HS.out; (try dsimp only); omega) _)
                        replace hacc : Below wc.heap.size wc v38 := by rw [hw]; exact (Below.setCell (Below.setCell hacc (by have h := HS.out; (try dsimp only); omega) _) (by have h := HS.out; (try dsimp only); omega) _)
                        replace zz : s + 0 ≤ v38.heap.size := by rw [hw]; simpa using zz
                        clear hw
                        clear d190 d190f d191 d191f d180 d180f
                        clear hS
                        (try simp only [Act.put, List.setIfInBounds_toArray, List.set_cons_zero, List.set_cons_succ])
                        refine seqE_nil ?_
                        intro wz hS
                        replace hs := hs.up hS; replace hM17 := hM17.up hS; replace hX2 := hX2.mono hS; replace hX3 := hX3.mono hS; replace hM3 := hM3.up hS; replace hbw := btr hbw hS; replace zz := Nat.le_trans zz (Below.size hS); replace hacc := btr hacc hS; clear hS
                        obtain ⟨⟨d190, d190f⟩, ⟨d191, d191f⟩, ⟨d180, d180f⟩, -⟩ := id hs
                        go_wp2_with fail
                        go_meet
                        exact ⟨⟨_, rfl, Bx.at hX3 d180 d180f⟩, hacc⟩
                       refine seqE_move rfl (by rfl) ?_ seqE_stop
                       intro w39 hS
                       refine ⟨.pointer (some ⟨w39.heap.size, 0, none⟩), w39.alloc (.cells #[.int .i64 0, .slice none 0 0] 30), (by go_simp; try with_reducible rfl), ?_⟩
                       obtain ⟨b19, hb19⟩ : ∃ b, b = w39.heap.size := ⟨_, rfl⟩
                       obtain ⟨v39, hw39⟩ : ∃ zW, zW = w39.alloc (.cells #[.int .i64 0, .slice none 0 0] 30) := ⟨_, rfl⟩
                       rw [← hw39, ← hb19]
                       have hbl : Below w39.heap.size w39 v39 := by rw [hw39]; go_grown
                       have hge19 : s + 0 ≤ b19 := by rw [hb19]; exact Nat.le_trans zz hS.size
                       have hga19 : wc.heap.size ≤ b19 := by rw [hb19]; exact Nat.le_trans hacc.size hS.size
                       have hlb18_19 : b18 < b19 := by rw [hb19]; exact Nat.lt_of_lt_of_le (World.block_lt_of_cell? _ _ hs.1.1) hS.size
                       refine ⟨(fun x => Below v39.heap.size v39 x), Below.refl _ _, fun x hx => btr (btr hS hbl) hx, ?_⟩
                       have hX := btr hS hbl
                       replace hs := hs.up hX; replace hM17 := hM17.up hX; replace hbw := btr hbw hX; replace zz := Nat.le_trans zz (Below.size hX); replace hacc := btr hacc hX
                       replace hs : Cells v39 [(b19, 0, .int .i64 0), (b19, 1, .slice none 0 0), (b18, 0, .slice none 0 0)] := ⟨⟨by rw [hw39, hb19]; go_cell, by rw [hw39, hb19]; go_cell⟩, ⟨by rw [hw39, hb19]; go_cell, by rw [hw39, hb19]; go_cell⟩, hs⟩
                       clear hX hS hbl hw39 hb19
                       (try simp only [Act.put, List.setIfInBounds_toArray, List.set_cons_zero, List.set_cons_succ])
                       refine seqE_call (f := ?_) (args := ?_) rfl (by rfl) ?_ ?_ seqE_stop
                       rotate_left 2
                       focus (intro w hS; go_simp; first | done | with_reducible rfl | (refine ⟨?_, ?_⟩ <;> with_reducible rfl))
                       intro w40 hS
                       refine (rnew_is w40).mono ?_
                       rintro e v40 ⟨p2, cap2, rfl, hX2, hbl⟩
                       refine ⟨_, rfl, (fun x => Below v40.heap.size v40 x), Below.refl _ _, fun x hx => btr (btr hS hbl) hx, ?_⟩
                       have hXw := Nat.le_trans zz hS.size; have hXa := Nat.le_trans hacc.size hS.size
                       have hX := btr hS hbl
                       replace hs := hs.up hX; replace hM17 := hM17.up hX; replace hbw := btr hbw hX; replace zz := Nat.le_trans zz (Below.size hX); replace hacc := btr hacc hX
                       clear hX hS hbl hXw hXa
                       (try simp only [Act.put, List.setIfInBounds_toArray, List.set_cons_zero, List.set_cons_succ])
                       refine seqE_callB (f := ?_) (args := ?_) rfl (by rfl) ?_ ?_ seqE_stop
                       rotate_left 2
                       focus (intro w hS; go_simp; first | done | with_reducible rfl | (refine ⟨?_, ?_⟩ <;> with_reducible rfl))
                       intro w41 hS
                       refine (smaller_is (hX2.mono hS) (hM17.up hS) (Below.refl _ _) hn0 hn4 good_new (by rw [cnew_len]; omega) OQ.out E4.out).mono ?_
                       rintro e v41 ⟨p3, cap3, y3, cy3, rfl, hX3, hM3, hbl⟩
                       refine ⟨_, rfl, (fun x => Below v41.heap.size v41 x), Below.refl _ _, ?_⟩
                       have hXw := Nat.le_trans zz hS.size; have hXa := Nat.le_trans hacc.size hS.size
                       have hX := btr hS hbl
                       replace hs := hs.up hX; replace hM17 := hM17.up hX; replace hX2 := hX2.mono hX; replace hbw := btr hbw hX; replace zz := Nat.le_trans zz (Below.size hX); replace hacc := btr hacc hX
                       clear hX hS hbl hXw hXa
                       (try simp only [Act.put, List.setIfInBounds_toArray, List.set_cons_zero, List.set_cons_succ])
                       iterate 3 (refine seqE_free (v := ?_) rfl (by rfl) ?_ ?_; rotate_left; (focus (intro w; go_simp; try with_reducible rfl)); (try simp only [Act.put, List.setIfInBounds_toArray, List.set_cons_zero, List.set_cons_succ]))
                       refine seqE_storeB rfl (by rfl) ?_ seqE_stop
                       intro w42 hS
                       replace hs := hs.up hS; replace hM17 := hM17.up hS; replace hX2 := hX2.mono hS; replace hX3 := hX3.mono hS; replace hM3 := hM3.up hS; replace hbw := btr hbw hS; replace zz := Nat.le_trans zz (Below.size hS); replace hacc := btr hacc hS
                       obtain ⟨⟨d190, d190f⟩, ⟨d191, d191f⟩, ⟨d180, d180f⟩, -⟩ := id hs
                       refine ⟨(w42.setCell ⟨b18, 0, none⟩ (.slice p3 d4.length cap3)), (by go_simp; try with_reducible rfl), (fun x => Below ((w42.setCell ⟨b18, 0, none⟩ (.slice p3 d4.length cap3))).heap.size ((w42.setCell ⟨b18, 0, none⟩ (.slice p3 d4.length cap3))) x), Below.refl _ _, ?_⟩
                       obtain ⟨v42, hw⟩ : ∃ zW, zW = (w42.setCell ⟨b18, 0, none⟩ (.slice p3 d4.length cap3)) := ⟨_, rfl⟩
                       rw [← hw]
                       replace hs : Cells v42 [(b19, 0, .int .i64 0), (b19, 1, .slice none 0 0), (b18, 0, .slice p3 d4.length cap3)] := by rw [hw]; exact ⟨⟨by go_cell, (fz d190f)⟩, ⟨by go_cell, (fz d191f)⟩, ⟨by go_cell, (fz d180f)⟩, trivial⟩
                       replace hM17 : MxAt v42 q17 cq17 (q) := by rw [hw]; exact hM17.box d180 _
                       replace hX2 : CAt v42 p2 cap2 cnew := by rw [hw]; exact hX2.box d180 _
                       replace hX3 : CAt v42 p3 cap3 d4 := by rw [hw]; exact hX3.box d180 _
                       replace hM3 : MxAt v42 y3 cy3 m4 := by rw [hw]; exact hM3.box d180 _
                       replace hbw : Below w.heap.size w v42 := by rw [hw]; exact (Below.setCell hbw (by have h := HS.out; (try dsimp only); omega) _)
                       replace hacc : Below wc.heap.size wc v42 := by rw [hw]; exact (Below.setCell hacc (by have h := HS.out; (try dsimp only); omega) _)
                       replace zz : s + 0 ≤ v42.heap.size := by rw [hw]; simpa using zz
                       clear hw
                       clear d190 d190f d191 d191f d180 d180f
                       clear hS
                       (try simp only [Act.put, List.setIfInBounds_toArray, List.set_cons_zero, List.set_cons_succ])
                       refine seqE_storeB rfl (by rfl) ?_ seqE_stop
                       intro w43 hS
                       replace hs := hs.up hS; replace hM17 := hM17.up hS; replace hX2 := hX2.mono hS; replace hX3 := hX3.mono hS; replace hM3 := hM3.up hS; replace hbw := btr hbw hS; replace zz := Nat.le_trans zz (Below.size hS); replace hacc := btr hacc hS
                       obtain ⟨⟨d190, d190f⟩, ⟨d191, d191f⟩, ⟨d180, d180f⟩, -⟩ := id hs
                       refine ⟨((w43.setCell ⟨b19, 0, none⟩ (.int .i64 2)).setCell ⟨b19, 1, none⟩ (.slice y3 m4.length cy3)), (by go_simp; try with_reducible rfl), (fun x => Below (((w43.setCell ⟨b19, 0, none⟩ (.int .i64 2)).setCell ⟨b19, 1, none⟩ (.slice y3 m4.length cy3))).heap.size (((w43.setCell ⟨b19, 0, none⟩ (.int .i64 2)).setCell ⟨b19, 1, none⟩ (.slice y3 m4.length cy3))) x), Below.refl _ _, ?_⟩
                       obtain ⟨v43, hw⟩ : ∃ zW, zW = ((w43.setCell ⟨b19, 0, none⟩ (.int .i64 2)).setCell ⟨b19, 1, none⟩ (.slice y3 m4.length cy3)) := ⟨_, rfl⟩
                       rw [← hw]
                       replace hs : Cells v43 [(b19, 0, .int .i64 2), (b19, 1, .slice y3 m4.length cy3), (b18, 0, .slice p3 d4.length cap3)] := by rw [hw]; exact ⟨⟨by go_cell, (fz (fz d190f))⟩, ⟨by go_cell, (fz (fz d191f))⟩, ⟨by go_cell, (fz (fz d180f))⟩, trivial⟩
                       replace hM17 : MxAt v43 q17 cq17 (q) := by rw [hw]; exact hM17.boxM d191 _ _
                       replace hX2 : CAt v43 p2 cap2 cnew := by rw [hw]; exact hX2.boxM d191 _ _
                       replace hX3 : CAt v43 p3 cap3 d4 := by rw [hw]; exact hX3.boxM d191 _ _
                       replace hM3 : MxAt v43 y3 cy3 m4 := by rw [hw]; exact hM3.boxM d191 _ _
                       replace hbw : Below w.heap.size w v43 := by rw [hw]; exact (Below.setCell (Below.setCell hbw (by have h := HS.out; (try dsimp only); omega) _) (by have h := HS.out; (try dsimp only); omega) _)
                       replace hacc : Below wc.heap.size wc v43 := by rw [hw]; exact (Below.setCell (Below.setCell hacc (by have h := HS.out; (try dsimp only); omega) _) (by have h := HS.out; (try dsimp only); omega) _)
                       replace zz : s + 0 ≤ v43.heap.size := by rw [hw]; simpa using zz
                       clear hw
                       clear d190 d190f d191 d191f d180 d180f
                       clear hS
                       (try simp only [Act.put, List.setIfInBounds_toArray, List.set_cons_zero, List.set_cons_succ])
                       refine seqE_nil ?_
                       intro wz hS
                       replace hs := hs.up hS; replace hM17 := hM17.up hS; replace hX2 := hX2.mono hS; replace hX3 := hX3.mono hS; replace hM3 := hM3.up hS; replace hbw := btr hbw hS; replace zz := Nat.le_trans zz (Below.size hS); replace hacc := btr hacc hS; clear hS
                       obtain ⟨⟨d190, d190f⟩, ⟨d191, d191f⟩, ⟨d180, d180f⟩, -⟩ := id hs
                       go_wp2_with fail
                       go_meet
                       exact ⟨⟨_, rfl, Bx.at hX3 d180 d180f⟩, hacc⟩
                      refine seqE_move rfl (by rfl) ?_ seqE_stop
                      intro w44 hS
                      refine ⟨.pointer (some ⟨w44.heap.size, 0, none⟩), w44.alloc (.cells #[.int .i64 0, .slice none 0 0] 30), (by go_simp; try with_reducible rfl), ?_⟩
                      obtain ⟨b19, hb19⟩ : ∃ b, b = w44.heap.size := ⟨_, rfl⟩
                      obtain ⟨v44, hw44⟩ : ∃ zW, zW = w44.alloc (.cells #[.int .i64 0, .slice none 0 0] 30) := ⟨_, rfl⟩
                      rw [← hw44, ← hb19]
                      have hbl : Below w44.heap.size w44 v44 := by rw [hw44]; go_grown
                      have hge19 : s + 0 ≤ b19 := by rw [hb19]; exact Nat.le_trans zz hS.size
                      have hga19 : wc.heap.size ≤ b19 := by rw [hb19]; exact Nat.le_trans hacc.size hS.size
                      refine ⟨(fun x => Below v44.heap.size v44 x), Below.refl _ _, fun x hx => btr (btr hS hbl) hx, ?_⟩
                      have hX := btr hS hbl
                      replace hM17 := hM17.up hX; replace hbw := btr hbw hX; replace zz := Nat.le_trans zz (Below.size hX); replace hacc := btr hacc hX
                      have hs : Cells v44 [(b19, 0, .int .i64 0), (b19, 1, .slice none 0 0)] := ⟨⟨by rw [hw44, hb19]; go_cell, by rw [hw44, hb19]; go_cell⟩, ⟨by rw [hw44, hb19]; go_cell, by rw [hw44, hb19]; go_cell⟩, trivial⟩
                      clear hX hS hbl hw44 hb19
                      (try simp only [Act.put, List.setIfInBounds_toArray, List.set_cons_zero, List.set_cons_succ])
                      refine seqE_call (f := ?_) (args := ?_) rfl (by rfl) ?_ ?_ ?_
                      rotate_left 2
                      focus (intro w hS; go_simp; first | done | with_reducible rfl | (refine ⟨?_, ?_⟩ <;> with_reducible rfl))
                      ·
                       intro w45 hS
                       refine (rnew_is w45).mono ?_
                       rintro e v45 ⟨p2, cap2, rfl, hX2, hbl⟩
                       refine ⟨_, rfl, (fun x => Below v45.heap.size v45 x), Below.refl _ _, fun x hx => btr (btr hS hbl) hx, ?_⟩
                       have hXw := Nat.le_trans zz hS.size; have hXa := Nat.le_trans hacc.size hS.size
                       have hX := btr hS hbl
                       replace hs := hs.up hX; replace hM17 := hM17.up hX; replace hbw := btr hbw hX; replace zz := Nat.le_trans zz (Below.size hX); replace hacc := btr hacc hX
                       clear hX hS hbl hXw hXa
                       (try simp only [Act.put, List.setIfInBounds_toArray, List.set_cons_zero, List.set_cons_succ])
                       refine seqE_callB (f := ?_) (args := ?_) rfl (by rfl) ?_ ?_ ?_
                       rotate_left 2
                       focus (intro w hS; go_simp; first | done | with_reducible rfl | (refine ⟨?_, ?_⟩ <;> with_reducible rfl))
                       ·
                        intro w46 hS
                        refine (smaller_is (hX2.mono hS) (hM17.up hS) (Below.refl _ _) hn0 hn4 good_new (by rw [cnew_len]; omega) OQ.out E4.out).mono ?_
                        rintro e v46 ⟨p3, cap3, y3, cy3, rfl, hX3, hM3, hbl⟩
                        refine ⟨_, rfl, (fun x => Below v46.heap.size v46 x), Below.refl _ _, ?_⟩
                        have hXw := Nat.le_trans zz hS.size; have hXa := Nat.le_trans hacc.size hS.size
                        have hX := btr hS hbl
                        replace hs := hs.up hX; replace hM17 := hM17.up hX; replace hX2 := hX2.mono hX; replace hbw := btr hbw hX; replace zz := Nat.le_trans zz (Below.size hX); replace hacc := btr hacc hX
                        clear hX hS hbl hXw hXa
                        (try simp only [Act.put, List.setIfInBounds_toArray, List.set_cons_zero, List.set_cons_succ])
                        iterate 3 (refine seqE_free (v := ?_) rfl (by rfl) ?_ ?_; rotate_left; (focus (intro w; go_simp; try with_reducible rfl)); (try simp only [Act.put, List.setIfInBounds_toArray, List.set_cons_zero, List.set_cons_succ]))
                        refine seqE_move rfl (by rfl) ?_ seqE_stop
                        intro w47 hS
                        refine ⟨.pointer (some ⟨w47.heap.size, 0, none⟩), w47.alloc (.cells #[.slice none 0 0] 27), (by go_simp; try with_reducible rfl), ?_⟩
                        obtain ⟨b18, hb18⟩ : ∃ b, b = w47.heap.size := ⟨_, rfl⟩
                        obtain ⟨v47, hw47⟩ : ∃ zW, zW = w47.alloc (.cells #[.slice none 0 0] 27) := ⟨_, rfl⟩
                        rw [← hw47, ← hb18]
                        have hbl : Below w47.heap.size w47 v47 := by rw [hw47]; go_grown
                        have hge18 : s + 0 ≤ b18 := by rw [hb18]; exact Nat.le_trans zz hS.size
                        have hga18 : wc.heap.size ≤ b18 := by rw [hb18]; exact Nat.le_trans hacc.size hS.size
                        have hlb19_18 : b19 < b18 := by rw [hb18]; exact Nat.lt_of_lt_of_le (World.block_lt_of_cell? _ _ hs.1.1) hS.size
                        refine ⟨(fun x => Below v47.heap.size v47 x), Below.refl _ _, fun x hx => btr (btr hS hbl) hx, ?_⟩
                        have hX := btr hS hbl
                        replace hs := hs.up hX; replace hM17 := hM17.up hX; replace hX2 := hX2.mono hX; replace hX3 := hX3.mono hX; replace hM3 := hM3.up hX; replace hbw := btr hbw hX; replace zz := Nat.le_trans zz (Below.size hX); replace hacc := btr hacc hX
                        replace hs : Cells v47 [(b18, 0, .slice none 0 0), (b19, 0, .int .i64 0), (b19, 1, .slice none 0 0)] := ⟨⟨by rw [hw47, hb18]; go_cell, by rw [hw47, hb18]; go_cell⟩, hs⟩
                        clear hX hS hbl hw47 hb18
                        (try simp only [Act.put, List.setIfInBounds_toArray, List.set_cons_zero, List.set_cons_succ])
                        refine seqE_storeB rfl (by rfl) ?_ seqE_stop
                        intro w48 hS
                        replace hs := hs.up hS; replace hM17 := hM17.up hS; replace hX2 := hX2.mono hS; replace hX3 := hX3.mono hS; replace hM3 := hM3.up hS; replace hbw := btr hbw hS; replace zz := Nat.le_trans zz (Below.size hS); replace hacc := btr hacc hS
                        obtain ⟨⟨d180, d180f⟩, ⟨d190, d190f⟩, ⟨d191, d191f⟩, -⟩ := id hs
                        refine ⟨(w48.setCell ⟨b18, 0, none⟩ (.slice p3 d4.length cap3)), (by go_simp; try with_reducible rfl), (fun x => Below ((w48.setCell ⟨b18, 0, none⟩ (.slice p3 d4.length cap3))).heap.size ((w48.setCell ⟨b18, 0, none⟩ (.slice p3 d4.length cap3))) x), Below.refl _ _, ?_⟩
                        obtain ⟨v48, hw⟩ : ∃ zW, zW = (w48.setCell ⟨b18, 0, none⟩ (.slice p3 d4.length cap3)) := ⟨_, rfl⟩
                        rw [← hw]
                        replace hs : Cells v48 [(b18, 0, .slice p3 d4.length cap3), (b19, 0, .int .i64 0), (b19, 1, .slice none 0 0)] := by rw [hw]; exact ⟨⟨by go_cell, (fz d180f)⟩, ⟨by go_cell, (fz d190f)⟩, ⟨by go_cell, (fz d191f)⟩, trivial⟩
                        replace hM17 : MxAt v48 q17 cq17 (q) := by rw [hw]; exact hM17.box d180 _
                        replace hX2 : CAt v48 p2 cap2 cnew := by rw [hw]; exact hX2.box d180 _
                        replace hX3 : CAt v48 p3 cap3 d4 := by rw [hw]; exact hX3.box d180 _
                        replace hM3 : MxAt v48 y3 cy3 m4 := by rw [hw]; exact hM3.box d180 _
                        replace hbw : Below w.heap.size w v48 := by rw [hw]; exact (Below.setCell hbw (by have h := HS.out; (try dsimp only); omega) _)
                        replace hacc : Below wc.heap.size wc v48 := by rw [hw]; exact (Below.setCell hacc (by have h := HS.out; (try dsimp only); omega) _)
                        replace zz : s + 0 ≤ v48.heap.size := by rw [hw]; simpa using zz
                        clear hw
                        clear d180 d180f d190 d190f d191 d191f
                        clear hS
                        (try simp only [Act.put, List.setIfInBounds_toArray, List.set_cons_zero, List.set_cons_succ])
                        refine seqE_storeB rfl (by rfl) ?_ seqE_stop
                        intro w49 hS
                        replace hs := hs.up hS; replace hM17 := hM17.up hS; replace hX2 := hX2.mono hS; replace hX3 := hX3.mono hS; replace hM3 := hM3.up hS; replace hbw := btr hbw hS; replace zz := Nat.le_trans zz (Below.size hS); replace hacc := btr hacc hS
                        obtain ⟨⟨d180, d180f⟩, ⟨d190, d190f⟩, ⟨d191, d191f⟩, -⟩ := id hs
                        refine ⟨((w49.setCell ⟨b19, 0, none⟩ (.int .i64 2)).setCell ⟨b19, 1, none⟩ (.slice y3 m4.length cy3)), (by go_simp; try with_reducible rfl), (fun x => Below (((w49.setCell ⟨b19, 0, none⟩ (.int .i64 2)).setCell ⟨b19, 1, none⟩ (.slice y3 m4.length cy3))).heap.size (((w49.setCell ⟨b19, 0, none⟩ (.int .i64 2)).setCell ⟨b19, 1, none⟩ (.slice y3 m4.length cy3))) x), Below.refl _ _, ?_⟩
                        obtain ⟨v49, hw⟩ : ∃ zW, zW = ((w49.setCell ⟨b19, 0, none⟩ (.int .i64 2)).setCell ⟨b19, 1, none⟩ (.slice y3 m4.length cy3)) := ⟨_, rfl⟩
                        rw [← hw]
                        replace hs : Cells v49 [(b18, 0, .slice p3 d4.length cap3), (b19, 0, .int .i64 2), (b19, 1, .slice y3 m4.length cy3)] := by rw [hw]; exact ⟨⟨by go_cell, (fz (fz d180f))⟩, ⟨by go_cell, (fz (fz d190f))⟩, ⟨by go_cell, (fz (fz d191f))⟩, trivial⟩
                        replace hM17 : MxAt v49 q17 cq17 (q) := by rw [hw]; exact hM17.boxM d191 _ _
                        replace hX2 : CAt v49 p2 cap2 cnew := by rw [hw]; exact hX2.boxM d191 _ _
                        replace hX3 : CAt v49 p3 cap3 d4 := by rw [hw]; exact hX3.boxM d191 _ _
                        replace hM3 : MxAt v49 y3 cy3 m4 := by rw [hw]; exact hM3.boxM d191 _ _
                        replace hbw : Below w.heap.size w v49 := by rw [hw]; exact (Below.setCell (Below.setCell hbw (by have h := HS.out; (try dsimp only); omega) _) (by have h := HS.out; (try dsimp only); omega) _)
                        replace hacc : Below wc.heap.size wc v49 := by rw [hw]; exact (Below.setCell (Below.setCell hacc (by have h := HS.out; (try dsimp only); omega) _) (by have h := HS.out; (try dsimp only); omega) _)
                        replace zz : s + 0 ≤ v49.heap.size := by rw [hw]; simpa using zz
                        clear hw
                        clear d180 d180f d190 d190f d191 d191f
                        clear hS
                        (try simp only [Act.put, List.setIfInBounds_toArray, List.set_cons_zero, List.set_cons_succ])
                        refine seqE_nil ?_
                        intro wz hS
                        replace hs := hs.up hS; replace hM17 := hM17.up hS; replace hX2 := hX2.mono hS; replace hX3 := hX3.mono hS; replace hM3 := hM3.up hS; replace hbw := btr hbw hS; replace zz := Nat.le_trans zz (Below.size hS); replace hacc := btr hacc hS; clear hS
                        obtain ⟨⟨d180, d180f⟩, ⟨d190, d190f⟩, ⟨d191, d191f⟩, -⟩ := id hs
                        go_wp2_with fail
                        go_meet
                        exact ⟨⟨_, rfl, Bx.at hX3 d180 d180f⟩, hacc⟩
                       refine seqE_move rfl (by rfl) ?_ seqE_stop
                       intro w50 hS
                       refine ⟨.pointer (some ⟨w50.heap.size, 0, none⟩), w50.alloc (.cells #[.slice none 0 0] 27), (by go_simp; try with_reducible rfl), ?_⟩
                       obtain ⟨b18, hb18⟩ : ∃ b, b = w50.heap.size := ⟨_, rfl⟩
                       obtain ⟨v50, hw50⟩ : ∃ zW, zW = w50.alloc (.cells #[.slice none 0 0] 27) := ⟨_, rfl⟩
                       rw [← hw50, ← hb18]
                       have hbl : Below w50.heap.size w50 v50 := by rw [hw50]; go_grown
                       have hge18 : s + 0 ≤ b18 := by rw [hb18]; exact Nat.le_trans zz hS.size
                       have hga18 : wc.heap.size ≤ b18 := by rw [hb18]; exact Nat.le_trans hacc.size hS.size
                       have hlb19_18 : b19 < b18 := by rw [hb18]; exact Nat.lt_of_lt_of_le (World.block_lt_of_cell? _ _ hs.1.1) hS.size
                       refine ⟨(fun x => Below v50.heap.size v50 x), Below.refl _ _, fun x hx => btr (btr hS hbl) hx, ?_⟩
                       have hX := btr hS hbl
                       replace hs := hs.up hX; replace hM17 := hM17.up hX; replace hX2 := hX2.mono hX; replace hbw := btr hbw hX; replace zz := Nat.le_trans zz (Below.size hX); replace hacc := btr hacc hX
                       replace hs : Cells v50 [(b18, 0, .slice none 0 0), (b19, 0, .int .i64 0), (b19, 1, .slice none 0 0)] := ⟨⟨by rw [hw50, hb18]; go_cell, by rw [hw50, hb18]; go_cell⟩, hs⟩
                       clear hX hS hbl hw50 hb18
                       (try simp only [Act.put, List.setIfInBounds_toArray, List.set_cons_zero, List.set_cons_succ])
                       refine seqE_callB (f := ?_) (args := ?_) rfl (by rfl) ?_ ?_ seqE_stop
                       rotate_left 2
                       focus (intro w hS; go_simp; first | done | with_reducible rfl | (refine ⟨?_, ?_⟩ <;> with_reducible rfl))
                       intro w51 hS
                       refine (smaller_is (hX2.mono hS) (hM17.up hS) (Below.refl _ _) hn0 hn4 good_new (by rw [cnew_len]; omega) OQ.out E4.out).mono ?_
                       rintro e v51 ⟨p3, cap3, y3, cy3, rfl, hX3, hM3, hbl⟩
                       refine ⟨_, rfl, (fun x => Below v51.heap.size v51 x), Below.refl _ _, ?_⟩
                       have hXw := Nat.le_trans zz hS.size; have hXa := Nat.le_trans hacc.size hS.size
                       have hX := btr hS hbl
                       replace hs := hs.up hX; replace hM17 := hM17.up hX; replace hX2 := hX2.mono hX; replace hbw := btr hbw hX; replace zz := Nat.le_trans zz (Below.size hX); replace hacc := btr hacc hX
                       clear hX hS hbl hXw hXa
                       (try simp only [Act.put, List.setIfInBounds_toArray, List.set_cons_zero, List.set_cons_succ])
                       iterate 3 (refine seqE_free (v := ?_) rfl (by rfl) ?_ ?_; rotate_left; (focus (intro w; go_simp; try with_reducible rfl)); (try simp only [Act.put, List.setIfInBounds_toArray, List.set_cons_zero, List.set_cons_succ]))
                       refine seqE_storeB rfl (by rfl) ?_ seqE_stop
                       intro w52 hS
                       replace hs := hs.up hS; replace hM17 := hM17.up hS; replace hX2 := hX2.mono hS; replace hX3 := hX3.mono hS; replace hM3 := hM3.up hS; replace hbw := btr hbw hS; replace zz := Nat.le_trans zz (Below.size hS); replace hacc := btr hacc hS
                       obtain ⟨⟨d180, d180f⟩, ⟨d190, d190f⟩, ⟨d191, d191f⟩, -⟩ := id hs
                       refine ⟨(w52.setCell ⟨b18, 0, none⟩ (.slice p3 d4.length cap3)), (by go_simp; try with_reducible rfl), (fun x => Below ((w52.setCell ⟨b18, 0, none⟩ (.slice p3 d4.length cap3))).heap.size ((w52.setCell ⟨b18, 0, none⟩ (.slice p3 d4.length cap3))) x), Below.refl _ _, ?_⟩
                       obtain ⟨v52, hw⟩ : ∃ zW, zW = (w52.setCell ⟨b18, 0, none⟩ (.slice p3 d4.length cap3)) := ⟨_, rfl⟩
                       rw [← hw]
                       replace hs : Cells v52 [(b18, 0, .slice p3 d4.length cap3), (b19, 0, .int .i64 0), (b19, 1, .slice none 0 0)] := by rw [hw]; exact ⟨⟨by go_cell, (fz d180f)⟩, ⟨by go_cell, (fz d190f)⟩, ⟨by go_cell, (fz d191f)⟩, trivial⟩
                       replace hM17 : MxAt v52 q17 cq17 (q) := by rw [hw]; exact hM17.box d180 _
                       replace hX2 : CAt v52 p2 cap2 cnew := by rw [hw]; exact hX2.box d180 _
                       replace hX3 : CAt v52 p3 cap3 d4 := by rw [hw]; exact hX3.box d180 _
                       replace hM3 : MxAt v52 y3 cy3 m4 := by rw [hw]; exact hM3.box d180 _
                       replace hbw : Below w.heap.size w v52 := by rw [hw]; exact (Below.setCell hbw (by have h := HS.out; (try dsimp only); omega) _)
                       replace hacc : Below wc.heap.size wc v52 := by rw [hw]; exact (Below.setCell hacc (by have h := HS.out; (try dsimp only); omega) _)
                       replace zz : s + 0 ≤ v52.heap.size := by rw [hw]; simpa using zz
                       clear hw
                       clear d180 d180f d190 d190f d191 d191f
                       clear hS
                       (try simp only [Act.put, List.setIfInBounds_toArray, List.set_cons_zero, List.set_cons_succ])
                       refine seqE_storeB rfl (by rfl) ?_ seqE_stop
                       intro w53 hS
                       replace hs := hs.up hS; replace hM17 := hM17.up hS; replace hX2 := hX2.mono hS; replace hX3 := hX3.mono hS; replace hM3 := hM3.up hS; replace hbw := btr hbw hS; replace zz := Nat.le_trans zz (Below.size hS); replace hacc := btr hacc hS
                       obtain ⟨⟨d180, d180f⟩, ⟨d190, d190f⟩, ⟨d191, d191f⟩, -⟩ := id hs
                       refine ⟨((w53.setCell ⟨b19, 0, none⟩ (.int .i64 2)).setCell ⟨b19, 1, none⟩ (.slice y3 m4.length cy3)), (by go_simp; try with_reducible rfl), (fun x => Below (((w53.setCell ⟨b19, 0, none⟩ (.int .i64 2)).setCell ⟨b19, 1, none⟩ (.slice y3 m4.length cy3))).heap.size (((w53.setCell ⟨b19, 0, none⟩ (.int .i64 2)).setCell ⟨b19, 1, none⟩ (.slice y3 m4.length cy3))) x), Below.refl _ _, ?_⟩
                       obtain ⟨v53, hw⟩ : ∃ zW, zW = ((w53.setCell ⟨b19, 0, none⟩ (.int .i64 2)).setCell ⟨b19, 1, none⟩ (.slice y3 m4.length cy3)) := ⟨_, rfl⟩
                       rw [← hw]
                       replace hs : Cells v53 [(b18, 0, .slice p3 d4.length cap3), (b19, 0, .int .i64 2), (b19, 1, .slice y3 m4.length cy3)] := by rw [hw]; exact ⟨⟨by go_cell, (fz (fz d180f))⟩, ⟨by go_cell, (fz (fz d190f))⟩, ⟨by go_cell, (fz (fz d191f))⟩, trivial⟩
                       replace hM17 : MxAt v53 q17 cq17 (q) := by rw [hw]; exact hM17.boxM d191 _ _
                       replace hX2 : CAt v53 p2 cap2 cnew := by rw [hw]; exact hX2.boxM d191 _ _
                       replace hX3 : CAt v53 p3 cap3 d4 := by rw [hw]; exact hX3.boxM d191 _ _
                       replace hM3 : MxAt v53 y3 cy3 m4 := by rw [hw]; exact hM3.boxM d191 _ _
                       replace hbw : Below w.heap.size w v53 := by rw [hw]; exact (Below.setCell (Below.setCell hbw (by have h := HS.out; (try dsimp only); omega) _) (by have h := HS.out; (try dsimp only); omega) _)
                       replace hacc : Below wc.heap.size wc v53 := by rw [hw]; exact (Below.setCell (Below.setCell hacc (by have h := HS.out; (try dsimp only); omega) _) (by have h := HS.out; (try dsimp only); omega) _)
                       replace zz : s + 0 ≤ v53.heap.size := by rw [hw]; simpa using zz
                       clear hw
                       clear d180 d180f d190 d190f d191 d191f
                       clear hS
                       (try simp only [Act.put, List.setIfInBounds_toArray, List.set_cons_zero, List.set_cons_succ])
                       refine seqE_nil ?_
                       intro wz hS
                       replace hs := hs.up hS; replace hM17 := hM17.up hS; replace hX2 := hX2.mono hS; replace hX3 := hX3.mono hS; replace hM3 := hM3.up hS; replace hbw := btr hbw hS; replace zz := Nat.le_trans zz (Below.size hS); replace hacc := btr hacc hS; clear hS
                       obtain ⟨⟨d180, d180f⟩, ⟨d190, d190f⟩, ⟨d191, d191f⟩, -⟩ := id hs
                       go_wp2_with fail
                       go_meet
                       exact ⟨⟨_, rfl, Bx.at hX3 d180 d180f⟩, hacc⟩
                      refine seqE_move rfl (by rfl) ?_ seqE_stop
                      intro w54 hS
                      refine ⟨.pointer (some ⟨w54.heap.size, 0, none⟩), w54.alloc (.cells #[.slice none 0 0] 27), (by go_simp; try with_reducible rfl), ?_⟩
                      obtain ⟨b18, hb18⟩ : ∃ b, b = w54.heap.size := ⟨_, rfl⟩
                      obtain ⟨v54, hw54⟩ : ∃ zW, zW = w54.alloc (.cells #[.slice none 0 0] 27) := ⟨_, rfl⟩
                      rw [← hw54, ← hb18]
                      have hbl : Below w54.heap.size w54 v54 := by rw [hw54]; go_grown
                      have hge18 : s + 0 ≤ b18 := by rw [hb18]; exact Nat.le_trans zz hS.size
                      have hga18 : wc.heap.size ≤ b18 := by rw [hb18]; exact Nat.le_trans hacc.size hS.size
                      have hlb19_18 : b19 < b18 := by rw [hb18]; exact Nat.lt_of_lt_of_le (World.block_lt_of_cell? _ _ hs.1.1) hS.size
                      refine ⟨(fun x => Below v54.heap.size v54 x), Below.refl _ _, fun x hx => btr (btr hS hbl) hx, ?_⟩
                      have hX := btr hS hbl
                      replace hs := hs.up hX; replace hM17 := hM17.up hX; replace hbw := btr hbw hX; replace zz := Nat.le_trans zz (Below.size hX); replace hacc := btr hacc hX
                      replace hs : Cells v54 [(b18, 0, .slice none 0 0), (b19, 0, .int .i64 0), (b19, 1, .slice none 0 0)] := ⟨⟨by rw [hw54, hb18]; go_cell, by rw [hw54, hb18]; go_cell⟩, hs⟩
                      clear hX hS hbl hw54 hb18
                      (try simp only [Act.put, List.setIfInBounds_toArray, List.set_cons_zero, List.set_cons_succ])
                      refine seqE_call (f := ?_) (args := ?_) rfl (by rfl) ?_ ?_ seqE_stop
                      rotate_left 2
                      focus (intro w hS; go_simp; first | done | with_reducible rfl | (refine ⟨?_, ?_⟩ <;> with_reducible rfl))
                      intro w55 hS
                      refine (rnew_is w55).mono ?_
                      rintro e v55 ⟨p2, cap2, rfl, hX2, hbl⟩
                      refine ⟨_, rfl, (fun x => Below v55.heap.size v55 x), Below.refl _ _, fun x hx => btr (btr hS hbl) hx, ?_⟩
                      have hXw := Nat.le_trans zz hS.size; have hXa := Nat.le_trans hacc.size hS.size
                      have hX := btr hS hbl
                      replace hs := hs.up hX; replace hM17 := hM17.up hX; replace hbw := btr hbw hX; replace zz := Nat.le_trans zz (Below.size hX); replace hacc := btr hacc hX
                      clear hX hS hbl hXw hXa
                      (try simp only [Act.put, List.setIfInBounds_toArray, List.set_cons_zero, List.set_cons_succ])
                      refine seqE_callB (f := ?_) (args := ?_) rfl (by rfl) ?_ ?_ seqE_stop
                      rotate_left 2
                      focus (intro w hS; go_simp; first | done | with_reducible rfl | (refine ⟨?_, ?_⟩ <;> with_reducible rfl))
                      intro w56 hS
                      refine (smaller_is (hX2.mono hS) (hM17.up hS) (Below.refl _ _) hn0 hn4 good_new (by rw [cnew_len]; omega) OQ.out E4.out).mono ?_
                      rintro e v56 ⟨p3, cap3, y3, cy3, rfl, hX3, hM3, hbl⟩
                      refine ⟨_, rfl, (fun x => Below v56.heap.size v56 x), Below.refl _ _, ?_⟩
                      have hXw := Nat.le_trans zz hS.size; have hXa := Nat.le_trans hacc.size hS.size
                      have hX := btr hS hbl
                      replace hs := hs.up hX; replace hM17 := hM17.up hX; replace hX2 := hX2.mono hX; replace hbw := btr hbw hX; replace zz := Nat.le_trans zz (Below.size hX); replace hacc := btr hacc hX
                      clear hX hS hbl hXw hXa
                      (try simp only [Act.put, List.setIfInBounds_toArray, List.set_cons_zero, List.set_cons_succ])
                      iterate 3 (refine seqE_free (v := ?_) rfl (by rfl) ?_ ?_; rotate_left; (focus (intro w; go_simp; try with_reducible rfl)); (try simp only [Act.put, List.setIfInBounds_toArray, List.set_cons_zero, List.set_cons_succ]))
                      refine seqE_storeB rfl (by rfl) ?_ seqE_stop
                      intro w57 hS
                      replace hs := hs.up hS; replace hM17 := hM17.up hS; replace hX2 := hX2.mono hS; replace hX3 := hX3.mono hS; replace hM3 := hM3.up hS; replace hbw := btr hbw hS; replace zz := Nat.le_trans zz (Below.size hS); replace hacc := btr hacc hS
                      obtain ⟨⟨d180, d180f⟩, ⟨d190, d190f⟩, ⟨d191, d191f⟩, -⟩ := id hs
                      refine ⟨(w57.setCell ⟨b18, 0, none⟩ (.slice p3 d4.length cap3)), (by go_simp; try with_reducible rfl), (fun x => Below ((w57.setCell ⟨b18, 0, none⟩ (.slice p3 d4.length cap3))).heap.size ((w57.setCell ⟨b18, 0, none⟩ (.slice p3 d4.length cap3))) x), Below.refl _ _, ?_⟩
                      obtain ⟨v57, hw⟩ : ∃ zW, zW = (w57.setCell ⟨b18, 0, none⟩ (.slice p3 d4.length cap3)) := ⟨_, rfl⟩
                      rw [← hw]
                      replace hs : Cells v57 [(b18, 0, .slice p3 d4.length cap3), (b19, 0, .int .i64 0), (b19, 1, .slice none 0 0)] := by rw [hw]; exact ⟨⟨by go_cell, (fz d180f)⟩, ⟨by go_cell, (fz d190f)⟩, ⟨by go_cell, (fz d191f)⟩, trivial⟩
                      replace hM17 : MxAt v57 q17 cq17 (q) := by rw [hw]; exact hM17.box d180 _
                      replace hX2 : CAt v57 p2 cap2 cnew := by rw [hw]; exact hX2.box d180 _
                      replace hX3 : CAt v57 p3 cap3 d4 := by rw [hw]; exact hX3.box d180 _
                      replace hM3 : MxAt v57 y3 cy3 m4 := by rw [hw]; exact hM3.box d180 _
                      replace hbw : Below w.heap.size w v57 := by rw [hw]; exact (Below.setCell hbw (by have h := HS.out; (try dsimp only); omega) _)
                      replace hacc : Below wc.heap.size wc v57 := by rw [hw]; exact (Below.setCell hacc (by have h := HS.out; (try dsimp only); omega) _)
                      replace zz : s + 0 ≤ v57.heap.size := by rw [hw]; simpa using zz
                      clear hw
                      clear d180 d180f d190 d190f d191 d191f
                      clear hS
                      (try simp only [Act.put, List.setIfInBounds_toArray, List.set_cons_zero, List.set_cons_succ])
                      refine seqE_storeB rfl (by rfl) ?_ seqE_stop
                      intro w58 hS
                      replace hs := hs.up hS; replace hM17 := hM17.up hS; replace hX2 := hX2.mono hS; replace hX3 := hX3.mono hS; replace hM3 := hM3.up hS; replace hbw := btr hbw hS; replace zz := Nat.le_trans zz (Below.size hS); replace hacc := btr hacc hS
                      obtain ⟨⟨d180, d180f⟩, ⟨d190, d190f⟩, ⟨d191, d191f⟩, -⟩ := id hs
                      refine ⟨((w58.setCell ⟨b19, 0, none⟩ (.int .i64 2)).setCell ⟨b19, 1, none⟩ (.slice y3 m4.length cy3)), (by go_simp; try with_reducible rfl), (fun x => Below (((w58.setCell ⟨b19, 0, none⟩ (.int .i64 2)).setCell ⟨b19, 1, none⟩ (.slice y3 m4.length cy3))).heap.size (((w58.setCell ⟨b19, 0, none⟩ (.int .i64 2)).setCell ⟨b19, 1, none⟩ (.slice y3 m4.length cy3))) x), Below.refl _ _, ?_⟩
                      obtain ⟨v58, hw⟩ : ∃ zW, zW = ((w58.setCell ⟨b19, 0, none⟩ (.int .i64 2)).setCell ⟨b19, 1, none⟩ (.slice y3 m4.length cy3)) := ⟨_, rfl⟩
                      rw [← hw]
                      replace hs : Cells v58 [(b18, 0, .slice p3 d4.length cap3), (b19, 0, .int .i64 2), (b19, 1, .slice y3 m4.length cy3)] := by rw [hw]; exact ⟨⟨by go_cell, (fz (fz d180f))⟩, ⟨by go_cell, (fz (fz d190f))⟩, ⟨by go_cell, (fz (fz d191f))⟩, trivial⟩
                      replace hM17 : MxAt v58 q17 cq17 (q) := by rw [hw]; exact hM17.boxM d191 _ _
                      replace hX2 : CAt v58 p2 cap2 cnew := by rw [hw]; exact hX2.boxM d191 _ _
                      replace hX3 : CAt v58 p3 cap3 d4 := by rw [hw]; exact hX3.boxM d191 _ _
                      replace hM3 : MxAt v58 y3 cy3 m4 := by rw [hw]; exact hM3.boxM d191 _ _
                      replace hbw : Below w.heap.size w v58 := by rw [hw]; exact (Below.setCell (Below.setCell hbw (by have h := HS.out; (try dsimp only); omega) _) (by have h := HS.out; (try dsimp only); omega) _)
                      replace hacc : Below wc.heap.size wc v58 := by rw [hw]; exact (Below.setCell (Below.setCell hacc (by have h := HS.out; (try dsimp only); omega) _) (by have h := HS.out; (try dsimp only); omega) _)
                      replace zz : s + 0 ≤ v58.heap.size := by rw [hw]; simpa using zz
                      clear hw
                      clear d180 d180f d190 d190f d191 d191f
                      clear hS
                      (try simp only [Act.put, List.setIfInBounds_toArray, List.set_cons_zero, List.set_cons_succ])
                      refine seqE_nil ?_
                      intro wz hS
                      replace hs := hs.up hS; replace hM17 := hM17.up hS; replace hX2 := hX2.mono hS; replace hX3 := hX3.mono hS; replace hM3 := hM3.up hS; replace hbw := btr hbw hS; replace zz := Nat.le_trans zz (Below.size hS); replace hacc := btr hacc hS; clear hS
                      obtain ⟨⟨d180, d180f⟩, ⟨d190, d190f⟩, ⟨d191, d191f⟩, -⟩ := id hs
                      go_wp2_with fail
                      go_meet
                      exact ⟨⟨_, rfl, Bx.at hX3 d180 d180f⟩, hacc⟩
                  case rest =>
                    clear m17 m17f n17 n17f hM17
                    obtain ⟨⟨b18, rfl, hB18⟩, hst⟩ := hcut
                    replace hB8 := hB8.up hst
                    replace hN10 := hN10.up hst
                    replace hN17 := hN17.up hst
                    replace hW := btr hW hst
                    clear hst
                    go_upto_region 12 with fail
                    obtain ⟨q17, cq17, ⟨⟨m17, m17f⟩, ⟨n17, n17f⟩, -⟩, hM17⟩ := id hN17
                    go_cut [20, 21] from 117 to 123 (fun s20 s21 wx => (∃ (b : Nat), s20 = .pointer (some ⟨b, 0, none⟩) ∧ s21 = .int .i64 r5 ∧ Bx wx b d5) ∧ Below wc.heap.size wc wx)
                    case first =>
                      as_aux_lemma =>
                        obtain ⟨s, hs0⟩ : ∃ s, w.heap.size = s := ⟨_, rfl⟩
                        have HS := Lib.hid hs0; clear hs0
                        have hbw := hW
                        have zz : s + 0 ≤ wc.heap.size := by have := HS.out; have := hW.size; omega
                        have hk : Cells wc [(b17, 0, .int .i64 2), (b17, 1, .slice q17 (q).length cq17)] := ⟨⟨m17, m17f⟩, ⟨n17, n17f⟩, trivial⟩
                        clear m17 m17f n17 n17f
                        have hacc : Below wc.heap.size wc wc := Below.refl _ _
                        clear hW
                        refine wp_region_seqE (fun x => Below wc.heap.size wc x) (.one 1 1 (.one 2 0 (.alt 0 2 (.alt 3 3 (.one 4 1 (.one 5 1 (.one 6 1 (.alt 7 2 (.alt 8 3 (.one 9 1 .nil) .stop) .stop)))) (.alt 7 2 (.alt 3 3 (.one 4 1 (.one 5 1 (.one 6 1 (.alt 8 3 (.one 9 1 .nil) .stop)))) .stop) .stop)) (.alt 7 2 (.alt 0 2 (.alt 3 3 (.one 4 1 (.one 5 1 (.one 6 1 (.alt 8 3 (.one 9 1 .nil) .stop)))) .stop) .stop) .stop)))) (by kernel_rfl) (by kernel_rfl) (by kernel_rfl) (Below.drew (Below.refl _ _)) ?_
                        iterate 2 (first | (refine seqE_free (v := ?_) rfl (by rfl) ?_ ?_; rotate_left; (focus (intro w; go_simp; try with_reducible rfl)); (try simp only [Act.put, List.setIfInBounds_toArray, List.set_cons_zero, List.set_cons_succ])) | (refine seqE_pure (v := ?_) rfl (by rfl) ?_ ?_; rotate_left; (focus (intro w hS; obtain ⟨⟨m17, -⟩, ⟨n17, -⟩, -⟩ := hk.up hS; go_simp; try with_reducible rfl)); (try simp only [Act.put, List.setIfInBounds_toArray, List.set_cons_zero, List.set_cons_succ])))
                        clear hk
                        refine seqE_call (f := ?_) (args := ?_) rfl (by rfl) ?_ ?_ ?_
                        rotate_left 2
                        focus (intro w hS; go_simp; first | done | with_reducible rfl | (refine ⟨?_, ?_⟩ <;> with_reducible rfl))
                        ·
                         intro w1 hS
                         refine (rnew_is w1).mono ?_
                         rintro e v1 ⟨p2, cap2, rfl, hX2, hbl⟩
                         refine ⟨_, rfl, (fun x => Below v1.heap.size v1 x), Below.refl _ _, fun x hx => btr (btr hS hbl) hx, ?_⟩
                         have hXw := Nat.le_trans zz hS.size; have hXa := Nat.le_trans hacc.size hS.size
                         have hX := btr hS hbl
                         replace hM17 := hM17.up hX; replace hbw := btr hbw hX; replace zz := Nat.le_trans zz (Below.size hX); replace hacc := btr hacc hX
                         clear hX hS hbl hXw hXa
                         (try simp only [Act.put, List.setIfInBounds_toArray, List.set_cons_zero, List.set_cons_succ])
                         refine seqE_callB (f := ?_) (args := ?_) rfl (by rfl) ?_ ?_ ?_
                         rotate_left 2
                         focus (intro w hS; go_simp; first | done | with_reducible rfl | (refine ⟨?_, ?_⟩ <;> with_reducible rfl))
                         ·
                          intro w2 hS
                          refine (acyclic_is (hX2.mono hS) (hM17.up hS) (Below.refl _ _) hn0 hn4 good_new (by rw [cnew_len]; omega) OQ.out E5.out).mono ?_
                          rintro e v2 ⟨p3, cap3, rfl, hX3, hbl⟩
                          refine ⟨_, rfl, (fun x => Below v2.heap.size v2 x), Below.refl _ _, ?_⟩
                          have hXw := Nat.le_trans zz hS.size; have hXa := Nat.le_trans hacc.size hS.size
                          have hX := btr hS hbl
                          replace hM17 := hM17.up hX; replace hX2 := hX2.mono hX; replace hbw := btr hbw hX; replace zz := Nat.le_trans zz (Below.size hX); replace hacc := btr hacc hX
                          clear hX hS hbl hXw hXa
                          (try simp only [Act.put, List.setIfInBounds_toArray, List.set_cons_zero, List.set_cons_succ])
                          iterate 3 (refine seqE_free (v := ?_) rfl (by rfl) ?_ ?_; rotate_left; (focus (intro w; go_simp; try with_reducible rfl)); (try simp only [Act.put, List.setIfInBounds_toArray, List.set_cons_zero, List.set_cons_succ]))
                          refine seqE_move rfl (by rfl) ?_ seqE_stop
                          intro w3 hS
                          refine ⟨.pointer (some ⟨w3.heap.size, 0, none⟩), w3.alloc (.cells #[.slice none 0 0] 27), (by go_simp; try with_reducible rfl), ?_⟩
                          obtain ⟨b20, hb20⟩ : ∃ b, b = w3.heap.size := ⟨_, rfl⟩
                          obtain ⟨v3, hw3⟩ : ∃ zW, zW = w3.alloc (.cells #[.slice none 0 0] 27) := ⟨_, rfl⟩
                          rw [← hw3, ← hb20]
                          have hbl : Below w3.heap.size w3 v3 := by rw [hw3]; go_grown
                          have hge20 : s + 0 ≤ b20 := by rw [hb20]; exact Nat.le_trans zz hS.size
                          have hga20 : wc.heap.size ≤ b20 := by rw [hb20]; exact Nat.le_trans hacc.size hS.size
                          refine ⟨(fun x => Below v3.heap.size v3 x), Below.refl _ _, fun x hx => btr (btr hS hbl) hx, ?_⟩
                          have hX := btr hS hbl
                          replace hM17 := hM17.up hX; replace hX2 := hX2.mono hX; replace hX3 := hX3.mono hX; replace hbw := btr hbw hX; replace zz := Nat.le_trans zz (Below.size hX); replace hacc := btr hacc hX
                          have hs : Cells v3 [(b20, 0, .slice none 0 0)] := ⟨⟨by rw [hw3, hb20]; go_cell, by rw [hw3, hb20]; go_cell⟩, trivial⟩
                          clear hX hS hbl hw3 hb20
                          (try simp only [Act.put, List.setIfInBounds_toArray, List.set_cons_zero, List.set_cons_succ])
                          refine seqE_storeB rfl (by rfl) ?_ seqE_stop
                          intro w4 hS
                          replace hs := hs.up hS; replace hM17 := hM17.up hS; replace hX2 := hX2.mono hS; replace hX3 := hX3.mono hS; replace hbw := btr hbw hS; replace zz := Nat.le_trans zz (Below.size hS); replace hacc := btr hacc hS
                          obtain ⟨⟨d200, d200f⟩, -⟩ := id hs
                          refine ⟨(w4.setCell ⟨b20, 0, none⟩ (.slice p3 d5.length cap3)), (by go_simp; try with_reducible rfl), (fun x => Below ((w4.setCell ⟨b20, 0, none⟩ (.slice p3 d5.length cap3))).heap.size ((w4.setCell ⟨b20, 0, none⟩ (.slice p3 d5.length cap3))) x), Below.refl _ _, ?_⟩
                          obtain ⟨v4, hw⟩ : ∃ zW, zW = (w4.setCell ⟨b20, 0, none⟩ (.slice p3 d5.length cap3)) := ⟨_, rfl⟩
                          rw [← hw]
                          replace hs : Cells v4 [(b20, 0, .slice p3 d5.length cap3)] := by rw [hw]; exact ⟨⟨by go_cell, (fz d200f)⟩, trivial⟩
                          replace hM17 : MxAt v4 q17 cq17 (q) := by rw [hw]; exact hM17.box d200 _
                          replace hX2 : CAt v4 p2 cap2 cnew := by rw [hw]; exact hX2.box d200 _
                          replace hX3 : CAt v4 p3 cap3 d5 := by rw [hw]; exact hX3.box d200 _
                          replace hbw : Below w.heap.size w v4 := by rw [hw]; exact (Below.setCell hbw (by have h := HS.out; (try dsimp only); omega) _)
                          replace hacc : Below wc.heap.size wc v4 := by rw [hw]; exact (Below.setCell hacc (by have h := HS.out; (try dsimp only); omega) _)
                          replace zz : s + 0 ≤ v4.heap.size := by rw [hw]; simpa using zz
                          clear hw
                          clear d200 d200f
                          clear hS
                          (try simp only [Act.put, List.setIfInBounds_toArray, List.set_cons_zero, List.set_cons_succ])
                          iterate 1 (refine seqE_free (v := ?_) rfl (by rfl) ?_ ?_; rotate_left; (focus (intro w; go_simp; try with_reducible rfl)); (try simp only [Act.put, List.setIfInBounds_toArray, List.set_cons_zero, List.set_cons_succ]))
                          refine seqE_nil ?_
                          intro wz hS
                          replace hs := hs.up hS; replace hM17 := hM17.up hS; replace hX2 := hX2.mono hS; replace hX3 := hX3.mono hS; replace hbw := btr hbw hS; replace zz := Nat.le_trans zz (Below.size hS); replace hacc := btr hacc hS; clear hS
                          obtain ⟨⟨d200, d200f⟩, -⟩ := id hs
                          go_wp2_with fail
                          go_meet
                          exact ⟨⟨_, rfl, rfl, Bx.at hX3 d200 d200f⟩, hacc⟩
                         refine seqE_move rfl (by rfl) ?_ seqE_stop
                         intro w5 hS
                         refine ⟨.pointer (some ⟨w5.heap.size, 0, none⟩), w5.alloc (.cells #[.slice none 0 0] 27), (by go_simp; try with_reducible rfl), ?_⟩
                         obtain ⟨b20, hb20⟩ : ∃ b, b = w5.heap.size := ⟨_, rfl⟩
                         obtain ⟨v5, hw5⟩ : ∃ zW, zW = w5.alloc (.cells #[.slice none 0 0] 27) := ⟨_, rfl⟩
                         rw [← hw5, ← hb20]
                         have hbl : Below w5.heap.size w5 v5 := by rw [hw5]; go_grown
                         have hge20 : s + 0 ≤ b20 := by rw [hb20]; exact Nat.le_trans zz hS.size
                         have hga20 : wc.heap.size ≤ b20 := by rw [hb20]; exact Nat.le_trans hacc.size hS.size
                         refine ⟨(fun x => Below v5.heap.size v5 x), Below.refl _ _, fun x hx => btr (btr hS hbl) hx, ?_⟩
                         have hX := btr hS hbl
                         replace hM17 := hM17.up hX; replace hX2 := hX2.mono hX; replace hbw := btr hbw hX; replace zz := Nat.le_trans zz (Below.size hX); replace hacc := btr hacc hX
                         have hs : Cells v5 [(b20, 0, .slice none 0 0)] := ⟨⟨by rw [hw5, hb20]; go_cell, by rw [hw5, hb20]; go_cell⟩, trivial⟩
                         clear hX hS hbl hw5 hb20
                         (try simp only [Act.put, List.setIfInBounds_toArray, List.set_cons_zero, List.set_cons_succ])
                         refine seqE_callB (f := ?_) (args := ?_) rfl (by rfl) ?_ ?_ seqE_stop
                         rotate_left 2
                         focus (intro w hS; go_simp; first | done | with_reducible rfl | (refine ⟨?_, ?_⟩ <;> with_reducible rfl))
                         intro w6 hS
                         refine (acyclic_is (hX2.mono hS) (hM17.up hS) (Below.refl _ _) hn0 hn4 good_new (by rw [cnew_len]; omega) OQ.out E5.out).mono ?_
                         rintro e v6 ⟨p3, cap3, rfl, hX3, hbl⟩
                         refine ⟨_, rfl, (fun x => Below v6.heap.size v6 x), Below.refl _ _, ?_⟩
                         have hXw := Nat.le_trans zz hS.size; have hXa := Nat.le_trans hacc.size hS.size
                         have hX := btr hS hbl
                         replace hs := hs.up hX; replace hM17 := hM17.up hX; replace hX2 := hX2.mono hX; replace hbw := btr hbw hX; replace zz := Nat.le_trans zz (Below.size hX); replace hacc := btr hacc hX
                         clear hX hS hbl hXw hXa
                         (try simp only [Act.put, List.setIfInBounds_toArray, List.set_cons_zero, List.set_cons_succ])
                         iterate 3 (refine seqE_free (v := ?_) rfl (by rfl) ?_ ?_; rotate_left; (focus (intro w; go_simp; try with_reducible rfl)); (try simp only [Act.put, List.setIfInBounds_toArray, List.set_cons_zero, List.set_cons_succ]))
                         refine seqE_storeB rfl (by rfl) ?_ seqE_stop
                         intro w7 hS
                         replace hs := hs.up hS; replace hM17 := hM17.up hS; replace hX2 := hX2.mono hS; replace hX3 := hX3.mono hS; replace hbw := btr hbw hS; replace zz := Nat.le_trans zz (Below.size hS); replace hacc := btr hacc hS
                         obtain ⟨⟨d200, d200f⟩, -⟩ := id hs
                         refine ⟨(w7.setCell ⟨b20, 0, none⟩ (.slice p3 d5.length cap3)), (by go_simp; try with_reducible rfl), (fun x => Below ((w7.setCell ⟨b20, 0, none⟩ (.slice p3 d5.length cap3))).heap.size ((w7.setCell ⟨b20, 0, none⟩ (.slice p3 d5.length cap3))) x), Below.refl _ _, ?_⟩
                         obtain ⟨v7, hw⟩ : ∃ zW, zW = (w7.setCell ⟨b20, 0, none⟩ (.slice p3 d5.length cap3)) := ⟨_, rfl⟩
                         rw [← hw]
                         replace hs : Cells v7 [(b20, 0, .slice p3 d5.length cap3)] := by rw [hw]; exact ⟨⟨by go_cell, (fz d200f)⟩, trivial⟩
                         replace hM17 : MxAt v7 q17 cq17 (q) := by rw [hw]; exact hM17.box d200 _
                         replace hX2 : CAt v7 p2 cap2 cnew := by rw [hw]; exact hX2.box d200 _
                         replace hX3 : CAt v7 p3 cap3 d5 := by rw [hw]; exact hX3.box d200 _
                         replace hbw : Below w.heap.size w v7 := by rw [hw]; exact (Below.setCell hbw (by have h := HS.out; (try dsimp only); omega) _)
                         replace hacc : Below wc.heap.size wc v7 := by rw [hw]; exact (Below.setCell hacc (by have h := HS.out; (try dsimp only); omega) _)
                         replace zz : s + 0 ≤ v7.heap.size := by rw [hw]; simpa using zz
                         clear hw
                         clear d200 d200f
                         clear hS
                         (try simp only [Act.put, List.setIfInBounds_toArray, List.set_cons_zero, List.set_cons_succ])
                         iterate 1 (refine seqE_free (v := ?_) rfl (by rfl) ?_ ?_; rotate_left; (focus (intro w; go_simp; try with_reducible rfl)); (try simp only [Act.put, List.setIfInBounds_toArray, List.set_cons_zero, List.set_cons_succ]))
                         refine seqE_nil ?_
                         intro wz hS
                         replace hs := hs.up hS; replace hM17 := hM17.up hS; replace hX2 := hX2.mono hS; replace hX3 := hX3.mono hS; replace hbw := btr hbw hS; replace zz := Nat.le_trans zz (Below.size hS); replace hacc := btr hacc hS; clear hS
                         obtain ⟨⟨d200, d200f⟩, -⟩ := id hs
                         go_wp2_with fail
                         go_meet
                         exact ⟨⟨_, rfl, rfl, Bx.at hX3 d200 d200f⟩, hacc⟩
                        refine seqE_move rfl (by rfl) ?_ seqE_stop
                        intro w8 hS
                        refine ⟨.pointer (some ⟨w8.heap.size, 0, none⟩), w8.alloc (.cells #[.slice none 0 0] 27), (by go_simp; try with_reducible rfl), ?_⟩
                        obtain ⟨b20, hb20⟩ : ∃ b, b = w8.heap.size := ⟨_, rfl⟩
                        obtain ⟨v8, hw8⟩ : ∃ zW, zW = w8.alloc (.cells #[.slice none 0 0] 27) := ⟨_, rfl⟩
                        rw [← hw8, ← hb20]
                        have hbl : Below w8.heap.size w8 v8 := by rw [hw8]; go_grown
                        have hge20 : s + 0 ≤ b20 := by rw [hb20]; exact Nat.le_trans zz hS.size
                        have hga20 : wc.heap.size ≤ b20 := by rw [hb20]; exact Nat.le_trans hacc.size hS.size
                        refine ⟨(fun x => Below v8.heap.size v8 x), Below.refl _ _, fun x hx => btr (btr hS hbl) hx, ?_⟩
                        have hX := btr hS hbl
                        replace hM17 := hM17.up hX; replace hbw := btr hbw hX; replace zz := Nat.le_trans zz (Below.size hX); replace hacc := btr hacc hX
                        have hs : Cells v8 [(b20, 0, .slice none 0 0)] := ⟨⟨by rw [hw8, hb20]; go_cell, by rw [hw8, hb20]; go_cell⟩, trivial⟩
                        clear hX hS hbl hw8 hb20
                        (try simp only [Act.put, List.setIfInBounds_toArray, List.set_cons_zero, List.set_cons_succ])
                        refine seqE_call (f := ?_) (args := ?_) rfl (by rfl) ?_ ?_ seqE_stop
                        rotate_left 2
                        focus (intro w hS; go_simp; first | done | with_reducible rfl | (refine ⟨?_, ?_⟩ <;> with_reducible rfl))
                        intro w9 hS
                        refine (rnew_is w9).mono ?_
                        rintro e v9 ⟨p2, cap2, rfl, hX2, hbl⟩
                        refine ⟨_, rfl, (fun x => Below v9.heap.size v9 x), Below.refl _ _, fun x hx => btr (btr hS hbl) hx, ?_⟩
                        have hXw := Nat.le_trans zz hS.size; have hXa := Nat.le_trans hacc.size hS.size
                        have hX := btr hS hbl
                        replace hs := hs.up hX; replace hM17 := hM17.up hX; replace hbw := btr hbw hX; replace zz := Nat.le_trans zz (Below.size hX); replace hacc := btr hacc hX
                        clear hX hS hbl hXw hXa
                        (try simp only [Act.put, List.setIfInBounds_toArray, List.set_cons_zero, List.set_cons_succ])
                        refine seqE_callB (f := ?_) (args := ?_) rfl (by rfl) ?_ ?_ seqE_stop
                        rotate_left 2
                        focus (intro w hS; go_simp; first | done | with_reducible rfl | (refine ⟨?_, ?_⟩ <;> with_reducible rfl))
                        intro w10 hS
                        refine (acyclic_is (hX2.mono hS) (hM17.up hS) (Below.refl _ _) hn0 hn4 good_new (by rw [cnew_len]; omega) OQ.out E5.out).mono ?_
                        rintro e v10 ⟨p3, cap3, rfl, hX3, hbl⟩
                        refine ⟨_, rfl, (fun x => Below v10.heap.size v10 x), Below.refl _ _, ?_⟩
                        have hXw := Nat.le_trans zz hS.size; have hXa := Nat.le_trans hacc.size hS.size
                        have hX := btr hS hbl
                        replace hs := hs.up hX; replace hM17 := hM17.up hX; replace hX2 := hX2.mono hX; replace hbw := btr hbw hX; replace zz := Nat.le_trans zz (Below.size hX); replace hacc := btr hacc hX
                        clear hX hS hbl hXw hXa
                        (try simp only [Act.put, List.setIfInBounds_toArray, List.set_cons_zero, List.set_cons_succ])
                        iterate 3 (refine seqE_free (v := ?_) rfl (by rfl) ?_ ?_; rotate_left; (focus (intro w; go_simp; try with_reducible rfl)); (try simp only [Act.put, List.setIfInBounds_toArray, List.set_cons_zero, List.set_cons_succ]))
                        refine seqE_storeB rfl (by rfl) ?_ seqE_stop
                        intro w11 hS
                        replace hs := hs.up hS; replace hM17 := hM17.up hS; replace hX2 := hX2.mono hS; replace hX3 := hX3.mono hS; replace hbw := btr hbw hS; replace zz := Nat.le_trans zz (Below.size hS); replace hacc := btr hacc hS
                        obtain ⟨⟨d200, d200f⟩, -⟩ := id hs
                        refine ⟨(w11.setCell ⟨b20, 0, none⟩ (.slice p3 d5.length cap3)), (by go_simp; try with_reducible rfl), (fun x => Below ((w11.setCell ⟨b20, 0, none⟩ (.slice p3 d5.length cap3))).heap.size ((w11.setCell ⟨b20, 0, none⟩ (.slice p3 d5.length cap3))) x), Below.refl _ _, ?_⟩
                        obtain ⟨v11, hw⟩ : ∃ zW, zW = (w11.setCell ⟨b20, 0, none⟩ (.slice p3 d5.length cap3)) := ⟨_, rfl⟩
                        rw [← hw]
                        replace hs : Cells v11 [(b20, 0, .slice p3 d5.length cap3)] := by rw [hw]; exact ⟨⟨by go_cell, (fz d200f)⟩, trivial⟩
                        replace hM17 : MxAt v11 q17 cq17 (q) := by rw [hw]; exact hM17.box d200 _
                        replace hX2 : CAt v11 p2 cap2 cnew := by rw [hw]; exact hX2.box d200 _
                        replace hX3 : CAt v11 p3 cap3 d5 := by rw [hw]; exact hX3.box d200 _
                        replace hbw : Below w.heap.size w v11 := by rw [hw]; exact (Below.setCell hbw (by have h := HS.out; (try dsimp only); omega) _)
                        replace hacc : Below wc.heap.size wc v11 := by rw [hw]; exact (Below.setCell hacc (by have h := HS.out; (try dsimp only); omega) _)
                        replace zz : s + 0 ≤ v11.heap.size := by rw [hw]; simpa using zz
                        clear hw
                        clear d200 d200f
                        clear hS
                        (try simp only [Act.put, List.setIfInBounds_toArray, List.set_cons_zero, List.set_cons_succ])
                        iterate 1 (refine seqE_free (v := ?_) rfl (by rfl) ?_ ?_; rotate_left; (focus (intro w; go_simp; try with_reducible rfl)); (try simp only [Act.put, List.setIfInBounds_toArray, List.set_cons_zero, List.set_cons_succ]))
                        refine seqE_nil ?_
                        intro wz hS
                        replace hs := hs.up hS; replace hM17 := hM17.up hS; replace hX2 := hX2.mono hS; replace hX3 := hX3.mono hS; replace hbw := btr hbw hS; replace zz := Nat.le_trans zz (Below.size hS); replace hacc := btr hacc hS; clear hS
                        obtain ⟨⟨d200, d200f⟩, -⟩ := id hs
                        go_wp2_with fail
                        go_meet
                        exact ⟨⟨_, rfl, rfl, Bx.at hX3 d200 d200f⟩, hacc⟩
                    case rest =>
                      clear m17 m17f n17 n17f hM17
                      obtain ⟨⟨b20, rfl, rfl, hB20⟩, hst⟩ := hcut
                      replace hB8 := hB8.up hst
                      replace hN10 := hN10.up hst
                      replace hN17 := hN17.up hst
                      replace hB18 := hB18.up hst
                      replace hW := btr hW hst
                      clear hst
                      go_upto_region 13 with fail
                      obtain ⟨p18, c18, k18, k18f, hC18⟩ := id hB18
                      obtain ⟨p20, c20, k20, k20f, hC20⟩ := id hB20
                      have hz4 : (d4.length : Int) = 1 := by rw [F4.out, cnew_len]; rfl
                      have hz5 : (d5.length : Int) = 1 := by rw [F5.out.1, cnew_len]; rfl
                      have hz6 := F5.out.2
                      rcases hz6 with rfl | rfl
                      · go_wp2_with fail
                        go_ret
                        exact ⟨rfl, hW⟩
                      · go_wp2_with fail
                        go_ret
                        exact ⟨rfl, hW⟩
end Go.Proofs.Ytadilppdlbhjnaa
