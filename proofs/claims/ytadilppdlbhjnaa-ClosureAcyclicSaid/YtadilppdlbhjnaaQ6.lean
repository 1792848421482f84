/- Walk of ClosureAcyclic. -/
import Derived.Test.YtadilppdlbhjnaaGT
import Derived.Test.YtadilppdlbhjnaaR9
namespace Go.Proofs.Ytadilppdlbhjnaa
set_option linter.unusedSimpArgs false
set_option linter.unusedVariables false
open Go.RowKit

theorem acTo_tr {n : Nat} {m : List Cell} {C : List Gate} {N : Int} (hg : Good C) (hm : MOk C N m) (V : List Bool) : ∀ k, C.length + k ≤ 20000 → Grow C (acTo n m C k).1 k ∧ In (acTo n m C k).1 (acTo n m C k).2 ∧ (cv (acTo n m C k).1 V (acTo n m C k).2 = true ↔ ∀ i : Nat, i < k → ¬ Tr C V m ((i : Int) * n + i))
  | 0, _ => ⟨.refl hg _, in_0 hg.ne, ⟨fun _ i hi => by omega, fun _ => cv_0 hg V⟩⟩
  | k + 1, hl => by
    obtain ⟨g1, i1, v1⟩ := acTo_tr hg hm V k (by omega)
    have hlen := g1.len
    have hmi := hm.mat_in' hg ((k : Int) * n + k)
    obtain ⟨g2, i2, v2⟩ := ok_but.one g1.good (by omega) i1 (hmi.up g1)
    refine ⟨(g1.trans g2).more (by omega), i2, ?_⟩
    show cv (cbut (acTo n m C k).1 (acTo n m C k).2 (mat m ((k : Int) * n + k))).1 V _ = true ↔ _
    rw [show (acTo n m C (k + 1)).2 = (cbut (acTo n m C k).1 (acTo n m C k).2 (mat m ((k : Int) * n + k))).2 from rfl, v2 V, hmi.cv g1 V, Bool.and_eq_true, v1, Bool.not_eq_true']
    constructor
    · rintro ⟨h1, h2⟩ i hi ht
      by_cases e : i = k
      · subst e; unfold Tr at ht; rw [ht] at h2; cases h2
      · exact h1 i (by omega) ht
    · intro h
      refine ⟨fun i hi => h i (by omega), ?_⟩
      have := h k (by omega)
      unfold Tr at this
      cases hc : cv C V (mat m ((k : Int) * n + k))
      · rfl
      · exact absurd hc this
/-- THE LAW OF Acyclic. -/
theorem acyclic_law {n : Nat} {a : List Cell} {c : List Gate} {V : List Bool} {L : List Int} (hn : n ≤ 4) (hg : Good c) (ha : MOk c ((n * n : Nat) : Int) a) (hl : c.length + 2400 ≤ 20000) (hL : IsClo n (mValue c V a) L) :
    (mAcyclic c n a).1.length ≤ 20000 ∧ WfC (mAcyclic c n a).1 ∧ ceval (mAcyclic c n a).1 V (mAcyclic c n a).2 = ((rInter L (idl n n)).length == 0) := by
  obtain ⟨g3, o3⟩ := smaller_ok hn hg (by omega) ha
  have D3 : mValue (mSmaller c n a).1 V (mSmaller c n a).2 = L := denotes hg g3.good ha o3 (fun x y h1 h2 h3 h4 => smaller_path hn hg ha V (by omega) h1 h2 h3 h4) hL
  have hlen := g3.len
  obtain ⟨g4, i4, v4⟩ := acTo_tr (n := n) g3.good o3 V n (by omega)
  have hlen4 := g4.len
  refine ⟨by show (acTo n (mSmaller c n a).2 (mSmaller c n a).1 n).1.length ≤ _; omega, g4.good.wf, ?_⟩
  show ceval (acTo n (mSmaller c n a).2 (mSmaller c n a).1 n).1 V (acTo n (mSmaller c n a).2 (mSmaller c n a).1 n).2 = _
  rw [ceval_cv i4.1 i4.2, Bool.eq_iff_iff, v4, beq_iff_eq, List.length_eq_zero_iff, List.eq_nil_iff_forall_not_mem]
  constructor
  · intro h x hx
    obtain ⟨h1, h2⟩ := mem_inter.1 hx
    unfold idl at h2
    obtain ⟨i, hi, rfl⟩ := List.mem_map.1 h2
    rw [List.mem_range] at hi
    refine h i hi ?_
    have e : ((i * n + i : Nat) : Int) = (i : Int) * n + i := by simp
    rw [e, ← D3] at h1
    exact (mem_value g3.good o3 ((i : Int) * n + i)).1 h1
  · intro h i hi ht
    refine h ((i : Int) * n + i) (mem_inter.2 ⟨?_, ?_⟩)
    · rw [← D3]; exact (mem_value g3.good o3 _).2 ht
    · unfold idl
      exact List.mem_map.2 ⟨i, List.mem_range.2 hi, by simp⟩

set_option maxRecDepth 100000 in
set_option maxHeartbeats 8000000 in
theorem closureAcyclic_any (k : Nat) (st : List Step) (ps : Option Addr) (cs : Nat) (vs : List Nat) (pv : Option Addr) (cv : Nat) (z : Nat) (w : World) (hk : k < 256) (hl : st.length ≤ maxLen) (hs : ∀ s ∈ st, s.k < 256 ∧ s.a < 256 ∧ s.b < 256) (hg : StepsAt w ps st) (hvl : vs.length ≤ maxLen) (hv8 : ∀ v ∈ vs, v < 256) (hV : UbAt w pv vs) (hz : z < 256) :
    Calls Try.prog 10 #[.int .u8 k, .slice ps st.length cs, .slice pv vs.length cv, .int .u8 z] w (RetB w true) := by
  unfold maxLen at hl
  have HS8 := Lib.hid hs; have HG := Lib.hid hg; have HV8 := Lib.hid hv8; have HV := Lib.hid hV; clear hs hg hv8 hV
  by_cases h20 : (20 : Int) < (st.length : Int)
  case pos =>
    go_enter Try.func10, Try.ntmps10
    go_wp2_with (first | (go_at_call 16; refine (head15_any _).mono ?_; rintro e w1 ⟨rfl, hb1⟩))
    go_ret
    exact ⟨rfl, hb1⟩
  case neg =>
    obtain ⟨n, hn⟩ : ∃ n, k % 4 + 1 = n := ⟨_, rfl⟩
    have hn0 : 0 < n := by omega
    have hn4 : n ≤ 4 := by omega
    obtain ⟨c, refs, a, hcb, ha, gc, hcl, ma, hrl, hrr, hal⟩ := made_plain st vs n (by omega) hn0 hn4
    have hc0 : 0 < c.length := gc.ne
    have hc2 : c.length + 2400 ≤ 20000 := by omega
    have hc3 : c.length ≤ 20000 := by omega
    obtain ⟨V, hV0⟩ : ∃ V, vbits z 8 = V := ⟨_, rfl⟩
    have hVl : V.length = 8 := by rw [← hV0]; exact vbits_len _ _
    have hVm : V.length ≤ maxLen := by unfold maxLen; omega
    obtain ⟨l, hl0⟩ : ∃ l, mValue c V a = l := ⟨_, rfl⟩
    have hrs := value_rs V ma; have hrk := value_rk V ma
    have A1 := fun L (hL : IsClo n (mValue c V a) L) => acyclic_law hn4 gc ma hc2 hL
    obtain ⟨d, r, e1⟩ : ∃ d r, mAcyclic c n a = (d, r) := ⟨_, _, rfl⟩
    rw [e1] at A1
    rw [hl0] at hrs hrk A1
    have hll : l.length ≤ 16 := by rw [← hl0]; exact Nat.le_trans (mValue_len c V a) hal
    have hil := idl_len n n
    have hir : ∀ x ∈ idl n n, 0 ≤ x ∧ x < 100000 := fun x hx => by
      unfold idl at hx
      obtain ⟨i, hi, rfl⟩ := List.mem_map.1 hx
      rw [List.mem_range] at hi
      have : i * n ≤ 16 := Nat.mul_le_mul (show i ≤ 4 by omega) hn4
      omega
    have E1 := Lib.hid e1; have HL := Lib.hid hl0; have HVB := Lib.hid hV0; have HVL := Lib.hid hVl; have HRS := Lib.hid hrs; have HRK := Lib.hid hrk; have HA1 := Lib.hid A1; have HIR := Lib.hid hir; have HIL := Lib.hid hil
    clear hil e1 hl0 hV0 hVl hrs hrk A1 hir
    have HN := Lib.hid hn; have HCB := Lib.hid hcb; have HA := Lib.hid ha; have GC := Lib.hid gc; have MA := Lib.hid ma; have HR := Lib.hid hrr
    clear hn hcb ha gc ma hrr
    have hW : Below w.heap.size w w := Below.refl _ _
    go_enter Try.func10, Try.ntmps10
    go_upto_region 1 with fail
    go_cut [9] from 17 to 17 (fun s9 wx => (s9 = .bool true) ∧ Below w.heap.size w wx)
    case first =>
      as_aux_lemma =>
        go_wp2_with (first | (go_at_call 16; refine (head15_any _).mono ?_; rintro e w2 ⟨rfl, hbl⟩))
        go_meet
        exact ⟨rfl, (by first | exact hbl | exact btr (by go_grown) hbl)⟩
    case rest =>
      obtain ⟨rfl, hst⟩ := hcut
      replace hW := btr hW hst
      clear hst
      go_upto_region 4 with fail
      go_cut [10, 11, 12] from 22 to 29 (fun s10 s11 s12 wx => (∃ (b b' : Nat), s10 = .pointer (some ⟨b, 0, none⟩) ∧ s11 = .int .i64 n ∧ s12 = .pointer (some ⟨b', 0, none⟩) ∧ Bx wx b c ∧ BM wx b' 2 a) ∧ Below wc.heap.size wc wx)
      case first =>
        as_aux_lemma =>
          go_wp2_with (first | (go_at_call 17; refine (made15_any k st vs c refs ps pv cs cv _ hk (HG.out.mono hW) (by omega) HS8.out (HV.out.mono hW) hvl HV8.out HCB.out hc0 (by omega) HR.out).mono ?_; rw [HN.out, HA.out]; rintro e w2 ⟨p2, cap2, y2, cy2, rfl, hC2, hM2, hbl⟩))
          go_meet
          exact ⟨⟨_, _, rfl, rfl, rfl, (Bx.new hC2 _).up (by go_grown), BM.newAt (hM2.up (bal (Below.refl _ _) _)) _ (by simp)⟩, bal (bal hbl _) _⟩
      case rest =>
        obtain ⟨⟨b10, b12, rfl, rfl, rfl, hB10, hN12⟩, hst⟩ := hcut
        replace hW := btr hW hst
        clear hst
        go_upto_region 5 with fail
        go_cut [13] from 30 to 31 (fun s13 wx => (∃ (q : Option Addr) (cq : Nat), s13 = .slice q V.length cq ∧ BoolsAt wx q V) ∧ Below wc.heap.size wc wx)
        case first =>
          as_aux_lemma =>
            go_wp2_with (first | (go_at_call 60; refine (values2_any z _ (by omega) (by omega)).mono ?_; rw [HVB.out]; rintro e w2 ⟨q2, cq2, rfl, hV2, hv0, hbl⟩))
            go_meet
            exact ⟨⟨_, _, rfl, hV2⟩, hbl⟩
        case rest =>
          obtain ⟨⟨q13, cq13, rfl, hV13⟩, hst⟩ := hcut
          replace hB10 := hB10.up hst
          replace hN12 := hN12.up hst
          replace hW := btr hW hst
          clear hst
          go_upto_region 6 with fail
          obtain ⟨p10, c10, k10, k10f, hC10⟩ := id hB10
          obtain ⟨q12, cq12, ⟨⟨m12, m12f⟩, ⟨n12, n12f⟩, -⟩, hM12⟩ := id hN12
          go_cut [14, 15] from 32 to 38 (fun s14 s15 wx => (∃ (b : Nat), s14 = .pointer (some ⟨b, 0, none⟩) ∧ s15 = .int .i64 r ∧ Bx wx b d) ∧ Below wc.heap.size wc wx)
          case first =>
            as_aux_lemma =>
              go_wp2_with (first | (go_at_call 24; refine (acyclic_is hC10 hM12 (Below.refl _ _) hn0 hn4 GC.out hc2 MA.out E1.out).mono ?_; rintro e w2 ⟨p2, cap2, rfl, hC2, hbl⟩))
              go_meet
              exact ⟨⟨_, rfl, rfl, Bx.new hC2 _⟩, bal hbl _⟩
          case rest =>
            clear k10 k10f hC10
            obtain ⟨⟨b14, rfl, rfl, hB14⟩, hst⟩ := hcut
            replace hB10 := hB10.up hst
            replace hN12 := hN12.up hst
            replace hV13 := hV13.up hst
            replace hW := btr hW hst
            clear hst
            clear m12 m12f n12 n12f hM12
            go_upto_region 7 with fail
            obtain ⟨p10, c10, k10, k10f, hC10⟩ := id hB10
            obtain ⟨q12, cq12, ⟨⟨m12, m12f⟩, ⟨n12, n12f⟩, -⟩, hM12⟩ := id hN12
            go_cut [16] from 39 to 44 (fun s16 wx => (∃ (b : Nat) (L : List Int), s16 = .pointer (some ⟨b, 0, none⟩) ∧ IsClo n l L ∧ BR wx b 2 L) ∧ Below wc.heap.size wc wx)
            case first =>
              as_aux_lemma =>
                go_wp2_with (first | (go_at_call 30; refine (mvalue_is (V := V) (nv := V.length) hC10 hM12 hV13 GC.out.wf hc3 (by omega) rfl hVm HL.out).mono ?_; rintro e w1 ⟨p1, cap1, rfl, hR1, hb1⟩) | (go_at_call 61; refine (relclosure_any n l p1 cap1 2 w1 hR1 hn0 hn4 HRS.out HRK.out).mono ?_; rintro e w2 ⟨L, hL, p2, cap2, rfl, hR2, hbl⟩))
                go_meet
                exact ⟨⟨_, L, rfl, hL, BR.newAt hR2 _ rfl⟩, bal (btr hb1 hbl) _⟩
            case rest =>
              clear k10 k10f hC10
              obtain ⟨⟨b16, L, rfl, hLC, hN16⟩, hst⟩ := hcut
              replace hB10 := hB10.up hst
              replace hN12 := hN12.up hst
              replace hV13 := hV13.up hst
              replace hB14 := hB14.up hst
              replace hW := btr hW hst
              clear hst
              clear m12 m12f n12 n12f hM12
              have hLl : L.length ≤ 16 := Nat.le_trans (CloI.len (n := n) (a := l) ⟨hLC.rs, hLC.rk, hLC.sub, hLC.least⟩) (Nat.mul_le_mul hn4 hn4)
              have HLR := Lib.hid (show ∀ x ∈ L, 0 ≤ x ∧ x < 100000 from fun x hx => by have h1 := hLC.rk x hx; have h2 : n * n ≤ 16 := Nat.mul_le_mul hn4 hn4; omega)
              obtain ⟨hdl, hwf, hev⟩ := HA1.out L hLC
              dsimp only at hdl hwf hev
              obtain ⟨X, hX⟩ : ∃ X, rInter L (idl n n) = X := ⟨_, rfl⟩
              rw [hX] at hev
              have HEV := Lib.hid hev; have HWF := Lib.hid hwf; have HX := Lib.hid hX
              clear hLC hev hwf hX
              clear hB10
              clear hN12
              have hfd : ∀ (q : Option Addr) (k cq : Nat) (w : World), (Instr.field 44 (.agg #[.int .i64 2, .slice q k cq]) 1).run Try.prog w = .ok (.slice q k cq) w := fun _ _ _ _ => by kernel_rfl
              go_upto_region 8 with fail
              obtain ⟨p14, c14, k14, k14f, hC14⟩ := id hB14
              obtain ⟨q16, cq16, ⟨⟨m16, m16f⟩, ⟨n16, n16f⟩, -⟩, hM16⟩ := id hN16
              obtain ⟨s, hs0⟩ : ∃ s, w.heap.size = s := ⟨_, rfl⟩
              have HS := Lib.hid hs0; clear hs0
              have hbw := hW
              have zz : s + 0 ≤ wc.heap.size := by have := HS.out; have := hW.size; omega
              have hk : Cells wc [(b14, 0, .slice p14 (d).length c14), (b16, 0, .int .i64 2), (b16, 1, .slice q16 (L).length cq16)] := ⟨⟨k14, k14f⟩, ⟨m16, m16f⟩, ⟨n16, n16f⟩, trivial⟩
              clear k14 k14f m16 m16f n16 n16f
              have hacc : Below wc.heap.size wc wc := Below.refl _ _
              clear hW
              refine wp_region_seqE (fun x => Below wc.heap.size wc x) (.one 0 1 (.one 1 1 (.one 2 0 (.one 3 1 (.one 4 1 (.one 6 0 (.one 7 1 (.alt 5 2 (.alt 8 2 (.alt 9 3 (.one 10 1 (.one 11 1 (.one 12 1 (.one 13 1 (.one 14 1 (.one 15 1 .nil)))))) .stop) .stop) .stop)))))))) (by kernel_rfl) (by kernel_rfl) (by kernel_rfl) (Below.drew (Below.refl _ _)) ?_
              iterate 7 (first | (refine seqE_free (v := ?_) rfl (by rfl) ?_ ?_; rotate_left; (focus (intro w; go_simp; try with_reducible rfl)); (try simp only [Act.put, List.setIfInBounds_toArray, List.set_cons_zero, List.set_cons_succ])) | (refine seqE_pure (v := ?_) rfl (by rfl) ?_ ?_; rotate_left; (focus (intro w hS; obtain ⟨⟨k14, -⟩, ⟨m16, -⟩, ⟨n16, -⟩, -⟩ := hk.up hS; go_simp; try with_reducible rfl)); (try simp only [Act.put, List.setIfInBounds_toArray, List.set_cons_zero, List.set_cons_succ])))
              clear hk
              refine seqE_keep (v := .bool (X.length == 0)) (f := ?_) (args := ?_) rfl (by rfl) ?_ ?_ ?_ seqE_stop
              rotate_left 2
              focus (intro w hS; go_simp; first | done | with_reducible rfl | (refine ⟨?_, ?_⟩ <;> with_reducible rfl))
              focus (intro w hS; refine (eval_is (cv := cq13) hC14 hS (hV13.mono hS) HWF.out HEV.out rfl hdl hVm).mono ?_; rintro e w2 ⟨rfl, hbl⟩; exact ⟨rfl, btr hS hbl⟩)
              (try simp only [Act.put, List.setIfInBounds_toArray, List.set_cons_zero, List.set_cons_succ])
              refine seqE_call (f := ?_) (args := ?_) rfl (by rfl) ?_ ?_ seqE_stop
              rotate_left 2
              focus (intro w hS; go_simp; first | done | with_reducible rfl | (refine ⟨?_, ?_⟩ <;> with_reducible rfl))
              intro w2 hS
              refine (reliden_any n w2 (by omega)).mono ?_
              rintro e v2 ⟨y1, cy1, rfl, hX1, hbl⟩
              refine ⟨_, rfl, (fun x => Below v2.heap.size v2 x), Below.refl _ _, fun x hx => btr (btr hS hbl) hx, ?_⟩
              have hXw := Nat.le_trans zz hS.size; have hXa := Nat.le_trans hacc.size hS.size
              have hX := btr hS hbl
              replace hC14 := hC14.mono hX; replace hM16 := hM16.up hX; replace hV13 := hV13.mono hX; replace hbw := btr hbw hX; replace zz := Nat.le_trans zz (Below.size hX); replace hacc := btr hacc hX
              clear hX hS hbl hXw hXa
              (try simp only [Act.put, List.setIfInBounds_toArray, List.set_cons_zero, List.set_cons_succ])
              refine seqE_callB (f := ?_) (args := ?_) rfl (by rfl) ?_ ?_ seqE_stop
              rotate_left 2
              focus (intro w hS; go_simp; first | done | with_reducible rfl | (refine ⟨?_, ?_⟩ <;> with_reducible rfl))
              intro w3 hS
              refine ((relinter_any L (idl n n) 2 2 q16 y1 cq16 cy1 w3 (hM16.up hS) (hX1.up hS) (by omega) (by rw [HIL.out]; omega) HLR.out HIR.out).mono fun e w' h => (show RetR w3 2 X e w' by rw [← HX.out]; exact h)).mono ?_
              rintro e v3 ⟨y2, cy2, rfl, hX2, hbl⟩
              refine ⟨_, rfl, (fun x => Below v3.heap.size v3 x), Below.refl _ _, ?_⟩
              have hXw := Nat.le_trans zz hS.size; have hXa := Nat.le_trans hacc.size hS.size
              have hX := btr hS hbl
              replace hC14 := hC14.mono hX; replace hM16 := hM16.up hX; replace hV13 := hV13.mono hX; replace hX1 := hX1.up hX; replace hbw := btr hbw hX; replace zz := Nat.le_trans zz (Below.size hX); replace hacc := btr hacc hX
              clear hX hS hbl hXw hXa
              (try simp only [Act.put, List.setIfInBounds_toArray, List.set_cons_zero, List.set_cons_succ])
              iterate 6 (refine seqE_free (v := ?_) rfl (by rfl) ?_ ?_; rotate_left; (focus (intro w; go_simp; try with_reducible rfl)); (try simp only [Act.put, List.setIfInBounds_toArray, List.set_cons_zero, List.set_cons_succ]))
              refine seqE_nil ?_
              intro wz hS
              replace hC14 := hC14.mono hS; replace hM16 := hM16.up hS; replace hV13 := hV13.mono hS; replace hX1 := hX1.up hS; replace hX2 := hX2.up hS; replace hbw := btr hbw hS; replace zz := Nat.le_trans zz (Below.size hS); replace hacc := btr hacc hS; clear hS
              go_wp2_with fail
              go_ret
              have hxz : (X.length == 0) = (((X.length : Nat) : Int) == 0) := by rw [Bool.eq_iff_iff]; simp
              rw [hxz, beq_self_eq_true]
              exact ⟨rfl, hbw⟩
end Go.Proofs.Ytadilppdlbhjnaa
