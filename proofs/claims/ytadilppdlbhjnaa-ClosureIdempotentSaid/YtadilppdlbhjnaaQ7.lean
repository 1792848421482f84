/- Walk of ClosureIdempotent. -/
import Derived.Test.YtadilppdlbhjnaaGT
import Derived.Test.YtadilppdlbhjnaaGV
namespace Go.Proofs.Ytadilppdlbhjnaa
set_option linter.unusedSimpArgs false
set_option linter.unusedVariables false
open Go.RowKit

theorem mtranspose_is {n : Nat} {c : List Gate} {a b : List Cell} {ar : Int} {pa : Option Addr} {ca : Nat} {w : World} (hA : MxAt w pa ca a) (ha : MOk c ((n * n : Nat) : Int) a) (hn0 : 0 < n) (hn : n ≤ 3) (e : mTranspose n a = b) :
    Calls Try.prog 72 #[.int .i64 n, .agg #[.int .i64 ar, .slice pa a.length ca]] w (RetM w ar b) :=
  (mtranspose_any n c a ar pa ca w hA ha hn0 hn).mono fun e' w' h => by
    subst e
    obtain ⟨q, cq, h1, h2, -, h4⟩ := h
    exact ⟨q, cq, h1, h2, h4⟩
theorem reltrans_is {n : Nat} {a b : List Int} {ar : Int} {pa : Option Addr} {ca : Nat} {w : World} (hA : SI w pa ca a) (hla : a.length ≤ 100) (hra : ∀ x ∈ a, 0 ≤ x ∧ x < 2000) (hn0 : 0 < n) (hn : n ≤ 12) (e : rTr n a = b) :
    Calls Try.prog 74 #[.int .i64 n, .agg #[.int .i64 ar, .slice pa a.length ca]] w (RetR w 2 b) :=
  (reltrans_any n a ar pa ca w hA hla hra hn0 hn).mono fun e' w' h => by
    subst e
    obtain ⟨q, cq, h1, h2, -, h4⟩ := h
    exact ⟨q, cq, h1, h2, h4⟩

set_option maxRecDepth 100000 in
set_option maxHeartbeats 8000000 in
theorem closureIdempotent_any (k : Nat) (st : List Step) (ps : Option Addr) (cs : Nat) (vs : List Nat) (pv : Option Addr) (cv : Nat) (z : Nat) (w : World) (hk : k < 256) (hl : st.length ≤ maxLen) (hs : ∀ s ∈ st, s.k < 256 ∧ s.a < 256 ∧ s.b < 256) (hg : StepsAt w ps st) (hvl : vs.length ≤ maxLen) (hv8 : ∀ v ∈ vs, v < 256) (hV : UbAt w pv vs) (hz : z < 256) :
    Calls Try.prog 14 #[.int .u8 k, .slice ps st.length cs, .slice pv vs.length cv, .int .u8 z] w (RetB w true) := by
  unfold maxLen at hl
  have HS8 := Lib.hid hs; have HG := Lib.hid hg; have HV8 := Lib.hid hv8; have HV := Lib.hid hV; clear hs hg hv8 hV
  by_cases h20 : (20 : Int) < (st.length : Int)
  case pos =>
    go_enter Try.func14, Try.ntmps14
    go_wp2_with (first | (go_at_call 16; refine (head15_any _).mono ?_; rintro e w1 ⟨rfl, hb1⟩))
    go_ret
    exact ⟨rfl, hb1⟩
  case neg =>
    obtain ⟨k3, hk3⟩ : ∃ k3, k % 3 = k3 := ⟨_, rfl⟩
    have hk3l : k3 ≤ 2 := by omega
    have hk256 : k3 < 256 := by omega
    have hkm : (k : Int).tmod 3 = (k3 : Int) := by rw [← hk3]; exact (atoms_facts hk).2.1
    have hkw : IntKind.u8.wrap (k3 : Int) = (k3 : Int) := by
      obtain rfl | rfl | rfl : k3 = 0 ∨ k3 = 1 ∨ k3 = 2 := by omega
      all_goals decide
    clear hk3
    obtain ⟨n, hn⟩ : ∃ n, k3 % 4 + 1 = n := ⟨_, rfl⟩
    have hn0 : 0 < n := by omega
    have hn4 : n ≤ 4 := by omega
    obtain ⟨c, refs, a, hcb, ha, gc, hcl, ma, hrl, hrr, hal⟩ := made_plain st vs n (by omega) hn0 hn4
    have hc0 : 0 < c.length := gc.ne
    have hc2 : c.length + 2400 ≤ 20000 := by omega
    have hc3 : c.length ≤ 20000 := by omega
    obtain ⟨V, hV0⟩ : ∃ V, vbits z 8 = V := ⟨_, rfl⟩
    have hVl : V.length = 8 := by rw [← hV0]; exact vbits_len _ _
    have hVm : V.length ≤ maxLen := by unfold maxLen; omega
    have hn3 : n ≤ 3 := by omega
    obtain ⟨hi1, hi2⟩ := idem_law (V := V) hn0 hn4 gc ma (by omega)
    obtain ⟨g3, o3⟩ := smaller_ok hn4 gc (by omega) ma
    have k3' := g3.len
    obtain ⟨g4, o4⟩ := smaller_ok hn4 g3.good (by omega) o3
    have hat := transpose_ok gc ma
    obtain ⟨g5, o5⟩ := smaller_ok hn4 gc (by omega) hat
    have htk := value_rk V o3
    obtain ⟨d, m, e3⟩ : ∃ d m, mSmaller c n a = (d, m) := ⟨_, _, rfl⟩
    rw [e3] at hi1 hi2 g3 o3 k3' g4 o4 htk
    dsimp only at hi1 hi2 g3 o3 k3' g4 o4 htk
    obtain ⟨e, kk, e4⟩ : ∃ x y, mSmaller d n m = (x, y) := ⟨_, _, rfl⟩
    rw [e4] at hi1 g4 o4
    obtain ⟨aT, haT⟩ : ∃ x, mTranspose n a = x := ⟨_, rfl⟩
    rw [haT] at hi2 hat g5 o5
    obtain ⟨f, tt, e5⟩ : ∃ x y, mSmaller c n aT = (x, y) := ⟨_, _, rfl⟩
    rw [e5] at hi2 g5 o5
    dsimp only at hi1 hi2 g4 o4 g5 o5
    obtain ⟨t, ht0⟩ : ∃ l, mValue d V m = l := ⟨_, rfl⟩
    rw [ht0] at hi1 hi2 htk
    obtain ⟨u, hu0⟩ : ∃ l, rTr n t = l := ⟨_, rfl⟩
    rw [hu0] at hi2
    have k4 := g4.len; have k5 := g5.len
    have hd1 : d.length ≤ 20000 := by omega
    have hd2 : e.length ≤ 20000 := by omega
    have hd3 : f.length ≤ 20000 := by omega
    have hd4 : d.length + 2400 ≤ 20000 := by omega
    have hm1 : m.length ≤ 16 := mok_len hn4 o3
    have hm2 : kk.length ≤ 16 := mok_len hn4 o4
    have hm3 : tt.length ≤ 16 := mok_len hn4 o5
    have htl : t.length ≤ 16 := by rw [← ht0]; exact Nat.le_trans (mValue_len d V m) hm1
    have htm : ∀ x ∈ t, 0 ≤ x ∧ x < 2000 := fun x hx => by have h1 := htk x hx; have h2 : n * n ≤ 16 := Nat.mul_le_mul hn4 hn4; omega
    have E3 := Lib.hid e3; have E4 := Lib.hid e4; have E5 := Lib.hid e5; have HAT := Lib.hid haT; have MAT := Lib.hid hat; have O3 := Lib.hid o3; have HI1 := Lib.hid hi1; have HI2 := Lib.hid hi2; have HT0 := Lib.hid ht0; have HU0 := Lib.hid hu0; have HTM := Lib.hid htm
    have HVB := Lib.hid hV0; have HVL := Lib.hid hVl; have G3 := Lib.hid g3.good; have G4 := Lib.hid g4.good; have G5 := Lib.hid g5.good
    clear e3 e4 e5 haT hat o3 o4 o5 hi1 hi2 ht0 hu0 htm hV0 hVl g3 g4 g5 k3' k4 k5 htk
    have HN := Lib.hid hn; have HCB := Lib.hid hcb; have HA := Lib.hid ha; have GC := Lib.hid gc; have MA := Lib.hid ma; have HR := Lib.hid hrr
    clear hn hcb ha gc ma hrr
    have hW : Below w.heap.size w w := Below.refl _ _
    go_enter Try.func14, Try.ntmps14
    go_upto_region 1 with fail
    go_cut [9] from 20 to 20 (fun s9 wx => (s9 = .bool true) ∧ Below w.heap.size w wx)
    case first =>
      as_aux_lemma =>
        go_wp2_with (first | (go_at_call 16; refine (head15_any _).mono ?_; rintro e w2 ⟨rfl, hbl⟩))
        go_meet
        exact ⟨rfl, (by first | exact hbl | exact btr (by go_grown) hbl)⟩
    case rest =>
      obtain ⟨rfl, hst⟩ := hcut
      replace hW := btr hW hst
      clear hst
      go_upto_region 4 with fail
      go_cut [10, 11, 12] from 25 to 33 (fun s10 s11 s12 wx => (∃ (b b' : Nat), s10 = .pointer (some ⟨b, 0, none⟩) ∧ s11 = .int .i64 n ∧ s12 = .pointer (some ⟨b', 0, none⟩) ∧ Bx wx b c ∧ BM wx b' 2 a) ∧ Below wc.heap.size wc wx)
      case first =>
        as_aux_lemma =>
          go_wp2_with (first | (go_at_call 17; refine (made15_any k3 st vs c refs ps pv cs cv _ hk256 (HG.out.mono hW) (by omega) HS8.out (HV.out.mono hW) hvl HV8.out HCB.out hc0 (by omega) HR.out).mono ?_; rw [HN.out, HA.out]; rintro e w2 ⟨p2, cap2, y2, cy2, rfl, hC2, hM2, hbl⟩))
          go_meet
          exact ⟨⟨_, _, rfl, rfl, rfl, (Bx.new hC2 _).up (by go_grown), BM.newAt (hM2.up (bal (Below.refl _ _) _)) _ (by simp)⟩, bal (bal hbl _) _⟩
      case rest =>
        obtain ⟨⟨b10, b12, rfl, rfl, rfl, hB10, hN12⟩, hst⟩ := hcut
        replace hW := btr hW hst
        clear hst
        go_upto_region 5 with fail
        go_cut [13] from 34 to 35 (fun s13 wx => (∃ (q : Option Addr) (cq : Nat), s13 = .slice q V.length cq ∧ BoolsAt wx q V) ∧ Below wc.heap.size wc wx)
        case first =>
          as_aux_lemma =>
            go_wp2_with (first | (go_at_call 60; refine (values2_any z _ (by omega) (by omega)).mono ?_; rw [HVB.out]; rintro e w2 ⟨q2, cq2, rfl, hV2, hv0, hbl⟩))
            go_meet
            exact ⟨⟨_, _, rfl, hV2⟩, hbl⟩
        case rest =>
          obtain ⟨⟨q13, cq13, rfl, hV13⟩, hst⟩ := hcut
          replace hB10 := hB10.up hst
          replace hN12 := hN12.up hst
          replace hW := btr hW hst
          clear hst
          go_upto_region 6 with fail
          obtain ⟨p10, c10, k10, k10f, hC10⟩ := id hB10
          obtain ⟨q12, cq12, ⟨⟨m12, m12f⟩, ⟨n12, n12f⟩, -⟩, hM12⟩ := id hN12
          go_cut [14, 15] from 36 to 42 (fun s14 s15 wx => (∃ (b b' : Nat), s14 = .pointer (some ⟨b, 0, none⟩) ∧ s15 = .pointer (some ⟨b', 0, none⟩) ∧ Bx wx b d ∧ BM wx b' 2 m) ∧ Below wc.heap.size wc wx)
          case first =>
            as_aux_lemma =>
              go_wp2_with (first | (go_at_call 22; refine (smaller_is hC10 hM12 (Below.refl _ _) hn0 hn4 GC.out hc2 MA.out E3.out).mono ?_; rintro e w2 ⟨p2, cap2, y2, cy2, rfl, hC2, hM2, hbl⟩))
              go_meet
              exact ⟨⟨_, _, rfl, rfl, (Bx.new hC2 _).up (by go_grown), BM.newAt (hM2.up (bal (Below.refl _ _) _)) _ (by simp)⟩, bal (bal hbl _) _⟩
          case rest =>
            clear k10 k10f hC10
            obtain ⟨⟨b14, b15, rfl, rfl, hB14, hN15⟩, hst⟩ := hcut
            replace hB10 := hB10.up hst
            replace hN12 := hN12.up hst
            replace hV13 := hV13.up hst
            replace hW := btr hW hst
            clear hst
            clear m12 m12f n12 n12f hM12
            go_upto_region 7 with fail
            obtain ⟨p14, c14, k14, k14f, hC14⟩ := id hB14
            obtain ⟨q15, cq15, ⟨⟨m15, m15f⟩, ⟨n15, n15f⟩, -⟩, hM15⟩ := id hN15
            go_cut [16, 17] from 43 to 49 (fun s16 s17 wx => (∃ (b b' : Nat), s16 = .pointer (some ⟨b, 0, none⟩) ∧ s17 = .pointer (some ⟨b', 0, none⟩) ∧ Bx wx b e ∧ BM wx b' 2 kk) ∧ Below wc.heap.size wc wx)
            case first =>
              as_aux_lemma =>
                go_wp2_with (first | (go_at_call 22; refine (smaller_is hC14 hM15 (Below.refl _ _) hn0 hn4 G3.out hd4 O3.out E4.out).mono ?_; rintro e w2 ⟨p2, cap2, y2, cy2, rfl, hC2, hM2, hbl⟩))
                go_meet
                exact ⟨⟨_, _, rfl, rfl, (Bx.new hC2 _).up (by go_grown), BM.newAt (hM2.up (bal (Below.refl _ _) _)) _ (by simp)⟩, bal (bal hbl _) _⟩
            case rest =>
              clear k14 k14f hC14
              obtain ⟨⟨b16, b17, rfl, rfl, hB16, hN17⟩, hst⟩ := hcut
              replace hB10 := hB10.up hst
              replace hN12 := hN12.up hst
              replace hV13 := hV13.up hst
              replace hB14 := hB14.up hst
              replace hN15 := hN15.up hst
              replace hW := btr hW hst
              clear hst
              clear m15 m15f n15 n15f hM15
              go_upto_region 8 with fail
              obtain ⟨p10, c10, k10, k10f, hC10⟩ := id hB10
              obtain ⟨q12, cq12, ⟨⟨m12, m12f⟩, ⟨n12, n12f⟩, -⟩, hM12⟩ := id hN12
              go_cut [18, 19] from 50 to 58 (fun s18 s19 wx => (∃ (b b' : Nat), s18 = .pointer (some ⟨b, 0, none⟩) ∧ s19 = .pointer (some ⟨b', 0, none⟩) ∧ Bx wx b f ∧ BM wx b' 2 tt) ∧ Below wc.heap.size wc wx)
              case first =>
                as_aux_lemma =>
                  obtain ⟨s, hs0⟩ : ∃ s, wc.heap.size = s := ⟨_, rfl⟩
                  have HS := Lib.hid hs0; clear hs0
                  obtain ⟨tab, htab⟩ : ∃ t : Nat → Ent, t = tabL [(4, eM 2 aT), (5, eCM f 2 tt), (9, eVC s), (10, eVM s)] := ⟨_, rfl⟩
                  refine wp_region_tab wc tab [(0, 0), (1, 0), (2, 0), (3, 0), (4, 1), (5, 1), (6, 0), (7, 0), (9, 1), (10, 1), (8, 2)] (.alt 11 3 (.alt 12 3 .nil .stop) .stop) (by kernel_rfl) (by kernel_rfl) (by kernel_rfl) (Below.drew (Below.refl _ _)) ?_
                  refine seqX_pure (v := ?_) rfl (by rfl) ?_ ?_
                  rotate_left
                  · (intro w hS hF; have kk := oldcell hS k10 (World.block_lt_of_cell? _ _ k10); go_simp; try with_reducible rfl)
                  (try simp only [Act.put, List.setIfInBounds_toArray, List.set_cons_zero, List.set_cons_succ])
                  refine seqX_pure (v := ?_) rfl (by rfl) ?_ ?_
                  rotate_left
                  · (intro w hS hF; go_simp; try with_reducible rfl)
                  (try simp only [Act.put, List.setIfInBounds_toArray, List.set_cons_zero, List.set_cons_succ])
                  refine seqX_pure (v := ?_) rfl (by rfl) ?_ ?_
                  rotate_left
                  · (intro w hS hF; go_simp; try with_reducible rfl)
                  (try simp only [Act.put, List.setIfInBounds_toArray, List.set_cons_zero, List.set_cons_succ])
                  refine seqX_pure (v := ?_) rfl (by rfl) ?_ ?_
                  rotate_left
                  · (intro w hS hF; have kk := oldcell hS m12 (World.block_lt_of_cell? _ _ m12); have kk2 := oldcell hS n12 (World.block_lt_of_cell? _ _ n12); go_simp; try with_reducible rfl)
                  (try simp only [Act.put, List.setIfInBounds_toArray, List.set_cons_zero, List.set_cons_succ])
                  refine seqX_call (e := eM 2 aT) (f := ?_) (args := ?_) (by rw [htab]; rfl) rfl (by rfl) ?_ ?_ ?_
                  rotate_left 2
                  · (intro w; go_simp; first | done | with_reducible rfl | (refine ⟨?_, ?_⟩ <;> with_reducible rfl))
                  · (intro w hS hF; refine (mtranspose_is (hM12.up hS) MA.out hn0 hn3 HAT.out).mono ?_; intro e w' h; exact RetM.x h)
                  rintro ⟨p55, c55, q55, d55, b55⟩
                  (try dsimp only [eCM, eC, eCI, eM, eR, eS, eX, eB, eK, eVC, eVM])
                  (try simp only [Act.put, List.setIfInBounds_toArray, List.set_cons_zero, List.set_cons_succ])
                  refine seqX_call (e := eCM f 2 tt) (f := ?_) (args := ?_) (by rw [htab]; rfl) rfl (by rfl) ?_ ?_ ?_
                  rotate_left 2
                  · (intro w; go_simp; first | done | with_reducible rfl | (refine ⟨?_, ?_⟩ <;> with_reducible rfl))
                  · (intro w hS hF; have f1 : MxAt w q55 d55 aT := hF 4 (by kernel_rfl); refine (smaller_is (hC10.mono hS) f1 (Below.refl _ _) hn0 hn4 GC.out hc2 MAT.out E5.out).mono ?_; intro e w' h; exact RetCM.x h)
                  rintro ⟨p56, c56, q56, d56, b56⟩
                  (try dsimp only [eCM, eC, eCI, eM, eR, eS, eX, eB, eK, eVC, eVM])
                  (try simp only [Act.put, List.setIfInBounds_toArray, List.set_cons_zero, List.set_cons_succ])
                  refine seqX_pure (v := ?_) rfl (by rfl) ?_ ?_
                  rotate_left
                  · (intro w hS hF; go_simp; try with_reducible rfl)
                  (try simp only [Act.put, List.setIfInBounds_toArray, List.set_cons_zero, List.set_cons_succ])
                  refine seqX_pure (v := ?_) rfl (by rfl) ?_ ?_
                  rotate_left
                  · (intro w hS hF; go_simp; try with_reducible rfl)
                  (try simp only [Act.put, List.setIfInBounds_toArray, List.set_cons_zero, List.set_cons_succ])
                  refine seqX_move (e := eVC s) (by rw [htab]; rfl) rfl (by rfl) ?_ ?_
                  · (intro w hS; exact ⟨⟨none, 0, none, 0, w.heap.size⟩, w.alloc (.cells #[.slice none 0 0] 27), (by go_simp; try with_reducible rfl), by go_grown, Nat.le_trans (Nat.le_of_eq HS.out.symm) hS.size, ⟨⟨by go_cell, by go_cell⟩, trivial⟩⟩)
                  rintro ⟨p18, c18, q18, d18, b18⟩
                  (try dsimp only [eCM, eC, eCI, eM, eR, eS, eX, eB, eK, eVC, eVM])
                  (try simp only [Act.put, List.setIfInBounds_toArray, List.set_cons_zero, List.set_cons_succ])
                  refine seqX_move (e := eVM s) (by rw [htab]; rfl) rfl (by rfl) ?_ ?_
                  · (intro w hS; exact ⟨⟨none, 0, none, 0, w.heap.size⟩, w.alloc (.cells #[.int .i64 0, .slice none 0 0] 30), (by go_simp; try with_reducible rfl), by go_grown, Nat.le_trans (Nat.le_of_eq HS.out.symm) hS.size, ⟨⟨by go_cell, by go_cell⟩, ⟨by go_cell, by go_cell⟩, trivial⟩⟩)
                  rintro ⟨p19, c19, q19, d19, b19⟩
                  (try dsimp only [eCM, eC, eCI, eM, eR, eS, eX, eB, eK, eVC, eVM])
                  (try simp only [Act.put, List.setIfInBounds_toArray, List.set_cons_zero, List.set_cons_succ])
                  refine seqX_free (v := ?_) rfl (by rfl) ?_ ?_
                  rotate_left
                  · (intro w; go_simp; try with_reducible rfl)
                  (try simp only [Act.put, List.setIfInBounds_toArray, List.set_cons_zero, List.set_cons_succ])
                  refine seqX_nil ?_
                  refine seqE_storeB rfl (by rfl) ?_ seqE_stop
                  intro w hS
                  obtain ⟨ga, ca⟩ : s ≤ b18 ∧ Cells w [(b18, 0, .slice none 0 0)] := hS.2 9
                  obtain ⟨gm, cm⟩ : s ≤ b19 ∧ Cells w [(b19, 0, .int .i64 0), (b19, 1, .slice none 0 0)] := hS.2 10
                  obtain ⟨fc, fm⟩ : CAt w p56 c56 (f) ∧ MxAt w q56 d56 (tt) := hS.2 5
                  have ht : TLm s wc b18 b19 p56 c56 (f) q56 d56 (tt) w := ⟨hS.1, HS.out, ga, gm, ca, cm, fc, fm⟩
                  obtain ⟨⟨u1, u1f⟩, -⟩ := ca
                  refine ⟨w.setCell ⟨b18, 0, none⟩ (.slice p56 (f).length c56), (by go_simp; try with_reducible rfl), fun x => T2m s wc b18 b19 (f) q56 d56 (tt) x, ht.s1, ?_⟩
                  (try simp only [Act.put, List.setIfInBounds_toArray, List.set_cons_zero, List.set_cons_succ])
                  refine seqE_storeB rfl (by rfl) ?_ seqE_stop
                  intro w hS
                  obtain ⟨⟨u0, u0f⟩, ⟨u1, u1f⟩, -⟩ := hS.cm
                  refine ⟨(w.setCell ⟨b19, 0, none⟩ (.int .i64 2)).setCell ⟨b19, 1, none⟩ (.slice q56 (tt).length d56), (by go_simp; try with_reducible rfl), fun x => Bx x b18 (f) ∧ BM x b19 2 (tt) ∧ Below wc.heap.size wc x, hS.s2, ?_⟩
                  (try simp only [Act.put, List.setIfInBounds_toArray, List.set_cons_zero, List.set_cons_succ])
                  refine seqE_nil ?_
                  intro w hS
                  go_wp2_with fail
                  go_meet
                  exact ⟨⟨_, _, rfl, rfl, hS.1, hS.2.1⟩, hS.2.2⟩
              case rest =>
                clear k10 k10f hC10
                clear m12 m12f n12 n12f hM12
                obtain ⟨⟨b18, b19, rfl, rfl, hB18, hN19⟩, hst⟩ := hcut
                replace hB10 := hB10.up hst
                replace hN12 := hN12.up hst
                replace hV13 := hV13.up hst
                replace hB14 := hB14.up hst
                replace hN15 := hN15.up hst
                replace hB16 := hB16.up hst
                replace hN17 := hN17.up hst
                replace hW := btr hW hst
                clear hst
                clear hB10
                clear hN12
                go_upto_region 9 with fail
                obtain ⟨p14, c14, k14, k14f, hC14⟩ := id hB14
                obtain ⟨p16, c16, k16, k16f, hC16⟩ := id hB16
                obtain ⟨p18, c18, k18, k18f, hC18⟩ := id hB18
                obtain ⟨q15, cq15, ⟨⟨m15, m15f⟩, ⟨n15, n15f⟩, -⟩, hM15⟩ := id hN15
                obtain ⟨q17, cq17, ⟨⟨m17, m17f⟩, ⟨n17, n17f⟩, -⟩, hM17⟩ := id hN17
                obtain ⟨q19, cq19, ⟨⟨m19, m19f⟩, ⟨n19, n19f⟩, -⟩, hM19⟩ := id hN19
                obtain ⟨s, hs0⟩ : ∃ s, w.heap.size = s := ⟨_, rfl⟩
                have HS := Lib.hid hs0; clear hs0
                have hbw := hW
                have zz : s + 0 ≤ wc.heap.size := by have := HS.out; have := hW.size; omega
                have hk : Cells wc [(b14, 0, .slice p14 (d).length c14), (b16, 0, .slice p16 (e).length c16), (b18, 0, .slice p18 (f).length c18), (b15, 0, .int .i64 2), (b15, 1, .slice q15 (m).length cq15), (b17, 0, .int .i64 2), (b17, 1, .slice q17 (kk).length cq17), (b19, 0, .int .i64 2), (b19, 1, .slice q19 (tt).length cq19)] := ⟨⟨k14, k14f⟩, ⟨k16, k16f⟩, ⟨k18, k18f⟩, ⟨m15, m15f⟩, ⟨n15, n15f⟩, ⟨m17, m17f⟩, ⟨n17, n17f⟩, ⟨m19, m19f⟩, ⟨n19, n19f⟩, trivial⟩
                clear k14 k14f k16 k16f k18 k18f m15 m15f n15 n15f m17 m17f n17 n17f m19 m19f n19 n19f
                have hacc : Below wc.heap.size wc wc := Below.refl _ _
                clear hW
                refine wp_region_seqE (fun x => Below wc.heap.size wc x) (.one 0 1 (.one 1 1 (.one 2 0 (.one 3 0 (.one 4 1 (.one 6 0 (.one 7 0 (.one 8 1 (.alt 5 2 (.alt 9 3 (.alt 10 2 (.one 11 1 (.one 12 1 (.one 13 0 (.one 14 0 (.one 15 1 (.one 17 1 (.one 18 0 (.one 19 0 (.one 20 1 (.alt 16 2 (.alt 21 3 (.alt 22 3 (.alt 23 2 (.one 24 1 (.one 25 1 .nil)) .stop) .stop) .stop) .stop)))))))))) .stop) .stop) .stop))))))))) (by kernel_rfl) (by kernel_rfl) (by kernel_rfl) (Below.drew (Below.refl _ _)) ?_
                iterate 8 (first | (refine seqE_free (v := ?_) rfl (by rfl) ?_ ?_; rotate_left; (focus (intro w; go_simp; try with_reducible rfl)); (try simp only [Act.put, List.setIfInBounds_toArray, List.set_cons_zero, List.set_cons_succ])) | (refine seqE_pure (v := ?_) rfl (by rfl) ?_ ?_; rotate_left; (focus (intro w hS; obtain ⟨⟨k14, -⟩, ⟨k16, -⟩, ⟨k18, -⟩, ⟨m15, -⟩, ⟨n15, -⟩, ⟨m17, -⟩, ⟨n17, -⟩, ⟨m19, -⟩, ⟨n19, -⟩, -⟩ := hk.up hS; go_simp; try with_reducible rfl)); (try simp only [Act.put, List.setIfInBounds_toArray, List.set_cons_zero, List.set_cons_succ])))
                refine seqE_call (f := ?_) (args := ?_) rfl (by rfl) ?_ ?_ seqE_stop
                rotate_left 2
                focus (intro w hS; go_simp; first | done | with_reducible rfl | (refine ⟨?_, ?_⟩ <;> with_reducible rfl))
                intro w1 hS
                refine (mvalue_is (V := V) (nv := V.length) (ar := 2) (p := p16) (cap := c16) (hC16.mono hS) (hM17.up hS) (hV13.mono hS) G4.out.wf hd2 (by omega) rfl hVm HI1.out).mono ?_
                rintro e v1 ⟨y1, cy1, rfl, hX1, hbl⟩
                refine ⟨_, rfl, (fun x => Below v1.heap.size v1 x), Below.refl _ _, fun x hx => btr (btr hS hbl) hx, ?_⟩
                have hXw := Nat.le_trans zz hS.size; have hXa := Nat.le_trans hacc.size hS.size
                have hX := btr hS hbl
                replace hk := hk.up hX; replace hC14 := hC14.mono hX; replace hC16 := hC16.mono hX; replace hC18 := hC18.mono hX; replace hM15 := hM15.up hX; replace hM17 := hM17.up hX; replace hM19 := hM19.up hX; replace hV13 := hV13.mono hX; replace hbw := btr hbw hX; replace zz := Nat.le_trans zz (Below.size hX); replace hacc := btr hacc hX
                clear hX hS hbl hXw hXa
                (try simp only [Act.put, List.setIfInBounds_toArray, List.set_cons_zero, List.set_cons_succ])
                refine seqE_callB (f := ?_) (args := ?_) rfl (by rfl) ?_ ?_ seqE_stop
                rotate_left 2
                focus (intro w hS; go_simp; first | done | with_reducible rfl | (refine ⟨?_, ?_⟩ <;> with_reducible rfl))
                intro w2 hS
                refine (mvalue_is (V := V) (nv := V.length) (ar := 2) (p := p14) (cap := c14) (hC14.mono hS) (hM15.up hS) (hV13.mono hS) G3.out.wf hd1 (by omega) rfl hVm HT0.out).mono ?_
                rintro e v2 ⟨y2, cy2, rfl, hX2, hbl⟩
                refine ⟨_, rfl, (fun x => Below v2.heap.size v2 x), Below.refl _ _, ?_⟩
                have hXw := Nat.le_trans zz hS.size; have hXa := Nat.le_trans hacc.size hS.size
                have hX := btr hS hbl
                replace hk := hk.up hX; replace hC14 := hC14.mono hX; replace hC16 := hC16.mono hX; replace hC18 := hC18.mono hX; replace hM15 := hM15.up hX; replace hM17 := hM17.up hX; replace hM19 := hM19.up hX; replace hV13 := hV13.mono hX; replace hX1 := hX1.up hX; replace hbw := btr hbw hX; replace zz := Nat.le_trans zz (Below.size hX); replace hacc := btr hacc hX
                clear hX hS hbl hXw hXa
                (try simp only [Act.put, List.setIfInBounds_toArray, List.set_cons_zero, List.set_cons_succ])
                refine seqE_keep (v := .bool true) (f := ?_) (args := ?_) rfl (by rfl) ?_ ?_ ?_ seqE_stop
                rotate_left 2
                focus (intro w hS; go_simp; first | done | with_reducible rfl | (refine ⟨?_, ?_⟩ <;> with_reducible rfl))
                focus (intro w hS; refine (requal_is (hX1.up hS) (hX2.up hS) rfl).mono ?_; rintro e w2 ⟨rfl, hbl⟩; exact ⟨rfl, btr hS hbl⟩)
                (try simp only [Act.put, List.setIfInBounds_toArray, List.set_cons_zero, List.set_cons_succ])
                iterate 9 (first | (refine seqE_free (v := ?_) rfl (by rfl) ?_ ?_; rotate_left; (focus (intro w; go_simp; try with_reducible rfl)); (try simp only [Act.put, List.setIfInBounds_toArray, List.set_cons_zero, List.set_cons_succ])) | (refine seqE_pure (v := ?_) rfl (by rfl) ?_ ?_; rotate_left; (focus (intro w hS; obtain ⟨⟨k14, -⟩, ⟨k16, -⟩, ⟨k18, -⟩, ⟨m15, -⟩, ⟨n15, -⟩, ⟨m17, -⟩, ⟨n17, -⟩, ⟨m19, -⟩, ⟨n19, -⟩, -⟩ := hk.up hS; go_simp; try with_reducible rfl)); (try simp only [Act.put, List.setIfInBounds_toArray, List.set_cons_zero, List.set_cons_succ])))
                clear hk
                refine seqE_call (f := ?_) (args := ?_) rfl (by rfl) ?_ ?_ seqE_stop
                rotate_left 2
                focus (intro w hS; go_simp; first | done | with_reducible rfl | (refine ⟨?_, ?_⟩ <;> with_reducible rfl))
                intro w4 hS
                refine (mvalue_is (V := V) (nv := V.length) (ar := 2) (p := p18) (cap := c18) (hC18.mono hS) (hM19.up hS) (hV13.mono hS) G5.out.wf hd3 (by omega) rfl hVm HI2.out).mono ?_
                rintro e v4 ⟨y3, cy3, rfl, hX3, hbl⟩
                refine ⟨_, rfl, (fun x => Below v4.heap.size v4 x), Below.refl _ _, fun x hx => btr (btr hS hbl) hx, ?_⟩
                have hXw := Nat.le_trans zz hS.size; have hXa := Nat.le_trans hacc.size hS.size
                have hX := btr hS hbl
                replace hC14 := hC14.mono hX; replace hC16 := hC16.mono hX; replace hC18 := hC18.mono hX; replace hM15 := hM15.up hX; replace hM17 := hM17.up hX; replace hM19 := hM19.up hX; replace hV13 := hV13.mono hX; replace hX1 := hX1.up hX; replace hX2 := hX2.up hX; replace hbw := btr hbw hX; replace zz := Nat.le_trans zz (Below.size hX); replace hacc := btr hacc hX
                clear hX hS hbl hXw hXa
                (try simp only [Act.put, List.setIfInBounds_toArray, List.set_cons_zero, List.set_cons_succ])
                refine seqE_callB (f := ?_) (args := ?_) rfl (by rfl) ?_ ?_ seqE_stop
                rotate_left 2
                focus (intro w hS; go_simp; first | done | with_reducible rfl | (refine ⟨?_, ?_⟩ <;> with_reducible rfl))
                intro w5 hS
                refine (mvalue_is (V := V) (nv := V.length) (ar := 2) (p := p14) (cap := c14) (hC14.mono hS) (hM15.up hS) (hV13.mono hS) G3.out.wf hd1 (by omega) rfl hVm HT0.out).mono ?_
                rintro e v5 ⟨y4, cy4, rfl, hX4, hbl⟩
                refine ⟨_, rfl, (fun x => Below v5.heap.size v5 x), Below.refl _ _, ?_⟩
                have hXw := Nat.le_trans zz hS.size; have hXa := Nat.le_trans hacc.size hS.size
                have hX := btr hS hbl
                replace hC14 := hC14.mono hX; replace hC16 := hC16.mono hX; replace hC18 := hC18.mono hX; replace hM15 := hM15.up hX; replace hM17 := hM17.up hX; replace hM19 := hM19.up hX; replace hV13 := hV13.mono hX; replace hX1 := hX1.up hX; replace hX2 := hX2.up hX; replace hX3 := hX3.up hX; replace hbw := btr hbw hX; replace zz := Nat.le_trans zz (Below.size hX); replace hacc := btr hacc hX
                clear hX hS hbl hXw hXa
                (try simp only [Act.put, List.setIfInBounds_toArray, List.set_cons_zero, List.set_cons_succ])
                refine seqE_callB (f := ?_) (args := ?_) rfl (by rfl) ?_ ?_ seqE_stop
                rotate_left 2
                focus (intro w hS; go_simp; first | done | with_reducible rfl | (refine ⟨?_, ?_⟩ <;> with_reducible rfl))
                intro w6 hS
                refine (reltrans_is (hX4.up hS) (by omega) HTM.out hn0 (by omega) HU0.out).mono ?_
                rintro e v6 ⟨y5, cy5, rfl, hX5, hbl⟩
                refine ⟨_, rfl, (fun x => Below v6.heap.size v6 x), Below.refl _ _, ?_⟩
                have hXw := Nat.le_trans zz hS.size; have hXa := Nat.le_trans hacc.size hS.size
                have hX := btr hS hbl
                replace hC14 := hC14.mono hX; replace hC16 := hC16.mono hX; replace hC18 := hC18.mono hX; replace hM15 := hM15.up hX; replace hM17 := hM17.up hX; replace hM19 := hM19.up hX; replace hV13 := hV13.mono hX; replace hX1 := hX1.up hX; replace hX2 := hX2.up hX; replace hX3 := hX3.up hX; replace hX4 := hX4.up hX; replace hbw := btr hbw hX; replace zz := Nat.le_trans zz (Below.size hX); replace hacc := btr hacc hX
                clear hX hS hbl hXw hXa
                (try simp only [Act.put, List.setIfInBounds_toArray, List.set_cons_zero, List.set_cons_succ])
                refine seqE_keep (v := .bool true) (f := ?_) (args := ?_) rfl (by rfl) ?_ ?_ ?_ seqE_stop
                rotate_left 2
                focus (intro w hS; go_simp; first | done | with_reducible rfl | (refine ⟨?_, ?_⟩ <;> with_reducible rfl))
                focus (intro w hS; refine (requal_is (hX3.up hS) (hX5.up hS) rfl).mono ?_; rintro e w2 ⟨rfl, hbl⟩; exact ⟨rfl, btr hS hbl⟩)
                (try simp only [Act.put, List.setIfInBounds_toArray, List.set_cons_zero, List.set_cons_succ])
                iterate 2 (refine seqE_free (v := ?_) rfl (by rfl) ?_ ?_; rotate_left; (focus (intro w; go_simp; try with_reducible rfl)); (try simp only [Act.put, List.setIfInBounds_toArray, List.set_cons_zero, List.set_cons_succ]))
                refine seqE_nil ?_
                intro wz hS
                replace hC14 := hC14.mono hS; replace hC16 := hC16.mono hS; replace hC18 := hC18.mono hS; replace hM15 := hM15.up hS; replace hM17 := hM17.up hS; replace hM19 := hM19.up hS; replace hV13 := hV13.mono hS; replace hX1 := hX1.up hS; replace hX2 := hX2.up hS; replace hX3 := hX3.up hS; replace hX4 := hX4.up hS; replace hX5 := hX5.up hS; replace hbw := btr hbw hS; replace zz := Nat.le_trans zz (Below.size hS); replace hacc := btr hacc hS; clear hS
                go_wp2_with fail
                go_ret
                exact ⟨rfl, hbw⟩
end Go.Proofs.Ytadilppdlbhjnaa
