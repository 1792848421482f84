/- Walks of the solver: blame. -/
import Derived.Test.YtdibfjcmgbpnpaaKC
namespace Go.Proofs.Ytdibfjcmgbpnpaa
set_option linter.unusedSimpArgs false
set_option linter.unusedVariables false
open Go.RowKit

set_option maxRecDepth 100000 in
set_option maxHeartbeats 4000000 in
theorem blame_any {n : Nat} {w : World} {o : Nat → Option Role} {b : Nat} {s : SS} (h : SolAt w o b s) (ht : Tr n s) (hn : n ≤ 20000) (hcl : ∀ (k : Nat) (cl : List Int), s.clauses[k]? = some cl → ∀ y ∈ cl, LOk n y) (hrs : ∀ y ∈ s.lits, s.lv y ≠ 0 → s.rs y = -1 ∨ ∃ k : Nat, s.rs y = k ∧ k < s.clauses.length) {x : Int} (hx : LOk n x) :
    Calls Try.prog 42 #[.pointer (some ⟨b, 0, none⟩), .int .i64 x] w fun e w' => ∃ q cq, e = .returned (.slice q (blame s x).length cq) ∧ w'.ownsRow w.heap.size 3 1 (.slice q (blame s x).length cq) (blame s x).length (iV (blame s x)) ∧ Below w.heap.size w w' := by
 obtain ⟨i0, hi0, hz0, hz1, hz2⟩ := info_parts int_info
 obtain ⟨i1, hi1, hy0, hy1, hy2⟩ := info_parts bool_info'
 obtain ⟨oc, hd, hs⟩ := h.sl
 obtain ⟨N, hN⟩ : ∃ z, n + 1 = z := ⟨_, rfl⟩
 have hvl : s.value.length = N := by rw [ht.vl, hN]
 have hll : s.level.length = N := by rw [ht.ll, hN]
 have hrl : s.reason.length = N := by rw [ht.rl, hN]
 obtain ⟨gv, cv, ev⟩ := hs.value_arr (by omega)
 obtain ⟨ge, ce, ee⟩ := hs.level_arr (by omega)
 obtain ⟨gr, cr, er⟩ := hs.reason_arr (by omega)
 obtain ⟨pm, cm, em⟩ := hs.marks_sl
 obtain ⟨pl, cl, el⟩ := hs.lits_sl
 obtain ⟨pk, ck, ek⟩ := hs.clauses_sl
 obtain ⟨L, hL⟩ : ∃ z, s.lits.length = z := ⟨_, rfl⟩
 obtain ⟨M, hM⟩ : ∃ z, s.marks.length = z := ⟨_, rfl⟩
 obtain ⟨C, hC⟩ : ∃ z, s.clauses.length = z := ⟨_, rfl⟩
 have hLn : L ≤ n := by rw [← hL]; exact ht.len
 rw [hvl] at ev; rw [hll] at ee; rw [hrl] at er; rw [hM] at em; rw [hL] at el; rw [hC] at ek
 obtain ⟨f0, -⟩ := hs.fld 0 (u := hd .value) rfl
 obtain ⟨f1, -⟩ := hs.fld 1 (u := hd .level) rfl
 obtain ⟨f2, -⟩ := hs.fld 2 (u := hd .reason) rfl
 obtain ⟨f3, -⟩ := hs.fld 3 (u := hd .lits) rfl
 obtain ⟨f4, -⟩ := hs.fld 4 (u := hd .marks) rfl
 obtain ⟨f6, -⟩ := hs.fld 6 (u := hd .clauses) rfl
 rw [ev] at f0; rw [ee] at f1; rw [er] at f2; rw [el] at f3; rw [em] at f4; rw [ek] at f6
 have flv : ∀ x, LOk n x → w.cell? ⟨ge, x.natAbs, none⟩ = some (.int .i64 (s.lv x : Nat)) := fun x hx => (hs.cell (r := .level) ee (nV_get (by rw [hll]; have := hx.2; omega))).1
 have frs : ∀ x, LOk n x → w.cell? ⟨gr, x.natAbs, none⟩ = some (.int .i64 (s.rs x)) := fun x hx => (hs.cell (r := .reason) er (iV_get (by rw [hrl]; have := hx.2; omega))).1
 have fli : ∀ i, i < L → ∃ gl, pl = some ⟨gl, 0, none⟩ ∧ w.cell? ⟨gl, i, none⟩ = some (.int .i64 (s.lits.getD i 0)) := by
   intro i hi
   obtain ⟨gl, cl2, e⟩ := hs.lits_arr (by omega)
   have e2 := e
   rw [el] at e
   simp only [Value.slice.injEq] at e
   exact ⟨gl, e.1, (hs.cell (r := .lits) e2 (iV_get (by rw [hL]; exact hi))).1⟩
 have fcl : ∀ k, k < C → ∃ gk p' c', pk = some ⟨gk, 0, none⟩ ∧ w.cell? ⟨gk, k, none⟩ = some (.slice p' (s.clauses.getD k []).length c') ∧ (s.clauses.getD k []).length ≤ 9223372036854775807 ∧ ∀ j, j < (s.clauses.getD k []).length → ∃ g', p' = some ⟨g', 0, none⟩ ∧ w.cell? ⟨g', j, none⟩ = some (.int .i64 ((s.clauses.getD k []).getD j 0)) := by
   intro k hk
   obtain ⟨gk, c2, e⟩ := hs.clauses_arr (by omega)
   have e2 := e
   rw [ek] at e
   simp only [Value.slice.injEq] at e
   obtain ⟨p', c', e'⟩ := hs.cl_sl k
   have hk2 := (hs.cell (r := .clauses) e2 (i := k) (u := hd (.cl k)) (rows_get (fun j => hd (.cl j)) (by omega))).1
   rw [e'] at hk2
   refine ⟨gk, p', c', e.1, hk2, ?_, fun j hj => ?_⟩
   · obtain ⟨_, _, -, h2, h3⟩ := hs.mem.sl (.cl k) rfl
     have h4 : (E s oc hd (.cl k)).length = (s.clauses.getD k []).length := iV_len _
     simp only [maxLen] at h3
     omega
   obtain ⟨g', c3, e3⟩ := hs.cl_arr k (by omega)
   have e4 := e3
   rw [e'] at e3
   simp only [Value.slice.injEq] at e3
   exact ⟨g', e3.1, (hs.cell (r := .cl k) e4 (iV_get hj)).1⟩
 have hcm : ∀ k, k < C → ∀ y ∈ s.clauses.getD k [], LOk n y := by
   intro k hk
   have : s.clauses[k]? = some (s.clauses.getD k []) := by rw [List.getD_eq_getElem?_getD, List.getElem?_eq_getElem (by omega)]; rfl
   exact hcl k _ this
 have hlm : ∀ i, i < L → LOk n (s.lits.getD i 0) := fun i hi => ht.ok _ (by rw [List.getD_eq_getElem?_getD, List.getElem?_eq_getElem (by omega)]; exact List.getElem_mem _)
 obtain ⟨w1, hmk, own1, hg1⟩ := run_makeSlice_full (P := Try.prog) w w.heap.size 37 4 i1 _ 1 Try.underlying37 hi1 hy0 hy1 .i64 .i64 N (by omega) (by rw [hy2]; omega) (by simp only [maxLen]; omega) (Nat.le_refl _)
 have hb1 : Below w.heap.size w w1 := (Below.refl _ w).grown hg1 (Nat.le_refl _) (fun k hk => by cases hk)
 have own1 : w1.ownsRow w.heap.size 4 1 (.slice (some ⟨w.heap.size, 0, none⟩) N N) N (bV (List.replicate N false)) := by
   have e : (madeCells (Value.bool false).cells (N * 1)).toList = bV (List.replicate N false) := by
     rw [Nat.mul_one]
     show (madeCells #[Value.bool false] N).toList = _
     rw [toList_madeCells_one]; unfold bV; rw [List.map_replicate]
   rw [← e]; exact own1
 have hgs : w.heap.size < w1.heap.size := owns_lt own1 (g := w.heap.size) rfl
 obtain ⟨v0, hv0⟩ : ∃ z, x.natAbs = z := ⟨_, rfl⟩
 have hx2 := hx.2
 rw [hv0] at hx2
 have hv0N : (v0 : Int) < (N : Int) := by omega
 have hv0N2 : v0 < N := by omega
 have hw0 : IntKind.i64.wrap (-x) = -x := wrapI (by omega) (by omega)
 have hm0x : (if x < -x then -x else x) = (v0 : Int) := by split <;> omega
 obtain ⟨d0, d0f⟩ := own_load own1 (i := v0) (bV_get (by simp; omega))
 have own1' := own_set own1 v0 (.bool true)
 rw [bV_set] at own1'
 have FLV := Lib.hid flv; have FRS := Lib.hid frs; have FLI := Lib.hid fli; have FCL := Lib.hid fcl; have HCM := Lib.hid hcm; have HLM := Lib.hid hlm
 have HRS := Lib.hid hrs; have HT := Lib.hid ht; have HV0 := Lib.hid hv0; have HB1 := Lib.hid hb1; have HO1 := Lib.hid own1'
 have HF := Lib.hid (And.intro f1 (And.intro f2 (And.intro f3 (And.intro f4 f6))))
 have HLL := Lib.hid hL; have HMM := Lib.hid hM; have HCC := Lib.hid hC; have HVL := Lib.hid hvl; have HX := Lib.hid hx
 clear flv frs fli fcl hcm hlm ht f1 f2 f3 f4 f6 hL hM hC hvl hll hrl own1 own1' hs h hcl ev ee er em el ek hv0 hx hb1 hrs
 go_enter Try.func42, Try.ntmps42
 go_upto_region 3 with fail
 obtain ⟨w2, hw2⟩ : ∃ z, z = w1.setCell ⟨w.heap.size, v0, none⟩ (.bool true) := ⟨_, rfl⟩
 have own1 := HO1.out
 have hb2 : Below w.heap.size w w2 := by rw [hw2]; exact Below.setCell HB1.out (by show w.heap.size ≤ w.heap.size; omega) _
 rw [← hw2] at own1 ⊢
 clear hw2
 have hgs : w.heap.size < w2.heap.size := owns_lt own1 (g := w.heap.size) rfl
 have own2 : (w2.alloc (.cells #[.int .i64 x] 3)).ownsRow w2.heap.size 3 1 (.slice (some ⟨w2.heap.size, 0, none⟩) 1 1) 1 (iV [x]) :=
   ⟨rfl, .inr ⟨w2.heap.size, 1, #[.int .i64 x], rfl, Nat.le_refl _, heap_alloc_new w2 _, Nat.le_refl _, by simp [maxLen], rfl, rfl⟩⟩
 have hb3 : Below w2.heap.size w2 (w2.alloc (.cells #[.int .i64 x] 3)) := by go_grown
 have hm0 : AnMem w (w2.alloc (.cells #[.int .i64 x] 3)) w.heap.size w2.heap.size N (some ⟨w2.heap.size, 0, none⟩) 1 ((List.replicate N false).set v0 true) [x] :=
   ⟨btr hb2 hb3, own_up own1 hb3, own2, hgs, Nat.le_refl _, hb3.size⟩
 go_upto_region 4 with fail
 obtain ⟨w3, hw3⟩ : ∃ z, z = w2.alloc (.cells #[.int .i64 x] 3) := ⟨_, rfl⟩
 rw [← hw3] at hm0 ⊢
 have f3 := oldcell hm0.bl HF.out.2.2.1 (World.block_lt_of_cell? _ _ HF.out.2.2.1)
 obtain ⟨B, hB0⟩ : ∃ z, z = w2.heap.size := ⟨_, rfl⟩
 rw [← hB0] at hm0 ⊢
 have HMA := Lib.hid hm0
 clear hw3 hb2 hb3 own1 own2 hm0 hB0 hmk hg1 d0 d0f hgs
 obtain ⟨R, hR0⟩ : ∃ z, blame s x = z := ⟨_, rfl⟩
 obtain ⟨st0, hst0⟩ : ∃ z, ((List.replicate N false).set v0 true, [x]) = z := ⟨_, rfl⟩
 have hRf : (s.lits.reverse.foldl (bl1 s) st0).2 = R := by rw [← hR0, ← hst0]; unfold blame; rw [HVL.out, HV0.out]
 have hwL : IntKind.i64.wrap ((L : Int) - 1) = (L : Int) - 1 := wrapI (by omega) (by omega)
 have HR0 := Lib.hid hR0; have HST0 := Lib.hid hst0; have HRF := Lib.hid hRf
 clear hR0 hst0 hRf
 go_wp2_with fail
 go_loopg [6, 7] L (fun G s6 s7 wr => ∃ (K : Nat) (z : Int) (st : List Bool × List Int) (q : Option Addr) (c : Nat), s7 = .int .i64 z ∧ z = (K : Int) - 1 ∧ s6 = .slice q st.2.length c ∧ K ≤ L ∧ G = K ∧ st = (s.lits.drop K).reverse.foldl (bl1 s) st0 ∧ st.1.length = N ∧ st.2.length ≤ 1 + (L - K) ∧ AnMem w wr w.heap.size B N q c st.1 st.2)
 case atStart => exact ⟨L, _, st0, some ⟨B, 0, none⟩, 1, by rfl, rfl, by rw [← HST0.out]; rfl, Nat.le_refl _, rfl, by rw [← HLL.out, List.drop_length]; rfl, by rw [← HST0.out]; simp, by rw [← HST0.out]; simp, by rw [← HST0.out]; exact HMA.out⟩
 case round =>
  clear HMA
  obtain ⟨K, z, st, q, c, rfl, hz, rfl, hK, hG, hst, hsl, hol, hm⟩ := hrel
  obtain ⟨sn, O2⟩ := st
  dsimp only at hm hsl hol ⊢
  have HG := Lib.hid hG; have HST := Lib.hid hst; clear hG hst f3
  cases K with
  | zero =>
   have hz0 : z < 0 := by omega
   rw [List.drop_zero] at HST
   have HM := Lib.hid hm; clear hm
   go_wp2_with fail
   go_ret
   have hO : O2 = R := by have := HRF.out; rw [← HST.out] at this; exact this
   rw [HR0.out, ← hO]
   exact ⟨q, c, rfl, own_weaken HM.out.ln (by have := HM.out.l1; have := HM.out.l2; omega), HM.out.bl⟩
  | succ K =>
   obtain rfl : z = (K : Int) := by omega
   clear hz
   have hKL : K < L := by omega
   obtain ⟨y, hy⟩ : ∃ z, s.lits.getD K 0 = z := ⟨_, rfl⟩
   obtain ⟨gl, rfl, cy⟩ := FLI.out K hKL
   have hyo := HLM.out K hKL
   have hym : y ∈ s.lits := by rw [← hy, List.getD_eq_getElem?_getD, List.getElem?_eq_getElem (by rw [HLL.out]; exact hKL)]; exact List.getElem_mem _
   rw [hy] at cy hyo
   have hdrop : s.lits.drop K = y :: s.lits.drop (K + 1) := by
     rw [List.drop_eq_getElem_cons (by rw [HLL.out]; exact hKL)]
     congr 1
     rw [← hy, List.getD_eq_getElem?_getD, List.getElem?_eq_getElem (by rw [HLL.out]; exact hKL)]; rfl
   have hstep : (s.lits.drop K).reverse.foldl (bl1 s) st0 = bl1 s (sn, O2) y := by
     rw [hdrop, List.reverse_cons, List.foldl_append, ← HST.out]; rfl
   replace cy := oldcell hm.bl cy (World.block_lt_of_cell? _ _ cy)
   obtain ⟨v, hv⟩ : ∃ z, y.natAbs = z := ⟨_, rfl⟩
   have hyo2 := hyo.2
   have flv := FLV.out y hyo
   have frs := FRS.out y hyo
   obtain ⟨lx, hlx⟩ : ∃ z, s.lv y = z := ⟨_, rfl⟩
   obtain ⟨rx, hrx⟩ : ∃ z, s.rs y = z := ⟨_, rfl⟩
   rw [hv] at hyo2 flv frs
   rw [hlx] at flv
   rw [hrx] at frs
   have flvw := oldcell hm.bl flv (World.block_lt_of_cell? _ _ flv)
   have frsw := oldcell hm.bl frs (World.block_lt_of_cell? _ _ frs)
   have f1 := oldcell hm.bl HF.out.1 (World.block_lt_of_cell? _ _ HF.out.1)
   have f2 := oldcell hm.bl HF.out.2.1 (World.block_lt_of_cell? _ _ HF.out.2.1)
   have f3 := oldcell hm.bl HF.out.2.2.1 (World.block_lt_of_cell? _ _ HF.out.2.2.1)
   have f6 := oldcell hm.bl HF.out.2.2.2.2 (World.block_lt_of_cell? _ _ HF.out.2.2.2.2)
   have hvN : (v : Int) < (N : Int) := by omega
   have hvN2 : v < N := by omega
   have hKi : (K : Int) < (L : Int) := by omega
   have hK0 : (0 : Int) ≤ (K : Int) := by omega
   obtain ⟨z1, hz1⟩ : ∃ z1, (K : Int) - 1 = z1 := ⟨_, rfl⟩
   have hwK : IntKind.i64.wrap ((K : Int) - 1) = z1 := by rw [wrapI (by omega) (by omega)]; exact hz1
   have HZ1 := Lib.hid hz1; clear hz1
   obtain ⟨sc, scf⟩ := own_load hm.sn (i := v) (bV_get (by omega))
   obtain ⟨sb, hsb⟩ : ∃ z, sn.getD v false = z := ⟨_, rfl⟩
   rw [hsb] at sc
   have hwy : IntKind.i64.wrap (-y) = -y := wrapI (by omega) (by omega)
   have hmy : (if y < -y then -y else y) = (v : Int) := by split <;> omega
   have hrsy := HRS.out y hym
   rw [hlx, hrx] at hrsy
   have HY := Lib.hid hy; have HV := Lib.hid hv; have HLX := Lib.hid hlx; have HRX := Lib.hid hrx; have HSB := Lib.hid hsb; have HSTP := Lib.hid hstep; have HM := Lib.hid hm; have HRY := Lib.hid hrsy
   clear hy hv hlx hrx hsb hstep hm flv frs hdrop hym hyo hrsy
   cases sb with
   | false =>
    have hst' : bl1 s (sn, O2) y = (sn, O2) := by unfold bl1; rw [if_pos (.inl (by rw [HV.out]; show ¬ sn.getD v false = true; rw [HSB.out]; intro q; cases q))]
    go_wp2_with fail
    go_roundg K
    case measure => (have := HG.out; omega)
    case rel => exact ⟨K, z1, (sn, O2), q, c, by first | rfl | go_num, HZ1.out.symm, rfl, by omega, rfl, by rw [HSTP.out, hst'], hsl, by dsimp only; omega, HM.out⟩
   | true =>
    by_cases hl0 : lx = 0
    · subst hl0
      have hst' : bl1 s (sn, O2) y = (sn, O2) := by unfold bl1; rw [if_pos (.inr HLX.out)]
      go_wp2_with fail
      go_roundg K
      case measure => (have := HG.out; omega)
      case rel => exact ⟨K, z1, (sn, O2), q, c, by first | rfl | go_num, HZ1.out.symm, rfl, by omega, rfl, by rw [HSTP.out, hst'], hsl, by dsimp only; omega, HM.out⟩
    · have hl0i : ¬ (lx : Int) = 0 := by omega
      have hl0b : ((lx : Int) == 0) = false := by simpa using hl0i
      have hnot : ¬ (¬ sn.getD y.natAbs false = true ∨ s.lv y = 0) := by
        rintro (e | e)
        · rw [HV.out] at e; exact e HSB.out
        · rw [HLX.out] at e; exact hl0 e
      have HNOT := Lib.hid hnot; clear hnot
      rcases HRY.out hl0 with rfl | ⟨kc, rfl, hkc⟩
      · have hst' : bl1 s (sn, O2) y = (sn, O2 ++ [y]) := by unfold bl1; rw [if_neg HNOT.out, if_pos HRX.out]
        obtain ⟨q5, c5, w6, hrun, hm6⟩ := HM.out.app hi0 hz0 hz1 hz2 y (by omega)
        have HM6 := Lib.hid hm6; clear hm6
        go_wp2_with (first | (at_builtin; go_must (refine wpList_run rfl (exec_app rfl rfl rfl hrun) ?_)))
        go_roundg K
        case measure => (have := HG.out; omega)
        case rel => exact ⟨K, z1, (sn, O2 ++ [y]), q5, c5, by first | rfl | go_num, HZ1.out.symm, by simp, by omega, rfl, by rw [HSTP.out, hst'], hsl, by simp; omega, HM6.out⟩
      · have hkb : ((kc : Int) == -1) = false := (beq_eq_false_iff_ne (α := Int)).2 (by omega)
        have hkn : ¬ (kc : Int) = -1 := by omega
        rw [HCC.out] at hkc
        have hst' : bl1 s (sn, O2) y = ((s.clauses.getD kc []).foldl (fun b z => b.set z.natAbs true) sn, O2) := by
          unfold bl1; rw [if_neg HNOT.out, if_neg (by rw [HRX.out]; exact hkn), HRX.out]
          rw [show ((kc : Int)).toNat = kc by omega]
        obtain ⟨gk2, p', c', rfl, c6, hlcm, celem⟩ := FCL.out kc hkc
        have hclm := HCM.out kc hkc
        obtain ⟨cl, hcl⟩ : ∃ z, s.clauses.getD kc [] = z := ⟨_, rfl⟩
        rw [hcl] at c6 celem hclm hlcm hst'
        obtain ⟨lc, hlc⟩ : ∃ z, cl.length = z := ⟨_, rfl⟩
        rw [hlc] at c6 celem hlcm
        replace c6 := oldcell HM.out.bl c6 (World.block_lt_of_cell? _ _ c6)
        have hki : (kc : Int) < (C : Int) := by omega
        have HCE := Lib.hid celem; have HCLM := Lib.hid hclm; have HLC := Lib.hid hlc; have HST2 := Lib.hid hst'
        clear celem hclm hlc hcl hst'
        go_upto_region 12 with fail
        refine wp_region_seqE (fun x => Below wr.heap.size wr x) (.one 0 1 (.one 1 1 (.one 2 1 (.one 3 0 (.one 4 1 (.one 5 1 (.one 6 1 (.one 7 1 (.one 8 0 (.one 9 1 (.one 10 1 (.one 11 0 (.one 12 1 (.one 13 0 (.one 14 1 (.one 15 1 .nil)))))))))))))))) (by kernel_rfl) (by kernel_rfl) (by kernel_rfl) (Below.drew (Below.refl _ _)) ?_
        iterate 16 (first | (refine seqE_free (v := ?_) rfl (by rfl) ?_ ?_; rotate_left; (focus (intro w; go_simp; try with_reducible rfl)); (try simp only [Act.put, List.setIfInBounds_toArray, List.set_cons_zero, List.set_cons_succ])) | (refine seqE_pure (v := ?_) rfl (by rfl) ?_ ?_; rotate_left; (focus (intro w hS; have f6 := oldcell hS f6 (World.block_lt_of_cell? _ _ f6); have f2 := oldcell hS f2 (World.block_lt_of_cell? _ _ f2); have frsw := oldcell hS frsw (World.block_lt_of_cell? _ _ frsw); have c6 := oldcell hS c6 (World.block_lt_of_cell? _ _ c6); go_simp; try with_reducible rfl)); (try simp only [Act.put, List.setIfInBounds_toArray, List.set_cons_zero, List.set_cons_succ])))
        refine seqE_nil ?_
        intro w5 hS
        have hm5 := HM.out.up hS
        have HM5 := Lib.hid hm5
        have hfl : ∀ (l : List Int) (b : List Bool), (l.foldl (fun b z => b.set z.natAbs true) b).length = b.length := by
          intro l
          induction l with
          | nil => intro b; rfl
          | cons a l ih => intro b; rw [List.foldl_cons, ih, List.length_set]
        have HFL := Lib.hid hfl
        clear hm5 HM hfl f1 f2 f3 f6 c6 sc scf flvw frsw cy
        go_wp2_with fail
        go_loopg [94] lc (fun G2 s94 wx => ∃ (j : Nat), s94 = .int .i64 j ∧ j ≤ lc ∧ G2 = lc - j ∧ AnMem w wx w.heap.size B N q c ((cl.take j).foldl (fun b z => b.set z.natAbs true) sn) O2)
        case atStart => exact ⟨0, rfl, by omega, rfl, HM5.out⟩
        case round =>
         obtain ⟨j, rfl, hj, hG2, hm⟩ := hrel
         clear HM5
         have HG2 := Lib.hid hG2; clear hG2
         by_cases hlt : j < lc
         case pos =>
          obtain ⟨x1, hx1⟩ : ∃ z, cl.getD j 0 = z := ⟨_, rfl⟩
          have hxo : LOk n x1 := HCLM.out x1 (by rw [← hx1, List.getD_eq_getElem?_getD, List.getElem?_eq_getElem (by rw [HLC.out]; exact hlt)]; exact List.getElem_mem _)
          obtain ⟨g7, rfl, c7⟩ := HCE.out j hlt
          rw [hx1] at c7
          replace c7 := oldcell hm.bl c7 (World.block_lt_of_cell? _ _ c7)
          obtain ⟨v1, hv1⟩ : ∃ z, x1.natAbs = z := ⟨_, rfl⟩
          have hxo2 := hxo.2
          rw [hv1] at hxo2
          have hvN3 : (v1 : Int) < (N : Int) := by omega
          have hvN4 : v1 < N := by omega
          have hjl : (j : Int) < (lc : Int) := by omega
          have hw1x : IntKind.i64.wrap (-x1) = -x1 := wrapI (by omega) (by omega)
          have hm1x : (if x1 < -x1 then -x1 else x1) = (v1 : Int) := by split <;> omega
          obtain ⟨sc, scf⟩ := own_load hm.sn (i := v1) (bV_get (by rw [HFL.out]; omega))
          have hmk := hm.mark v1
          have hstep : (cl.take (j + 1)).foldl (fun b z => b.set z.natAbs true) sn = ((cl.take j).foldl (fun b z => b.set z.natAbs true) sn).set v1 true := by
            rw [take_getD_succ (by rw [HLC.out]; exact hlt), List.foldl_append, hx1, ← hv1]; rfl
          rw [← hstep] at hmk
          have HMK := Lib.hid hmk
          clear hmk hstep hm hx1 hxo hv1
          go_wp2_with fail
          go_roundg (lc - (j + 1))
          case measure => (have := HG2.out; omega)
          case rel => exact ⟨j + 1, by go_num, by omega, rfl, HMK.out⟩
         case neg =>
          obtain rfl : j = lc := by omega
          rw [← HLC.out, List.take_length] at hm
          have HM7 := Lib.hid hm; clear hm
          go_wp2_with fail
          go_roundg K
          case measure => (have := HG.out; omega)
          case rel => exact ⟨K, z1, (cl.foldl (fun b z => b.set z.natAbs true) sn, O2), q, c, by first | rfl | go_num, HZ1.out.symm, rfl, by omega, rfl, by rw [HSTP.out, HST2.out], by dsimp only; rw [HFL.out]; exact hsl, by dsimp only; omega, HM7.out⟩
end Go.Proofs.Ytdibfjcmgbpnpaa
