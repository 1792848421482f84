/- Walks of the solver: analyze. -/
import Derived.Test.YtdibfjcmgbpnpaaKB
import Derived.Test.YtdibfjcmgbpnpaaSG
import Derived.Laws.OwnMore
namespace Go.Proofs.Ytdibfjcmgbpnpaa
set_option linter.unusedSimpArgs false
set_option linter.unusedVariables false
open Go.RowKit

def bV (l : List Bool) : List Value := l.map Value.bool
theorem bV_get {l : List Bool} {i : Nat} (h : i < l.length) : (bV l)[i]? = some (.bool (l.getD i false)) := by
  unfold bV; rw [List.getElem?_map, List.getD_eq_getElem?_getD, List.getElem?_eq_getElem h]; rfl
theorem bV_set (l : List Bool) (i : Nat) (x : Bool) : (bV l).set i (.bool x) = bV (l.set i x) := by unfold bV; rw [List.map_set]
theorem bool_info' : (Try.prog.info? 4).map (fun i => (i.zero, i.size, i.bytes)) = some (some (.bool false), 1, 1) := by kernel_rfl
theorem own_far {w : World} {B : Nat} {e : TypeId} {E n : Nat} {v : Value} {xs : List Value} (h : w.ownsRow B e E v n xs) {g : Nat} (hg : g < B) (i : Nat) (u : Value) : (w.setCell ⟨g, i, none⟩ u).ownsRow B e E v n xs :=
  owns_keep h fun g' hg' => setCell_other w _ u (fun q => by have q' : g' = g := q; have := owns_ge h hg'; omega)
theorem own_weaken {w : World} {B B' : Nat} {e : TypeId} {E n : Nat} {v : Value} {xs : List Value} (h : w.ownsRow B e E v n xs) (hB : B' ≤ B) : w.ownsRow B' e E v n xs := by
  refine ⟨h.1, ?_⟩
  rcases h.2 with q | ⟨g', cap, cur, rfl, h1, h2⟩
  · exact .inl q
  · exact .inr ⟨g', cap, cur, rfl, Nat.le_trans hB h1, h2⟩
/-- what a search over the trail holds in memory of its own: the marks and the literals found -/
structure AnMem (w0 wr : World) (gs B N : Nat) (q : Option Addr) (c : Nat) (seen : List Bool) (O : List Int) : Prop where
  bl : Below w0.heap.size w0 wr
  sn : wr.ownsRow w0.heap.size 4 1 (.slice (some ⟨gs, 0, none⟩) N N) N (bV seen)
  ln : wr.ownsRow B 3 1 (.slice q O.length c) O.length (iV O)
  l1 : gs < B
  l2 : w0.heap.size ≤ gs
  l3 : B ≤ wr.heap.size
section
variable {w0 wr w2 : World} {gs B N : Nat} {q : Option Addr} {c : Nat} {seen : List Bool} {O : List Int}
theorem AnMem.up (h : AnMem w0 wr gs B N q c seen O) (hB : Below wr.heap.size wr w2) : AnMem w0 w2 gs B N q c seen O :=
  ⟨btr h.bl hB, own_up h.sn hB, own_up h.ln hB, h.l1, h.l2, Nat.le_trans h.l3 hB.size⟩
theorem AnMem.mark (h : AnMem w0 wr gs B N q c seen O) (v : Nat) : AnMem w0 (wr.setCell ⟨gs, v, none⟩ (.bool true)) gs B N q c (seen.set v true) O :=
  ⟨Below.setCell h.bl (by have := h.l2; exact this) _, by rw [← bV_set]; exact own_set h.sn v _, own_far h.ln h.l1 v _, h.l1, h.l2, by rw [World.size_setCell]; exact h.l3⟩
theorem AnMem.set (h : AnMem w0 wr gs B N q c seen O) {gl : Nat} (hq : q = some ⟨gl, 0, none⟩) (i : Nat) (x : Int) : AnMem w0 (wr.setCell ⟨gl, i, none⟩ (.int .i64 x)) gs B N q c seen (O.set i x) := by
  have hge := owns_ge h.ln (g := gl) (by rw [hq]; rfl)
  have h1 := h.l1; have h2 := h.l2
  refine ⟨Below.setCell h.bl (by show w0.heap.size ≤ gl; omega) _, owns_keep h.sn fun g hg => setCell_other wr _ _ (fun e => ?_), ?_, h.l1, h.l2, by rw [World.size_setCell]; exact h.l3⟩
  · simp only [Value.ownBlock, Option.some.injEq] at hg
    have e' : g = gl := e
    omega
  · subst hq
    rw [List.length_set, ← iV_set]; exact own_set h.ln i _
theorem AnMem.app {i0 : TypeInfo} (hi0 : Try.prog.info? 3 = some i0) (hz0 : i0.zero = some (.int .i64 0)) (hz1 : i0.size = 1) (hz2 : i0.bytes = 8) (h : AnMem w0 wr gs B N q c seen O) (x : Int) (hn : O.length ≤ 2000000) :
    ∃ q' c' w', (Builtin.append_ #[29, 29] 29 #[.slice q O.length c, .slice (some ⟨wr.heap.size, 0, none⟩) 1 1]).run Try.prog (wr.alloc (.cells #[.int .i64 x] 3)) = .ok (.slice q' (O.length + 1) c') w' ∧ AnMem w0 w' gs B N q' c' seen (O ++ [x]) := by
  obtain ⟨q', c', w', h1, h2, h3⟩ := own_app1 hi0 hz0 hz1 hz2 h.ln x (Below.refl _ _) (Below.refl _ _) hn h.l3
  have hl1 := h.l1; have hl2 := h.l2
  refine ⟨q', c', w', h1, h.bl.trans (h3.mono (by omega)), owns_keep h.sn fun g hg => h3.block g (by simp only [Value.ownBlock, Option.some.injEq] at hg; omega), ?_, h.l1, h.l2, Nat.le_trans h.l3 h3.size⟩
  rw [List.length_append, List.length_singleton, ← iV_snoc]; exact h2
end

set_option maxRecDepth 100000 in
set_option maxHeartbeats 4000000 in
theorem analyze_any {n : Nat} {w : World} {o : Nat → Option Role} {b : Nat} {s : SS} (h : SolAt w o b s) (ht : Tr n s) (hn : n ≤ 20000) (hcl : ∀ (k : Nat) (cl : List Int), s.clauses[k]? = some cl → ∀ y ∈ cl, LOk n y) {k : Nat} (hrun : AnRuns s (s.lits.length + 1) k (List.replicate s.value.length false, [0], 0, 0) s.lits.length 0) :
    Calls Try.prog 40 #[.pointer (some ⟨b, 0, none⟩), .int .i64 k] w fun e w' => ∃ q cq, e = .returned (.tuple #[.slice q (analyze s k).1.length cq, .int .i64 (analyze s k).2]) ∧ w'.ownsRow w.heap.size 3 1 (.slice q (analyze s k).1.length cq) (analyze s k).1.length (iV (analyze s k).1) ∧ Below w.heap.size w w' := by
 obtain ⟨i0, hi0, hz0, hz1, hz2⟩ := info_parts int_info
 obtain ⟨i1, hi1, hy0, hy1, hy2⟩ := info_parts bool_info'
 obtain ⟨oc, hd, hs⟩ := h.sl
 obtain ⟨N, hN⟩ : ∃ z, n + 1 = z := ⟨_, rfl⟩
 have hvl : s.value.length = N := by rw [ht.vl, hN]
 have hll : s.level.length = N := by rw [ht.ll, hN]
 have hrl : s.reason.length = N := by rw [ht.rl, hN]
 obtain ⟨gv, cv, ev⟩ := hs.value_arr (by omega)
 obtain ⟨ge, ce, ee⟩ := hs.level_arr (by omega)
 obtain ⟨gr, cr, er⟩ := hs.reason_arr (by omega)
 obtain ⟨pm, cm, em⟩ := hs.marks_sl
 obtain ⟨pl, cl, el⟩ := hs.lits_sl
 obtain ⟨pk, ck, ek⟩ := hs.clauses_sl
 obtain ⟨L, hL⟩ : ∃ z, s.lits.length = z := ⟨_, rfl⟩
 obtain ⟨M, hM⟩ : ∃ z, s.marks.length = z := ⟨_, rfl⟩
 obtain ⟨C, hC⟩ : ∃ z, s.clauses.length = z := ⟨_, rfl⟩
 have hLn : L ≤ n := by rw [← hL]; exact ht.len
 rw [hvl] at ev; rw [hll] at ee; rw [hrl] at er; rw [hM] at em; rw [hL] at el; rw [hC] at ek
 obtain ⟨f0, -⟩ := hs.fld 0 (u := hd .value) rfl
 obtain ⟨f1, -⟩ := hs.fld 1 (u := hd .level) rfl
 obtain ⟨f2, -⟩ := hs.fld 2 (u := hd .reason) rfl
 obtain ⟨f3, -⟩ := hs.fld 3 (u := hd .lits) rfl
 obtain ⟨f4, -⟩ := hs.fld 4 (u := hd .marks) rfl
 obtain ⟨f6, -⟩ := hs.fld 6 (u := hd .clauses) rfl
 rw [ev] at f0; rw [ee] at f1; rw [er] at f2; rw [el] at f3; rw [em] at f4; rw [ek] at f6
 have flv : ∀ x, LOk n x → w.cell? ⟨ge, x.natAbs, none⟩ = some (.int .i64 (s.lv x : Nat)) := fun x hx => (hs.cell (r := .level) ee (nV_get (by rw [hll]; have := hx.2; omega))).1
 have frs : ∀ x, LOk n x → w.cell? ⟨gr, x.natAbs, none⟩ = some (.int .i64 (s.rs x)) := fun x hx => (hs.cell (r := .reason) er (iV_get (by rw [hrl]; have := hx.2; omega))).1
 have fli : ∀ i, i < L → ∃ gl, pl = some ⟨gl, 0, none⟩ ∧ w.cell? ⟨gl, i, none⟩ = some (.int .i64 (s.lits.getD i 0)) := by
   intro i hi
   obtain ⟨gl, cl2, e⟩ := hs.lits_arr (by omega)
   have e2 := e
   rw [el] at e
   simp only [Value.slice.injEq] at e
   exact ⟨gl, e.1, (hs.cell (r := .lits) e2 (iV_get (by rw [hL]; exact hi))).1⟩
 have fcl : ∀ k, k < C → ∃ gk p' c', pk = some ⟨gk, 0, none⟩ ∧ w.cell? ⟨gk, k, none⟩ = some (.slice p' (s.clauses.getD k []).length c') ∧ (s.clauses.getD k []).length ≤ 9223372036854775807 ∧ ∀ j, j < (s.clauses.getD k []).length → ∃ g', p' = some ⟨g', 0, none⟩ ∧ w.cell? ⟨g', j, none⟩ = some (.int .i64 ((s.clauses.getD k []).getD j 0)) := by
   intro k hk
   obtain ⟨gk, c2, e⟩ := hs.clauses_arr (by omega)
   have e2 := e
   rw [ek] at e
   simp only [Value.slice.injEq] at e
   obtain ⟨p', c', e'⟩ := hs.cl_sl k
   have hk2 := (hs.cell (r := .clauses) e2 (i := k) (u := hd (.cl k)) (rows_get (fun j => hd (.cl j)) (by omega))).1
   rw [e'] at hk2
   refine ⟨gk, p', c', e.1, hk2, ?_, fun j hj => ?_⟩
   · obtain ⟨_, _, -, h2, h3⟩ := hs.mem.sl (.cl k) rfl
     have h4 : (E s oc hd (.cl k)).length = (s.clauses.getD k []).length := iV_len _
     simp only [maxLen] at h3
     omega
   obtain ⟨g', c3, e3⟩ := hs.cl_arr k (by omega)
   have e4 := e3
   rw [e'] at e3
   simp only [Value.slice.injEq] at e3
   exact ⟨g', e3.1, (hs.cell (r := .cl k) e4 (iV_get hj)).1⟩
 have hcm : ∀ k, k < C → ∀ y ∈ s.clauses.getD k [], LOk n y := by
   intro k hk
   have : s.clauses[k]? = some (s.clauses.getD k []) := by rw [List.getD_eq_getElem?_getD, List.getElem?_eq_getElem (by omega)]; rfl
   exact hcl k _ this
 have hlm : ∀ i, i < L → LOk n (s.lits.getD i 0) := fun i hi => ht.ok _ (by rw [List.getD_eq_getElem?_getD, List.getElem?_eq_getElem (by omega)]; exact List.getElem_mem _)
 obtain ⟨w1, hmk, own1, hg1⟩ := run_makeSlice_full (P := Try.prog) w w.heap.size 37 4 i1 _ 1 Try.underlying37 hi1 hy0 hy1 .i64 .i64 N (by omega) (by rw [hy2]; omega) (by simp only [maxLen]; omega) (Nat.le_refl _)
 have hb1 : Below w.heap.size w w1 := (Below.refl _ w).grown hg1 (Nat.le_refl _) (fun k hk => by cases hk)
 have own1 : w1.ownsRow w.heap.size 4 1 (.slice (some ⟨w.heap.size, 0, none⟩) N N) N (bV (List.replicate N false)) := by
   have e : (madeCells (Value.bool false).cells (N * 1)).toList = bV (List.replicate N false) := by
     rw [Nat.mul_one]
     show (madeCells #[Value.bool false] N).toList = _
     rw [toList_madeCells_one]; unfold bV; rw [List.map_replicate]
   rw [← e]; exact own1
 have hgs : w.heap.size < w1.heap.size := owns_lt own1 (g := w.heap.size) rfl
 have own2 : (w1.alloc (.cells #[.int .i64 0] 3)).ownsRow w1.heap.size 3 1 (.slice (some ⟨w1.heap.size, 0, none⟩) 1 1) 1 (iV [0]) :=
   ⟨rfl, .inr ⟨w1.heap.size, 1, #[.int .i64 0], rfl, Nat.le_refl _, heap_alloc_new w1 _, Nat.le_refl _, by simp [maxLen], rfl, rfl⟩⟩
 have hb2 : Below w1.heap.size w1 (w1.alloc (.cells #[.int .i64 0] 3)) := by go_grown
 have hm0 : AnMem w (w1.alloc (.cells #[.int .i64 0] 3)) w.heap.size w1.heap.size N (some ⟨w1.heap.size, 0, none⟩) 1 (List.replicate N false) [0] :=
   ⟨btr hb1 hb2, own_up own1 hb2, own2, hgs, Nat.le_refl _, hb2.size⟩
 have FLV := Lib.hid flv; have FRS := Lib.hid frs; have FLI := Lib.hid fli; have FCL := Lib.hid fcl; have HCM := Lib.hid hcm; have HLM := Lib.hid hlm
 have HM0 := Lib.hid hm0; have HRUN := Lib.hid hrun; have HT := Lib.hid ht
 have HF := Lib.hid (And.intro f1 (And.intro f2 (And.intro f3 (And.intro f4 f6))))
 have HLL := Lib.hid hL; have HMM := Lib.hid hM; have HCC := Lib.hid hC; have HVL := Lib.hid hvl
 have f3' := oldcell hb1 f3 (World.block_lt_of_cell? _ _ f3)
 clear flv frs fli fcl hcm hlm hm0 hrun ht f1 f2 f3 f4 f6 hL hM hC hvl hll hrl own1 own2 hs h hcl ev ee er em el ek
 go_enter Try.func40, Try.ntmps40
 go_upto_region 2 with fail
 go_upto_region 4 with fail
 obtain ⟨w2, hw2⟩ : ∃ z, z = w1.alloc (.cells #[.int .i64 0] 3) := ⟨_, rfl⟩
 have hm0 := HM0.out
 rw [← hw2] at hm0 ⊢
 have f3 := oldcell hm0.bl HF.out.2.2.1 (World.block_lt_of_cell? _ _ HF.out.2.2.1)
 have hrun := HRUN.out
 rw [HVL.out, HLL.out] at hrun
 have hR : anal s (L + 1) k (List.replicate N false, [0], 0, 0) L 0 = analyze s k := by unfold analyze; rw [HVL.out, HLL.out]
 obtain ⟨R, hR0⟩ : ∃ z, analyze s k = z := ⟨_, rfl⟩
 rw [hR0] at hR
 have HR0 := Lib.hid hR0
 clear HM0 HRUN hw2 hmk hg1 hb1 hb2 f3' hR0
 go_wp2_with fail
 clear f3
 have HMA := Lib.hid hm0; have HRN := Lib.hid hrun; have HRR := Lib.hid hR
 clear hm0 hrun hR
 obtain ⟨B, hB0⟩ : ∃ z, z = w1.heap.size := ⟨_, rfl⟩
 rw [← hB0] at HMA ⊢
 have HB0 := Lib.hid hB0; clear hB0
 go_loopg [1, 7, 8, 9, 10, 11] (L + 1) (fun G s1 s7 s8 s9 s10 s11 wr => ∃ (k : Nat) (seen : List Bool) (O : List Int) (op bk i : Nat) (p : Int) (q : Option Addr) (c : Nat), s1 = .int .i64 k ∧ s7 = .slice q O.length c ∧ s8 = .int .i64 op ∧ s9 = .int .i64 bk ∧ s10 = .int .i64 i ∧ s11 = .int .i64 p ∧ AnMem w wr w.heap.size B N q c seen O ∧ AnRuns s G k (seen, O, op, bk) i p ∧ anal s G k (seen, O, op, bk) i p = R ∧ -1000000 ≤ p ∧ p ≤ 1000000)
 case atStart => exact ⟨k, _, _, 0, 0, L, 0, _, _, rfl, rfl, rfl, rfl, rfl, rfl, HMA.out, HRN.out, HRR.out, by omega, by omega⟩
 case round =>
  clear HMA HRN HRR
  obtain ⟨k, seen, O, op, bk, i, p, q, c, rfl, rfl, rfl, rfl, rfl, rfl, hm, hrun, hR, hp1, hp2⟩ := hrel
  cases gk with
  | zero => exact absurd hrun id
  | succ G =>
  obtain ⟨hk, hi, -, ⟨seen1, O1, op1, to1, efold, hsl1, hop1, hop2, hol1, hj⟩, hnext⟩ := hrun
  rw [HCC.out] at hk
  rw [HLL.out] at hi hop2
  obtain ⟨cl, hcl⟩ : ∃ z, s.clauses.getD k [] = z := ⟨_, rfl⟩
  obtain ⟨gk2, p', c', rfl, c6, hlcm, celem⟩ := FCL.out k hk
  have hclm := HCM.out k hk
  rw [hcl] at c6 celem hclm efold hnext hlcm
  obtain ⟨lc, hlc⟩ : ∃ z, cl.length = z := ⟨_, rfl⟩
  rw [hlc] at c6 celem hlcm
  replace c6 := oldcell hm.bl c6 (World.block_lt_of_cell? _ _ c6)
  have f6 := oldcell hm.bl HF.out.2.2.2.2 (World.block_lt_of_cell? _ _ HF.out.2.2.2.2)
  have hM2 := Lib.hid hm; have HR := Lib.hid hR; have HNX := Lib.hid hnext; have HEF := Lib.hid efold; have HSL1 := Lib.hid hsl1; have HCE := Lib.hid celem; have HCLM := Lib.hid hclm; have HLC := Lib.hid hlc; have HCL := Lib.hid hcl; have HJ := Lib.hid hj; have HOL := Lib.hid hol1
  clear hm hR hnext efold hsl1 celem hclm hlc hcl hj hol1
  have hki : (k : Int) < (C : Int) := by omega
  go_wp2_with fail
  go_loopg [37, 7, 8, 9] lc (fun G2 s37 s7 s8 s9 wx => ∃ (j : Nat) (st : List Bool × List Int × Nat × Nat) (q : Option Addr) (c : Nat), s37 = .int .i64 j ∧ s7 = .slice q st.2.1.length c ∧ s8 = .int .i64 (st.2.2.1 : Nat) ∧ s9 = .int .i64 (st.2.2.2 : Nat) ∧ j ≤ lc ∧ G2 = lc - j ∧ st = (cl.take j).foldl (an1 s p) (seen, O, op, bk) ∧ AnMem w wx w.heap.size B N q c st.1 st.2.1)
  case atStart => exact ⟨0, _, q, c, rfl, rfl, rfl, rfl, by omega, rfl, rfl, hM2.out⟩
  case round =>
   clear hM2
   obtain ⟨j, st, q, c, rfl, rfl, rfl, rfl, hj, hG2, hst, hm⟩ := hrel
   clear c6 f6
   have HG2 := Lib.hid hG2
   clear hG2
   by_cases hlt : j < lc
   case pos =>
    obtain ⟨sn, O2, op2, bk2⟩ := st
    dsimp only at hm ⊢
    have hg := an_grow s p (cl.drop j) (sn, O2, op2, bk2)
    rw [hst, ← List.foldl_append, List.take_append_drop, HEF.out, ← hst] at hg
    dsimp only at hg
    obtain ⟨hg1, hg2, hg3⟩ := hg
    rw [List.length_cons] at hg2
    have hsl1 := HSL1.out
    rw [HVL.out] at hsl1
    have hol1 := HOL.out
    rw [HVL.out] at hol1
    obtain ⟨x, hx⟩ : ∃ z, cl.getD j 0 = z := ⟨_, rfl⟩
    have hxo : LOk n x := HCLM.out x (by rw [← hx, List.getD_eq_getElem?_getD, List.getElem?_eq_getElem (by rw [HLC.out]; exact hlt)]; exact List.getElem_mem _)
    have hstep : ((cl.take (j + 1)).foldl (an1 s p) (seen, O, op, bk)) = an1 s p (sn, O2, op2, bk2) x := by
      rw [take_getD_succ (by rw [HLC.out]; exact hlt), List.foldl_append, ← hst, hx]; rfl
    obtain ⟨g7, rfl, c7⟩ := HCE.out j hlt
    rw [hx] at c7
    replace c7 := oldcell hm.bl c7 (World.block_lt_of_cell? _ _ c7)
    obtain ⟨v, hv⟩ : ∃ z, x.natAbs = z := ⟨_, rfl⟩
    have hxo2 := hxo.2
    have flv := FLV.out x hxo
    obtain ⟨lx, hlx⟩ : ∃ z, s.lv x = z := ⟨_, rfl⟩
    rw [hv] at hxo2 flv
    rw [hlx] at flv
    have flvw := oldcell hm.bl flv (World.block_lt_of_cell? _ _ flv)
    have f1 := oldcell hm.bl HF.out.1 (World.block_lt_of_cell? _ _ HF.out.1)
    have f4 := oldcell hm.bl HF.out.2.2.2.1 (World.block_lt_of_cell? _ _ HF.out.2.2.2.1)
    have hvN : (v : Int) < (N : Int) := by omega
    have hvN2 : v < N := by omega
    have hjl : (j : Int) < (lc : Int) := by omega
    obtain ⟨sc, scf⟩ := own_load hm.sn (i := v) (bV_get (by omega))
    obtain ⟨sb, hsb⟩ : ∃ z, sn.getD v false = z := ⟨_, rfl⟩
    rw [hsb] at sc
    have hwx : IntKind.i64.wrap (-x) = -x := wrapI (by omega) (by omega)
    have hmx : (if x < -x then -x else x) = (v : Int) := by split <;> omega
    have HX := Lib.hid hx; have HV := Lib.hid hv; have HLX := Lib.hid hlx; have HSB := Lib.hid hsb; have HSTP := Lib.hid hstep; have HST := Lib.hid hst; have HMC := Lib.hid hm; have HXO := Lib.hid hxo
    clear hx hv hlx hsb hstep hst hm hxo flv hsl1
    by_cases hxp : x = p
    · have hxp' : p = x := hxp.symm
      subst hxp'
      have hst' : an1 s p (sn, O2, op2, bk2) p = (sn, O2, op2, bk2) := by unfold an1; rw [if_pos (.inl rfl)]
      go_wp2_with fail
      go_roundg (lc - (j + 1))
      case measure => (have := HG2.out; omega)
      case rel => exact ⟨j + 1, (sn, O2, op2, bk2), q, c, by go_num, rfl, rfl, rfl, by omega, rfl, by rw [HSTP.out, hst'], HMC.out⟩
    · cases sb with
      | true =>
        have hst' : an1 s p (sn, O2, op2, bk2) x = (sn, O2, op2, bk2) := by unfold an1; rw [if_pos (.inr (.inl (by rw [HV.out]; exact HSB.out)))]
        go_wp2_with fail
        go_roundg (lc - (j + 1))
        case measure => (have := HG2.out; omega)
        case rel => exact ⟨j + 1, (sn, O2, op2, bk2), q, c, by go_num, rfl, rfl, rfl, by omega, rfl, by rw [HSTP.out, hst'], HMC.out⟩
      | false =>
        by_cases hl0 : lx = 0
        · subst hl0
          have hst' : an1 s p (sn, O2, op2, bk2) x = (sn, O2, op2, bk2) := by unfold an1; rw [if_pos (.inr (.inr HLX.out))]
          go_wp2_with fail
          go_roundg (lc - (j + 1))
          case measure => (have := HG2.out; omega)
          case rel => exact ⟨j + 1, (sn, O2, op2, bk2), q, c, by go_num, rfl, rfl, rfl, by omega, rfl, by rw [HSTP.out, hst'], HMC.out⟩
        · have hl0i : ¬ (lx : Int) = 0 := by omega
          have hl0b : ((lx : Int) == 0) = false := by simpa using hl0i
          have hxpb : (x == p) = false := by simpa using hxp
          have hnot : ¬ (x = p ∨ (sn, O2, op2, bk2).1.getD x.natAbs false = true ∨ s.lv x = 0) := by
            rintro (e | e | e)
            · exact hxp e
            · rw [HV.out] at e
              have e2 : sn.getD v false = true := e
              rw [HSB.out] at e2; cases e2
            · rw [HLX.out] at e; exact hl0 e
          have HNOT := Lib.hid hnot; clear hnot
          go_upto_region 12 with fail
          obtain ⟨wy, hwy⟩ : ∃ z, z = wr.setCell ⟨w.heap.size, v, none⟩ (.bool true) := ⟨_, rfl⟩
          have hm := HMC.out.mark v
          rw [← hwy] at hm ⊢
          replace f1 := oldcell hm.bl HF.out.1 (World.block_lt_of_cell? _ _ HF.out.1)
          replace f4 := oldcell hm.bl HF.out.2.2.2.1 (World.block_lt_of_cell? _ _ HF.out.2.2.2.1)
          have flv := FLV.out x HXO.out
          rw [HV.out, HLX.out] at flv
          have flv2 := oldcell hm.bl flv (World.block_lt_of_cell? _ _ flv)
          have HM := Lib.hid hm
          clear hm hwy sc scf c7 flvw flv HMC
          by_cases hlm : lx = M
          ·
            subst hlm
            refine wp_region_seqE (fun x => Below wy.heap.size wy x) (.one 0 1 (.one 1 1 (.one 2 1 (.one 3 1 (.one 4 0 (.one 5 1 (.one 6 1 (.one 7 0 (.one 8 1 (.one 9 1 (.one 10 1 (.one 11 1 (.one 12 0 (.one 13 1 (.one 14 1 .nil))))))))))))))) (by kernel_rfl) (by kernel_rfl) (by kernel_rfl) (Below.drew (Below.refl _ _)) ?_
            iterate 15 (first | (refine seqE_free (v := ?_) rfl (by rfl) ?_ ?_; rotate_left; (focus (intro w; go_simp; try with_reducible rfl)); (try simp only [Act.put, List.setIfInBounds_toArray, List.set_cons_zero, List.set_cons_succ])) | (refine seqE_pure (v := ?_) rfl (by rfl) ?_ ?_; rotate_left; (focus (intro w hS; have f1 := oldcell hS f1 (World.block_lt_of_cell? _ _ f1); have f4 := oldcell hS f4 (World.block_lt_of_cell? _ _ f4); have flv2 := oldcell hS flv2 (World.block_lt_of_cell? _ _ flv2); go_simp; try with_reducible rfl)); (try simp only [Act.put, List.setIfInBounds_toArray, List.set_cons_zero, List.set_cons_succ])))
            refine seqE_nil ?_
            intro w5 hS
            have hst' : an1 s p (sn, O2, op2, bk2) x = (sn.set v true, O2, op2 + 1, bk2) := by unfold an1; rw [if_neg HNOT.out, if_pos (by rw [HLX.out, HMM.out]), HV.out]
            have hwo : IntKind.i64.wrap ((op2 : Int) + 1) = ((op2 + 1 : Nat) : Int) := by rw [wrapI (by omega) (by omega)]; omega
            go_wp2_with fail
            go_roundg (lc - (j + 1))
            case measure => (have := HG2.out; omega)
            case rel => exact ⟨j + 1, (sn.set v true, O2, op2 + 1, bk2), q, c, by go_num, rfl, rfl, rfl, by omega, rfl, by rw [HSTP.out, hst'], HM.out.up hS⟩
          ·
            refine wp_region_seqE (fun x => Below wy.heap.size wy x) (.one 0 1 (.one 1 1 (.one 2 1 (.one 3 1 (.one 4 0 (.one 5 1 (.one 6 1 (.one 7 0 (.one 8 1 (.one 9 1 (.one 10 1 (.one 11 1 (.one 12 0 (.one 13 1 (.one 14 1 .nil))))))))))))))) (by kernel_rfl) (by kernel_rfl) (by kernel_rfl) (Below.drew (Below.refl _ _)) ?_
            iterate 15 (first | (refine seqE_free (v := ?_) rfl (by rfl) ?_ ?_; rotate_left; (focus (intro w; go_simp; try with_reducible rfl)); (try simp only [Act.put, List.setIfInBounds_toArray, List.set_cons_zero, List.set_cons_succ])) | (refine seqE_pure (v := ?_) rfl (by rfl) ?_ ?_; rotate_left; (focus (intro w hS; have f1 := oldcell hS f1 (World.block_lt_of_cell? _ _ f1); have f4 := oldcell hS f4 (World.block_lt_of_cell? _ _ f4); have flv2 := oldcell hS flv2 (World.block_lt_of_cell? _ _ flv2); go_simp; try with_reducible rfl)); (try simp only [Act.put, List.setIfInBounds_toArray, List.set_cons_zero, List.set_cons_succ])))
            refine seqE_nil ?_
            intro w5 hS
            have hm := HM.out.up hS
            obtain ⟨q5, c5, w6, hrun, hm6⟩ := hm.app hi0 hz0 hz1 hz2 x (by omega)
            have f16 := oldcell hm6.bl HF.out.1 (World.block_lt_of_cell? _ _ HF.out.1)
            have flv := FLV.out x HXO.out
            rw [HV.out, HLX.out] at flv
            have flv6 := oldcell hm6.bl flv (World.block_lt_of_cell? _ _ flv)
            have HM6 := Lib.hid hm6
            have hst' : an1 s p (sn, O2, op2, bk2) x = (sn.set v true, O2 ++ [x], op2, max bk2 lx) := by unfold an1; rw [if_neg HNOT.out, if_neg (by rw [HLX.out, HMM.out]; exact hlm), HV.out, HLX.out]
            clear hm hm6 f1 f4 flv flv2
            by_cases hbl : bk2 < lx
            · go_wp2_with (first | (at_builtin; go_must (refine wpList_run rfl (exec_app rfl rfl rfl hrun) ?_)))
              go_roundg (lc - (j + 1))
              case measure => (have := HG2.out; omega)
              case rel => exact ⟨j + 1, (sn.set v true, O2 ++ [x], op2, max bk2 lx), q5, c5, by go_num, by simp, rfl, by simp; omega, by omega, rfl, by rw [HSTP.out, hst'], HM6.out⟩
            · go_wp2_with (first | (at_builtin; go_must (refine wpList_run rfl (exec_app rfl rfl rfl hrun) ?_)))
              go_roundg (lc - (j + 1))
              case measure => (have := HG2.out; omega)
              case rel => exact ⟨j + 1, (sn.set v true, O2 ++ [x], op2, max bk2 lx), q5, c5, by go_num, by simp, rfl, by simp; omega, by omega, rfl, by rw [HSTP.out, hst'], HM6.out⟩

   case neg =>
    obtain rfl : j = lc := by omega
    rw [← HLC.out, List.take_length, HEF.out] at hst
    subst hst
    dsimp only at hm ⊢
    obtain ⟨j0, z0, hj0, hz0, hs0⟩ := HJ.out
    have hi1 : 1 ≤ i := by omega
    obtain ⟨i9, hi9⟩ : ∃ z, i = z + 1 := ⟨i - 1, by omega⟩
    subst hi9
    have hwi : IntKind.i64.wrap (((i9 + 1 : Nat) : Int) - 1) = (i9 : Int) := by rw [wrapI (by omega) (by omega)]; omega
    have hwi2 : ((i9 : Int) + 1 - 1) = (i9 : Int) := by omega
    have hsl1 := HSL1.out
    rw [HVL.out] at hsl1
    have HSN := Lib.hid hsl1
    have HM3 := Lib.hid hm
    clear hm hsl1
    go_wp2_with fail
    go_loopg [10] i9 (fun G3 s10 wr => ∃ a : Nat, s10 = .int .i64 a ∧ a < i9 + 1 ∧ G3 = a ∧ backTo s seen1 (a + 1) = backTo s seen1 (i9 + 1) ∧ (∃ j z, j ≤ a ∧ s.lits[j]? = some z ∧ seen1.getD z.natAbs false = true) ∧ AnMem w wr w.heap.size B N q c seen1 (0 :: O1))
    case atStart => exact ⟨i9, by first | rfl | go_num, by omega, rfl, rfl, ⟨j0, z0, by omega, hz0, hs0⟩, HM3.out⟩
    case round =>
     clear HM3
     obtain ⟨a, rfl, ha, hG3, hbt, hex, hm⟩ := hrel
     have haL : a < L := by omega
     obtain ⟨x, hx⟩ : ∃ z, s.lits.getD a 0 = z := ⟨_, rfl⟩
     obtain ⟨gl, rfl, cx⟩ := FLI.out a haL
     have hxo := HLM.out a haL
     rw [hx] at cx hxo
     replace cx := oldcell hm.bl cx (World.block_lt_of_cell? _ _ cx)
     obtain ⟨v, hv⟩ : ∃ z, x.natAbs = z := ⟨_, rfl⟩
     have hxo2 := hxo.2
     rw [hv] at hxo2
     have hvN : (v : Int) < (N : Int) := by omega
     have hvN2 : v < N := by omega
     have haLi : (a : Int) < (L : Int) := by omega
     have hwx : IntKind.i64.wrap (-x) = -x := wrapI (by omega) (by omega)
     have hmx : (if x < -x then -x else x) = (v : Int) := by split <;> omega
     have hsn := HSN.out
     obtain ⟨sc, -⟩ := own_load hm.sn (i := v) (bV_get (by omega))
     obtain ⟨sb, hsb⟩ : ∃ z, seen1.getD v false = z := ⟨_, rfl⟩
     rw [hsb] at sc
     have f3 := oldcell hm.bl HF.out.2.2.1 (World.block_lt_of_cell? _ _ HF.out.2.2.1)
     have HX := Lib.hid hx; have HV := Lib.hid hv; have HSB := Lib.hid hsb; have HM4 := Lib.hid hm; have HXO := Lib.hid hxo; have HBT := Lib.hid hbt; have HEX := Lib.hid hex; have HG3 := Lib.hid hG3
     clear hx hv hsb hm hxo hbt hex hG3 hsn
     cases sb with
     | false =>
      obtain ⟨j1, z1, hj1, hz1', hs1⟩ := HEX.out
      have hja : j1 ≠ a := by
        intro e
        subst e
        have : s.lits.getD j1 0 = z1 := by rw [List.getD_eq_getElem?_getD, hz1']; rfl
        rw [← this, HX.out, HV.out, HSB.out] at hs1; cases hs1
      obtain ⟨a9, ha9⟩ : ∃ z, a = z + 1 := ⟨a - 1, by omega⟩
      have hwa : IntKind.i64.wrap ((a : Int) - 1) = (a9 : Int) := by rw [wrapI (by omega) (by omega)]; omega
      have hstepb : backTo s seen1 (a + 1) = backTo s seen1 (a9 + 1) := by
        conv => lhs; unfold backTo
        rw [HX.out, HV.out, HSB.out, if_neg (by intro q; cases q), ha9]
      have HA9 := Lib.hid ha9; clear ha9
      go_upto_region 18 with fail
      refine wp_region_seqE (fun x => Below wr.heap.size wr x) (.one 0 1 (.one 1 1 (.one 2 1 (.one 3 1 (.one 4 1 (.one 5 0 (.one 6 1 (.one 7 1 (.one 8 0 (.one 9 1 (.one 10 1 (.one 11 1 (.one 12 1 (.one 13 0 (.one 14 1 (.one 15 1 (.one 16 0 (.one 17 1 (.one 18 1 (.one 19 1 (.one 20 0 (.one 21 1 .nil)))))))))))))))))))))) (by kernel_rfl) (by kernel_rfl) (by kernel_rfl) (Below.drew (Below.refl _ _)) ?_
      iterate 22 (first | (refine seqE_free (v := ?_) rfl (by rfl) ?_ ?_; rotate_left; (focus (intro w; go_simp; try with_reducible rfl)); (try simp only [Act.put, List.setIfInBounds_toArray, List.set_cons_zero, List.set_cons_succ])) | (refine seqE_pure (v := ?_) rfl (by rfl) ?_ ?_; rotate_left; (focus (intro w hS; have f3 := oldcell hS f3 (World.block_lt_of_cell? _ _ f3); have cx := oldcell hS cx (World.block_lt_of_cell? _ _ cx); have sc := oldcell hS sc (World.block_lt_of_cell? _ _ sc); go_simp; try with_reducible rfl)); (try simp only [Act.put, List.setIfInBounds_toArray, List.set_cons_zero, List.set_cons_succ])))
      refine seqE_nil ?_
      intro w5 hS
      go_wp2_with fail
      go_roundg a9
      case measure => (have := HG3.out; have := HA9.out; omega)
      case rel => exact ⟨a9, by first | rfl | go_num, by have := HA9.out; omega, rfl, by rw [← hstepb]; exact HBT.out, ⟨j1, z1, by have := HA9.out; omega, hz1', hs1⟩, HM4.out.up hS⟩
     | true =>
      have hat : backTo s seen1 (i9 + 1) = a := by
        rw [← HBT.out]
        unfold backTo
        rw [HX.out, HV.out, HSB.out, if_pos rfl]
      go_upto_region 18 with fail
      refine wp_region_seqE (fun x => Below wr.heap.size wr x) (.one 0 1 (.one 1 1 (.one 2 1 (.one 3 1 (.one 4 1 (.one 5 0 (.one 6 1 (.one 7 1 (.one 8 0 (.one 9 1 (.one 10 1 (.one 11 1 (.one 12 1 (.one 13 0 (.one 14 1 (.one 15 1 (.one 16 0 (.one 17 1 (.one 18 1 (.one 19 1 (.one 20 0 (.one 21 1 .nil)))))))))))))))))))))) (by kernel_rfl) (by kernel_rfl) (by kernel_rfl) (Below.drew (Below.refl _ _)) ?_
      iterate 22 (first | (refine seqE_free (v := ?_) rfl (by rfl) ?_ ?_; rotate_left; (focus (intro w; go_simp; try with_reducible rfl)); (try simp only [Act.put, List.setIfInBounds_toArray, List.set_cons_zero, List.set_cons_succ])) | (refine seqE_pure (v := ?_) rfl (by rfl) ?_ ?_; rotate_left; (focus (intro w hS; have f3 := oldcell hS f3 (World.block_lt_of_cell? _ _ f3); have cx := oldcell hS cx (World.block_lt_of_cell? _ _ cx); have sc := oldcell hS sc (World.block_lt_of_cell? _ _ sc); go_simp; try with_reducible rfl)); (try simp only [Act.put, List.setIfInBounds_toArray, List.set_cons_zero, List.set_cons_succ])))
      refine seqE_nil ?_
      intro w5 hS
      have hm := HM4.out.up hS
      replace f3 := oldcell hS f3 (World.block_lt_of_cell? _ _ f3)
      replace cx := oldcell hS cx (World.block_lt_of_cell? _ _ cx)
      have f2 := oldcell hm.bl HF.out.2.1 (World.block_lt_of_cell? _ _ HF.out.2.1)
      have frs := FRS.out x HXO.out
      rw [HV.out] at frs
      replace frs := oldcell hm.bl frs (World.block_lt_of_cell? _ _ frs)
      have HM5 := Lib.hid hm
      have hwo : IntKind.i64.wrap ((op1 : Int) - 1) = ((op1 - 1 : Nat) : Int) := by rw [wrapI (by omega) (by omega)]; omega
      clear hm HM4
      by_cases hone : op1 = 1
      · subst hone
        have hR := HR.out
        unfold anal at hR
        rw [HCL.out, HEF.out] at hR
        dsimp only at hR
        rw [if_pos rfl, hat, HX.out] at hR
        have hln := HM5.out.ln
        obtain ⟨gq, hgq⟩ : ∃ gq, q = some ⟨gq, 0, none⟩ := by
          rcases hln.2 with ⟨-, e⟩ | ⟨g', cap, cur, e, -⟩
          · simp at e
          · simp only [Value.slice.injEq] at e; exact ⟨g', e.1⟩
        subst hgq
        obtain ⟨d0, d0f⟩ := own_load hln (i := 0) (u := .int .i64 0) rfl
        have hset := HM5.out.set rfl 0 (-x)
        rw [show (0 :: O1).set 0 (-x) = -x :: O1 from rfl] at hR hset
        have HSET := Lib.hid hset; have HRR := Lib.hid hR
        clear hset hR hln
        go_wp2_with fail
        refine bodyPost_ret (results_tmp2 rfl _ _ _) rfl ?_
        rw [HR0.out, ← HRR.out]
        exact ⟨some ⟨gq, 0, none⟩, c, rfl, own_weaken HSET.out.ln (by have := HSET.out.l1; have := HSET.out.l2; omega), HSET.out.bl⟩
      · have hone' : ¬ (op1 - 1 = 0) := by omega
        have hone2 : ((((op1 - 1 : Nat) : Int)) == 0) = false := by simpa using (show ¬ (((op1 - 1 : Nat) : Int)) = 0 by omega)
        have hR := HR.out
        unfold anal at hR
        rw [HCL.out, HEF.out] at hR
        dsimp only at hR
        rw [if_neg hone, hat, HX.out] at hR
        obtain ⟨h0, hrn⟩ := HNX.out (by rw [HEF.out]; exact hone)
        rw [HEF.out] at h0 hrn
        dsimp only at h0 hrn
        rw [hat, HX.out] at h0 hrn
        have HRN := Lib.hid hrn; have HRR := Lib.hid hR
        obtain ⟨rx, hrx⟩ : ∃ z, s.rs x = z := ⟨_, rfl⟩
        rw [hrx] at frs h0
        have HRX := Lib.hid hrx
        clear hrn hR hrx
        go_wp2_with fail
        go_roundg G
        case measure => omega
        case rel => exact ⟨rx.toNat, seen1, 0 :: O1, op1 - 1, to1, a, x, q, c, (by congr 1; omega), rfl, rfl, rfl, rfl, rfl, HM5.out, by rw [← HRX.out]; exact HRN.out, by rw [← HRX.out]; exact HRR.out, by omega, by omega⟩
end Go.Proofs.Ytdibfjcmgbpnpaa
