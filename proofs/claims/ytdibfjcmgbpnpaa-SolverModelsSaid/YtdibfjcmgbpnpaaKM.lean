/- Walks of the solver: propagate. -/
import Derived.Test.YtdibfjcmgbpnpaaKL
namespace Go.Proofs.Ytdibfjcmgbpnpaa
set_option linter.unusedSimpArgs false
set_option linter.unusedVariables false
open Go.RowKit

def pcode : Option Nat → Int
  | none => -1
  | some k => k
theorem lits_len {n : Nat} {c : List Int} (h : c.Nodup) (hk : ∀ x ∈ c, LOk n x) : c.length ≤ 2 * n + 2 := by
  have h1 : (c.map idx).Nodup := by
    show List.Pairwise _ _
    rw [List.pairwise_map]
    exact List.Pairwise.imp_of_mem (fun ha hb hne e => hne (idx_inj e (hk _ ha).1 (hk _ hb).1)) h
  have h2 : ∀ k ∈ c.map idx, k ∈ List.range (2 * n + 2) := by
    intro k hk2
    obtain ⟨x, hx, rfl⟩ := List.mem_map.1 hk2
    exact List.mem_range.2 (idx_lt (hk x hx))
  have := nodup_len h1 h2
  simpa using this
theorem Sc.small {n : Nat} {U : Int → Prop} {s : SS} {g : Int} {M kept : List Nat} (h : Sc n U s g M kept) (k : Nat) : (s.clauses.getD k []).length ≤ 2 * n + 2 := by
  rw [List.getD_eq_getElem?_getD]
  cases hk : s.clauses[k]? with
  | none => simp
  | some c =>
    obtain ⟨-, h2, h3⟩ := h.wa.cl k c hk
    exact lits_len h2 h3
/-- how long a watch list may be -/
theorem Wa.short {n : Nat} {s : SS} {L : Int → List Nat} (h : Wa n s L) {x : Int} (hx : LOk n x) : (L x).length ≤ s.clauses.length := by
  have h1 := h.wn x hx
  have h2 : ∀ k ∈ L x, k ∈ List.range s.clauses.length := by
    intro k hk
    obtain ⟨c, b, q, -⟩ := (h.wm x hx k).1 hk
    exact List.mem_range.2 (List.getElem?_eq_some_iff.1 q).1
  have := nodup_len h1 h2
  simpa using this
theorem pcode_le {k : Option Nat} : -1 ≤ pcode k := by cases k <;> simp [pcode] <;> omega
theorem prop_some (f : Nat) {s : SS} (h : s.head < s.lits.length) {s' : SS} {c : Nat} (e : pstep s = (s', some c)) : prop (f + 1) s = (s', some c) := by
  show (if s.head < s.lits.length then _ else _) = _
  rw [if_pos h, e]
theorem prop_none (f : Nat) {s : SS} (h : s.head < s.lits.length) {s' : SS} (e : pstep s = (s', none)) : prop (f + 1) s = prop f s' := by
  show (if s.head < s.lits.length then _ else _) = _
  rw [if_pos h, e]
theorem prop_end (f : Nat) {s : SS} (h : ¬ s.head < s.lits.length) : prop f s = (s, none) := by
  cases f with
  | zero => rfl
  | succ f => show (if s.head < s.lits.length then _ else _) = _; rw [if_neg h]

set_option maxRecDepth 100000 in
set_option maxHeartbeats 8000000 in
theorem propagate_any {n : Nat} {U : Int → Prop} {w : World} {o : Nat → Option Role} {b : Nat} {s : SS} (h : SolAt w o b s) (hi : In n U s) (hn : n ≤ 20000) (hmk : s.marks.length ≤ 1000000) (hcl : s.clauses.length ≤ 900000) :
    Calls Try.prog 38 #[.pointer (some ⟨b, 0, none⟩)] w fun e w' => e = .returned (.int .i64 (pcode (prop s.value.length s).2)) ∧ ∃ o', SolAt w' o' b (prop s.value.length s).1 ∧ Ext NoX w o w' o' := by
 obtain ⟨i0, hi0, hz0, hz1, hz2⟩ := info_parts int_info
 obtain ⟨R, hR⟩ : ∃ R, prop s.value.length s = R := ⟨_, rfl⟩
 rw [hR]
 have hvl := hi.tr.vl
 have hx0 := Ext.refl NoX w o
 have hfr0 := Fr.refl s
 have H0 := Lib.hid h; have HR := Lib.hid hR; have HI := Lib.hid hi; have HX0 := Lib.hid hx0; have HFR0 := Lib.hid hfr0; have HVL := Lib.hid hvl
 clear h hR hi hx0 hfr0 hvl
 go_enter Try.func38, Try.ntmps38
 go_wp2_with fail
 go_loopg [] (n + 1) (fun G wr => ∃ (s1 : SS) (o1 : Nat → Option Role), SolAt wr o1 b s1 ∧ Ext NoX w o wr o1 ∧ In n U s1 ∧ prop G s1 = R ∧ n ≤ s1.head + G ∧ Fr s s1)
 case atStart => exact ⟨s, o, H0.out, HX0.out, HI.out, by rw [← HVL.out]; exact HR.out, by omega, HFR0.out⟩
 case round =>
  obtain ⟨s1, o1, h1, hx1, hi1, hR1, hG1, hfr1⟩ := hrel
  clear H0 HR HI HX0 HFR0
  obtain ⟨H, hH⟩ : ∃ z, s1.head = z := ⟨_, rfl⟩
  obtain ⟨LL, hLL⟩ : ∃ z, s1.lits.length = z := ⟨_, rfl⟩
  have hLn : LL ≤ n := by rw [← hLL]; exact hi1.tr.len
  have hHL : H ≤ LL := by rw [← hH, ← hLL]; exact hi1.hd
  obtain ⟨oc, hd, hs⟩ := h1.sl
  obtain ⟨f8, -⟩ := hs.fld 8 (u := .int .i64 (H : Nat)) (by show some (Value.int .i64 ((s1.head : Nat) : Int)) = _; rw [hH])
  obtain ⟨f3, -⟩ := hs.fld 3 (u := hd .lits) rfl
  obtain ⟨pl, cl, el⟩ := hs.lits_sl
  rw [hLL] at el
  rw [el] at f3
  rw [hH] at hG1
  have HS := Lib.hid hs; have HX1 := Lib.hid hx1; have HI1 := Lib.hid hi1; have HR1 := Lib.hid hR1; have HFR1 := Lib.hid hfr1; have HH := Lib.hid hH; have HLL := Lib.hid hLL; have HEL := Lib.hid el
  clear h1 hx1 hi1 hR1 hfr1 hH hLL hs el
  by_cases hlt : H < LL
  case neg =>
   obtain rfl : H = LL := by omega
   go_upto_region 1 with fail
   refine wp_region_seqE (fun x => Below wr.heap.size wr x) (.one 0 1 (.one 1 1 (.one 2 1 (.one 3 0 (.one 4 1 (.one 5 1 (.one 6 1 (.one 7 1 (.one 8 0 (.one 9 1 (.one 10 1 .nil))))))))))) (by kernel_rfl) (by kernel_rfl) (by kernel_rfl) (Below.drew (Below.refl _ _)) ?_
   iterate 11 (first | (refine seqE_free (v := ?_) rfl (by rfl) ?_ ?_; rotate_left; (focus (intro w; go_simp; try with_reducible rfl)); (try simp only [Act.put, List.setIfInBounds_toArray, List.set_cons_zero, List.set_cons_succ])) | (refine seqE_pure (v := ?_) rfl (by rfl) ?_ ?_; rotate_left; (focus (intro w hS; have f8 := oldcell hS f8 (World.block_lt_of_cell? _ _ f8); have f3 := oldcell hS f3 (World.block_lt_of_cell? _ _ f3); go_simp; try with_reducible rfl)); (try simp only [Act.put, List.setIfInBounds_toArray, List.set_cons_zero, List.set_cons_succ])))
   refine seqE_nil ?_
   intro w2 hS
   go_wp2_with fail
   go_ret
   have e := HR1.out
   rw [prop_end _ (by rw [HH.out, HLL.out]; omega)] at e
   rw [← e]
   exact ⟨rfl, o1, (HS.out.up hS).at, HX1.out.trans (Ext.below (X := NoX) hS) fun _ _ q => q⟩
  case pos =>
   have hHLi : (H : Int) < (LL : Int) := by omega
   obtain ⟨x, hx⟩ : ∃ z, s1.lits.getD H 0 = z := ⟨_, rfl⟩
   have hxm : s1.lits[H]? = some x := by rw [← hx, List.getD_eq_getElem?_getD, List.getElem?_eq_getElem (by rw [HLL.out]; exact hlt)]; rfl
   have hxo := HI1.out.tr.ok x (List.mem_of_getElem? hxm)
   have hx2 := hxo.2
   obtain ⟨g, hg⟩ : ∃ z, -x = z := ⟨_, rfl⟩
   have hgo : LOk n g := by rw [← hg]; exact hxo.neg
   have hwx : IntKind.i64.wrap (-x) = g := by rw [wrapI (by omega) (by omega)]; exact hg
   obtain ⟨I, hI⟩ : ∃ z, idx g = z := ⟨_, rfl⟩
   have hIW := idx_lt hgo
   have hwl := HI1.out.wa.wl
   rw [hI] at hIW
   obtain ⟨L, hL⟩ : ∃ z, s1.wl g = z := ⟨_, rfl⟩
   obtain ⟨N, hN⟩ : ∃ z, L.length = z := ⟨_, rfl⟩
   have hNc : N ≤ 900000 := by
    have e1 := HI1.out.wa.short hgo
    have e2 := HFR1.out.cp.1
    rw [hL, hN] at e1
    omega
   have hsc := HI1.out.sc (by rw [HH.out, HLL.out]; exact hlt)
   rw [HH.out, hx, hg, hL, List.nil_append] at hsc
   obtain ⟨gl, cl2, el2⟩ := HS.out.lits_arr (by rw [HLL.out]; omega)
   rw [HEL.out, HLL.out] at el2
   simp only [Value.slice.injEq, true_and] at el2
   obtain ⟨rfl, rfl⟩ := el2
   obtain ⟨c3, -⟩ := HS.out.cell (r := .lits) HEL.out (i := H) (u := .int .i64 x) (by show (iV s1.lits)[H]? = _; rw [iV_get (by rw [HLL.out]; exact hlt), hx])
   obtain ⟨W, hW⟩ : ∃ z, 2 * n + 2 = z := ⟨_, rfl⟩
   rw [hW] at hIW hwl
   obtain ⟨gw, cw, ew⟩ := HS.out.watches_arr (by omega)
   rw [hwl] at ew
   obtain ⟨f7, -⟩ := HS.out.fld 7 (u := hd .watches) rfl
   rw [ew] at f7
   obtain ⟨pi, ci, ei⟩ := HS.out.wl_sl I
   have hgetL : s1.watches.getD I [] = L := by rw [← hI]; exact hL
   rw [hgetL, hN] at ei
   obtain ⟨c7, -⟩ := HS.out.cell (r := .watches) ew (i := I) (u := hd (.wl I)) (rows_get (fun k => hd (.wl k)) (by omega))
   rw [ei] at c7
   have hix : ∀ w, Calls Try.prog 52 #[.int .i64 g] w fun e w' => e = .returned (.int .i64 (I : Nat)) ∧ w' = w := fun w => by rw [← hI]; exact index_any hn hgo
   have hIWi : (I : Int) < (W : Int) := by omega
   have HX := Lib.hid hx; have HXM := Lib.hid hxm; have HG := Lib.hid hg; have HGO := Lib.hid hgo; have HII := Lib.hid hI; have HL := Lib.hid hL; have HN := Lib.hid hN; have HSC := Lib.hid hsc; have HWL := Lib.hid hwl; have HW := Lib.hid hW; have HEW := Lib.hid ew; have HEI := Lib.hid ei; have HIX := Lib.hid hix; have HGL := Lib.hid hgetL
   clear hx hxm hxo hg hgo hI hL hN hsc hwl hW ew ei hix hgetL
   go_upto_region 1 with fail
   refine wp_region_seqE (fun x => Below wr.heap.size wr x) (.one 0 1 (.one 1 1 (.one 2 1 (.one 3 0 (.one 4 1 (.one 5 1 (.one 6 1 (.one 7 1 (.one 8 0 (.one 9 1 (.one 10 1 .nil))))))))))) (by kernel_rfl) (by kernel_rfl) (by kernel_rfl) (Below.drew (Below.refl _ _)) ?_
   iterate 11 (first | (refine seqE_free (v := ?_) rfl (by rfl) ?_ ?_; rotate_left; (focus (intro w; go_simp; try with_reducible rfl)); (try simp only [Act.put, List.setIfInBounds_toArray, List.set_cons_zero, List.set_cons_succ])) | (refine seqE_pure (v := ?_) rfl (by rfl) ?_ ?_; rotate_left; (focus (intro w hS; have f8 := oldcell hS f8 (World.block_lt_of_cell? _ _ f8); have f3 := oldcell hS f3 (World.block_lt_of_cell? _ _ f3); go_simp; try with_reducible rfl)); (try simp only [Act.put, List.setIfInBounds_toArray, List.set_cons_zero, List.set_cons_succ])))
   refine seqE_nil ?_
   intro wa hS
   have hBa := hS; clear hS
   replace f8 := oldcell hBa f8 (World.block_lt_of_cell? _ _ f8); replace f3 := oldcell hBa f3 (World.block_lt_of_cell? _ _ f3); replace c3 := oldcell hBa c3 (World.block_lt_of_cell? _ _ c3); replace f7 := oldcell hBa f7 (World.block_lt_of_cell? _ _ f7); replace c7 := oldcell hBa c7 (World.block_lt_of_cell? _ _ c7)
   go_upto_region 3 with fail
   refine wp_region_seqE (fun x => Below wa.heap.size wa x) (.one 0 1 (.one 1 1 (.one 2 1 (.one 3 1 (.one 4 0 (.one 5 1 (.one 6 1 (.one 7 1 (.one 8 0 (.one 9 1 (.one 10 0 (.one 11 1 (.one 12 1 .nil))))))))))))) (by kernel_rfl) (by kernel_rfl) (by kernel_rfl) (Below.drew (Below.refl _ _)) ?_
   iterate 13 (first | (refine seqE_free (v := ?_) rfl (by rfl) ?_ ?_; rotate_left; (focus (intro w; go_simp; try with_reducible rfl)); (try simp only [Act.put, List.setIfInBounds_toArray, List.set_cons_zero, List.set_cons_succ])) | (refine seqE_pure (v := ?_) rfl (by rfl) ?_ ?_; rotate_left; (focus (intro w hS; have f8 := oldcell hS f8 (World.block_lt_of_cell? _ _ f8); have f3 := oldcell hS f3 (World.block_lt_of_cell? _ _ f3); have c3 := oldcell hS c3 (World.block_lt_of_cell? _ _ c3); go_simp; try with_reducible rfl)); (try simp only [Act.put, List.setIfInBounds_toArray, List.set_cons_zero, List.set_cons_succ])))
   refine seqE_nil ?_
   intro wb hS
   have hBb := btr hBa hS
   replace f7 := oldcell hS f7 (World.block_lt_of_cell? _ _ f7); replace c7 := oldcell hS c7 (World.block_lt_of_cell? _ _ c7)
   clear hS hBa f8 f3 c3
   go_upto_region 4 with fail
   refine wp_region_seqE (fun x => Below wb.heap.size wb x) (.one 0 1 (.one 1 1 (.one 2 1 (.one 3 0 (.one 4 1 (.one 5 1 (.one 6 1 (.one 7 0 (.one 8 1 .nil))))))))) (by kernel_rfl) (by kernel_rfl) (by kernel_rfl) (Below.drew (Below.refl _ _)) ?_
   iterate 5 (first | (refine seqE_free (v := ?_) rfl (by rfl) ?_ ?_; rotate_left; (focus (intro w; go_simp; try with_reducible rfl)); (try simp only [Act.put, List.setIfInBounds_toArray, List.set_cons_zero, List.set_cons_succ])) | (refine seqE_pure (v := ?_) rfl (by rfl) ?_ ?_; rotate_left; (focus (intro w hS; have f7 := oldcell hS f7 (World.block_lt_of_cell? _ _ f7); have c7 := oldcell hS c7 (World.block_lt_of_cell? _ _ c7); go_simp; try with_reducible rfl)); (try simp only [Act.put, List.setIfInBounds_toArray, List.set_cons_zero, List.set_cons_succ])))
   refine seqE_fcall (v := (.int .i64 (I : Nat))) (f := ?_) (args := ?_) rfl (by rfl) ?_ ?_ ?_
   rotate_left 2
   focus (intro w; go_simp; first | done | with_reducible rfl | (refine ⟨?_, ?_⟩ <;> with_reducible rfl))
   focus (intro w; exact HIX.out w)
   (try simp only [Act.put, List.setIfInBounds_toArray, List.set_cons_zero, List.set_cons_succ])
   iterate 3 (first | (refine seqE_free (v := ?_) rfl (by rfl) ?_ ?_; rotate_left; (focus (intro w; go_simp; try with_reducible rfl)); (try simp only [Act.put, List.setIfInBounds_toArray, List.set_cons_zero, List.set_cons_succ])) | (refine seqE_pure (v := ?_) rfl (by rfl) ?_ ?_; rotate_left; (focus (intro w hS; have f7 := oldcell hS f7 (World.block_lt_of_cell? _ _ f7); have c7 := oldcell hS c7 (World.block_lt_of_cell? _ _ c7); go_simp; try with_reducible rfl)); (try simp only [Act.put, List.setIfInBounds_toArray, List.set_cons_zero, List.set_cons_succ])))
   refine seqE_nil ?_
   intro we hS
   have hBc := btr hBb hS
   clear hS hBb f7 c7
   have hs2 := HS.out.up hBc
   have hx2' := HX1.out.trans (Ext.below (X := NoX) hBc) fun _ _ q => q
   have HS2 := Lib.hid hs2; have HX2 := Lib.hid hx2'
   clear hs2 hx2' hBc
   have hpi : (pi = none ∧ N = 0 ∧ ci = 0) ∨ ∃ gi, pi = some ⟨gi, 0, none⟩ := by
     obtain ⟨p', n', c', e1, e2, e3, e4, e5, e6⟩ := HS2.out.mem.form (.wl I)
     rw [HEI.out] at e1
     simp only [Value.slice.injEq] at e1
     obtain ⟨rfl, rfl, rfl⟩ := e1
     cases pi with
     | none => exact .inl ⟨rfl, by have := e5 rfl; omega, e5 rfl⟩
     | some a => obtain ⟨gi, e7, -⟩ := e6 a rfl; exact .inr ⟨gi, by rw [e7]⟩
   have hsl0 : Sl we o1 b (setW s1 g ([] ++ L.drop 0)) oc hd := by
     rw [List.nil_append, List.drop_zero, setW_self HL.out (by rw [HII.out, HWL.out]; exact hIW)]; exact HS2.out
   obtain ⟨G1, hG1e⟩ : ∃ z, gk = z + 1 := ⟨gk - 1, by omega⟩
   subst hG1e
   obtain ⟨H1, hH1⟩ : ∃ z, H + 1 = z := ⟨_, rfl⟩
   have hwH : IntKind.i64.wrap ((H : Int) + 1) = (H1 : Int) := by rw [wrapI (by omega) (by omega)]; omega
   have HPI := Lib.hid hpi; have HSL0 := Lib.hid hsl0; have HH1 := Lib.hid hH1; have HWH := Lib.hid hwH
   obtain ⟨i1, hj0, hjz, hj1, hj2⟩ := info_parts int_info
   clear hpi hsl0 hH1 hwH hi0 hz0 hz1 hz2
   go_upto_region 5 with fail
   go_cut [5] from 10 to 189 (fun s5 wx => s5 = .slice pi 0 ci ∧ wx = we)
   case first =>
     rcases HPI.out with ⟨rfl, rfl, rfl⟩ | ⟨gi, rfl⟩
     · go_wp2_with fail
       go_meet
       exact ⟨rfl, rfl⟩
     · go_wp2_with fail
       go_meet
       exact ⟨rfl, rfl⟩
   case rest =>
   obtain ⟨rfl, hwc⟩ := hcut
   replace hwc := hwc.symm; subst hwc
   go_wp2_with fail
   go_loopg [5, 52] N (fun G2 s5 s52 wx => ∃ (j : Nat) (kp : List Nat) (s2 : SS) (o2 : Nat → Option Role) (hd2 : Role → Value), s5 = .slice pi kp.length ci ∧ s52 = .int .i64 j ∧ j ≤ N ∧ G2 = N - j ∧ Sl wx o2 b (setW s2 g (kp ++ L.drop kp.length)) oc hd2 ∧ hd2 (.wl I) = .slice pi N ci ∧ Ext NoX w o wx o2 ∧ kp.length ≤ j ∧ Sc n U s2 g (kp ++ L.drop j) kp ∧ scan g (L.drop j) s2 kp = scan g L s1 [] ∧ Fr s1 s2)
   case atStart => exact ⟨0, [], s1, o1, hd, rfl, rfl, by omega, rfl, HSL0.out, HEI.out, HX2.out, by simp, by rw [List.nil_append, List.drop_zero]; exact HSC.out, by rw [List.drop_zero], Fr.refl _⟩
   case round =>
    obtain ⟨j, kp, s2, o2, hd2, rfl, rfl, hj, hG2, hs2, he2, hx2, hkj, hsc2, hscan, hfr2⟩ := hrel
    have HG2 := Lib.hid hG2
    clear hG2 HSL0 HX2 HS2
    by_cases hlt2 : j < N
    case neg =>
     obtain rfl : j = N := by omega
     have hdr : L.drop j = [] := by rw [← HN.out]; exact List.drop_length
     rw [hdr] at hscan
     have hps := pstep_go (s := s1) (by rw [HH.out, HX.out]; exact HG.out) HL.out hscan.symm
     rw [HH.out, HH1.out] at hps
     obtain ⟨-, hin3, -, -⟩ := pstep_ok HI1.out (by rw [HH.out, HLL.out]; exact hlt)
     have hfr3 := (pstep_ok HI1.out (by rw [HH.out, HLL.out]; exact hlt)).1
     have hR2 := HR1.out
     rw [prop_none _ (by rw [HH.out, HLL.out]; exact hlt) hps] at hR2
     rw [hps] at hin3 hfr3
     have hwT : (setW s2 g (kp ++ L.drop kp.length)).watches.length = W := by show (s2.watches.set _ _).length = W; rw [List.length_set, hsc2.wa.wl]; exact HW.out
     obtain ⟨gw2, cw2, ew2⟩ := hs2.watches_arr (by omega)
     rw [hwT] at ew2
     obtain ⟨f7, -⟩ := hs2.fld 7 (u := hd2 .watches) rfl
     rw [ew2] at f7
     obtain ⟨c7, c7f⟩ := hs2.cell (r := .watches) ew2 (i := I) (u := hd2 (.wl I)) (rows_get (fun k => hd2 (.wl k)) (by omega))
     have hwg : (setW s2 g (kp ++ L.drop kp.length)).watches.getD I [] = kp ++ L.drop kp.length := by rw [← HII.out]; exact setW_get (by rw [HII.out, hsc2.wa.wl, HW.out]; exact hIW)
     have hcut := fun (wS : World) (hS : Below wr.heap.size wr wS) => (hs2.up hS).cut (.wl I) rfl he2 (k := kp.length) (by omega) (q := .watches) (by intro q; cases q) ew2 (j := I) (by intro q; cases q) (s' := setW s2 g kp) (fun V => by
       have e1 : (E (setW s2 g (kp ++ L.drop kp.length)) oc hd2 (.wl I)).take kp.length = nV kp := by
         show (nV ((setW s2 g (kp ++ L.drop kp.length)).watches.getD I [])).take kp.length = _
         rw [hwg]; unfold nV; rw [← List.map_take, List.take_left]
       rw [e1, E_wl _ oc hd2 (by rw [hwT]; exact hIW) kp V, ← HII.out, setW_set])
     have HCUT := Lib.hid hcut; have HR2 := Lib.hid hR2; have HIN3 := Lib.hid hin3; have HFR3 := Lib.hid (HFR1.out.trans hfr3); have HX3 := Lib.hid hx2
     have hh2 : s2.head = H := by have := hsc2; have e := (pstep_ok HI1.out (by rw [HH.out, HLL.out]; exact hlt)).2.2.1; rw [hps] at e; have := (scan_ok (s := s1) (g := g) (rest := L) (kept := []) (by rw [List.nil_append]; exact HSC.out)).head; rw [← hscan] at this; rw [← HH.out]; exact this
     have HH2 := Lib.hid hh2
     clear hcut hR2 hin3 hfr3 hx2 hs2 he2 hsc2 hscan hfr2 hps hwT hwg hdr hh2 HR1 HSC
     go_upto_region 27 with fail
     refine wp_region_seqE (fun x => Below wr.heap.size wr x) (.one 0 1 (.one 1 1 (.one 2 1 (.one 3 0 (.one 4 1 (.one 5 1 (.one 6 1 (.one 7 1 (.alt 8 3 .nil .stop))))))))) (by kernel_rfl) (by kernel_rfl) (by kernel_rfl) (Below.drew (Below.refl _ _)) ?_
     iterate 5 (first | (refine seqE_free (v := ?_) rfl (by rfl) ?_ ?_; rotate_left; (focus (intro w; go_simp; try with_reducible rfl)); (try simp only [Act.put, List.setIfInBounds_toArray, List.set_cons_zero, List.set_cons_succ])) | (refine seqE_pure (v := ?_) rfl (by rfl) ?_ ?_; rotate_left; (focus (intro w hS; have f7 := oldcell hS f7 (World.block_lt_of_cell? _ _ f7); have c7 := oldcell hS c7 (World.block_lt_of_cell? _ _ c7); go_simp; try with_reducible rfl)); (try simp only [Act.put, List.setIfInBounds_toArray, List.set_cons_zero, List.set_cons_succ])))
     refine seqE_fcall (v := (.int .i64 (I : Nat))) (f := ?_) (args := ?_) rfl (by rfl) ?_ ?_ ?_
     rotate_left 2
     focus (intro w; go_simp; first | done | with_reducible rfl | (refine ⟨?_, ?_⟩ <;> with_reducible rfl))
     focus (intro w; exact HIX.out w)
     (try simp only [Act.put, List.setIfInBounds_toArray, List.set_cons_zero, List.set_cons_succ])
     iterate 2 (refine seqE_free (v := ?_) rfl (by rfl) ?_ ?_; rotate_left; (focus (intro w; go_simp; try with_reducible rfl)); (try simp only [Act.put, List.setIfInBounds_toArray, List.set_cons_zero, List.set_cons_succ]))
     refine seqE_storeB rfl (by rfl) ?_ seqE_stop
     intro wS hS; have c7f := oldfree hS c7f (World.block_lt_of_cell? _ _ c7); have f7 := oldcell hS f7 (World.block_lt_of_cell? _ _ f7); have c7 := oldcell hS c7 (World.block_lt_of_cell? _ _ c7)
     refine ⟨wS.setCell ⟨gw2, I, none⟩ (.slice pi kp.length ci), (by go_simp; try with_reducible rfl), fun x => Below (wS.setCell ⟨gw2, I, none⟩ (.slice pi kp.length ci)).heap.size (wS.setCell ⟨gw2, I, none⟩ (.slice pi kp.length ci)) x, Below.refl _ _, ?_⟩
     have hS0 := hS; clear hS
     (try simp only [Act.put, List.setIfInBounds_toArray, List.set_cons_zero, List.set_cons_succ])
     refine seqE_nil ?_
     intro w5 hS
     obtain ⟨h5, hx5⟩ := HCUT.out _ hS0
     replace h5 := h5.up hS
     have hx6 := ((HX3.out.trans (Ext.below (X := NoX) hS0) fun _ _ q => q).trans hx5 fun _ _ q => q).trans (Ext.below (X := NoX) hS) fun _ _ q => q
     clear hS hS0 hx5 HCUT HX3 f7 c7 c7f
     obtain ⟨f8, f8f⟩ := h5.fld 8 (u := .int .i64 (H : Nat)) (by show some (Value.int .i64 ((s2.head : Nat) : Int)) = _; rw [HH2.out])
     have h6 := h5.set (r := .self) h5.hb 8 (.int .i64 (H1 : Int)) (s' := { setW s2 g kp with head := H1 }) (oc' := oc) (by funext r; cases r <;> rfl)
     have H6 := Lib.hid h6.1; have HX6 := Lib.hid (hx6.trans h6.2 fun _ _ q => q)
     have hwH := HWH.out
     clear h5 h6 hx6
     go_wp2_with fail
     go_roundg G1
     case measure => omega
     case rel => exact ⟨_, o2, H6.out.at, HX6.out, HIN3.out, HR2.out, (show n ≤ H1 + G1 by have := HH1.out; omega), HFR3.out⟩
    case pos =>
     obtain ⟨gi, rfl⟩ : ∃ gi, pi = some ⟨gi, 0, none⟩ := by
      rcases HPI.out with ⟨-, q, -⟩ | q
      · omega
      · exact q
     obtain ⟨k, hk⟩ : ∃ z, L.getD j 0 = z := ⟨_, rfl⟩
     have hLj : L[j]? = some k := by rw [← hk, List.getD_eq_getElem?_getD, List.getElem?_eq_getElem (by rw [HN.out]; exact hlt2)]; rfl
     have hdr : L.drop j = k :: L.drop (j + 1) := by
      rw [List.drop_eq_getElem_cons (by rw [HN.out]; exact hlt2)]
      congr 1
      rw [← hk, List.getD_eq_getElem?_getD, List.getElem?_eq_getElem (by rw [HN.out]; exact hlt2)]; rfl
     rw [hdr] at hsc2 hscan
     obtain ⟨cc, b1, hck, hwp⟩ := (hsc2.wa.wm g HGO.out k).1 (by rw [if_pos rfl]; simp)
     obtain ⟨hc2, hcn, hclk⟩ := hsc2.wa.cl k cc hck
     have hclen := lits_len hcn hclk
     obtain ⟨a0, b0, t, rfl⟩ : ∃ a b t, cc = a :: b :: t := by
      match cc, hc2 with
      | a :: b :: t, _ => exact ⟨a, b, t, rfl⟩
     have hg2 : a0 = g ∨ b0 = g := by
      rcases wp_cons.1 hwp with q | q
      · exact .inl q.1
      · exact .inr q.2
     obtain ⟨o0, ho0⟩ : ∃ z, (if a0 = g then b0 else a0) = z := ⟨_, rfl⟩
     obtain ⟨hsw, hperm⟩ := hsc2.swap hck hg2
     rw [ho0] at hsw hperm
     have hlok : ∀ x ∈ o0 :: g :: t, LOk n x := fun x hx => hclk x (hperm.mem_iff.1 hx)
     have hond : (o0 :: g :: t).Nodup := hperm.nodup_iff.2 hcn
     have hkC : k < s2.clauses.length := (List.getElem?_eq_some_iff.1 hck).1
     have hgd : s2.clauses.getD k [] = a0 :: b0 :: t := by rw [List.getD_eq_getElem?_getD, hck]; rfl
     have hC2 : s2.clauses.length ≤ 900000 := by
      have e1 := hfr2.cp.1
      have e2 := HFR1.out.cp.1
      omega
     have hw2 : s2.watches.length = W := by rw [hsc2.wa.wl]; exact HW.out
     obtain ⟨K, hK⟩ : ∃ z, kp ++ L.drop kp.length = z := ⟨_, rfl⟩
     have hKl : K.length = N := by rw [← hK, List.length_append, List.length_drop, HN.out]; omega
     have hKj : K[j]? = some k := by
      rw [← hK, List.getElem?_append_right (by omega), List.getElem?_drop, show kp.length + (j - kp.length) = j by omega]; exact hLj
     rw [hK] at hs2
     have hKg : (setW s2 g K).watches.getD I [] = K := by rw [← HII.out]; exact setW_get (by rw [HII.out, hw2]; exact hIW)
     obtain ⟨cj, -⟩ := hs2.cell (r := .wl I) he2 (i := j) (u := .int .i64 (k : Nat)) (by
      show (nV ((setW s2 g K).watches.getD I []))[j]? = _
      rw [hKg]; unfold nV; rw [List.getElem?_map, hKj]; rfl)
     obtain ⟨C, hC⟩ : ∃ z, s2.clauses.length = z := ⟨_, rfl⟩
     obtain ⟨gc, ccap, ec⟩ := hs2.clauses_arr (by show 0 < s2.clauses.length; omega)
     rw [show (setW s2 g K).clauses.length = C from hC] at ec
     obtain ⟨f6, -⟩ := hs2.fld 6 (u := hd2 .clauses) rfl
     rw [ec] at f6
     obtain ⟨c6, -⟩ := hs2.cell (r := .clauses) ec (i := k) (u := hd2 (.cl k)) (rows_get (fun k => hd2 (.cl k)) hkC)
     obtain ⟨gq, cak, ek⟩ := hs2.cl_arr k (by show 0 < (s2.clauses.getD k []).length; rw [hgd]; simp)
     obtain ⟨T, hT⟩ : ∃ z, t.length = z := ⟨_, rfl⟩
     obtain ⟨M, hM⟩ : ∃ z, T + 2 = z := ⟨_, rfl⟩
     rw [show ((setW s2 g K).clauses.getD k []).length = M by show (s2.clauses.getD k []).length = M; rw [hgd, ← hM, ← hT]; rfl] at ek
     rw [ek] at c6
     obtain ⟨c0, c0f⟩ := hs2.cell (r := .cl k) ek (i := 0) (u := .int .i64 a0) (by show (iV (s2.clauses.getD k []))[0]? = _; rw [hgd]; rfl)
     obtain ⟨c1, c1f⟩ := hs2.cell (r := .cl k) ek (i := 1) (u := .int .i64 b0) (by show (iV (s2.clauses.getD k []))[1]? = _; rw [hgd]; rfl)
     have hkCi : (k : Int) < (C : Int) := by omega
     have hjNi : (j : Int) < (N : Int) := by omega
     have hMn : M ≤ 2 * n + 2 := by rw [← hM, ← hT]; simpa using hclen
     have hM2 : 2 ≤ M := by omega
     have h0M : (0 : Int) < (M : Int) := by omega
     have h1M : (1 : Int) < (M : Int) := by omega
     have h0Mn : 0 < M := by omega
     have h1Mn : 1 < M := by omega
     have HS2 := Lib.hid hs2; have HE2 := Lib.hid he2; have HX2 := Lib.hid hx2; have HKJ := Lib.hid hkj; have HSC2 := Lib.hid hsc2; have HSCAN := Lib.hid hscan; have HFR2 := Lib.hid hfr2
     have HK := Lib.hid hk; have HDR := Lib.hid hdr; have HCK := Lib.hid hck; have HG2C := Lib.hid hg2; have HO0 := Lib.hid ho0; have HSW := Lib.hid hsw; have HLOK := Lib.hid hlok; have HOND := Lib.hid hond; have HGD := Lib.hid hgd; have HW2 := Lib.hid hw2; have HKK := Lib.hid hK; have HKL := Lib.hid hKl; have HKG := Lib.hid hKg; have HC := Lib.hid hC; have HEC := Lib.hid ec; have HEK := Lib.hid ek; have HTT := Lib.hid hT; have HMM := Lib.hid hM; have HKJ2 := Lib.hid hKj
     clear hs2 he2 hx2 hkj hsc2 hscan hfr2 hk hdr hck hwp hc2 hcn hclk hg2 ho0 hsw hperm hlok hond hgd hw2 hK hKl hKj hKg hC ec ek hT hM hLj hclen
     obtain ⟨T1, hT1⟩ : ∃ z, setW { s2 with clauses := s2.clauses.set k (o0 :: g :: t) } g K = z := ⟨_, rfl⟩
     have HT1 := Lib.hid hT1; clear hT1
     go_upto_if 68 with fail
     go_cut [52] from 52 to 181 (fun s52 wx => s52 = .int .i64 (j : Nat) ∧ Sl wx o2 b T1 oc hd2 ∧ Ext NoX w o wx o2)
     case first =>
      by_cases hag : a0 = g
      · have hagb : (a0 == g) = true := by simpa using hag
        have ho1 : o0 = b0 := by rw [← HO0.out, if_pos hag]
        go_upto_region 11 with fail
        refine wp_region_seqE (fun x => Below wr.heap.size wr x) (.one 0 1 (.one 1 1 (.one 2 1 (.one 3 1 (.one 4 0 (.one 5 1 (.one 6 1 (.one 7 0 (.one 8 1 (.alt 9 3 (.one 10 1 (.alt 11 3 .nil .stop)) .stop)))))))))) (by kernel_rfl) (by kernel_rfl) (by kernel_rfl) (Below.drew (Below.refl _ _)) ?_
        iterate 9 (first | (refine seqE_free (v := ?_) rfl (by rfl) ?_ ?_; rotate_left; (focus (intro w; go_simp; try with_reducible rfl)); (try simp only [Act.put, List.setIfInBounds_toArray, List.set_cons_zero, List.set_cons_succ])) | (refine seqE_pure (v := ?_) rfl (by rfl) ?_ ?_; rotate_left; (focus (intro w hS; have c0 := oldcell hS c0 (World.block_lt_of_cell? _ _ c0); have c1 := oldcell hS c1 (World.block_lt_of_cell? _ _ c1); go_simp; try with_reducible rfl)); (try simp only [Act.put, List.setIfInBounds_toArray, List.set_cons_zero, List.set_cons_succ])))
        refine seqE_storeB rfl (by rfl) ?_ seqE_stop
        intro wS hS
        have d1 := oldcell hS c0 (World.block_lt_of_cell? _ _ c0); have d1f := oldfree hS c0f (World.block_lt_of_cell? _ _ c0)
        refine ⟨wS.setCell ⟨gq, 0, none⟩ (.int .i64 b0), (by go_simp; try with_reducible rfl), fun x => Below (wS.setCell ⟨gq, 0, none⟩ (.int .i64 b0)).heap.size (wS.setCell ⟨gq, 0, none⟩ (.int .i64 b0)) x, Below.refl _ _, ?_⟩
        have hA := (HS2.out.up hS).cset (k := k) (by show k < s2.clauses.length; rw [HC.out]; omega) HEK.out (l := a0 :: b0 :: t) HGD.out 0 b0
        have hXA := (HX2.out.trans (Ext.below (X := NoX) hS) fun _ _ q => q).trans hA.2 fun _ _ q => q
        have HA := Lib.hid hA.1; have HXA := Lib.hid hXA
        clear d1 d1f hS hA hXA
        (try simp only [Act.put, List.setIfInBounds_toArray, List.set_cons_zero, List.set_cons_succ])
        iterate 1 (refine seqE_free (v := ?_) rfl (by rfl) ?_ ?_; rotate_left; (focus (intro w; go_simp; try with_reducible rfl)); (try simp only [Act.put, List.setIfInBounds_toArray, List.set_cons_zero, List.set_cons_succ]))
        refine seqE_storeB rfl (by rfl) ?_ seqE_stop
        intro wT hT
        obtain ⟨d1, d1f⟩ := (HA.out.up hT).cell (r := .cl k) HEK.out (i := 1) (u := .int .i64 b0) (by
          show (iV ((s2.clauses.set k (b0 :: b0 :: t)).getD k []))[1]? = _
          rw [List.getD_eq_getElem?_getD, set_self HCK.out]; rfl)
        refine ⟨wT.setCell ⟨gq, 1, none⟩ (.int .i64 a0), (by go_simp; try with_reducible rfl), fun x => Below (wT.setCell ⟨gq, 1, none⟩ (.int .i64 a0)).heap.size (wT.setCell ⟨gq, 1, none⟩ (.int .i64 a0)) x, Below.refl _ _, ?_⟩
        have hA2 := (HA.out.up hT).cset (k := k) (by show k < (s2.clauses.set k (b0 :: b0 :: t)).length; rw [List.length_set, HC.out]; omega) HEK.out (l := b0 :: b0 :: t) (by
          show (s2.clauses.set k (b0 :: b0 :: t)).getD k [] = _
          rw [List.getD_eq_getElem?_getD, set_self HCK.out]; rfl) 1 a0
        have hXA2 := (HXA.out.trans (Ext.below (X := NoX) hT) fun _ _ q => q).trans hA2.2 fun _ _ q => q
        have HA2 := Lib.hid hA2.1; have HXA2 := Lib.hid hXA2
        clear d1 d1f hT hA2 hXA2
        (try simp only [Act.put, List.setIfInBounds_toArray, List.set_cons_zero, List.set_cons_succ])
        refine seqE_nil ?_
        intro w4 hS
        have hA3 := HA2.out.up hS
        have e : ({ setW s2 g K with clauses := ((s2.clauses.set k ((a0 :: b0 :: t).set 0 b0)).set k ((b0 :: b0 :: t).set 1 a0)) } : SS) = T1 := by
          rw [← HT1.out, List.set_set, ho1]
          show _ = setW { s2 with clauses := s2.clauses.set k (b0 :: g :: t) } g K
          rw [← hag]; rfl
        have hA4 : Sl w4 o2 b T1 oc hd2 := by rw [← e]; exact hA3
        have HA4 := Lib.hid hA4; have HX4 := Lib.hid (HXA2.out.trans (Ext.below (X := NoX) hS) fun _ _ q => q)
        clear hA3 e hA4
        go_wp2_with fail
        go_meet
        exact ⟨rfl, HA4.out, HX4.out⟩
      · have hagb : (a0 == g) = false := by simpa using hag
        have e : setW s2 g K = T1 := by
          have e1 : o0 = a0 := by rw [← HO0.out, if_neg hag]
          have e2 : g = b0 := (HG2C.out.resolve_left hag).symm
          rw [← HT1.out, e1]
          show setW s2 g K = setW { s2 with clauses := s2.clauses.set k (a0 :: g :: t) } g K
          have e3 : s2.clauses.set k (a0 :: g :: t) = s2.clauses := by rw [e2]; exact set_same HCK.out
          rw [e3]
        have HEQ := Lib.hid e; clear e
        go_wp2_with fail
        go_meet
        exact ⟨rfl, by rw [← HEQ.out]; exact HS2.out, HX2.out⟩
     case rest =>
     obtain ⟨rfl, hs3, hx3⟩ := hcut
     clear c0 c0f c1 c1f cj f6 c6 HS2 HX2
     have hgd1 : T1.clauses.getD k [] = o0 :: g :: t := by
       rw [← HT1.out]
       show (s2.clauses.set k (o0 :: g :: t)).getD k [] = _
       rw [List.getD_eq_getElem?_getD, set_self HCK.out]; rfl
     obtain ⟨c0, c0f⟩ := hs3.cell (r := .cl k) HEK.out (i := 0) (u := .int .i64 o0) (by show (iV (T1.clauses.getD k []))[0]? = _; rw [hgd1]; rfl)
     obtain ⟨c1, c1f⟩ := hs3.cell (r := .cl k) HEK.out (i := 1) (u := .int .i64 g) (by show (iV (T1.clauses.getD k []))[1]? = _; rw [hgd1]; rfl)
     have ht1 : Tr n T1 := by rw [← HT1.out]; exact (HSW.out.tr).setW g K
     have hof : ∀ z, T1.of z = s2.of z := fun z => by rw [← HT1.out]; rfl
     have hoo := HLOK.out o0 (by simp)
     obtain ⟨y, hy⟩ : ∃ z, s2.of o0 = z := ⟨_, rfl⟩
     have htri := ht1.tri hoo
     rw [hof, hy] at htri
     have hcy : ∀ wx, Below wc.heap.size wc wx → Calls Try.prog 34 #[.pointer (some ⟨b, 0, none⟩), .int .i64 o0] wx fun e w' => e = .returned (.int .i64 y) ∧ w' = wx := fun wx hB => by
       have q := of_any (hs3.up hB).at ht1 hn hoo
       rw [hof, hy] at q; exact q
     have htg1 : T1.watches.getD I [] = K := by rw [← HT1.out, ← HII.out]; exact setW_get (s := { s2 with clauses := s2.clauses.set k (o0 :: g :: t) }) (by show idx g < s2.watches.length; rw [HII.out, HW2.out]; exact hIW)
     have htw1 : T1.watches.length = W := by rw [← HT1.out]; show (s2.watches.set _ _).length = W; rw [List.length_set]; exact HW2.out
     have HS3 := Lib.hid hs3; have HX3 := Lib.hid hx3; have HGD1 := Lib.hid hgd1; have HTR1 := Lib.hid ht1; have HOF := Lib.hid hof; have HY := Lib.hid hy; have HCY := Lib.hid hcy; have HTG1 := Lib.hid htg1; have HTW1 := Lib.hid htw1; have HOO := Lib.hid hoo
     clear hs3 hx3 hgd1 ht1 hof hy hcy htg1 htw1 hoo
     go_upto_region 12 with fail
     refine wp_region_seqE (fun x => Below wc.heap.size wc x) (.one 0 1 (.one 1 1 (.one 2 1 (.one 3 1 (.one 4 1 (.one 5 0 (.one 6 0 (.one 7 1 .nil)))))))) (by kernel_rfl) (by kernel_rfl) (by kernel_rfl) (Below.drew (Below.refl _ _)) ?_
     iterate 6 (first | (refine seqE_free (v := ?_) rfl (by rfl) ?_ ?_; rotate_left; (focus (intro w; go_simp; try with_reducible rfl)); (try simp only [Act.put, List.setIfInBounds_toArray, List.set_cons_zero, List.set_cons_succ])) | (refine seqE_pure (v := ?_) rfl (by rfl) ?_ ?_; rotate_left; (focus (intro w hS; have c0 := oldcell hS c0 (World.block_lt_of_cell? _ _ c0); go_simp; try with_reducible rfl)); (try simp only [Act.put, List.setIfInBounds_toArray, List.set_cons_zero, List.set_cons_succ])))
     refine seqE_still (v := (.int .i64 y)) (f := ?_) (args := ?_) rfl (by rfl) ?_ ?_ ?_
     rotate_left 2
     focus (intro w hS; have c0 := oldcell hS c0 (World.block_lt_of_cell? _ _ c0); go_simp; first | done | with_reducible rfl | (refine ⟨?_, ?_⟩ <;> with_reducible rfl))
     focus (intro w hS; exact HCY.out w hS)
     (try simp only [Act.put, List.setIfInBounds_toArray, List.set_cons_zero, List.set_cons_succ])
     iterate 1 (refine seqE_free (v := ?_) rfl (by rfl) ?_ ?_; rotate_left; (focus (intro w; go_simp; try with_reducible rfl)); (try simp only [Act.put, List.setIfInBounds_toArray, List.set_cons_zero, List.set_cons_succ]))
     refine seqE_nil ?_
     intro wd hS
     have hs4 := HS3.out.up hS
     have hx4 := HX3.out.trans (Ext.below (X := NoX) hS) fun _ _ q => q
     replace HCY := Lib.hid (fun wx (hB : Below wd.heap.size wd wx) => HCY.out wx (btr hS hB))
     have HS4 := Lib.hid hs4; have HX4 := Lib.hid hx4
     replace c0 := oldcell hS c0 (World.block_lt_of_cell? _ _ c0); replace c1 := oldcell hS c1 (World.block_lt_of_cell? _ _ c1)
     clear hS hs4 hx4 HS3 HX3 c0f c1f
     by_cases hy0 : 0 < y
     · have hB1 : Below wd.heap.size wd (wd.alloc (.cells #[.int .i64 (k : Nat)] 3)) := by go_grown
       obtain ⟨w7, hrun, h7, hx7⟩ := HS4.out.over (P := Try.prog) (i := I) (by rw [HTW1.out]; exact hIW) HE2.out kp.length [k] (q := 1) rfl (by have := HKJ.out; omega) 29 29 i1 Try.underlying29 hj0 hj1 hB1 ⟨wd.heap.size, 0, none⟩ 1 (fun q u hu => one_new wd _ _ q u hu)
       rw [HTG1.out] at h7
       have hvis := visit_sat HGD.out HO0.out (by rw [HY.out]; exact hy0)
       have HV := visit_ok HSC2.out
       have hscn := HSCAN.out
       rw [hvis] at HV
       rw [scan_keep hvis] at hscn
       have hKn : K.take kp.length ++ [k] ++ K.drop (kp.length + 1) = (kp ++ [k]) ++ L.drop (kp ++ [k]).length := by
         rw [← HKK.out, List.take_left, List.length_append, List.length_singleton, List.drop_append, List.drop_eq_nil_of_le (by omega), List.nil_append, Nat.add_sub_cancel_left, List.drop_drop]
       rw [hKn, ← HII.out, ← HT1.out, setW_set] at h7
       have HV2 := Lib.hid HV; have HSN := Lib.hid hscn; have H7 := Lib.hid h7; have HX7 := Lib.hid (HX4.out.trans hx7 fun _ _ q => q)
       clear HV hvis hscn hKn h7 hx7 hB1 c0 c1
       go_wp2_with (first | (at_builtin; go_must (refine wpList_run rfl (exec_app rfl rfl rfl hrun) ?_)))
       go_roundg (N - (j + 1))
       case measure => (have := HG2.out; omega)
       case rel => exact ⟨j + 1, kp ++ [k], _, o2, hd2, by simp, by go_num, by omega, rfl, H7.out, HE2.out, HX7.out, by have := HKJ.out; simp; omega, HV2.out.go rfl, HSN.out, HFR2.out.trans HV2.out.fr⟩
     · go_wp2_with fail
       go_loopg [9] T (fun G3 s9 wx => ∃ Q : Nat, s9 = .int .i64 (Q : Nat) ∧ 2 ≤ Q ∧ Q ≤ M ∧ G3 = M - Q ∧ Below wd.heap.size wd wx ∧ ∀ i, i + 2 < Q → s2.of (t.getD i 0) < 0)
       case atStart => exact ⟨2, rfl, by omega, by omega, by have := HMM.out; omega, Below.refl _ _, fun i hi => by omega⟩
       case round =>
        obtain ⟨Q, rfl, hQ2, hQM, hG3, hB3, hneg⟩ := hrel
        have HG3 := Lib.hid hG3; have HNEG := Lib.hid hneg
        clear hG3 hneg c0 c1
        by_cases hQ : Q < M
        case pos =>
         obtain ⟨q, hq⟩ : ∃ z, z + 2 = Q := ⟨Q - 2, by omega⟩
         have hqt : q < t.length := by rw [HTT.out]; have := HMM.out; omega
         obtain ⟨z, hz⟩ : ∃ z, t.getD q 0 = z := ⟨_, rfl⟩
         have hzt : z ∈ t := by rw [← hz, List.getD_eq_getElem?_getD, List.getElem?_eq_getElem hqt]; exact List.getElem_mem _
         have hzo := HLOK.out z (by simp [hzt])
         have hzQ : (o0 :: g :: t)[Q]? = some z := by
           rw [← hq, ← hz]
           show t[q]? = _
           rw [List.getD_eq_getElem?_getD, List.getElem?_eq_getElem hqt]; rfl
         have hs5 := HS4.out.up hB3
         obtain ⟨cz, -⟩ := hs5.cell (r := .cl k) HEK.out (i := Q) (u := .int .i64 z) (by
           show (iV (T1.clauses.getD k []))[Q]? = _
           rw [HGD1.out]; unfold iV; rw [List.getElem?_map, hzQ]; rfl)
         obtain ⟨y2, hy2⟩ : ∃ z', s2.of z = z' := ⟨_, rfl⟩
         have hcz : ∀ wx, Below wr.heap.size wr wx → Calls Try.prog 34 #[.pointer (some ⟨b, 0, none⟩), .int .i64 z] wx fun e w' => e = .returned (.int .i64 y2) ∧ w' = wx := fun wx hB => by
           have q := of_any (hs5.up hB).at HTR1.out hn hzo
           rw [HOF.out, hy2] at q; exact q
         have hQi : (Q : Int) < (M : Int) := by omega
         obtain ⟨Q1, hQ1⟩ : ∃ z, Q + 1 = z := ⟨_, rfl⟩
         have hwQ : IntKind.i64.wrap ((Q : Int) + 1) = (Q1 : Int) := by rw [wrapI (by omega) (by omega)]; omega
         have HCZ := Lib.hid hcz; have HY2 := Lib.hid hy2; have HZ := Lib.hid hz; have HZT := Lib.hid hzt; have HZO := Lib.hid hzo; have HZQ := Lib.hid hzQ; have HQ := Lib.hid hq; have HQT := Lib.hid hqt; have HQ1 := Lib.hid hQ1
         clear hcz hy2 hz hzt hzo hzQ hq hqt hs5 hQ1
         go_upto_region 15 with fail
         refine wp_region_seqE (fun x => Below wr.heap.size wr x) (.one 0 1 (.one 1 1 (.one 2 1 (.one 3 1 (.one 4 1 (.one 5 1 (.one 6 1 (.one 7 1 (.one 8 1 (.one 9 1 (.one 10 1 (.one 11 0 (.one 12 0 (.one 13 1 (.one 14 1 .nil))))))))))))))) (by kernel_rfl) (by kernel_rfl) (by kernel_rfl) (Below.drew (Below.refl _ _)) ?_
         iterate 12 (first | (refine seqE_free (v := ?_) rfl (by rfl) ?_ ?_; rotate_left; (focus (intro w; go_simp; try with_reducible rfl)); (try simp only [Act.put, List.setIfInBounds_toArray, List.set_cons_zero, List.set_cons_succ])) | (refine seqE_pure (v := ?_) rfl (by rfl) ?_ ?_; rotate_left; (focus (intro w hS; have cz := oldcell hS cz (World.block_lt_of_cell? _ _ cz); go_simp; try with_reducible rfl)); (try simp only [Act.put, List.setIfInBounds_toArray, List.set_cons_zero, List.set_cons_succ])))
         refine seqE_still (v := (.int .i64 y2)) (f := ?_) (args := ?_) rfl (by rfl) ?_ ?_ ?_
         rotate_left 2
         focus (intro w hS; have cz := oldcell hS cz (World.block_lt_of_cell? _ _ cz); go_simp; first | done | with_reducible rfl | (refine ⟨?_, ?_⟩ <;> with_reducible rfl))
         focus (intro w hS; exact HCZ.out w hS)
         (try simp only [Act.put, List.setIfInBounds_toArray, List.set_cons_zero, List.set_cons_succ])
         iterate 2 (refine seqE_free (v := ?_) rfl (by rfl) ?_ ?_; rotate_left; (focus (intro w; go_simp; try with_reducible rfl)); (try simp only [Act.put, List.setIfInBounds_toArray, List.set_cons_zero, List.set_cons_succ]))
         refine seqE_nil ?_
         intro wf hS
         have hB4 := btr hB3 hS
         clear hS hB3 cz
         by_cases hz0 : y2 < 0
         · go_wp2_with fail
           go_roundg (M - Q1)
           case measure => (have := HG3.out; have := HQ1.out; omega)
           case rel =>
             refine ⟨Q1, rfl, by have := HQ1.out; omega, by have := HQ1.out; omega, rfl, hB4, fun i hi => ?_⟩
             rcases Nat.lt_or_ge (i + 2) Q with e | e
             · exact HNEG.out i e
             · have e2 : i = q := by have := HQ1.out; have := HQ.out; omega
               rw [e2, HZ.out, HY2.out]; exact hz0
         · clear hwQ
           have hs5 := HS4.out.up hB4
           have hx5 := HX4.out.trans (Ext.below (X := NoX) hB4) fun _ _ q => q
           obtain ⟨cz, czf⟩ := hs5.cell (r := .cl k) HEK.out (i := Q) (u := .int .i64 z) (by
               show (iV (T1.clauses.getD k []))[Q]? = _
               rw [HGD1.out]; unfold iV; rw [List.getElem?_map, HZQ.out]; rfl)
           obtain ⟨c1, c1f⟩ := hs5.cell (r := .cl k) HEK.out (i := 1) (u := .int .i64 g) (by show (iV (T1.clauses.getD k []))[1]? = _; rw [HGD1.out]; rfl)
           have hkC1 : k < T1.clauses.length := by
             rcases Nat.lt_or_ge k T1.clauses.length with q | q
             · exact q
             · have := HGD1.out; rw [List.getD_eq_getElem?_getD, List.getElem?_eq_none q] at this; cases this
           have HS5 := Lib.hid hs5; have HX5 := Lib.hid hx5; have HKC1 := Lib.hid hkC1
           clear hs5 hx5 hkC1 hB4 HS4 HX4
           go_upto_region 18 with fail
           refine wp_region_seqE (fun x => Below wf.heap.size wf x) (.one 0 1 (.one 1 1 (.one 2 1 (.one 3 1 (.one 4 1 (.one 5 1 (.one 6 0 (.one 7 1 (.one 8 1 (.one 9 0 (.one 10 1 (.alt 11 3 (.one 12 1 (.alt 13 3 .nil .stop)) .stop)))))))))))) (by kernel_rfl) (by kernel_rfl) (by kernel_rfl) (Below.drew (Below.refl _ _)) ?_
           iterate 11 (first | (refine seqE_free (v := ?_) rfl (by rfl) ?_ ?_; rotate_left; (focus (intro w; go_simp; try with_reducible rfl)); (try simp only [Act.put, List.setIfInBounds_toArray, List.set_cons_zero, List.set_cons_succ])) | (refine seqE_pure (v := ?_) rfl (by rfl) ?_ ?_; rotate_left; (focus (intro w hS; have cz := oldcell hS cz (World.block_lt_of_cell? _ _ cz); have c1 := oldcell hS c1 (World.block_lt_of_cell? _ _ c1); go_simp; try with_reducible rfl)); (try simp only [Act.put, List.setIfInBounds_toArray, List.set_cons_zero, List.set_cons_succ])))
           refine seqE_storeB rfl (by rfl) ?_ seqE_stop
           intro wS hS
           have d1 := oldcell hS c1 (World.block_lt_of_cell? _ _ c1); have d1f := oldfree hS c1f (World.block_lt_of_cell? _ _ c1)
           refine ⟨wS.setCell ⟨gq, 1, none⟩ (.int .i64 z), (by go_simp; try with_reducible rfl), fun x => Below (wS.setCell ⟨gq, 1, none⟩ (.int .i64 z)).heap.size (wS.setCell ⟨gq, 1, none⟩ (.int .i64 z)) x, Below.refl _ _, ?_⟩
           have hA := (HS5.out.up hS).cset HKC1.out HEK.out HGD1.out 1 z
           have hXA := (HX5.out.trans (Ext.below (X := NoX) hS) fun _ _ q => q).trans hA.2 fun _ _ q => q
           have HA := Lib.hid hA.1; have HXA := Lib.hid hXA
           clear d1 d1f hS hA hXA
           (try simp only [Act.put, List.setIfInBounds_toArray, List.set_cons_zero, List.set_cons_succ])
           iterate 1 (refine seqE_free (v := ?_) rfl (by rfl) ?_ ?_; rotate_left; (focus (intro w; go_simp; try with_reducible rfl)); (try simp only [Act.put, List.setIfInBounds_toArray, List.set_cons_zero, List.set_cons_succ]))
           refine seqE_storeB rfl (by rfl) ?_ seqE_stop
           intro wT hT
           have hgd9 : (T1.clauses.set k ((o0 :: g :: t).set 1 z)).getD k [] = o0 :: z :: t := by
             rw [List.getD_eq_getElem?_getD, List.getElem?_set, if_pos rfl, if_pos HKC1.out]; rfl
           obtain ⟨d1, d1f⟩ := (HA.out.up hT).cell (r := .cl k) HEK.out (i := Q) (u := .int .i64 z) (by
             show (iV ((T1.clauses.set k ((o0 :: g :: t).set 1 z)).getD k []))[Q]? = _
             rw [hgd9, ← HQ.out]; unfold iV; rw [List.getElem?_map]
             show Option.map _ (t[q]?) = _
             rw [← HZ.out, List.getD_eq_getElem?_getD, List.getElem?_eq_getElem HQT.out]; rfl)
           refine ⟨wT.setCell ⟨gq, Q, none⟩ (.int .i64 g), (by go_simp; try with_reducible rfl), fun x => Below (wT.setCell ⟨gq, Q, none⟩ (.int .i64 g)).heap.size (wT.setCell ⟨gq, Q, none⟩ (.int .i64 g)) x, Below.refl _ _, ?_⟩
           have hA2 := (HA.out.up hT).cset (k := k) (by show k < (T1.clauses.set k _).length; rw [List.length_set]; exact HKC1.out) HEK.out (l := o0 :: z :: t) hgd9 Q g
           have hXA2 := (HXA.out.trans (Ext.below (X := NoX) hT) fun _ _ q => q).trans hA2.2 fun _ _ q => q
           have HA2 := Lib.hid hA2.1; have HXA2 := Lib.hid hXA2
           clear d1 d1f hT hA2 hXA2 hgd9
           (try simp only [Act.put, List.setIfInBounds_toArray, List.set_cons_zero, List.set_cons_succ])
           refine seqE_nil ?_
           intro w5 hS
           have hzg : z ≠ g := by
             intro e
             have h1 := HOND.out
             rw [List.nodup_cons, List.nodup_cons] at h1
             exact h1.2.1 (by rw [← e]; exact HZT.out)
           obtain ⟨Iz, hIz⟩ : ∃ x, idx z = x := ⟨_, rfl⟩
           have hIzW := idx_lt HZO.out
           rw [hIz, HW.out] at hIzW
           have hIzI : Iz ≠ I := fun e => hzg (idx_inj (by rw [hIz, HII.out]; exact e) HZO.out.1 HGO.out.1)
           obtain ⟨T2, hT2⟩ : ∃ x, ({ s2 with clauses := s2.clauses.set k (o0 :: z :: t.set q g), watches := s2.watches.set (idx g) K } : SS) = x := ⟨_, rfl⟩
           have hs6 : Sl w5 o2 b T2 oc hd2 := by
             have h6 := HA2.out.up hS
             have e : ({ T1 with clauses := ((T1.clauses.set k ((o0 :: g :: t).set 1 z)).set k ((o0 :: z :: t).set Q g)) } : SS) = T2 := by
               rw [← hT2, ← HT1.out, List.set_set, ← HQ.out]
               show ({ setW { s2 with clauses := s2.clauses.set k (o0 :: g :: t) } g K with clauses := (s2.clauses.set k (o0 :: g :: t)).set k (o0 :: z :: t.set q g) } : SS) = _
               rw [List.set_set]; rfl
             rw [← e]; exact h6
           have hx6 := HXA2.out.trans (Ext.below (X := NoX) hS) fun _ _ q => q
           clear hS HA2 HXA2 HA HXA cz czf c1 c1f
           have hwT2 : T2.watches.length = W := by rw [← hT2]; show (s2.watches.set _ _).length = W; rw [List.length_set]; exact HW2.out
           have hcT2 : T2.clauses.getD k [] = o0 :: z :: t.set q g := by
             rw [← hT2]; show (s2.clauses.set k _).getD k [] = _
             rw [List.getD_eq_getElem?_getD, set_self HCK.out]; rfl
           have hrow : T2.watches.getD Iz [] = s2.wl z := by
             rw [← hT2]; show (s2.watches.set (idx g) K).getD Iz [] = s2.watches.getD (idx z) []
             rw [List.getD_eq_getElem?_getD, List.getElem?_set, if_neg (by rw [HII.out]; exact fun e => hIzI e.symm), ← List.getD_eq_getElem?_getD, hIz]
           have hlr : (s2.wl z).length ≤ 900000 := by
             have e1 := HSC2.out.wa.short HZO.out
             rw [if_neg hzg] at e1; omega
           obtain ⟨gw2, cw2, ew2⟩ := hs6.watches_arr (by omega)
           rw [hwT2] at ew2
           obtain ⟨pr, cr, er⟩ := hs6.wl_sl Iz
           rw [hrow] at er
           obtain ⟨lr, hlr0⟩ : ∃ x, (s2.wl z).length = x := ⟨_, rfl⟩
           rw [hlr0] at er hlr
           have hff7 : ∀ x, (Sl x o2 b T2 oc hd2 ∧ Ext NoX w o x o2) → x.cell? ⟨b, 7, none⟩ = some (.slice (some ⟨gw2, 0, none⟩) W cw2) := fun x hx => by
             obtain ⟨f7, -⟩ := hx.1.fld 7 (u := hd2 .watches) rfl
             rw [ew2] at f7; exact f7
           have hfc1 : ∀ x, (Sl x o2 b T2 oc hd2 ∧ Ext NoX w o x o2) → x.cell? ⟨gq, 1, none⟩ = some (.int .i64 z) := fun x hx =>
             (hx.1.cell (r := .cl k) HEK.out (i := 1) (u := .int .i64 z) (by show (iV (T2.clauses.getD k []))[1]? = _; rw [hcT2]; rfl)).1
           have hfc7 : ∀ x, (Sl x o2 b T2 oc hd2 ∧ Ext NoX w o x o2) → x.cell? ⟨gw2, Iz, none⟩ = some (.slice pr lr cr) := fun x hx => by
             obtain ⟨c7, -⟩ := hx.1.cell (r := .watches) ew2 (i := Iz) (u := hd2 (.wl Iz)) (rows_get (fun k => hd2 (.wl k)) (by omega))
             rw [er] at c7; exact c7
           have hixz : ∀ w, Calls Try.prog 52 #[.int .i64 z] w fun e w' => e = .returned (.int .i64 (Iz : Nat)) ∧ w' = w := fun w => by rw [← hIz]; exact index_any hn HZO.out
           have hIzi : (Iz : Int) < (W : Int) := by omega
           have HIXZ := Lib.hid hixz; have FF7 := Lib.hid hff7; have FC1 := Lib.hid hfc1; have FC7 := Lib.hid hfc7; have HS6 := Lib.hid hs6; have HX6 := Lib.hid hx6; have HIZ := Lib.hid hIz; have HIZI := Lib.hid hIzI; have HT2 := Lib.hid hT2; have HROW := Lib.hid hrow; have HER := Lib.hid er; have HEW2 := Lib.hid ew2; have HWT2 := Lib.hid hwT2; have HZG := Lib.hid hzg
           clear hixz hff7 hfc1 hfc7 hs6 hx6 hIz hIzI hT2 hrow er ew2 hwT2 hcT2 hlr0 hzg
           go_upto_region 19 with fail
           refine wp_region_seqE (fun x => Sl x o2 b T2 oc hd2 ∧ Ext NoX w o x o2) (.one 0 1 (.one 1 1 (.one 2 1 (.one 3 0 (.one 4 1 (.one 5 1 (.one 6 0 (.one 7 1 (.one 8 1 (.one 9 1 (.one 10 1 (.one 11 0 (.one 12 1 (.one 13 1 (.one 14 0 (.one 15 1 (.one 16 1 (.one 17 0 (.one 18 1 (.alt 19 2 (.alt 20 2 (.one 21 1 (.alt 22 3 .nil .stop)) .stop) .stop)))))))))))))))))))) (by kernel_rfl) (by kernel_rfl) (by kernel_rfl) ⟨HS6.out.up (Below.drew (Below.refl _ _)), HX6.out.trans (Ext.below (Below.drew (Below.refl _ _))) fun _ _ q => q⟩ ?_
           iterate 7 (first | (refine seqE_free (v := ?_) rfl (by rfl) ?_ ?_; rotate_left; (focus (intro w; go_simp; try with_reducible rfl)); (try simp only [Act.put, List.setIfInBounds_toArray, List.set_cons_zero, List.set_cons_succ])) | (refine seqE_pure (v := ?_) rfl (by rfl) ?_ ?_; rotate_left; (focus (intro w hS; have f7 := FF7.out w hS; have c1 := FC1.out w hS; have c7 := FC7.out w hS; go_simp; try with_reducible rfl)); (try simp only [Act.put, List.setIfInBounds_toArray, List.set_cons_zero, List.set_cons_succ])))
           refine seqE_fcall (v := (.int .i64 (Iz : Nat))) (f := ?_) (args := ?_) rfl (by rfl) ?_ ?_ ?_
           rotate_left 2
           focus (intro w; go_simp; first | done | with_reducible rfl | (refine ⟨?_, ?_⟩ <;> with_reducible rfl))
           focus (intro w; exact HIXZ.out w)
           (try simp only [Act.put, List.setIfInBounds_toArray, List.set_cons_zero, List.set_cons_succ])
           iterate 7 (first | (refine seqE_free (v := ?_) rfl (by rfl) ?_ ?_; rotate_left; (focus (intro w; go_simp; try with_reducible rfl)); (try simp only [Act.put, List.setIfInBounds_toArray, List.set_cons_zero, List.set_cons_succ])) | (refine seqE_pure (v := ?_) rfl (by rfl) ?_ ?_; rotate_left; (focus (intro w hS; have f7 := FF7.out w hS; have c1 := FC1.out w hS; have c7 := FC7.out w hS; go_simp; try with_reducible rfl)); (try simp only [Act.put, List.setIfInBounds_toArray, List.set_cons_zero, List.set_cons_succ])))
           refine seqE_fcall (v := (.int .i64 (Iz : Nat))) (f := ?_) (args := ?_) rfl (by rfl) ?_ ?_ ?_
           rotate_left 2
           focus (intro w; go_simp; first | done | with_reducible rfl | (refine ⟨?_, ?_⟩ <;> with_reducible rfl))
           focus (intro w; exact HIXZ.out w)
           (try simp only [Act.put, List.setIfInBounds_toArray, List.set_cons_zero, List.set_cons_succ])
           iterate 3 (first | (refine seqE_free (v := ?_) rfl (by rfl) ?_ ?_; rotate_left; (focus (intro w; go_simp; try with_reducible rfl)); (try simp only [Act.put, List.setIfInBounds_toArray, List.set_cons_zero, List.set_cons_succ])) | (refine seqE_pure (v := ?_) rfl (by rfl) ?_ ?_; rotate_left; (focus (intro w hS; have f7 := FF7.out w hS; have c1 := FC1.out w hS; have c7 := FC7.out w hS; go_simp; try with_reducible rfl)); (try simp only [Act.put, List.setIfInBounds_toArray, List.set_cons_zero, List.set_cons_succ])))
           refine seqE_move rfl (by rfl) ?_ seqE_stop
           intro wb hS
           have hBb : Below wb.heap.size wb (wb.alloc (.cells #[.int .i64 (k : Nat)] 3)) := by go_grown
           have hob : o2 wb.heap.size = none := by
             cases ho : o2 wb.heap.size with
             | none => rfl
             | some r => have := hS.1.lt wb.heap.size (by rw [ho]; intro q; cases q); omega
           obtain ⟨nb, hnb⟩ : ∃ x, wb.heap.size = x := ⟨_, rfl⟩
           refine ⟨.slice (some ⟨nb, 0, none⟩) 1 1, wb.alloc (.cells #[.int .i64 (k : Nat)] 3), (by rw [← hnb]; go_simp; try with_reducible rfl), fun x => (Sl x o2 b T2 oc hd2 ∧ Ext NoX w o x o2) ∧ x.cell? ⟨nb, 0, none⟩ = some (.int .i64 (k : Nat)), ⟨⟨hS.1.up hBb, hS.2.trans (Ext.below hBb) fun _ _ q => q⟩, by rw [← hnb]; go_cell⟩, fun x hx => hx.1, ?_⟩
           rw [hnb] at hob
           clear hS hBb hnb
           (try simp only [Act.put, List.setIfInBounds_toArray, List.set_cons_zero, List.set_cons_succ])
           refine seqE_move rfl (by rfl) ?_ seqE_stop
           intro wa hS
           obtain ⟨v7, w7, hrun, hm7, hm8, hg7, hbk⟩ := hS.1.1.mem.app_two (P := Try.prog) (.wl Iz) rfl HER.out 29 29 i1 _ _ Try.underlying29 hj0 hjz hj1 rfl (by omega) rfl nb 1 (.int .i64 (k : Nat)) hS.2 rfl (by omega)
           have hrt := (hS.1.1.mem (.wl Iz)).tag
           refine ⟨_, w7, exec_app rfl rfl rfl hrun, fun x => ((Sl x o2 b T2 oc hd2 ∧ Ext NoX w o x o2) ∧ x.cell? ⟨nb, 0, none⟩ = some (.int .i64 (k : Nat))) ∧ Mem x (tagNew o2 v7 (.wl Iz)) (upd hd2 (.wl Iz) v7) (upd (E T2 oc hd2) (.wl Iz) (E T2 oc hd2 (.wl Iz) ++ [.int .i64 (k : Nat)])) ∧ Ext NoX w o x (tagNew o2 v7 (.wl Iz)) ∧ ∀ g', o2 g' ≠ none → g' < x.heap.size, ⟨⟨⟨⟨hS.1.1.hb, hm7, fun g' hg' => Nat.lt_of_lt_of_le (hS.1.1.lt g' hg') hg7.size⟩, hS.1.2.trans (Ext.grown hg7 hrt) fun _ _ q => q⟩, ?_⟩, hm8, hS.1.2.trans (Ext.app hg7 hrt hbk) fun _ _ q => q, fun g' hg' => Nat.lt_of_lt_of_le (hS.1.1.lt g' hg') hg7.size⟩, fun x hx => hx.1, ?_⟩
           · rw [World.cell?_of_block (hg7.block nb (World.block_lt_of_cell? _ _ hS.2) (fun e => by have := hrt nb e.symm; rw [hob] at this; cases this))]; exact hS.2
           obtain ⟨p9, n9, c9, e9, -⟩ := hm8.form (.wl Iz)
           rw [upd_self] at e9
           subst e9
           clear hS hrun hm7 hm8 hg7 hbk hrt
           (try simp only [Act.put, List.setIfInBounds_toArray, List.set_cons_zero, List.set_cons_succ])
           iterate 1 (refine seqE_free (v := ?_) rfl (by rfl) ?_ ?_; rotate_left; (focus (intro w; go_simp; try with_reducible rfl)); (try simp only [Act.put, List.setIfInBounds_toArray, List.set_cons_zero, List.set_cons_succ]))
           refine seqE_storeB rfl (by rfl) ?_ seqE_stop
           intro wS hS
           obtain ⟨-, hm8, hx8, hlt8⟩ := hS
           have ew8 : upd hd2 (.wl Iz) (.slice p9 n9 c9) .watches = .slice (some ⟨gw2, 0, none⟩) W cw2 := by rw [upd_ne _ _ (by intro q; cases q)]; exact HEW2.out
           obtain ⟨d, df⟩ := hm8.load ew8 (i := Iz) (u := hd2 (.wl Iz)) (by rw [upd_ne _ _ (by intro q; cases q)]; exact rows_get (fun k => hd2 (.wl k)) (by rw [HWT2.out]; omega))
           refine ⟨wS.setCell ⟨gw2, Iz, none⟩ (.slice p9 n9 c9), (by go_simp; try with_reducible rfl), fun x => Below (wS.setCell ⟨gw2, Iz, none⟩ (.slice p9 n9 c9)).heap.size (wS.setCell ⟨gw2, Iz, none⟩ (.slice p9 n9 c9)) x, Below.refl _ _, ?_⟩
           have hm9 := hm8.set ew8 Iz (.slice p9 n9 c9)
           have hx9 := hx8.trans (Ext.setCell (X := NoX) ((hm8 .watches).tag gw2 (by rw [ew8]; rfl)) (i := Iz) (.slice p9 n9 c9)) fun _ _ q => q
           have eE : upd (upd (E T2 oc hd2) (.wl Iz) (E T2 oc hd2 (.wl Iz) ++ [.int .i64 (k : Nat)])) .watches ((upd (E T2 oc hd2) (.wl Iz) (E T2 oc hd2 (.wl Iz) ++ [.int .i64 (k : Nat)]) .watches).set Iz (.slice p9 n9 c9)) = E { T2 with watches := T2.watches.set Iz (s2.wl z ++ [k]) } oc (upd hd2 (.wl Iz) (.slice p9 n9 c9)) := by
             rw [upd_ne (E T2 oc hd2) _ (by intro q; cases q), ← E_wl T2 oc hd2 (by rw [HWT2.out]; omega), ← nV_snoc]
             show upd (upd _ _ (nV (T2.watches.getD Iz []) ++ [_])) _ _ = _
             rw [HROW.out]
           rw [eE] at hm9
           have hm10 : Sl (wS.setCell ⟨gw2, Iz, none⟩ (.slice p9 n9 c9)) (tagNew o2 (.slice p9 n9 c9) (.wl Iz)) b { T2 with watches := T2.watches.set Iz (s2.wl z ++ [k]) } oc (upd hd2 (.wl Iz) (.slice p9 n9 c9)) :=
             ⟨by rw [upd_ne _ _ (by intro q; cases q)]; exact HS6.out.hb, hm9, tag_lt2 hm9 (upd_self _ _ _) (k := wS.heap.size) (by rw [World.size_setCell]; exact Nat.le_refl _) hlt8⟩
           have HM10 := Lib.hid hm10; have HX9 := Lib.hid hx9
           clear d df hm8 hx8 hlt8 ew8 hm9 hx9 eE hm10
           (try simp only [Act.put, List.setIfInBounds_toArray, List.set_cons_zero, List.set_cons_succ])
           refine seqE_nil ?_
           intro w9 hS
           have hm := HM10.out.up hS
           have hx := HX9.out.trans (Ext.below (X := NoX) hS) fun _ _ q => q
           have e : ({ T2 with watches := T2.watches.set Iz (s2.wl z ++ [k]) } : SS) = setW { s2 with clauses := s2.clauses.set k (o0 :: z :: t.set q g), watches := s2.watches.set (idx z) (s2.wl z ++ [k]) } g (kp ++ L.drop kp.length) := by
             rw [← HT2.out, HKK.out, HIZ.out]
             show ({ s2 with clauses := _, watches := (s2.watches.set (idx g) K).set Iz (s2.wl z ++ [k]) } : SS) = { s2 with clauses := _, watches := (s2.watches.set Iz (s2.wl z ++ [k])).set (idx g) K }
             rw [List.set_comm _ _ (by rw [HII.out]; exact fun q => HIZI.out q.symm)]
           rw [e] at hm
           have hvis := visit_move HGD.out HO0.out (by rw [HY.out]; omega) HQT.out HZ.out (by rw [HY2.out]; exact hz0) (fun i hi => HNEG.out i (by have := HQ.out; omega))
           have HV := visit_ok HSC2.out
           have hscn := HSCAN.out
           rw [hvis] at HV
           rw [scan_drop hvis] at hscn
           have HV2 := Lib.hid HV; have HSN := Lib.hid hscn; have HM := Lib.hid hm; have HX := Lib.hid hx
           clear HV hvis hscn hm hx e hS
           go_wp2_with fail
           go_roundg (N - (j + 1))
           case measure => (have := HG2.out; omega)
           case rel => exact ⟨j + 1, kp, _, _, _, rfl, by go_num, by omega, rfl, HM.out, by rw [upd_ne _ _ (fun q => by cases q; exact HIZI.out rfl)]; exact HE2.out, HX.out, by have := HKJ.out; omega, HV2.out.go rfl, HSN.out, HFR2.out.trans HV2.out.fr⟩
        case neg =>
         obtain rfl : Q = M := by omega
         have hall : ∀ i, i < t.length → s2.of (t.getD i 0) < 0 := fun i hi => HNEG.out i (by have h1 := HTT.out; have h2 := HMM.out; omega)
         have HALL := Lib.hid hall
         clear hall
         go_upto_region 15 with fail
         refine wp_region_seqE (fun x => Below wr.heap.size wr x) (.one 0 1 (.one 1 1 (.one 2 1 (.one 3 1 (.one 4 1 (.one 5 1 (.one 6 1 (.one 7 1 (.one 8 1 (.one 9 1 (.one 10 1 (.one 11 1 (.one 12 1 (.one 13 1 (.one 14 1 .nil))))))))))))))) (by kernel_rfl) (by kernel_rfl) (by kernel_rfl) (Below.drew (Below.refl _ _)) ?_
         iterate 5 (refine seqE_free (v := ?_) rfl (by rfl) ?_ ?_; rotate_left; (focus (intro w; go_simp; try with_reducible rfl)); (try simp only [Act.put, List.setIfInBounds_toArray, List.set_cons_zero, List.set_cons_succ]))
         refine seqE_off rfl (by rfl) ?_
         (try simp only [Act.put, List.setIfInBounds_toArray, List.set_cons_zero, List.set_cons_succ])
         refine seqE_off rfl (by rfl) ?_
         (try simp only [Act.put, List.setIfInBounds_toArray, List.set_cons_zero, List.set_cons_succ])
         refine seqE_off rfl (by rfl) ?_
         (try simp only [Act.put, List.setIfInBounds_toArray, List.set_cons_zero, List.set_cons_succ])
         refine seqE_off rfl (by rfl) ?_
         (try simp only [Act.put, List.setIfInBounds_toArray, List.set_cons_zero, List.set_cons_succ])
         refine seqE_off rfl (by rfl) ?_
         (try simp only [Act.put, List.setIfInBounds_toArray, List.set_cons_zero, List.set_cons_succ])
         refine seqE_off rfl (by rfl) ?_
         (try simp only [Act.put, List.setIfInBounds_toArray, List.set_cons_zero, List.set_cons_succ])
         refine seqE_off rfl (by rfl) ?_
         (try simp only [Act.put, List.setIfInBounds_toArray, List.set_cons_zero, List.set_cons_succ])
         refine seqE_off rfl (by rfl) ?_
         (try simp only [Act.put, List.setIfInBounds_toArray, List.set_cons_zero, List.set_cons_succ])
         refine seqE_off rfl (by rfl) ?_
         (try simp only [Act.put, List.setIfInBounds_toArray, List.set_cons_zero, List.set_cons_succ])
         iterate 1 (refine seqE_free (v := ?_) rfl (by rfl) ?_ ?_; rotate_left; (focus (intro w; go_simp; try with_reducible rfl)); (try simp only [Act.put, List.setIfInBounds_toArray, List.set_cons_zero, List.set_cons_succ]))
         refine seqE_nil ?_
         intro wf hS
         have hB4 := btr hB3 hS
         have hs5 := HS4.out.up hB4
         have hx5 := HX4.out.trans (Ext.below (X := NoX) hB4) fun _ _ q => q
         have hB1 : Below wf.heap.size wf (wf.alloc (.cells #[.int .i64 (k : Nat)] 3)) := by go_grown
         obtain ⟨w7, hrun, h7, hx7⟩ := hs5.over (P := Try.prog) (i := I) (by rw [HTW1.out]; exact hIW) HE2.out kp.length [k] (q := 1) rfl (by have := HKJ.out; omega) 29 29 i1 Try.underlying29 hj0 hj1 hB1 ⟨wf.heap.size, 0, none⟩ 1 (fun q u hu => one_new wf _ _ q u hu)
         rw [HTG1.out] at h7
         have hKn : K.take kp.length ++ [k] ++ K.drop (kp.length + 1) = (kp ++ [k]) ++ L.drop (kp ++ [k]).length := by
           rw [← HKK.out, List.take_left, List.length_append, List.length_singleton, List.drop_append, List.drop_eq_nil_of_le (by omega), List.nil_append, Nat.add_sub_cancel_left, List.drop_drop]
         rw [hKn] at h7
         obtain ⟨K2, hK2⟩ : ∃ z, (kp ++ [k]) ++ L.drop (kp ++ [k]).length = z := ⟨_, rfl⟩
         rw [hK2] at h7
         obtain ⟨s3, hs3⟩ : ∃ z, ({ s2 with clauses := s2.clauses.set k (o0 :: g :: t) } : SS) = z := ⟨_, rfl⟩
         have hT7 : ({ T1 with watches := T1.watches.set I K2 } : SS) = setW s3 g K2 := by
           rw [← HT1.out, hs3, ← HII.out, setW_set]
         rw [hT7] at h7
         have hgd7 : (setW s3 g K2).clauses.getD k [] = o0 :: g :: t := by
           rw [← hs3]; show (s2.clauses.set k _).getD k [] = _
           rw [List.getD_eq_getElem?_getD, set_self HCK.out]; rfl
         obtain ⟨c0, -⟩ := h7.cell (r := .cl k) HEK.out (i := 0) (u := .int .i64 o0) (by show (iV ((setW s3 g K2).clauses.getD k []))[0]? = _; rw [hgd7]; rfl)
         have ht7 : Tr n (setW s3 g K2) := by rw [← hs3]; exact (HSW.out.tr).setW g K2
         have hcy7 : ∀ wx, Below w7.heap.size w7 wx → Calls Try.prog 34 #[.pointer (some ⟨b, 0, none⟩), .int .i64 o0] wx fun e w' => e = .returned (.int .i64 y) ∧ w' = wx := fun wx hB => by
           have q := of_any (h7.up hB).at ht7 hn HOO.out
           rw [show (setW s3 g K2).of o0 = s2.of o0 by rw [← hs3]; rfl, HY.out] at q; exact q
         have hw3 : s3.watches.length = W := by rw [← hs3]; exact HW2.out
         have hkg7 : (setW s3 g K2).watches.getD I [] = K2 := by rw [← HII.out]; exact setW_get (by rw [HII.out, hw3]; exact hIW)
         obtain ⟨m1, hm1⟩ : ∃ z, kp.length + 1 = z := ⟨_, rfl⟩
         rw [hm1] at hrun
         have HS7 := Lib.hid h7; have HX7 := Lib.hid (hx5.trans hx7 fun _ _ q => q); have HS3E := Lib.hid hs3; have HK2 := Lib.hid hK2; have HTR7 := Lib.hid ht7; have HCY7 := Lib.hid hcy7; have HW3 := Lib.hid hw3; have HKG7 := Lib.hid hkg7; have HM1 := Lib.hid hm1
         clear hs5 hx5 hB1 h7 hx7 hKn hK2 hs3 hT7 hgd7 ht7 hcy7 hw3 hkg7 hB3 hB4 hS hm1
         go_upto_region 21 with (first | (at_builtin; go_must (refine wpList_run rfl (exec_app rfl rfl rfl hrun) ?_)))
         refine wp_region_seqE (fun x => Below w7.heap.size w7 x) (.one 0 1 (.one 1 1 (.one 2 1 (.one 3 1 (.one 4 1 (.one 5 0 (.one 6 0 (.one 7 1 .nil)))))))) (by kernel_rfl) (by kernel_rfl) (by kernel_rfl) (Below.drew (Below.refl _ _)) ?_
         iterate 6 (first | (refine seqE_free (v := ?_) rfl (by rfl) ?_ ?_; rotate_left; (focus (intro w; go_simp; try with_reducible rfl)); (try simp only [Act.put, List.setIfInBounds_toArray, List.set_cons_zero, List.set_cons_succ])) | (refine seqE_pure (v := ?_) rfl (by rfl) ?_ ?_; rotate_left; (focus (intro w hS; have c0 := oldcell hS c0 (World.block_lt_of_cell? _ _ c0); go_simp; try with_reducible rfl)); (try simp only [Act.put, List.setIfInBounds_toArray, List.set_cons_zero, List.set_cons_succ])))
         refine seqE_still (v := (.int .i64 y)) (f := ?_) (args := ?_) rfl (by rfl) ?_ ?_ ?_
         rotate_left 2
         focus (intro w hS; have c0 := oldcell hS c0 (World.block_lt_of_cell? _ _ c0); go_simp; first | done | with_reducible rfl | (refine ⟨?_, ?_⟩ <;> with_reducible rfl))
         focus (intro w hS; exact HCY7.out w hS)
         (try simp only [Act.put, List.setIfInBounds_toArray, List.set_cons_zero, List.set_cons_succ])
         iterate 1 (refine seqE_free (v := ?_) rfl (by rfl) ?_ ?_; rotate_left; (focus (intro w; go_simp; try with_reducible rfl)); (try simp only [Act.put, List.setIfInBounds_toArray, List.set_cons_zero, List.set_cons_succ]))
         refine seqE_nil ?_
         intro w8 hS
         have hs8 := HS7.out.up hS
         have hx8 := HX7.out.trans (Ext.below (X := NoX) hS) fun _ _ q => q
         replace c0 := oldcell hS c0 (World.block_lt_of_cell? _ _ c0)
         have HS8 := Lib.hid hs8; have HX8 := Lib.hid hx8
         clear hs8 hx8 hS HS7 HX7 hrun HS4 HX4
         by_cases hyn : y < 0
         · have hvis := visit_conf HGD.out HO0.out (by rw [HY.out]; exact hyn) HALL.out
           have hscn := HSCAN.out
           rw [scan_hit hvis, HS3E.out] at hscn
           have hps := pstep_hit (s := s1) (by rw [HH.out, HX.out]; exact HG.out) HL.out hscn.symm
           have hR2 := HR1.out
           rw [prop_some _ (by rw [HH.out, HLL.out]; exact hlt) hps] at hR2
           obtain ⟨q2, hq2⟩ : ∃ z, N - (j + 1) = z := ⟨_, rfl⟩
           obtain ⟨j1, hj1e⟩ : ∃ z, j + 1 = z := ⟨_, rfl⟩
           have hwj : IntKind.i64.wrap ((j : Int) + 1) = (j1 : Int) := by rw [wrapI (by omega) (by omega)]; omega
           have hj1i : (j1 : Int) ≤ (N : Int) := by omega
           have hj1n : j1 ≤ N := by omega
           have hNci : N ≤ ci := by
             obtain ⟨p', n', c', e1, e2, e3, -⟩ := HS8.out.mem.form (.wl I)
             rw [HE2.out] at e1
             simp only [Value.slice.injEq] at e1
             obtain ⟨rfl, rfl, rfl⟩ := e1
             exact e3
           obtain ⟨ad, had, hadn⟩ : ∃ ad : Addr, (if ci = j1 then some (⟨gi, 0, none⟩ : Addr) else some ⟨gi, j1, none⟩) = some ad ∧ (ci ≠ j1 → ad = ⟨gi, j1, none⟩) := by
             by_cases e : ci = j1
             · exact ⟨_, if_pos e, fun q => absurd e q⟩
             · exact ⟨_, if_neg e, fun _ => rfl⟩
           obtain ⟨w9, hrun9, h9, hx9⟩ := HS8.out.over (P := Try.prog) (i := I) (by show (s3.watches.set _ _).length > I; rw [List.length_set, HW3.out]; exact hIW) HE2.out m1 (L.drop j1) (q := N - j1) (by rw [List.length_drop, HN.out]) (by have := HM1.out; have := HKJ.out; omega) 29 29 i1 Try.underlying29 hj0 hj1 (Below.refl _ _) ad (ci - j1) (fun q u hu => by
             have hcj : ci ≠ j1 := fun e => by
               have h0 : (L.drop j1).length = 0 := by rw [List.length_drop, HN.out]; omega
               rw [List.eq_nil_of_length_eq_zero h0] at hu
               simp [nV] at hu
             rw [hadn hcj, add_cell]
             refine (HS8.out.cell (r := .wl I) HE2.out (i := j1 + q) (u := u) ?_).1
             show (nV ((setW s3 g K2).watches.getD I []))[j1 + q]? = _
             rw [HKG7.out, ← HK2.out]
             unfold nV at hu ⊢
             rw [List.getElem?_map] at hu ⊢
             rw [List.getElem?_append_right (by have := HKJ.out; simp; omega), List.getElem?_drop, show (kp ++ [k]).length + (j1 + q - (kp ++ [k]).length) = j1 + q by have := HKJ.out; simp; omega, ← List.getElem?_drop]
             exact hu)
           clear hadn hNci

           rw [HKG7.out] at h9
           obtain ⟨K3, hK3⟩ : ∃ z, K2.take m1 ++ L.drop j1 ++ K2.drop (m1 + (N - j1)) = z := ⟨_, rfl⟩
           rw [hK3] at h9
           obtain ⟨m2, hm2⟩ : ∃ z, m1 + (N - j1) = z := ⟨_, rfl⟩
           rw [hm2] at hrun9 hK3
           have hT9 : ({ setW s3 g K2 with watches := (setW s3 g K2).watches.set I K3 } : SS) = setW s3 g K3 := by rw [← HII.out, setW_set]
           rw [hT9] at h9
           have hK3t : K3.take m2 = kp ++ [k] ++ L.drop (j + 1) := by
             have e1 : K2.take m1 = kp ++ [k] := by
               rw [← HK2.out, List.take_append_of_le_length (by have := HM1.out; simp; omega), List.take_of_length_le (by have := HM1.out; simp; omega)]
             rw [← hK3, e1, hj1e, List.take_append_of_le_length (by have := HM1.out; simp [HN.out]; omega), List.take_of_length_le (by have := HM1.out; simp [HN.out]; omega)]
           obtain ⟨kf, hkf⟩ : ∃ z, kp ++ [k] ++ L.drop (j + 1) = z := ⟨_, rfl⟩
           rw [hkf] at hK3t hR2
           have hwT : (setW s3 g K3).watches.length = W := by show (s3.watches.set _ _).length = W; rw [List.length_set]; exact HW3.out
           obtain ⟨gw2, cw2, ew2⟩ := h9.watches_arr (by omega)
           rw [hwT] at ew2
           obtain ⟨f7, -⟩ := h9.fld 7 (u := hd2 .watches) rfl
           rw [ew2] at f7
           obtain ⟨c7, c7f⟩ := h9.cell (r := .watches) ew2 (i := I) (u := hd2 (.wl I)) (rows_get (fun k => hd2 (.wl k)) (by omega))
           have hwg : (setW s3 g K3).watches.getD I [] = K3 := by rw [← HII.out]; exact setW_get (by rw [HII.out, HW3.out]; exact hIW)
           have hcut := fun (wS : World) (hS : Below w9.heap.size w9 wS) => (h9.up hS).cut (.wl I) rfl HE2.out (k := m2) (by have := HM1.out; have := HKJ.out; omega) (q := .watches) (by intro q; cases q) ew2 (j := I) (by intro q; cases q) (s' := setW s3 g kf) (fun V => by
             have e1 : (E (setW s3 g K3) oc hd2 (.wl I)).take m2 = nV kf := by
               show (nV ((setW s3 g K3).watches.getD I [])).take m2 = _
               rw [hwg]; unfold nV; rw [← List.map_take, hK3t]
             rw [e1, E_wl _ oc hd2 (by rw [hwT]; exact hIW) kf V, ← HII.out, setW_set])
           have HCUT := Lib.hid hcut; have HR2 := Lib.hid hR2; have HX9 := Lib.hid (HX8.out.trans hx9 fun _ _ q => q)
           clear hcut hR2 h9 hx9 hT9 hK3t hkf hwT hwg hvis hscn hps hK3 hm2 hq2 c0 HS8 HX8
           go_upto_region 23 with (first | (at_builtin; go_must (refine wpList_run rfl (exec_app rfl rfl rfl hrun9) ?_)))
           refine wp_region_seqE (fun x => Below w9.heap.size w9 x) (.one 0 1 (.one 1 1 (.one 2 1 (.one 3 0 (.one 4 1 (.one 5 1 (.one 6 1 (.one 7 1 (.alt 8 3 .nil .stop))))))))) (by kernel_rfl) (by kernel_rfl) (by kernel_rfl) (Below.drew (Below.refl _ _)) ?_
           iterate 5 (first | (refine seqE_free (v := ?_) rfl (by rfl) ?_ ?_; rotate_left; (focus (intro w; go_simp; try with_reducible rfl)); (try simp only [Act.put, List.setIfInBounds_toArray, List.set_cons_zero, List.set_cons_succ])) | (refine seqE_pure (v := ?_) rfl (by rfl) ?_ ?_; rotate_left; (focus (intro w hS; have f7 := oldcell hS f7 (World.block_lt_of_cell? _ _ f7); have c7 := oldcell hS c7 (World.block_lt_of_cell? _ _ c7); go_simp; try with_reducible rfl)); (try simp only [Act.put, List.setIfInBounds_toArray, List.set_cons_zero, List.set_cons_succ])))
           refine seqE_fcall (v := (.int .i64 (I : Nat))) (f := ?_) (args := ?_) rfl (by rfl) ?_ ?_ ?_
           rotate_left 2
           focus (intro w; go_simp; first | done | with_reducible rfl | (refine ⟨?_, ?_⟩ <;> with_reducible rfl))
           focus (intro w; exact HIX.out w)
           (try simp only [Act.put, List.setIfInBounds_toArray, List.set_cons_zero, List.set_cons_succ])
           iterate 2 (refine seqE_free (v := ?_) rfl (by rfl) ?_ ?_; rotate_left; (focus (intro w; go_simp; try with_reducible rfl)); (try simp only [Act.put, List.setIfInBounds_toArray, List.set_cons_zero, List.set_cons_succ]))
           refine seqE_storeB rfl (by rfl) ?_ seqE_stop
           intro wS hS; have c7f := oldfree hS c7f (World.block_lt_of_cell? _ _ c7); have f7 := oldcell hS f7 (World.block_lt_of_cell? _ _ f7); have c7 := oldcell hS c7 (World.block_lt_of_cell? _ _ c7)
           refine ⟨wS.setCell ⟨gw2, I, none⟩ (.slice (some ⟨gi, 0, none⟩) m2 ci), (by go_simp; try with_reducible rfl), fun x => Below (wS.setCell ⟨gw2, I, none⟩ (.slice (some ⟨gi, 0, none⟩) m2 ci)).heap.size (wS.setCell ⟨gw2, I, none⟩ (.slice (some ⟨gi, 0, none⟩) m2 ci)) x, Below.refl _ _, ?_⟩
           have hS0 := hS; clear hS
           (try simp only [Act.put, List.setIfInBounds_toArray, List.set_cons_zero, List.set_cons_succ])
           refine seqE_nil ?_
           intro w5 hS
           obtain ⟨h5, hx5⟩ := HCUT.out _ hS0
           have H5 := Lib.hid (h5.up hS)
           have HX5 := Lib.hid (((HX9.out.trans (Ext.below (X := NoX) hS0) fun _ _ q => q).trans hx5 fun _ _ q => q).trans (Ext.below (X := NoX) hS) fun _ _ q => q)
           clear hS hS0 h5 hx5 HCUT HX9 f7 c7 c7f hrun9
           go_wp2_with fail
           go_ret
           rw [← HR2.out]
           exact ⟨rfl, o2, H5.out.at, HX5.out⟩
         · have hvis := visit_push HGD.out HO0.out (by rw [HY.out]; omega) (by rw [HY.out]; omega) HALL.out
           have HV := visit_ok HSC2.out
           have hscn := HSCAN.out
           rw [hvis, HS3E.out] at HV
           rw [scan_keep hvis, HS3E.out] at hscn
           have hmk7 : (setW s3 g K2).marks.length ≤ 1000000 := by
             rw [← HS3E.out]
             show s2.marks.length ≤ 1000000
             rw [HFR2.out.marks, HFR1.out.marks]; exact hmk
           have HV2 := Lib.hid HV; have HSN := Lib.hid hscn
           clear HV hscn hvis
           go_upto_region 25 with fail
           refine wp_region_seqE (fun x => Below w8.heap.size w8 x) (.one 0 1 (.one 1 1 (.one 2 1 (.one 3 1 (.one 4 1 (.one 5 0 (.one 6 1 (.alt 7 3 .nil .stop)))))))) (by kernel_rfl) (by kernel_rfl) (by kernel_rfl) (Below.drew (Below.refl _ _)) ?_
           iterate 7 (first | (refine seqE_free (v := ?_) rfl (by rfl) ?_ ?_; rotate_left; (focus (intro w; go_simp; try with_reducible rfl)); (try simp only [Act.put, List.setIfInBounds_toArray, List.set_cons_zero, List.set_cons_succ])) | (refine seqE_pure (v := ?_) rfl (by rfl) ?_ ?_; rotate_left; (focus (intro w hS; have c0 := oldcell hS c0 (World.block_lt_of_cell? _ _ c0); go_simp; try with_reducible rfl)); (try simp only [Act.put, List.setIfInBounds_toArray, List.set_cons_zero, List.set_cons_succ])))
           refine seqE_callB (f := ?_) (args := ?_) rfl (by rfl) ?_ ?_ seqE_stop
           rotate_left 2
           focus (intro w hS; go_simp; first | done | with_reducible rfl | (refine ⟨?_, ?_⟩ <;> with_reducible rfl))
           intro wz hS
           refine (push_hd (HS8.out.up hS).hb (HS8.out.up hS).mem (E.enc _ _ _) (HS8.out.up hS).lt HTR7.out hn hmk7 HOO.out (r := k) (by omega) (by omega)).mono ?_
           rintro e wp ⟨rfl, o6, hd6, ct6, p1, p2, p3, p4, p5, p6⟩
           refine ⟨_, rfl, fun x => Below wp.heap.size wp x, Below.refl _ _, ?_⟩
           have HS9 := Lib.hid (show Sl wp o6 b (SS.push (setW s3 g K2) o0 k) oc hd6 from ⟨p1, p3.eq ▸ p2, p4⟩)
           have HX9 := Lib.hid ((HX8.out.trans (Ext.below hS) fun _ _ q => q).trans p6 fun _ _ q => q)
           have HD6 := Lib.hid ((p5 (.wl I) (by intro q; cases q)).trans HE2.out)
           clear hS p1 p2 p3 p4 p5 p6
           (try simp only [Act.put, List.setIfInBounds_toArray, List.set_cons_zero, List.set_cons_succ])
           refine seqE_nil ?_
           intro w9 hS
           have h9 := HS9.out.up hS
           rw [← HK2.out] at h9
           have H9 := Lib.hid h9; have HX10 := Lib.hid (HX9.out.trans (Ext.below (X := NoX) hS) fun _ _ q => q)
           clear h9 hS
           go_wp2_with fail
           go_roundg (N - (j + 1))
           case measure => (have := HG2.out; omega)
           case rel => exact ⟨j + 1, kp ++ [k], SS.push s3 o0 k, o6, hd6, by rw [← HM1.out]; simp, by go_num, by omega, rfl, H9.out, HD6.out, HX10.out, by have := HKJ.out; simp; omega, HV2.out.go rfl, HSN.out, HFR2.out.trans HV2.out.fr⟩
end Go.Proofs.Ytdibfjcmgbpnpaa
