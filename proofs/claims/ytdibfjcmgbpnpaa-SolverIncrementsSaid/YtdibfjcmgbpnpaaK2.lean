/- Walks of the solver: push, decide. -/
import Derived.Test.YtdibfjcmgbpnpaaK1
namespace Go.Proofs.Ytdibfjcmgbpnpaa
set_option linter.unusedSimpArgs false
set_option linter.unusedVariables false
open Go.RowKit

theorem lits_small {n : Nat} {s : SS} (ht : Tr n s) : s.lits.length ≤ n := ht.len
/-- what holds of a row's block: it lies in memory -/
theorem SolAt.lt2 {w : World} {o : Nat → Option Role} {b : Nat} {s : SS} (h : SolAt w o b s) : b < w.heap.size := by
  obtain ⟨⟨oc, hd, ct, hb, hm, he⟩, lt⟩ := h
  obtain ⟨f0, -⟩ := hm.load hb (i := 5) (u := .int .i64 s.low) (by rw [he.self]; rfl)
  exact World.block_lt_of_cell? _ _ f0

set_option maxRecDepth 100000 in
set_option maxHeartbeats 2000000 in
theorem push_hd {n : Nat} {w : World} {o : Nat → Option Role} {b : Nat} {s : SS} {oc : Int} {hd : Role → Value} {ct : Role → List Value} (hb : hd .self = .slice (some ⟨b, 0, none⟩) 1 1) (hm : Mem w o hd ct) (he : Enc s oc hd ct) (lt : ∀ g, o g ≠ none → g < w.heap.size) (ht : Tr n s) (hn : n ≤ 20000) (hm0 : s.marks.length ≤ 1000000) {x : Int} (hx : LOk n x) {r : Int} (hr1 : -1 ≤ r) (hr2 : r ≤ 1000000) :
    Calls Try.prog 35 #[.pointer (some ⟨b, 0, none⟩), .int .i64 x, .int .i64 r] w fun e w' => e = .returned (.tuple #[]) ∧ ∃ o' hd' ct', hd' .self = .slice (some ⟨b, 0, none⟩) 1 1 ∧ Mem w' o' hd' ct' ∧ Enc (s.push x r) oc hd' ct' ∧ (∀ g, o' g ≠ none → g < w'.heap.size) ∧ (∀ q, q ≠ .lits → hd' q = hd q) ∧ Ext NoX w o w' o' := by
 obtain ⟨i0, hi0, hz0, hz1, hz2⟩ := info_parts int_info
 have h1 := hx.2; have h0 := hx.1
 obtain ⟨v, hv⟩ : ∃ v, x.natAbs = v := ⟨_, rfl⟩
 rw [hv] at h1
 have hwn : IntKind.i64.wrap (-x) = -x := wrapI (by omega) (by omega)
 have hv0 : (0 : Int) ≤ (v : Int) := by omega
 obtain ⟨N, hN⟩ : ∃ N, n + 1 = N := ⟨_, rfl⟩
 have hv1 : (v : Int) < (N : Int) := by omega
 have hvl : (ct .value).length = N := by rw [he.value, iV_len, ht.vl, hN]
 have hll : (ct .level).length = N := by rw [he.level, nV_len, ht.ll, hN]
 have hrl : (ct .reason).length = N := by rw [he.reason, iV_len, ht.rl, hN]
 obtain ⟨gv, cv, ev, -⟩ := hm.arr .value rfl (by omega)
 obtain ⟨gl, cl, el, -⟩ := hm.arr .level rfl (by omega)
 obtain ⟨gr, cr, er, -⟩ := hm.arr .reason rfl (by omega)
 rw [hvl] at ev; rw [hll] at el; rw [hrl] at er
 obtain ⟨pm, cm, em, -⟩ := hm.sl .marks rfl
 rw [he.marks, nV_len] at em
 obtain ⟨pl, cl2, eli, -⟩ := hm.sl .lits rfl
 rw [he.lits, iV_len] at eli
 have ov := (hm .value).tag gv (by rw [ev]; rfl)
 have ol := (hm .level).tag gl (by rw [el]; rfl)
 have orr := (hm .reason).tag gr (by rw [er]; rfl)
 have hlen := ht.len
 have hS : Hid (ct .self = [hd .value, hd .level, hd .reason, hd .lits, hd .marks, .int .i64 s.low, hd .clauses, hd .watches, .int .i64 s.head, .int .i64 s.added, .bool s.broken, hd .proof, .int .i64 oc, hd .model, hd .core]) := Lib.hid he.self
 obtain ⟨f0, -⟩ := hm.load hb (i := 0) (u := hd .value) (by rw [he.self]; rfl)
 rw [ev] at f0
 obtain ⟨e0, e0f⟩ := hm.load (r := .value) ev (i := v) (by rw [he.value]; exact iV_get (by rw [ht.vl]; omega))
 obtain ⟨m, hml⟩ : ∃ m, s.marks.length = m := ⟨_, rfl⟩
 have HV := Lib.hid hv; have HE := Lib.hid he; have HT := Lib.hid ht
 have HM := Lib.hid hm; have HML := Lib.hid hml
 clear hm he ht hvl hll hrl
 go_enter Try.func35, Try.ntmps35
 go_upto_region 0 with fail
 go_cut [6] from 7 to 10 (fun s6 wx => s6 = .int .i64 v ∧ wx = w)
 case first =>
   by_cases hs : x < 0
   · go_wp2_with fail
     go_meet
     exact ⟨by rw [show (v : Int) = -x by omega], rfl⟩
   · go_wp2_with fail
     go_meet
     exact ⟨by rw [show (v : Int) = x by omega], rfl⟩
 case rest =>
 obtain ⟨rfl, hwc⟩ := hcut
 replace hwc := hwc.symm; subst hwc
 go_upto_if 18 with fail
 go_cut [] from 17 to 24 (fun wx => Mem wx o hd (upd ct .value (iV (s.value.set v (sgn x)))) ∧ Ext NoX w o wx o)
 case first =>
   have HM1 := Lib.hid (HM.out.set ev v (.int .i64 1))
   have upd2 : ∀ (f : Role → List Value) (r : Role) (a b : List Value), upd (upd f r a) r b = upd f r b := fun f r a b => by funext r'; unfold upd; split <;> rfl
   by_cases hs : x < 0
   · go_wp2_with fail
     go_meet
     refine ⟨?_, (Ext.setCell ov _).trans (Ext.setCell ov _) fun _ _ q => q⟩
     have h2 := HM1.out.set ev v (.int .i64 (-1))
     rw [upd_self, upd2, List.set_set, HE.out.value, iV_set] at h2
     unfold sgn; rw [if_pos hs]; exact h2
   · go_wp2_with fail
     go_meet
     refine ⟨?_, Ext.setCell ov _⟩
     have h2 := HM1.out
     rw [HE.out.value, iV_set] at h2
     unfold sgn; rw [if_neg (by omega)]; exact h2
 case rest =>
 obtain ⟨hm, hx1⟩ := hcut
 clear HM f0 e0 e0f
 have hself : upd ct .value (iV (s.value.set v (sgn x))) .self = ct .self := upd_ne _ _ (by decide)
 obtain ⟨f1, -⟩ := hm.load hb (i := 1) (u := hd .level) (by rw [hself, hS.out]; rfl)
 rw [el] at f1
 obtain ⟨f4, -⟩ := hm.load hb (i := 4) (u := hd .marks) (by rw [hself, hS.out]; rfl)
 rw [em] at f4
 obtain ⟨e1, e1f⟩ := hm.load (r := .level) el (i := v) (by rw [upd_ne _ _ (by decide), HE.out.level]; exact nV_get (by rw [HT.out.ll]; omega))
 go_upto_region 4 with fail
 refine wp_region_seqE (fun x => Below wc.heap.size wc x) (.one 0 1 (.one 1 1 (.one 2 1 (.one 3 0 (.one 4 1 (.one 5 1 (.one 6 1 (.one 7 1 (.one 8 0 (.one 9 1 (.one 10 1 (.alt 11 3 .nil .stop)))))))))))) (by kernel_rfl) (by kernel_rfl) (by kernel_rfl) (Below.drew (Below.refl _ _)) ?_
 iterate 11 (first | (refine seqE_free (v := ?_) rfl (by rfl) ?_ ?_; rotate_left; (focus (intro w; go_simp; try with_reducible rfl)); (try simp only [Act.put, List.setIfInBounds_toArray, List.set_cons_zero, List.set_cons_succ])) | (refine seqE_pure (v := ?_) rfl (by rfl) ?_ ?_; rotate_left; (focus (intro w hS; have f1 := oldcell hS f1 (World.block_lt_of_cell? _ _ f1); have f4 := oldcell hS f4 (World.block_lt_of_cell? _ _ f4); have e1 := oldcell hS e1 (World.block_lt_of_cell? _ _ e1); go_simp; try with_reducible rfl)); (try simp only [Act.put, List.setIfInBounds_toArray, List.set_cons_zero, List.set_cons_succ])))
 refine seqE_storeB rfl (by rfl) ?_ seqE_stop
 intro wS hS; have e1f := oldfree hS e1f (World.block_lt_of_cell? _ _ e1); have f1 := oldcell hS f1 (World.block_lt_of_cell? _ _ f1); have f4 := oldcell hS f4 (World.block_lt_of_cell? _ _ f4); have e1 := oldcell hS e1 (World.block_lt_of_cell? _ _ e1)
 refine ⟨wS.setCell ⟨gl, v, none⟩ (.int .i64 s.marks.length), (by go_simp; try with_reducible rfl), fun x => Below (wS.setCell ⟨gl, v, none⟩ (.int .i64 s.marks.length)).heap.size (wS.setCell ⟨gl, v, none⟩ (.int .i64 s.marks.length)) x, Below.refl _ _, ?_⟩
 have hS0 := hS; clear hS
 (try simp only [Act.put, List.setIfInBounds_toArray, List.set_cons_zero, List.set_cons_succ])
 refine seqE_nil ?_
 intro w2 hS
 replace hm := ((hm.up hS0).set el v (.int .i64 s.marks.length)).up hS
 replace hx1 := ((hx1.trans (Ext.below hS0) fun _ _ q => q).trans (Ext.setCell ol _) fun _ _ q => q).trans (Ext.below (X := NoX) hS) fun _ _ q => q
 clear hS hS0 f1 f4 e1 e1f
 rw [upd_ne _ _ (by decide), HE.out.level, nV_set, HML.out] at hm
 have c2 : upd (upd ct .value (iV (s.value.set v (sgn x)))) .level (nV (s.level.set v m)) .self = ct .self := by rw [upd_ne _ _ (by decide), hself]
 obtain ⟨f2, -⟩ := hm.load hb (i := 2) (u := hd .reason) (by rw [c2, hS.out]; rfl)
 rw [er] at f2
 obtain ⟨e2, e2f⟩ := hm.load (r := .reason) er (i := v) (by rw [upd_ne _ _ (by decide), upd_ne _ _ (by decide), HE.out.reason]; exact iV_get (by rw [HT.out.rl]; omega))
 go_upto_region 6 with fail
 replace hm := hm.set er v (.int .i64 r)
 replace hx1 := hx1.trans (Ext.setCell (X := NoX) orr (i := v) (.int .i64 r)) fun _ _ q => q
 obtain ⟨w3, hw3⟩ : ∃ z, z = w2.setCell ⟨gr, v, none⟩ (.int .i64 r) := ⟨_, rfl⟩
 rw [← hw3] at hm hx1 ⊢
 rw [upd_ne _ _ (by decide), upd_ne _ _ (by decide), HE.out.reason, iV_set] at hm
 clear hw3 f2 e2 e2f
 have c3 : upd (upd (upd ct .value (iV (s.value.set v (sgn x)))) .level (nV (s.level.set v m))) .reason (iV (s.reason.set v r)) .self = ct .self := by rw [upd_ne _ _ (by decide), c2]
 obtain ⟨f3, f3f⟩ := hm.load hb (i := 3) (u := hd .lits) (by rw [c3, hS.out]; rfl)
 have hbl := World.block_lt_of_cell? _ _ f3
 obtain ⟨cs, hcs⟩ : ∃ cs, upd (upd (upd ct .value (iV (s.value.set v (sgn x)))) .level (nV (s.level.set v m))) .reason (iV (s.reason.set v r)) = cs := ⟨_, rfl⟩
 rw [hcs] at hm c3
 have hcl : cs .lits = iV s.lits := by rw [← hcs, upd_ne _ _ (by decide), upd_ne _ _ (by decide), upd_ne _ _ (by decide), HE.out.lits]
 have HCS := Lib.hid hcs; clear hcs
 have hob := (hm .self).tag b (by rw [hb]; rfl)
 have hB1 : Below w3.heap.size w3 (w3.alloc (.cells #[.int .i64 x] 3)) := by go_grown
 have HM2 := Lib.hid (hm.up hB1); have HX := Lib.hid hx1; have HMM := Lib.hid hm
 clear hm hx1
 go_wp2_with (first | (at_builtin; go_must (refine wpList_row HM2.out    .lits rfl _ _ _ rfl eli i0 _ 8 Try.underlying29 hi0 hz0 hz1 hz2 rfl rfl (⟨w3.heap.size, 0, none⟩) 1 1 [.int .i64 x] rfl rfl (one_new _ _ _) (by simp [Value.oneCell']) (by simp only [maxLen]; omega) (by omega) ?_; intro p2 c2' w4 hm4 hg4 hb4; have hX4 := HX.out.trans (Ext.app2 (X := NoX) hB1 hg4 (HMM.out .lits).tag hb4) (fun _ _ q => q); have hself4 : upd cs .lits (cs .lits ++ [.int .i64 x]) .self = ct .self := (by rw [upd_ne _ _ (by decide), c3]); have HM4 := Lib.hid hm4; obtain ⟨f3b, f3bf⟩ := hm4.load (r := .self) (by rw [upd_ne _ _ (by decide)]; exact hb) (i := 3) (u := hd .lits) (by rw [hself4, hS.out]; rfl); clear f3 f3f hm4)))
 refine bodyPost_end (results_none rfl _ _ _) rfl ?_
 obtain rfl := HCS.out
 have h5 := HM4.out.set (r := .self) (by rw [upd_ne _ _ (by decide)]; exact hb) 3 (Value.slice p2 (s.lits.length + 1) c2')
 rw [hself4, hS.out, hcl, iV_snoc] at h5
 have ob4 := (h5 .self).tag b (by rw [upd_ne _ _ (by decide), hb]; rfl)
 have hlt := tag_lt2 (r := .lits) h5 (upd_self _ _ _) (k := w.heap.size) (by have := hX4.size; simpa using this) lt
 have hE := HE.out
 obtain rfl := hv
 obtain rfl := hml
 have fin : ∃ ct', Mem _ _ _ ct' ∧ Enc (s.push x r) oc (upd hd .lits (Value.slice p2 (s.lits.length + 1) c2')) ct' := ⟨_, h5, { self := rfl, value := rfl, level := rfl, reason := rfl, lits := rfl, marks := hE.marks, clauses := hE.clauses, cl := hE.cl, watches := hE.watches, wl := hE.wl, proof := hE.proof, step := hE.step, model := hE.model, core := hE.core }⟩
 obtain ⟨ct9, hm9, he9⟩ := fin
 have hx9 := hX4.trans (Ext.setCell (X := NoX) ob4 (i := 3) (Value.slice p2 (s.lits.length + 1) c2')) fun _ _ q => q
 exact ⟨rfl, tagNew o (Value.slice p2 (s.lits.length + 1) c2') .lits, upd hd .lits (Value.slice p2 (s.lits.length + 1) c2'), (upd_ne hd (Value.slice p2 (s.lits.length + 1) c2') (by decide)).trans hb, ct9, hm9, he9, hlt, fun q hq => upd_ne _ _ hq, hx9⟩
theorem push_any {n : Nat} {w : World} {o : Nat → Option Role} {b : Nat} {s : SS} (h : SolAt w o b s) (ht : Tr n s) (hn : n ≤ 20000) (hm0 : s.marks.length ≤ 1000000) {x : Int} (hx : LOk n x) {r : Int} (hr1 : -1 ≤ r) (hr2 : r ≤ 1000000) :
    Calls Try.prog 35 #[.pointer (some ⟨b, 0, none⟩), .int .i64 x, .int .i64 r] w fun e w' => e = .returned (.tuple #[]) ∧ ∃ o', SolAt w' o' b (s.push x r) ∧ Ext NoX w o w' o' := by
 obtain ⟨⟨oc, hd, ct, hb, hm, he⟩, lt⟩ := h
 refine (push_hd hb hm he lt ht hn hm0 hx hr1 hr2).mono ?_
 rintro e w' ⟨h1, o', hd', ct', h2, h3, h4, h5, -, h6⟩
 exact ⟨h1, o', ⟨⟨oc, hd', ct', h2, h3, h4⟩, h5⟩, h6⟩
end Go.Proofs.Ytdibfjcmgbpnpaa
