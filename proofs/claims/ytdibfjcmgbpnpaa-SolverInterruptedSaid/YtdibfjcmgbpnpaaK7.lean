/- Walks of the solver: attach. -/
import Derived.Test.YtdibfjcmgbpnpaaK6
import Derived.Test.YtdibfjcmgbpnpaaSF
namespace Go.Proofs.Ytdibfjcmgbpnpaa
set_option linter.unusedSimpArgs false
set_option linter.unusedVariables false
open Go.RowKit

theorem slints_info : (Try.prog.info? 29).map (fun i => (i.zero, i.size, i.bytes)) = some (some (.slice none 0 0), 1, 24) := by kernel_rfl
theorem idx_ge {n : Nat} {x : Int} (h : LOk n x) : 2 ≤ idx x := by have := h.1; unfold idx; split <;> omega
/-- one more watcher -/
def watch (K : Nat) (ws : List (List Nat)) (x : Int) : List (List Nat) := ws.set (idx x) (ws.getD (idx x) [] ++ [K])
theorem attach_eq (s : SS) {l : List Int} (h : 2 ≤ l.length) : s.attach l = { s with clauses := s.clauses ++ [l], watches := (l.take 2).foldl (watch s.clauses.length) s.watches } := by
  match l, h with
  | a :: b :: t, _ => rfl
theorem watch_len (K : Nat) : ∀ (l : List Int) (ws : List (List Nat)), (l.foldl (watch K) ws).length = ws.length
  | [], ws => rfl
  | x :: l, ws => by rw [List.foldl_cons, watch_len K l]; unfold watch; rw [List.length_set]
theorem watch_rows (K B : Nat) : ∀ (l : List Int) (ws : List (List Nat)), (∀ x ∈ l, 2 ≤ idx x) → (∀ k, 2 ≤ k → (ws.getD k []).length ≤ B) → ∀ k, 2 ≤ k → ((l.foldl (watch K) ws).getD k []).length ≤ B + l.length
  | [], ws, _, h, k, h2 => by have := h k h2; simpa using this
  | x :: l, ws, hx, h, k, h2 => by
    have h1 : ∀ k, 2 ≤ k → ((watch K ws x).getD k []).length ≤ B + 1 := by
      intro k h2
      unfold watch
      rw [List.getD_eq_getElem?_getD, List.getElem?_set]
      split
      · split
        · have := h (idx x) (hx x (by simp)); simp only [Option.getD_some, List.length_append, List.length_singleton]; omega
        · simp
      · rw [← List.getD_eq_getElem?_getD]; have := h k h2; omega
    have := watch_rows K (B + 1) l (watch K ws x) (fun y hy => hx y (List.mem_cons_of_mem _ hy)) h1 k h2
    rw [List.foldl_cons, List.length_cons]; omega
/-- the state at a turn of attach -/
def attTurn (s : SS) (l : List Int) (j : Nat) : SS := { s with clauses := s.clauses ++ [l], watches := ((l.take 2).take j).foldl (watch s.clauses.length) s.watches }

set_option maxRecDepth 100000 in
set_option maxHeartbeats 2000000 in
theorem attach_any {n : Nat} {w : World} {o : Nat → Option Role} {b : Nat} {s : SS} (h : SolAt w o b s) (hn : n ≤ 20000) (hwl : s.watches.length = 2 * n + 2) (hrow : ∀ k, 2 ≤ k → (s.watches.getD k []).length ≤ 900000) (hcl : s.clauses.length ≤ 900000) {lits : List Int} {gl cap : Nat}
    (hv : w.ownsRow 0 3 1 (.slice (some ⟨gl, 0, none⟩) lits.length cap) lits.length (iV lits)) (ho : o gl = none) (h2 : 2 ≤ lits.length) (hl : ∀ x ∈ lits, LOk n x) :
    Calls Try.prog 36 #[.pointer (some ⟨b, 0, none⟩), .slice (some ⟨gl, 0, none⟩) lits.length cap] w fun e w' => e = .returned (.int .i64 s.clauses.length) ∧ ∃ o' oc' hd', Sl w' o' b (s.attach lits) oc' hd' ∧ hd' (.cl s.clauses.length) = .slice (some ⟨gl, 0, none⟩) lits.length cap ∧ Ext (fun g => g = gl) w o w' o' := by
 obtain ⟨i0, hi0, hz0, hz1, hz2⟩ := info_parts int_info
 obtain ⟨i1, hi1, hz3, hz4, hz5⟩ := info_parts slints_info
 obtain ⟨oc, hd, hs⟩ := h.sl
 obtain ⟨K, hK⟩ : ∃ K, s.clauses.length = K := ⟨_, rfl⟩
 rw [hK] at hcl
 obtain ⟨pk, ck, ek⟩ := hs.clauses_sl
 rw [hK] at ek
 obtain ⟨f6, f6f⟩ := hs.fld 6 (u := hd .clauses) rfl
 rw [ek] at f6
 have hcap : lits.length ≤ cap := by
   rcases hv.2 with ⟨q, -⟩ | ⟨g', c2, cur, q, -, -, q3, -⟩
   · cases q
   · simp only [Value.slice.injEq] at q; omega
 obtain ⟨hm1, hx1⟩ := hs.mm.new (.cl K) (by intro q; cases q) hv (fun g hg => by simp only [Value.ownBlock, Option.some.injEq] at hg; subst hg; exact ho)
 have hx1 : Ext (fun g => g = gl) w o w (tagNew o (.slice (some ⟨gl, 0, none⟩) lits.length cap) (.cl K)) :=
   ⟨hx1.os, hx1.tape, hx1.output, hx1.size, fun g a1 a2 a3 => rfl, fun g a1 a3 => hx1.tag g a1 fun q => a3 (by simpa [Value.ownBlock] using q.symm)⟩
 obtain ⟨o1, ho1⟩ : ∃ z, z = tagNew o (.slice (some ⟨gl, 0, none⟩) lits.length cap) (.cl K) := ⟨_, rfl⟩
 rw [← ho1] at hm1 hx1
 obtain ⟨V0, hV0⟩ : ∃ z, z = Value.slice (some ⟨gl, 0, none⟩) lits.length cap := ⟨_, rfl⟩
 rw [← hV0] at hm1
 obtain ⟨p2, c2, wz, hrun, z1, z1f, hfin⟩ := hm1.app1 (P := Try.prog) .clauses (m := 1) (news := [V0]) rfl (show upd hd (.cl K) V0 .clauses = .slice pk K ck by rw [upd_ne _ _ (by intro q; cases q)]; exact ek) 40 40 i1 _ rfl hi1 hz3 hz4 hz5 (by omega) rfl (by rw [hV0]; intro u hu; simp only [List.mem_singleton] at hu; subst hu; rfl)
   (wa := w.alloc (.cells #[V0] 29)) (by go_grown) (ad := ⟨w.heap.size, 0, none⟩) (cc := 1) (fun j u hu => one_new w V0 _ j u hu) (by omega) (by omega) (q := .self) (by intro q; cases q) hm1.hb (j := 6) (old := hd .clauses) (by rw [upd_ne _ _ (by intro q; cases q)]; rfl) (by intro q; cases q)
 rw [ek] at z1
 have HV0 := Lib.hid hV0
 rw [hV0] at hrun
 have HX1 := Lib.hid hx1; have HF := Lib.hid hfin; have HK := Lib.hid hK; have HR := Lib.hid hrow; have HL := Lib.hid hl; have HWL := Lib.hid hwl; have HS := Lib.hid hs
 clear hx1 hfin hK hrow hm1 hv hl hwl hs h
 clear hV0 ho1
 go_enter Try.func36, Try.ntmps36
 go_upto_region 2 with fail
 go_upto_region 3 with (first | (at_builtin; go_must (refine wpList_run rfl (exec_app rfl rfl rfl hrun) ?_)))
 obtain ⟨w1, hw1⟩ : ∃ z, z = wz.setCell ⟨b, 6, none⟩ (.slice p2 (K + 1) c2) := ⟨_, rfl⟩
 obtain ⟨hm2, hx2⟩ := HF.out wz (Below.refl _ _)
 obtain ⟨o2, ho2⟩ : ∃ z, z = tagNew o1 (.slice p2 (K + 1) c2) .clauses := ⟨_, rfl⟩
 obtain ⟨hd2, hhd2⟩ : ∃ z, z = upd (upd hd (.cl K) V0) .clauses (.slice p2 (K + 1) c2) := ⟨_, rfl⟩
 rw [← hw1, ← ho2, ← hhd2] at hm2
 rw [← hw1, ← ho2] at hx2
 rw [← hw1]
 have hsl := hm2.sl (s := attTurn s lits 0) (oc := oc) (by rw [hhd2, ← HK.out]; exact E_cl_new _ _ _ _ _ _)
 have hcl0 : hd2 (.cl K) = V0 := by rw [hhd2, upd_ne _ _ (by intro q; cases q), upd_self]
 have hxa := HX1.out.trans hx2 fun _ _ q => q.elim
 clear hm2 hx2 HF HX1 ho2 hhd2 hw1 hrun z1 z1f f6 f6f HS
 go_wp2_with fail
 go_loopg [26] 2 (fun N s26 wr => ∃ j : Nat, s26 = .int .i64 j ∧ j ≤ 2 ∧ N = 2 - j ∧ ∃ o' hd', Sl wr o' b (attTurn s lits j) oc hd' ∧ Ext (fun g => g = gl) w o wr o' ∧ hd' (.cl K) = V0)
 case atStart => exact ⟨0, rfl, by omega, rfl, o2, hd2, hsl, hxa, hcl0⟩
 case round =>
  obtain ⟨j, rfl, hj, hN, o', hd', hs, hx, hcl1⟩ := hrel
  have HN := Lib.hid hN; have HX := Lib.hid hx
  clear hN hx hsl hxa hcl0
  by_cases hlt : j < 2
  case neg =>
   obtain rfl : j = 2 := by omega
   go_wp2_with fail
   go_ret
   rw [attach_eq s h2, HK.out]
   have e : attTurn s lits 2 = { s with clauses := s.clauses ++ [lits], watches := (lits.take 2).foldl (watch K) s.watches } := by unfold attTurn; rw [List.take_take, HK.out]; rfl
   rw [e] at hs
   exact ⟨rfl, o', oc, hd', hs, by rw [hcl1]; exact HV0.out, HX.out⟩
  case pos =>
   have hj2 : (j : Int) < 2 := by omega
   obtain ⟨x, hx0⟩ : ∃ x, lits.getD j 0 = x := ⟨_, rfl⟩
   have hmem : x ∈ lits := by
     rw [← hx0, List.getD_eq_getElem?_getD, List.getElem?_eq_getElem (by omega)]; exact List.getElem_mem _
   have hxok := HL.out x hmem
   obtain ⟨T, hT⟩ : ∃ T, attTurn s lits j = T := ⟨_, rfl⟩
   have hcT : T.clauses = s.clauses ++ [lits] := by rw [← hT]; rfl
   have hwT : T.watches.length = 2 * n + 2 := by rw [← hT]; show (((lits.take 2).take j).foldl (watch s.clauses.length) s.watches).length = _; rw [watch_len, HWL.out]
   have hrT : ∀ k, 2 ≤ k → (T.watches.getD k []).length ≤ 900002 := by
     intro k h2k
     rw [← hT]
     have h3 := watch_rows s.clauses.length 900000 ((lits.take 2).take j) s.watches (fun y hy => idx_ge (HL.out y (List.mem_of_mem_take (List.mem_of_mem_take hy)))) HR.out k h2k
     have : ((lits.take 2).take j).length ≤ 2 := by rw [List.length_take]; omega
     show ((((lits.take 2).take j).foldl (watch s.clauses.length) s.watches).getD k []).length ≤ _
     omega
   have hsucc : attTurn s lits (j + 1) = { T with watches := T.watches.set (idx x) (T.watches.getD (idx x) [] ++ [K]) } := by
     rw [← hT]; unfold attTurn
     have hjl : j < (lits.take 2).length := by rw [List.length_take]; omega
     rw [take_getD_succ hjl, List.foldl_append, HK.out]
     have : (lits.take 2).getD j 0 = x := by rw [← hx0, List.getD_eq_getElem?_getD, List.getElem?_take, if_pos hlt, ← List.getD_eq_getElem?_getD]
     rw [this]; rfl
   rw [hT] at hs
   obtain ⟨e0, -⟩ := hs.cell (r := .cl K) (by rw [hcl1]; exact HV0.out) (i := j) (u := .int .i64 x) (by
     show (iV (T.clauses.getD K []))[j]? = _
     rw [hcT, List.getD_eq_getElem?_getD, List.getElem?_append_right (by rw [HK.out]; omega), HK.out, Nat.sub_self]
     show (iV lits)[j]? = _
     rw [iV_get (by omega), hx0])
   obtain ⟨I, hI⟩ : ∃ I, idx x = I := ⟨_, rfl⟩
   have hIW := idx_lt hxok
   have hix : ∀ w, Calls Try.prog 52 #[.int .i64 x] w fun e w' => e = .returned (.int .i64 (I : Nat)) ∧ w' = w := fun w => by rw [← hI]; exact index_any hn hxok
   rw [hI] at hIW hsucc
   obtain ⟨W, hW⟩ : ∃ W, 2 * n + 2 = W := ⟨_, rfl⟩
   rw [hW] at hwT hIW
   obtain ⟨gw, cw, ew⟩ := hs.watches_arr (by omega)
   rw [hwT] at ew
   obtain ⟨f7, -⟩ := hs.fld 7 (u := hd' .watches) rfl
   rw [ew] at f7
   obtain ⟨pr, cr, er⟩ := hs.wl_sl I
   obtain ⟨lr, hlr⟩ : ∃ lr, (T.watches.getD I []).length = lr := ⟨_, rfl⟩
   have hlr0 := hrT I (by rw [← hI]; exact idx_ge hxok)
   rw [hlr] at er hlr0
   have hEW : (E T oc hd' .watches)[I]? = some (hd' (.wl I)) := rows_get (fun k => hd' (.wl k)) (by omega)
   obtain ⟨c1, -⟩ := hs.cell (r := .watches) ew (i := I) hEW
   rw [er] at c1
   have HIX := Lib.hid hix; have HSU := Lib.hid hsucc; have HWT := Lib.hid hwT
   have hE : ∀ V, upd (upd (E T oc hd') (.wl I) (E T oc hd' (.wl I) ++ [.int .i64 K])) .watches ((E T oc hd' .watches).set I V) = E { T with watches := T.watches.set I (T.watches.getD I [] ++ [K]) } oc (upd hd' (.wl I) V) := by
     intro V
     rw [← E_wl T oc hd' (by omega)]
     show upd (upd _ _ (nV _ ++ [_])) _ _ = _
     rw [nV_snoc]
   have HEE := Lib.hid hE
   clear hix hsucc hwT hlr hrT hcT hT hE
   go_upto_region 6 with fail
   refine wp_region_seqE (fun x => Below wr.heap.size wr x) (.one 0 1 (.one 1 1 (.one 2 1 (.one 4 1 (.one 5 1 (.one 6 1 (.one 7 1 (.one 8 1 (.one 9 0 (.one 10 1 (.one 11 1 (.one 12 1 (.one 13 0 (.one 14 1 (.alt 3 2 (.alt 15 2 (.alt 16 3 (.one 17 1 (.alt 18 3 .nil .stop)) .stop) .stop) (.alt 15 2 (.alt 3 2 (.alt 16 3 (.one 17 1 (.alt 18 3 .nil .stop)) .stop) (.alt 16 3 (.alt 3 2 (.one 17 1 (.alt 18 3 .nil .stop)) .stop) .stop)) .stop)))))))))))))))) (by kernel_rfl) (by kernel_rfl) (by kernel_rfl) (Below.drew (Below.refl _ _)) ?_
   have hB : Below wr.heap.size wr wr := Below.refl _ _
   iterate 4 (refine seqE_free (v := ?_) rfl (by rfl) ?_ ?_; rotate_left; (focus (intro w; go_simp; try with_reducible rfl)); (try simp only [Act.put, List.setIfInBounds_toArray, List.set_cons_zero, List.set_cons_succ]))
   refine seqE_fcall (v := (.int .i64 (I : Nat))) (f := ?_) (args := ?_) rfl (by rfl) ?_ ?_ ?_
   rotate_left 2
   focus (intro w; go_simp; first | done | with_reducible rfl | (refine ⟨?_, ?_⟩ <;> with_reducible rfl))
   focus (intro w; exact HIX.out w)
   (try simp only [Act.put, List.setIfInBounds_toArray, List.set_cons_zero, List.set_cons_succ])
   iterate 5 (first | (refine seqE_free (v := ?_) rfl (by rfl) ?_ ?_; rotate_left; (focus (intro w; go_simp; try with_reducible rfl)); (try simp only [Act.put, List.setIfInBounds_toArray, List.set_cons_zero, List.set_cons_succ])) | (refine seqE_pure (v := ?_) rfl (by rfl) ?_ ?_; rotate_left; (focus (intro w hS; have f7 := oldcell hS f7 (World.block_lt_of_cell? _ _ f7); have c1 := oldcell hS c1 (World.block_lt_of_cell? _ _ c1); go_simp; try with_reducible rfl)); (try simp only [Act.put, List.setIfInBounds_toArray, List.set_cons_zero, List.set_cons_succ])))
   refine seqE_fcall (v := (.int .i64 (I : Nat))) (f := ?_) (args := ?_) rfl (by rfl) ?_ ?_ ?_
   rotate_left 2
   focus (intro w; go_simp; first | done | with_reducible rfl | (refine ⟨?_, ?_⟩ <;> with_reducible rfl))
   focus (intro w; exact HIX.out w)
   (try simp only [Act.put, List.setIfInBounds_toArray, List.set_cons_zero, List.set_cons_succ])
   iterate 3 (first | (refine seqE_free (v := ?_) rfl (by rfl) ?_ ?_; rotate_left; (focus (intro w; go_simp; try with_reducible rfl)); (try simp only [Act.put, List.setIfInBounds_toArray, List.set_cons_zero, List.set_cons_succ])) | (refine seqE_pure (v := ?_) rfl (by rfl) ?_ ?_; rotate_left; (focus (intro w hS; have f7 := oldcell hS f7 (World.block_lt_of_cell? _ _ f7); have c1 := oldcell hS c1 (World.block_lt_of_cell? _ _ c1); go_simp; try with_reducible rfl)); (try simp only [Act.put, List.setIfInBounds_toArray, List.set_cons_zero, List.set_cons_succ])))
   refine seqE_move rfl (by rfl) ?_ ?_
   ·
    intro wl hS
    have f7 := oldcell (btr hB hS) f7 (World.block_lt_of_cell? _ _ f7)
    refine ⟨.slice (some ⟨gw, 0, none⟩) W cw, wl, (by go_simp; try with_reducible rfl), fun y => Below wl.heap.size wl y, Below.refl _ _, fun y hy => btr hS hy, ?_⟩
    replace hB := btr hB hS
    clear hS
    (try simp only [Act.put, List.setIfInBounds_toArray, List.set_cons_zero, List.set_cons_succ])
    refine seqE_move rfl (by rfl) ?_ seqE_stop
    intro wb hS
    have hS1 := btr hB hS
    refine ⟨.slice (some ⟨wb.heap.size, 0, none⟩) 1 1, (wb.alloc (.cells #[.int .i64 K] 3)), (by go_simp; try with_reducible rfl), fun x => Below (wb.alloc (.cells #[.int .i64 K] 3)).heap.size (wb.alloc (.cells #[.int .i64 K] 3)) x, Below.refl _ _, fun x hx => btr (btr hS (by go_grown)) hx, ?_⟩
    have hB2 : Below (wb.alloc (.cells #[.int .i64 K] 3)).heap.size (wb.alloc (.cells #[.int .i64 K] 3)) (wb.alloc (.cells #[.int .i64 K] 3)) := Below.refl _ _
    have hS1a := btr hS1 (show Below wb.heap.size wb (wb.alloc (.cells #[.int .i64 K] 3)) by go_grown)
    (try simp only [Act.put, List.setIfInBounds_toArray, List.set_cons_zero, List.set_cons_succ])
    refine seqE_moveB rfl (by rfl) ?_ seqE_stop
    intro wa hS
    have hS2 := btr hB2 hS
    obtain ⟨p3, c3, wz, hrun, z1, z1f, hmz, hfin⟩ := hs.app1 (P := Try.prog) (.wl I) rfl er 29 29 i0 _ rfl hi0 hz0 hz1 hz2 (by omega) rfl (.int .i64 K) rfl 3 hS1 hS2 (by omega) (q := .watches) (by intro q; cases q) ew hEW (by intro q; cases q) HEE.out
    refine ⟨_, wz, exec_app rfl rfl rfl hrun, fun x => Below wz.heap.size wz x, Below.refl _ _, ?_⟩
    have hB3 : Below wz.heap.size wz wz := Below.refl _ _
    clear hrun hS1 hS1a hS2 hS hB2 hB
    (try simp only [Act.put, List.setIfInBounds_toArray, List.set_cons_zero, List.set_cons_succ])
    iterate 1 (refine seqE_free (v := ?_) rfl (by rfl) ?_ ?_; rotate_left; (focus (intro w; go_simp; try with_reducible rfl)); (try simp only [Act.put, List.setIfInBounds_toArray, List.set_cons_zero, List.set_cons_succ]))
    refine seqE_storeB rfl (by rfl) ?_ seqE_stop
    intro wS hS
    have hS3 := btr hB3 hS
    have z2 := oldcell hS3 z1 (World.block_lt_of_cell? _ _ z1); have z2f := oldfree hS3 z1f (World.block_lt_of_cell? _ _ z1)
    obtain ⟨hs2, hx2⟩ := hfin wS hS3
    refine ⟨(wS.setCell ⟨gw, I, none⟩ (.slice p3 (lr + 1) c3)), (by go_simp; try with_reducible rfl), fun x => Below (wS.setCell ⟨gw, I, none⟩ (.slice p3 (lr + 1) c3)).heap.size (wS.setCell ⟨gw, I, none⟩ (.slice p3 (lr + 1) c3)) x, Below.refl _ _, ?_⟩
    clear hfin hS3 z1 z1f z2 z2f hB3 hmz hS
    (try simp only [Act.put, List.setIfInBounds_toArray, List.set_cons_zero, List.set_cons_succ])
    refine seqE_nil ?_
    intro w2 hS
    replace hs2 := hs2.up hS
    rw [← HSU.out] at hs2
    go_wp2_with fail
    go_roundg (2 - (j + 1))
    case measure => (have := HN.out; omega)
    case rel => exact ⟨j + 1, by go_num, by omega, rfl, _, _, hs2, ((HX.out.trans hx2 fun _ _ q => q.elim).trans (Ext.below (X := NoX) hS) fun _ _ q => q.elim), by rw [upd_ne _ _ (by intro q; cases q)]; exact hcl1⟩
   refine seqE_move rfl (by rfl) ?_ seqE_stop
   intro wb hS
   have hS1 := btr hB hS
   refine ⟨.slice (some ⟨wb.heap.size, 0, none⟩) 1 1, (wb.alloc (.cells #[.int .i64 K] 3)), (by go_simp; try with_reducible rfl), fun x => Below (wb.alloc (.cells #[.int .i64 K] 3)).heap.size (wb.alloc (.cells #[.int .i64 K] 3)) x, Below.refl _ _, fun x hx => btr (btr hS (by go_grown)) hx, ?_⟩
   have hB2 : Below (wb.alloc (.cells #[.int .i64 K] 3)).heap.size (wb.alloc (.cells #[.int .i64 K] 3)) (wb.alloc (.cells #[.int .i64 K] 3)) := Below.refl _ _
   have hS1a := btr hS1 (show Below wb.heap.size wb (wb.alloc (.cells #[.int .i64 K] 3)) by go_grown)
   (try simp only [Act.put, List.setIfInBounds_toArray, List.set_cons_zero, List.set_cons_succ])
   refine seqE_move rfl (by rfl) ?_ ?_
   ·
    intro wl hS
    have f7 := oldcell (btr hS1a (btr hB2 hS)) f7 (World.block_lt_of_cell? _ _ f7)
    refine ⟨.slice (some ⟨gw, 0, none⟩) W cw, wl, (by go_simp; try with_reducible rfl), fun y => Below wl.heap.size wl y, Below.refl _ _, fun y hy => btr hS hy, ?_⟩
    replace hB2 := btr hB2 hS
    clear hS
    (try simp only [Act.put, List.setIfInBounds_toArray, List.set_cons_zero, List.set_cons_succ])
    refine seqE_moveB rfl (by rfl) ?_ seqE_stop
    intro wa hS
    have hS2 := btr hB2 hS
    obtain ⟨p3, c3, wz, hrun, z1, z1f, hmz, hfin⟩ := hs.app1 (P := Try.prog) (.wl I) rfl er 29 29 i0 _ rfl hi0 hz0 hz1 hz2 (by omega) rfl (.int .i64 K) rfl 3 hS1 hS2 (by omega) (q := .watches) (by intro q; cases q) ew hEW (by intro q; cases q) HEE.out
    refine ⟨_, wz, exec_app rfl rfl rfl hrun, fun x => Below wz.heap.size wz x, Below.refl _ _, ?_⟩
    have hB3 : Below wz.heap.size wz wz := Below.refl _ _
    clear hrun hS1 hS1a hS2 hS hB2 hB
    (try simp only [Act.put, List.setIfInBounds_toArray, List.set_cons_zero, List.set_cons_succ])
    iterate 1 (refine seqE_free (v := ?_) rfl (by rfl) ?_ ?_; rotate_left; (focus (intro w; go_simp; try with_reducible rfl)); (try simp only [Act.put, List.setIfInBounds_toArray, List.set_cons_zero, List.set_cons_succ]))
    refine seqE_storeB rfl (by rfl) ?_ seqE_stop
    intro wS hS
    have hS3 := btr hB3 hS
    have z2 := oldcell hS3 z1 (World.block_lt_of_cell? _ _ z1); have z2f := oldfree hS3 z1f (World.block_lt_of_cell? _ _ z1)
    obtain ⟨hs2, hx2⟩ := hfin wS hS3
    refine ⟨(wS.setCell ⟨gw, I, none⟩ (.slice p3 (lr + 1) c3)), (by go_simp; try with_reducible rfl), fun x => Below (wS.setCell ⟨gw, I, none⟩ (.slice p3 (lr + 1) c3)).heap.size (wS.setCell ⟨gw, I, none⟩ (.slice p3 (lr + 1) c3)) x, Below.refl _ _, ?_⟩
    clear hfin hS3 z1 z1f z2 z2f hB3 hmz hS
    (try simp only [Act.put, List.setIfInBounds_toArray, List.set_cons_zero, List.set_cons_succ])
    refine seqE_nil ?_
    intro w2 hS
    replace hs2 := hs2.up hS
    rw [← HSU.out] at hs2
    go_wp2_with fail
    go_roundg (2 - (j + 1))
    case measure => (have := HN.out; omega)
    case rel => exact ⟨j + 1, by go_num, by omega, rfl, _, _, hs2, ((HX.out.trans hx2 fun _ _ q => q.elim).trans (Ext.below (X := NoX) hS) fun _ _ q => q.elim), by rw [upd_ne _ _ (by intro q; cases q)]; exact hcl1⟩
   refine seqE_moveB rfl (by rfl) ?_ seqE_stop
   intro wa hS
   have hS2 := btr hB2 hS
   obtain ⟨p3, c3, wz, hrun, z1, z1f, hmz, hfin⟩ := hs.app1 (P := Try.prog) (.wl I) rfl er 29 29 i0 _ rfl hi0 hz0 hz1 hz2 (by omega) rfl (.int .i64 K) rfl 3 hS1 hS2 (by omega) (q := .watches) (by intro q; cases q) ew hEW (by intro q; cases q) HEE.out
   refine ⟨_, wz, exec_app rfl rfl rfl hrun, fun x => Below wz.heap.size wz x, Below.refl _ _, ?_⟩
   have hB3 : Below wz.heap.size wz wz := Below.refl _ _
   clear hrun hS1 hS1a hS2 hS hB2 hB
   (try simp only [Act.put, List.setIfInBounds_toArray, List.set_cons_zero, List.set_cons_succ])
   refine seqE_move rfl (by rfl) ?_ seqE_stop
   intro wl hS
   have fz := hmz.load (r := .self) (by rw [upd_ne _ _ (by intro q; cases q)]; exact hs.hb) (i := 7) (u := .slice (some ⟨gw, 0, none⟩) W cw) (by rw [upd_ne _ _ (by intro q; cases q), ← ew]; rfl)
   have f7 := oldcell (btr hB3 hS) fz.1 (World.block_lt_of_cell? _ _ fz.1)
   refine ⟨.slice (some ⟨gw, 0, none⟩) W cw, wl, (by go_simp; try with_reducible rfl), fun y => Below wl.heap.size wl y, Below.refl _ _, fun y hy => btr hS hy, ?_⟩
   replace hB3 := btr hB3 hS
   clear hS
   (try simp only [Act.put, List.setIfInBounds_toArray, List.set_cons_zero, List.set_cons_succ])
   iterate 1 (refine seqE_free (v := ?_) rfl (by rfl) ?_ ?_; rotate_left; (focus (intro w; go_simp; try with_reducible rfl)); (try simp only [Act.put, List.setIfInBounds_toArray, List.set_cons_zero, List.set_cons_succ]))
   refine seqE_storeB rfl (by rfl) ?_ seqE_stop
   intro wS hS
   have hS3 := btr hB3 hS
   have z2 := oldcell hS3 z1 (World.block_lt_of_cell? _ _ z1); have z2f := oldfree hS3 z1f (World.block_lt_of_cell? _ _ z1)
   obtain ⟨hs2, hx2⟩ := hfin wS hS3
   refine ⟨(wS.setCell ⟨gw, I, none⟩ (.slice p3 (lr + 1) c3)), (by go_simp; try with_reducible rfl), fun x => Below (wS.setCell ⟨gw, I, none⟩ (.slice p3 (lr + 1) c3)).heap.size (wS.setCell ⟨gw, I, none⟩ (.slice p3 (lr + 1) c3)) x, Below.refl _ _, ?_⟩
   clear hfin hS3 z1 z1f z2 z2f hB3 hmz hS
   (try simp only [Act.put, List.setIfInBounds_toArray, List.set_cons_zero, List.set_cons_succ])
   refine seqE_nil ?_
   intro w2 hS
   replace hs2 := hs2.up hS
   rw [← HSU.out] at hs2
   go_wp2_with fail
   go_roundg (2 - (j + 1))
   case measure => (have := HN.out; omega)
   case rel => exact ⟨j + 1, by go_num, by omega, rfl, _, _, hs2, ((HX.out.trans hx2 fun _ _ q => q.elim).trans (Ext.below (X := NoX) hS) fun _ _ q => q.elim), by rw [upd_ne _ _ (by intro q; cases q)]; exact hcl1⟩
end Go.Proofs.Ytdibfjcmgbpnpaa
