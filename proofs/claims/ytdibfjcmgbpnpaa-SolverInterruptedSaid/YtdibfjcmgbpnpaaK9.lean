/- Walks of the solver: learn. -/
import Derived.Test.YtdibfjcmgbpnpaaK8
namespace Go.Proofs.Ytdibfjcmgbpnpaa
set_option linter.unusedSimpArgs false
set_option linter.unusedVariables false
open Go.RowKit

theorem step_info : (Try.prog.info? 55).map (fun i => (i.zero, i.size, i.bytes)) = some (some (.agg #[.int .i64 0, .slice none 0 0, .int .i64 0]), 3, 40) := by kernel_rfl
theorem cells3_new (w : World) (x y z : Value) (t : TypeId) : ∀ j u, [x, y, z][j]? = some u → (w.alloc (.cells #[x, y, z] t)).cell? ((⟨w.heap.size, 0, none⟩ : Addr).add j) = some u := by
  intro j u h
  match j, h with
  | 0, h => cases h; show World.cell? _ ⟨_, 0, none⟩ = some x; go_cell
  | 1, h => cases h; show World.cell? _ ⟨_, 1, none⟩ = some y; go_cell
  | 2, h => cases h; show World.cell? _ ⟨_, 2, none⟩ = some z; go_cell
  | j + 3, h => simp at h
theorem flat3_len (a b : Value) (f : Nat → Value) : ∀ l : List Nat, (l.flatMap fun k => [a, f k, b]).length = 3 * l.length
  | [] => rfl
  | x :: l => by rw [List.flatMap_cons, List.length_append, flat3_len a b f l, List.length_cons]; simp; omega
theorem owns_ge {w : World} {B : Nat} {e : TypeId} {E n : Nat} {v : Value} {xs : List Value} (h : w.ownsRow B e E v n xs) {g : Nat} (hg : v.ownBlock = some g) : B ≤ g := by
  rcases h.2 with ⟨rfl, -⟩ | ⟨g', cap, cur, rfl, h1, -⟩
  · cases hg
  · simp only [Value.ownBlock, Option.some.injEq] at hg; subst hg; exact h1
theorem owns_base {w : World} {B : Nat} {e : TypeId} {E n : Nat} {v : Value} {xs : List Value} (h : w.ownsRow B e E v n xs) : w.ownsRow 0 e E v n xs := by
  refine ⟨h.1, ?_⟩
  rcases h.2 with q | ⟨g', cap, cur, rfl, h1, h2⟩
  · exact .inl q
  · exact .inr ⟨g', cap, cur, rfl, Nat.zero_le _, h2⟩
set_option maxRecDepth 100000 in
set_option maxHeartbeats 2000000 in
theorem learn_any {w : World} {o : Nat → Option Role} {b : Nat} {s : SS} (h : SolAt w o b s) (hp : s.proof.length ≤ 100000) {p : Option Addr} {cap : Nat} {l : List Int} (hl : SI w p cap l) (hll : l.length ≤ 1000000) :
    Calls Try.prog 53 #[.pointer (some ⟨b, 0, none⟩), .slice p l.length cap] w fun e w' => e = .returned (.tuple #[]) ∧ ∃ o', SolAt w' o' b (s.learn l) ∧ Ext NoX w o w' o' := by
 obtain ⟨i0, hi0, hz0, hz1, hz2⟩ := info_parts step_info
 obtain ⟨oc, hd, hs⟩ := h.sl
 obtain ⟨pp, np, cp, ep, hlp, -⟩ := hs.mem.form .proof
 have hnp : np = s.proof.length := by
   have h1 : (E s oc hd .proof).length = 3 * s.proof.length := by
     show ((List.range s.proof.length).flatMap _).length = _
     rw [flat3_len, List.length_range]
   rw [h1] at hlp
   have h2 : 3 * s.proof.length = np * 3 := hlp
   omega
 rw [hnp] at ep
 obtain ⟨K, hK⟩ : ∃ K, s.proof.length = K := ⟨_, rfl⟩
 rw [hK] at ep hp
 obtain ⟨f11, -⟩ := hs.fld 11 (u := hd .proof) rfl
 rw [ep] at f11
 have HK := Lib.hid hK; have HLI := Lib.hid hl
 clear hlp hnp hK hl h
 go_enter Try.func53, Try.ntmps53
 refine wp_region_seqE (fun x => Below w.heap.size w x) (.one 0 1 (.one 1 1 (.one 2 1 (.one 3 1 (.one 4 0 (.one 5 1 (.alt 6 2 (.one 7 1 (.alt 8 2 (.alt 9 3 (.one 10 1 (.one 11 1 (.alt 12 3 .nil .stop))) .stop) .stop)) .stop))))))) (by kernel_rfl) (by kernel_rfl) (by kernel_rfl) (Below.drew (Below.refl _ _)) ?_
 iterate 6 (first | (refine seqE_free (v := ?_) rfl (by rfl) ?_ ?_; rotate_left; (focus (intro w; go_simp; try with_reducible rfl)); (try simp only [Act.put, List.setIfInBounds_toArray, List.set_cons_zero, List.set_cons_succ])) | (refine seqE_pure (v := ?_) rfl (by rfl) ?_ ?_; rotate_left; (focus (intro w hS; have f11 := oldcell hS f11 (World.block_lt_of_cell? _ _ f11); go_simp; try with_reducible rfl)); (try simp only [Act.put, List.setIfInBounds_toArray, List.set_cons_zero, List.set_cons_succ])))
 refine seqE_call (f := ?_) (args := ?_) rfl (by rfl) ?_ ?_ seqE_stop
 rotate_left 2
 focus (intro w hS; go_simp; first | done | with_reducible rfl | (refine ⟨?_, ?_⟩ <;> with_reducible rfl))
 intro wc hS
 refine (clone_any l p cap wc (HLI.out.up hS) hll).mono ?_
 rintro e w1 ⟨q, cq, rfl, hown, hbl⟩
 refine ⟨_, rfl, fun x => Below w1.heap.size w1 x, Below.refl _ _, fun x hx => btr (btr hS hbl) hx, ?_⟩
 have hB := btr hS hbl
 have hwc := hS.size
 clear hS hbl
 (try simp only [Act.put, List.setIfInBounds_toArray, List.set_cons_zero, List.set_cons_succ])
 iterate 1 (refine seqE_free (v := ?_) rfl (by rfl) ?_ ?_; rotate_left; (focus (intro w; go_simp; try with_reducible rfl)); (try simp only [Act.put, List.setIfInBounds_toArray, List.set_cons_zero, List.set_cons_succ]))
 refine seqE_move rfl (by rfl) ?_ seqE_stop
 intro wb hS
 have hS1 := hS
 refine ⟨.slice (some ⟨wb.heap.size, 0, none⟩) 1 1, (wb.alloc (.cells #[.int .i64 1, .slice q l.length cq, .int .i64 0] 55)), (by go_simp; try with_reducible rfl), fun x => Below (wb.alloc (.cells #[.int .i64 1, .slice q l.length cq, .int .i64 0] 55)).heap.size (wb.alloc (.cells #[.int .i64 1, .slice q l.length cq, .int .i64 0] 55)) x, Below.refl _ _, fun x hx => btr (btr hS (by go_grown)) hx, ?_⟩
 clear hS
 (try simp only [Act.put, List.setIfInBounds_toArray, List.set_cons_zero, List.set_cons_succ])
 refine seqE_moveB rfl (by rfl) ?_ seqE_stop
 intro wa hS2
 have hs1 := hs.up hB
 have hfr : ∀ g, (Value.slice q l.length cq).ownBlock = some g → o g = none := by
   intro g hg
   have h1 := owns_ge hown hg
   cases ho : o g with
   | none => rfl
   | some r => have := hs.lt g (by rw [ho]; intro h; cases h); omega
 obtain ⟨hm1, hx1⟩ := hs1.mm.new (.step K) (by intro q; cases q) (owns_base hown) hfr
 have hx1 : Ext NoX w o w1 (tagNew o (.slice q l.length cq) (.step K)) := by
   refine ⟨hB.os, hB.tape, hB.output, hB.size, fun g a1 a2 _ => hB.block g a1, fun g a1 _ => ?_⟩
   unfold tagNew
   rw [if_neg]
   intro hg
   have := owns_ge hown hg
   omega
 have hBa : Below w1.heap.size w1 wa := btr (btr hS1 (show Below wb.heap.size wb (wb.alloc (.cells #[.int .i64 1, .slice q l.length cq, .int .i64 0] 55)) by go_grown)) hS2
 obtain ⟨p2, c2, wz, hrun, z1, z1f, hfin⟩ := hm1.app1 (P := Try.prog) .proof (m := 1) (news := [.int .i64 1, .slice q l.length cq, .int .i64 0]) rfl (show upd hd (.step K) _ .proof = .slice pp K cp by rw [upd_ne _ _ (by intro q; cases q)]; exact ep) 49 49 i0 _ rfl hi0 hz0 hz1 hz2 (by omega) rfl (by intro u hu; simp only [List.mem_cons, List.not_mem_nil, or_false] at hu; rcases hu with rfl | rfl | rfl <;> rfl)
   (wa := wa) hBa (ad := ⟨wb.heap.size, 0, none⟩) (cc := 1) (fun j u hu => by
     have e := cells3_new wb (.int .i64 1) (.slice q l.length cq) (.int .i64 0) 55 j u hu
     rw [World.cell?_of_block (hS2.block _ (World.block_lt_of_cell? _ _ e))]; exact e) (by omega) (by omega) (q := .self) (by intro q; cases q) hm1.hb (j := 11) (old := hd .proof) (by rw [upd_ne _ _ (by intro q; cases q)]; rfl) (by intro q; cases q)
 refine ⟨_, wz, exec_app rfl rfl rfl hrun, fun x => Below wz.heap.size wz x, Below.refl _ _, ?_⟩
 clear hrun hS1 hS2 hBa
 (try simp only [Act.put, List.setIfInBounds_toArray, List.set_cons_zero, List.set_cons_succ])
 iterate 2 (refine seqE_free (v := ?_) rfl (by rfl) ?_ ?_; rotate_left; (focus (intro w; go_simp; try with_reducible rfl)); (try simp only [Act.put, List.setIfInBounds_toArray, List.set_cons_zero, List.set_cons_succ]))
 refine seqE_storeB rfl (by rfl) ?_ seqE_stop
 intro wS hS3
 have z2 := oldcell hS3 z1 (World.block_lt_of_cell? _ _ z1); have z2f := oldfree hS3 z1f (World.block_lt_of_cell? _ _ z1)
 obtain ⟨hm2, hx2⟩ := hfin wS hS3
 refine ⟨(wS.setCell ⟨b, 11, none⟩ (.slice p2 (K + 1) c2)), (by go_simp; try with_reducible rfl), fun x => Below (wS.setCell ⟨b, 11, none⟩ (.slice p2 (K + 1) c2)).heap.size (wS.setCell ⟨b, 11, none⟩ (.slice p2 (K + 1) c2)) x, Below.refl _ _, ?_⟩
 clear hfin hS3 z1 z1f z2 z2f
 (try simp only [Act.put, List.setIfInBounds_toArray, List.set_cons_zero, List.set_cons_succ])
 refine seqE_nil ?_
 intro w2 hS
 go_wp2_with fail
 refine bodyPost_end (results_none rfl _ _ _) rfl ?_
 have hsl := hm2.sl (s := s.learn l) (oc := oc) (by rw [← HK.out]; exact E_step_new _ _ _ _ _ _)
 exact ⟨rfl, _, (hsl.up hS).at, (hx1.trans hx2 fun _ _ q => q).trans (Ext.below (X := NoX) hS) fun _ _ q => q⟩
end Go.Proofs.Ytdibfjcmgbpnpaa
