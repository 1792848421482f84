/- Walks of the solver: assert. -/
import Derived.Test.YtdibfjcmgbpnpaaKA
namespace Go.Proofs.Ytdibfjcmgbpnpaa
set_option linter.unusedSimpArgs false
set_option linter.unusedVariables false
open Go.RowKit

theorem Mem.off {w : World} {o : Nat → Option Role} {hd : Role → Value} {ct : Role → List Value} (h : Mem w o hd ct) {g : Nat} (ho : o g = none) (i : Nat) (u : Value) : Mem (w.setCell ⟨g, i, none⟩ u) o hd ct := fun r =>
  (h r).keep (fun g' hg' => setCell_other w _ u (fun e => by
    have e' : g' = g := e
    have := (h r).tag g' hg'
    rw [e', ho] at this; cases this)) fun _ _ => rfl
theorem Sl.off {w : World} {o : Nat → Option Role} {b : Nat} {s : SS} {oc : Int} {hd : Role → Value} (h : Sl w o b s oc hd) {g : Nat} (ho : o g = none) (i : Nat) (u : Value) : Sl (w.setCell ⟨g, i, none⟩ u) o b s oc hd :=
  ⟨h.hb, h.mem.off ho i u, fun g hg => by rw [World.size_setCell]; exact h.lt g hg⟩
theorem Ext.setX {X : Nat → Prop} {w : World} {o : Nat → Option Role} {g : Nat} (hx : X g) (i : Nat) (u : Value) : Ext X w o (w.setCell ⟨g, i, none⟩ u) o :=
  ⟨rfl, rfl, rfl, by simp, fun g' _ _ h3 => setCell_other w _ u (fun e => h3 (by have e' : g' = g := e; rw [e']; exact hx)), fun _ _ _ => rfl⟩
theorem own_load {w : World} {B : Nat} {e : TypeId} {n c g i : Nat} {xs : List Value} {u : Value} (h : w.ownsRow B e 1 (.slice (some ⟨g, 0, none⟩) n c) n xs) (hi : xs[i]? = some u) : w.cell? ⟨g, i, none⟩ = some u ∧ w.frozen? ⟨g, i, none⟩ = false := by
  obtain ⟨cap, cur, e, h2, h3, h4, h5, h6⟩ := owns_blk h (g := g) rfl
  rw [← h6, List.getElem?_take] at hi
  split at hi
  · constructor
    · unfold World.cell?
      rw [show (⟨g, i, none⟩ : Addr).block = g from rfl, h2]
      simpa using hi
    · unfold World.frozen?
      rw [show (⟨g, i, none⟩ : Addr).block = g from rfl, h2]
      simp
  · cases hi
theorem own_set {w : World} {B : Nat} {e : TypeId} {n c g : Nat} {xs : List Value} (h : w.ownsRow B e 1 (.slice (some ⟨g, 0, none⟩) n c) n xs) (i : Nat) (u : Value) : (w.setCell ⟨g, i, none⟩ u).ownsRow B e 1 (.slice (some ⟨g, 0, none⟩) n c) n (xs.set i u) := by
  have hb := owns_ge h (g := g) rfl
  obtain ⟨cap, cur, e, h2, h3, h4, h5, h6⟩ := owns_blk h (g := g) rfl
  simp only [Value.slice.injEq, true_and] at e
  subst e
  refine ⟨by rw [List.length_set]; exact h.1, .inr ⟨g, c, cur.setIfInBounds i u, rfl, hb, setCell_same w g i u h2, h3, h4, by simpa using h5, ?_⟩⟩
  rw [Array.toList_setIfInBounds, take_set, h6]
theorem own_up {w w' : World} {B : Nat} {e : TypeId} {E n : Nat} {v : Value} {xs : List Value} (h : w.ownsRow B e E v n xs) (hB : Below w.heap.size w w') : w'.ownsRow B e E v n xs := owns_keep h fun g hg => hB.block g (owns_lt h hg)
theorem own_ext {X : Nat → Prop} {w w' : World} {o o' : Nat → Option Role} {B : Nat} {e : TypeId} {E n : Nat} {v : Value} {xs : List Value} (h : w.ownsRow B e E v n xs) (hx : Ext X w o w' o') (ho : ∀ g, v.ownBlock = some g → o g = none ∧ ¬ X g) : w'.ownsRow B e E v n xs := owns_keep h fun g hg => hx.block g (owns_lt h hg) (ho g hg).1 (ho g hg).2
theorem Ext.wide {X Y : Nat → Prop} {w w' : World} {o o' : Nat → Option Role} (h : Ext X w o w' o') (hXY : ∀ g, X g → Y g) : Ext Y w o w' o' := ⟨h.os, h.tape, h.output, h.size, fun g a b c => h.block g a b fun q => c (hXY g q), fun g a c => h.tag g a fun q => c (hXY g q)⟩
theorem SolAt.up {w w' : World} {o : Nat → Option Role} {b : Nat} {s : SS} (h : SolAt w o b s) (hB : Below w.heap.size w w') : SolAt w' o b s := by
  obtain ⟨oc, hd, hs⟩ := h.sl; exact (hs.up hB).at
/-- the choice of the second watch, at a turn -/
def nextAt (s : SS) (l : List Int) (K : Nat) : Nat := (List.range K).foldl (fun nx i => if 0 < i ∧ s.lv (l.getD nx 0) < s.lv (l.getD i 0) then i else nx) 1
theorem nextAt_succ (s : SS) (l : List Int) (K : Nat) : nextAt s l (K + 1) = if 0 < K ∧ s.lv (l.getD (nextAt s l K) 0) < s.lv (l.getD K 0) then K else nextAt s l K := by
  unfold nextAt; rw [List.range_succ, List.foldl_append]; rfl
theorem nextAt_lt (s : SS) {l : List Int} (hl : 2 ≤ l.length) : ∀ K, K ≤ l.length → 1 ≤ nextAt s l K ∧ nextAt s l K < l.length
  | 0, _ => ⟨Nat.le_refl _, by show 1 < _; omega⟩
  | K + 1, h => by
    have ih := nextAt_lt s hl K (by omega)
    rw [nextAt_succ]; split
    · rename_i q; exact ⟨q.1, by omega⟩
    · exact ih
theorem Tr.learn {n : Nat} {s : SS} (h : Tr n s) (l : List Int) : Tr n (s.learn l) := ⟨h.vl, h.ll, h.rl, h.ok, h.nd, h.val, h.srt, h.ml, h.lev, h.low1, h.low2, h.lowA⟩
theorem Tr.attach {n : Nat} {s : SS} (h : Tr n s) (l : List Int) : Tr n (s.attach l) := ⟨h.vl, h.ll, h.rl, h.ok, h.nd, h.val, h.srt, h.ml, h.lev, h.low1, h.low2, h.lowA⟩
set_option maxRecDepth 100000 in
set_option maxHeartbeats 4000000 in
theorem assert_any {n : Nat} {w : World} {o : Nat → Option Role} {b : Nat} {s : SS} (h : SolAt w o b s) (ht : Tr n s) (hn : n ≤ 20000) (hmk : s.marks.length ≤ 1000000) (hwl : s.watches.length = 2 * n + 2) (hrow : ∀ k, 2 ≤ k → (s.watches.getD k []).length ≤ 900000) (hcl : s.clauses.length ≤ 900000) (hp : s.proof.length ≤ 100000) {l : List Int} {gl cap : Nat}
    (hv : w.ownsRow 0 3 1 (.slice (some ⟨gl, 0, none⟩) l.length cap) l.length (iV l)) (ho : o gl = none) (h1 : 1 ≤ l.length) (hll : l.length ≤ 100000) (hl : ∀ x ∈ l, LOk n x) :
    Calls Try.prog 41 #[.pointer (some ⟨b, 0, none⟩), .slice (some ⟨gl, 0, none⟩) l.length cap] w fun e w' => e = .returned (.tuple #[]) ∧ ∃ o', SolAt w' o' b (s.assert l) ∧ Ext (fun g => g = gl) w o w' o' := by
 obtain ⟨len, hlen⟩ : ∃ z, l.length = z := ⟨_, rfl⟩
 have hle := learn_any h hp (SI.of_owns hv) (by omega)
 have hgl := owns_lt hv (g := gl) rfl
 rw [hlen] at hle hv h1 hll ⊢
 have spec : ∀ o3 w3, Ext NoX w o w3 o3 → w3.ownsRow 0 3 1 (.slice (some ⟨gl, 0, none⟩) len cap) len (iV l) ∧ o3 gl = none := fun o3 w3 hx => by
   refine ⟨own_ext hv hx fun g hg => ?_, by rw [hx.tag gl hgl (fun q => q)]; exact ho⟩
   simp only [Value.ownBlock, Option.some.injEq] at hg; subst hg; exact ⟨ho, fun q => q⟩
 have HLE := Lib.hid hle; have HT := Lib.hid ht; have HL := Lib.hid hl; have HR := Lib.hid hrow; have HW := Lib.hid hwl; have HLN := Lib.hid hlen; have HSP := Lib.hid spec
 clear hle hv ht hl hrow hwl hlen spec
 go_enter Try.func41, Try.ntmps41
 go_upto_region 1 with (first | (go_at_call 53; refine HLE.out.mono ?_; rintro e w3 ⟨rfl, o3, hs3, hx3⟩; have HS3 := Lib.hid hs3; have HX3 := Lib.hid hx3; clear hs3 hx3))
 obtain ⟨hv3, ho3⟩ := HSP.out _ _ HX3.out
 obtain ⟨c0, -⟩ := own_load hv3 (i := 0) (iV_get (by rw [HLN.out]; omega))
 obtain ⟨x0, hx0⟩ : ∃ z, l.getD 0 0 = z := ⟨_, rfl⟩
 rw [hx0] at c0
 have hx0m : x0 ∈ l := by rw [← hx0, List.getD_eq_getElem?_getD, List.getElem?_eq_getElem (by rw [HLN.out]; omega)]; exact List.getElem_mem _
 have HV3 := Lib.hid hv3; have HX0 := Lib.hid hx0; have HX0M := Lib.hid hx0m
 clear hv3 hx0 hx0m
 by_cases hl1 : len = 1
 · have hl1i : (len : Int) = 1 := by omega
   go_upto_region 2 with fail
   refine wp_region_seqE (fun x => Below w3.heap.size w3 x) (.one 0 1 (.one 1 1 (.one 2 1 (.one 3 1 (.one 4 1 (.one 5 0 (.alt 6 3 .nil .stop))))))) (by kernel_rfl) (by kernel_rfl) (by kernel_rfl) (Below.drew (Below.refl _ _)) ?_
   iterate 6 (first | (refine seqE_free (v := ?_) rfl (by rfl) ?_ ?_; rotate_left; (focus (intro w; go_simp; try with_reducible rfl)); (try simp only [Act.put, List.setIfInBounds_toArray, List.set_cons_zero, List.set_cons_succ])) | (refine seqE_pure (v := ?_) rfl (by rfl) ?_ ?_; rotate_left; (focus (intro w hS; have c0 := oldcell hS c0 (World.block_lt_of_cell? _ _ c0); go_simp; try with_reducible rfl)); (try simp only [Act.put, List.setIfInBounds_toArray, List.set_cons_zero, List.set_cons_succ])))
   refine seqE_callB (f := ?_) (args := ?_) rfl (by rfl) ?_ ?_ seqE_stop
   rotate_left 2
   focus (intro w hS; go_simp; first | done | with_reducible rfl | (refine ⟨?_, ?_⟩ <;> with_reducible rfl))
   intro wc hS
   refine (push_any (HS3.out.up hS) (HT.out.learn l) hn hmk (HL.out _ HX0M.out) (r := -1) (by omega) (by omega)).mono ?_
   rintro e w4 ⟨rfl, o4, hs4, hx4⟩
   refine ⟨_, rfl, fun x => Below w4.heap.size w4 x, Below.refl _ _, ?_⟩
   have hB := hS
   clear hS
   (try simp only [Act.put, List.setIfInBounds_toArray, List.set_cons_zero, List.set_cons_succ])
   refine seqE_nil ?_
   intro w2 hS
   go_wp2_with fail
   refine bodyPost_ret (results_none rfl _ _ _) rfl ?_
   have e : s.assert l = (s.learn l).push x0 (-1) := by unfold SS.assert; rw [if_pos (by rw [HLN.out]; exact hl1), HX0.out]
   rw [e]
   refine ⟨rfl, o4, hs4.up hS, ?_⟩
   exact ((HX3.out.trans (Ext.below (X := NoX) hB) fun _ _ q => q).trans (hx4.trans (Ext.below (X := NoX) hS) fun _ _ q => q) fun _ _ q => q).wide fun _ q => q.elim
 · have hl1i : ¬ (len : Int) = 1 := by omega
   have hl2 : 2 ≤ len := by omega
   obtain ⟨S, hS0⟩ : ∃ z, s.learn l = z := ⟨_, rfl⟩
   have hslv : S.level.length = n + 1 := by rw [← hS0]; exact HT.out.ll
   obtain ⟨N1, hN1⟩ : ∃ z, n + 1 = z := ⟨_, rfl⟩
   have HS4 := HS3.out
   rw [hS0] at HS4
   obtain ⟨oc, hd, hs⟩ := HS4.sl
   obtain ⟨gv, cv, ev⟩ := hs.level_arr (by omega)
   rw [hslv, hN1] at ev
   have HSL := Lib.hid hs; have HS0 := Lib.hid hS0; have HSLV := Lib.hid hslv; have HEV := Lib.hid ev
   have hB0 := Below.refl w3.heap.size w3
   clear HS4 hs hS0 hslv c0 ev
   go_wp2_with fail
   go_loopg [4, 21] len (fun N s4 s21 wr => ∃ K : Nat, s21 = .int .i64 K ∧ s4 = .int .i64 (nextAt S l K : Nat) ∧ K ≤ len ∧ N = len - K ∧ Below w3.heap.size w3 wr)
   case atStart => exact ⟨0, rfl, rfl, by omega, rfl, hB0⟩
   case round =>
    obtain ⟨K, rfl, rfl, hK, hN, hB⟩ := hrel
    have HN := Lib.hid hN; clear hN hB0
    obtain ⟨hnx1, hnx2⟩ := nextAt_lt S (l := l) (by rw [HLN.out]; exact hl2) K (by rw [HLN.out]; exact hK)
    obtain ⟨nx, hnx⟩ : ∃ z, nextAt S l K = z := ⟨_, rfl⟩
    rw [hnx] at hnx1 hnx2 ⊢
    rw [HLN.out] at hnx2
    have HNX := Lib.hid hnx; clear hnx
    by_cases hlt : K < len
    case pos =>
     by_cases hK0 : K = 0
     · subst hK0
       go_upto_region 7 with fail
       refine wp_region_seqE (fun x => Below wr.heap.size wr x) (.one 0 1 (.one 1 1 (.one 2 1 (.one 3 1 (.one 4 1 (.one 5 1 (.one 6 1 (.one 7 1 (.one 8 1 (.one 9 1 (.one 10 1 (.one 11 1 (.one 12 1 (.one 13 1 (.one 14 1 (.one 15 1 (.one 16 1 (.one 17 1 (.one 18 1 (.one 19 1 (.one 20 1 (.one 21 1 (.one 22 1 (.one 23 1 (.one 24 1 (.one 25 1 (.one 26 1 (.one 27 1 (.one 28 1 (.one 29 1 (.one 30 1 (.one 31 1 (.one 32 1 (.one 33 1 (.one 34 1 (.one 35 1 (.one 36 1 (.one 37 1 (.one 38 1 .nil))))))))))))))))))))))))))))))))))))))) (by kernel_rfl) (by kernel_rfl) (by kernel_rfl) (Below.drew (Below.refl _ _)) ?_
       iterate 3 (refine seqE_free (v := ?_) rfl (by rfl) ?_ ?_; rotate_left; (focus (intro w; go_simp; try with_reducible rfl)); (try simp only [Act.put, List.setIfInBounds_toArray, List.set_cons_zero, List.set_cons_succ]))
       refine seqE_off rfl (by rfl) ?_
       (try simp only [Act.put, List.setIfInBounds_toArray, List.set_cons_zero, List.set_cons_succ])
       refine seqE_off rfl (by rfl) ?_
       (try simp only [Act.put, List.setIfInBounds_toArray, List.set_cons_zero, List.set_cons_succ])
       refine seqE_off rfl (by rfl) ?_
       (try simp only [Act.put, List.setIfInBounds_toArray, List.set_cons_zero, List.set_cons_succ])
       refine seqE_off rfl (by rfl) ?_
       (try simp only [Act.put, List.setIfInBounds_toArray, List.set_cons_zero, List.set_cons_succ])
       refine seqE_off rfl (by rfl) ?_
       (try simp only [Act.put, List.setIfInBounds_toArray, List.set_cons_zero, List.set_cons_succ])
       refine seqE_off rfl (by rfl) ?_
       (try simp only [Act.put, List.setIfInBounds_toArray, List.set_cons_zero, List.set_cons_succ])
       refine seqE_off rfl (by rfl) ?_
       (try simp only [Act.put, List.setIfInBounds_toArray, List.set_cons_zero, List.set_cons_succ])
       refine seqE_off rfl (by rfl) ?_
       (try simp only [Act.put, List.setIfInBounds_toArray, List.set_cons_zero, List.set_cons_succ])
       refine seqE_off rfl (by rfl) ?_
       (try simp only [Act.put, List.setIfInBounds_toArray, List.set_cons_zero, List.set_cons_succ])
       refine seqE_off rfl (by rfl) ?_
       (try simp only [Act.put, List.setIfInBounds_toArray, List.set_cons_zero, List.set_cons_succ])
       refine seqE_off rfl (by rfl) ?_
       (try simp only [Act.put, List.setIfInBounds_toArray, List.set_cons_zero, List.set_cons_succ])
       refine seqE_off rfl (by rfl) ?_
       (try simp only [Act.put, List.setIfInBounds_toArray, List.set_cons_zero, List.set_cons_succ])
       refine seqE_off rfl (by rfl) ?_
       (try simp only [Act.put, List.setIfInBounds_toArray, List.set_cons_zero, List.set_cons_succ])
       refine seqE_off rfl (by rfl) ?_
       (try simp only [Act.put, List.setIfInBounds_toArray, List.set_cons_zero, List.set_cons_succ])
       refine seqE_off rfl (by rfl) ?_
       (try simp only [Act.put, List.setIfInBounds_toArray, List.set_cons_zero, List.set_cons_succ])
       refine seqE_off rfl (by rfl) ?_
       (try simp only [Act.put, List.setIfInBounds_toArray, List.set_cons_zero, List.set_cons_succ])
       refine seqE_off rfl (by rfl) ?_
       (try simp only [Act.put, List.setIfInBounds_toArray, List.set_cons_zero, List.set_cons_succ])
       refine seqE_off rfl (by rfl) ?_
       (try simp only [Act.put, List.setIfInBounds_toArray, List.set_cons_zero, List.set_cons_succ])
       refine seqE_off rfl (by rfl) ?_
       (try simp only [Act.put, List.setIfInBounds_toArray, List.set_cons_zero, List.set_cons_succ])
       refine seqE_off rfl (by rfl) ?_
       (try simp only [Act.put, List.setIfInBounds_toArray, List.set_cons_zero, List.set_cons_succ])
       refine seqE_off rfl (by rfl) ?_
       (try simp only [Act.put, List.setIfInBounds_toArray, List.set_cons_zero, List.set_cons_succ])
       refine seqE_off rfl (by rfl) ?_
       (try simp only [Act.put, List.setIfInBounds_toArray, List.set_cons_zero, List.set_cons_succ])
       refine seqE_off rfl (by rfl) ?_
       (try simp only [Act.put, List.setIfInBounds_toArray, List.set_cons_zero, List.set_cons_succ])
       refine seqE_off rfl (by rfl) ?_
       (try simp only [Act.put, List.setIfInBounds_toArray, List.set_cons_zero, List.set_cons_succ])
       refine seqE_off rfl (by rfl) ?_
       (try simp only [Act.put, List.setIfInBounds_toArray, List.set_cons_zero, List.set_cons_succ])
       refine seqE_off rfl (by rfl) ?_
       (try simp only [Act.put, List.setIfInBounds_toArray, List.set_cons_zero, List.set_cons_succ])
       refine seqE_off rfl (by rfl) ?_
       (try simp only [Act.put, List.setIfInBounds_toArray, List.set_cons_zero, List.set_cons_succ])
       refine seqE_off rfl (by rfl) ?_
       (try simp only [Act.put, List.setIfInBounds_toArray, List.set_cons_zero, List.set_cons_succ])
       refine seqE_off rfl (by rfl) ?_
       (try simp only [Act.put, List.setIfInBounds_toArray, List.set_cons_zero, List.set_cons_succ])
       refine seqE_off rfl (by rfl) ?_
       (try simp only [Act.put, List.setIfInBounds_toArray, List.set_cons_zero, List.set_cons_succ])
       refine seqE_off rfl (by rfl) ?_
       (try simp only [Act.put, List.setIfInBounds_toArray, List.set_cons_zero, List.set_cons_succ])
       refine seqE_off rfl (by rfl) ?_
       (try simp only [Act.put, List.setIfInBounds_toArray, List.set_cons_zero, List.set_cons_succ])
       refine seqE_off rfl (by rfl) ?_
       (try simp only [Act.put, List.setIfInBounds_toArray, List.set_cons_zero, List.set_cons_succ])
       refine seqE_off rfl (by rfl) ?_
       (try simp only [Act.put, List.setIfInBounds_toArray, List.set_cons_zero, List.set_cons_succ])
       refine seqE_off rfl (by rfl) ?_
       (try simp only [Act.put, List.setIfInBounds_toArray, List.set_cons_zero, List.set_cons_succ])
       iterate 1 (refine seqE_free (v := ?_) rfl (by rfl) ?_ ?_; rotate_left; (focus (intro w; go_simp; try with_reducible rfl)); (try simp only [Act.put, List.setIfInBounds_toArray, List.set_cons_zero, List.set_cons_succ]))
       refine seqE_nil ?_
       intro w2 hS
       go_wp2_with fail
       go_roundg (len - (0 + 1))
       case measure => (have := HN.out; omega)
       case rel => exact ⟨0 + 1, by go_num, by rw [nextAt_succ, if_neg (by omega), HNX.out], by omega, rfl, btr hB hS⟩
     · obtain ⟨x, hx⟩ : ∃ z, l.getD K 0 = z := ⟨_, rfl⟩
       obtain ⟨y, hy⟩ : ∃ z, l.getD nx 0 = z := ⟨_, rfl⟩
       have hxo : LOk n x := HL.out _ (by rw [← hx, List.getD_eq_getElem?_getD, List.getElem?_eq_getElem (by rw [HLN.out]; omega)]; exact List.getElem_mem _)
       have hyo : LOk n y := HL.out _ (by rw [← hy, List.getD_eq_getElem?_getD, List.getElem?_eq_getElem (by rw [HLN.out]; omega)]; exact List.getElem_mem _)
       obtain ⟨u, hu⟩ : ∃ z, x.natAbs = z := ⟨_, rfl⟩
       obtain ⟨v, hv⟩ : ∃ z, y.natAbs = z := ⟨_, rfl⟩
       have hx2 := hxo.2; have hy2 := hyo.2
       rw [hu] at hx2; rw [hv] at hy2
       have hwx : IntKind.i64.wrap (-x) = -x := wrapI (by omega) (by omega)
       have hwy : IntKind.i64.wrap (-y) = -y := wrapI (by omega) (by omega)
       have hmx : (if x < -x then -x else x) = (u : Int) := by split <;> omega
       have hmy : (if y < -y then -y else y) = (v : Int) := by split <;> omega
       have hs := HSL.out.up hB
       obtain ⟨f1, -⟩ := hs.fld 1 (u := hd .level) rfl
       rw [HEV.out] at f1
       have hown := own_up HV3.out hB
       obtain ⟨c2, -⟩ := own_load hown (i := K) (iV_get (by rw [HLN.out]; omega))
       obtain ⟨c3, -⟩ := own_load hown (i := nx) (iV_get (by rw [HLN.out]; omega))
       rw [hx] at c2; rw [hy] at c3
       obtain ⟨e2, -⟩ := hs.cell (r := .level) HEV.out (i := u) (nV_get (by have := HSLV.out; omega))
       obtain ⟨e3, -⟩ := hs.cell (r := .level) HEV.out (i := v) (nV_get (by have := HSLV.out; omega))
       obtain ⟨a, ha⟩ : ∃ z, S.level.getD u 0 = z := ⟨_, rfl⟩
       obtain ⟨c, hc⟩ : ∃ z, S.level.getD v 0 = z := ⟨_, rfl⟩
       rw [ha] at e2; rw [hc] at e3
       have hu1 : (u : Int) < (N1 : Int) := by omega
       have hv1 : (v : Int) < (N1 : Int) := by omega
       have hlva : S.lv (l.getD K 0) = a := by rw [hx]; unfold SS.lv; rw [hu, ha]
       have hlvc : S.lv (l.getD nx 0) = c := by rw [hy]; unfold SS.lv; rw [hv, hc]
       have HLA := Lib.hid hlva; have HLC := Lib.hid hlvc
       have hK1 : 0 < K := by omega
       clear hs hown hlva hlvc ha hc hu hv hx hy hxo hyo
       go_upto_region 7 with fail
       by_cases hac : c < a
       ·
         refine wp_region_seqE (fun x => Below wr.heap.size wr x) (.one 0 1 (.one 1 1 (.one 2 1 (.one 3 1 (.one 4 1 (.one 5 1 (.one 6 1 (.one 7 0 (.one 8 1 (.one 9 1 (.one 10 1 (.one 11 0 (.one 12 1 (.one 13 1 (.one 14 1 (.one 15 0 (.one 16 1 (.one 17 1 (.one 18 1 (.one 19 0 (.one 20 1 (.one 21 1 (.one 22 1 (.one 23 1 (.one 24 0 (.one 25 1 (.one 26 1 (.one 27 1 (.one 28 0 (.one 29 1 (.one 30 1 (.one 31 1 (.one 32 0 (.one 33 1 (.one 34 1 (.one 35 1 (.one 36 0 (.one 37 1 (.one 38 1 .nil))))))))))))))))))))))))))))))))))))))) (by kernel_rfl) (by kernel_rfl) (by kernel_rfl) (Below.drew (Below.refl _ _)) ?_
         iterate 39 (first | (refine seqE_free (v := ?_) rfl (by rfl) ?_ ?_; rotate_left; (focus (intro w; go_simp; try with_reducible rfl)); (try simp only [Act.put, List.setIfInBounds_toArray, List.set_cons_zero, List.set_cons_succ])) | (refine seqE_pure (v := ?_) rfl (by rfl) ?_ ?_; rotate_left; (focus (intro w hS; have f1 := oldcell hS f1 (World.block_lt_of_cell? _ _ f1); have c2 := oldcell hS c2 (World.block_lt_of_cell? _ _ c2); have c3 := oldcell hS c3 (World.block_lt_of_cell? _ _ c3); have e2 := oldcell hS e2 (World.block_lt_of_cell? _ _ e2); have e3 := oldcell hS e3 (World.block_lt_of_cell? _ _ e3); go_simp; try with_reducible rfl)); (try simp only [Act.put, List.setIfInBounds_toArray, List.set_cons_zero, List.set_cons_succ])))
         refine seqE_nil ?_
         intro w2 hS
         go_wp2_with fail
         go_roundg (len - (K + 1))
         case measure => (have := HN.out; omega)
         case rel => exact ⟨K + 1, by go_num, by rw [nextAt_succ, HNX.out, HLA.out, HLC.out, if_pos ⟨hK1, hac⟩], by omega, rfl, btr hB hS⟩
       ·
         refine wp_region_seqE (fun x => Below wr.heap.size wr x) (.one 0 1 (.one 1 1 (.one 2 1 (.one 3 1 (.one 4 1 (.one 5 1 (.one 6 1 (.one 7 0 (.one 8 1 (.one 9 1 (.one 10 1 (.one 11 0 (.one 12 1 (.one 13 1 (.one 14 1 (.one 15 0 (.one 16 1 (.one 17 1 (.one 18 1 (.one 19 0 (.one 20 1 (.one 21 1 (.one 22 1 (.one 23 1 (.one 24 0 (.one 25 1 (.one 26 1 (.one 27 1 (.one 28 0 (.one 29 1 (.one 30 1 (.one 31 1 (.one 32 0 (.one 33 1 (.one 34 1 (.one 35 1 (.one 36 0 (.one 37 1 (.one 38 1 .nil))))))))))))))))))))))))))))))))))))))) (by kernel_rfl) (by kernel_rfl) (by kernel_rfl) (Below.drew (Below.refl _ _)) ?_
         iterate 39 (first | (refine seqE_free (v := ?_) rfl (by rfl) ?_ ?_; rotate_left; (focus (intro w; go_simp; try with_reducible rfl)); (try simp only [Act.put, List.setIfInBounds_toArray, List.set_cons_zero, List.set_cons_succ])) | (refine seqE_pure (v := ?_) rfl (by rfl) ?_ ?_; rotate_left; (focus (intro w hS; have f1 := oldcell hS f1 (World.block_lt_of_cell? _ _ f1); have c2 := oldcell hS c2 (World.block_lt_of_cell? _ _ c2); have c3 := oldcell hS c3 (World.block_lt_of_cell? _ _ c3); have e2 := oldcell hS e2 (World.block_lt_of_cell? _ _ e2); have e3 := oldcell hS e3 (World.block_lt_of_cell? _ _ e3); go_simp; try with_reducible rfl)); (try simp only [Act.put, List.setIfInBounds_toArray, List.set_cons_zero, List.set_cons_succ])))
         refine seqE_nil ?_
         intro w2 hS
         go_wp2_with fail
         go_roundg (len - (K + 1))
         case measure => (have := HN.out; omega)
         case rel => exact ⟨K + 1, by go_num, by rw [nextAt_succ, HNX.out, HLA.out, HLC.out, if_neg (fun q => hac q.2)], by omega, rfl, btr hB hS⟩
    case neg =>
     obtain rfl : K = len := by omega
     obtain ⟨z1, hz1⟩ : ∃ z, l.getD 1 0 = z := ⟨_, rfl⟩
     obtain ⟨zk, hzk⟩ : ∃ z, l.getD nx 0 = z := ⟨_, rfl⟩
     have hown := own_up HV3.out hB
     obtain ⟨c1, c1f⟩ := own_load hown (i := 1) (iV_get (by rw [HLN.out]; omega))
     obtain ⟨ck, ckf⟩ := own_load hown (i := nx) (iV_get (by rw [HLN.out]; omega))
     rw [hz1] at c1; rw [hzk] at ck
     have HZ1 := Lib.hid hz1; have HZK := Lib.hid hzk
     clear hz1 hzk hown
     have h1i : (1 : Int) < (K : Int) := by omega
     go_upto_region 10 with fail
     refine wp_region_seqE (fun x => Below wr.heap.size wr x) (.one 0 1 (.one 1 1 (.one 2 1 (.one 3 1 (.one 4 1 (.one 5 1 (.one 6 0 (.one 7 1 (.one 8 1 (.one 9 0 (.one 10 1 (.alt 11 3 (.one 12 1 (.alt 13 3 .nil .stop)) .stop)))))))))))) (by kernel_rfl) (by kernel_rfl) (by kernel_rfl) (Below.drew (Below.refl _ _)) ?_
     iterate 11 (first | (refine seqE_free (v := ?_) rfl (by rfl) ?_ ?_; rotate_left; (focus (intro w; go_simp; try with_reducible rfl)); (try simp only [Act.put, List.setIfInBounds_toArray, List.set_cons_zero, List.set_cons_succ])) | (refine seqE_pure (v := ?_) rfl (by rfl) ?_ ?_; rotate_left; (focus (intro w hS; have c1 := oldcell hS c1 (World.block_lt_of_cell? _ _ c1); have ck := oldcell hS ck (World.block_lt_of_cell? _ _ ck); go_simp; try with_reducible rfl)); (try simp only [Act.put, List.setIfInBounds_toArray, List.set_cons_zero, List.set_cons_succ])))
     refine seqE_storeB rfl (by rfl) ?_ seqE_stop
     intro wS hS
     have d1 := oldcell hS c1 (World.block_lt_of_cell? _ _ c1); have d1f := oldfree hS c1f (World.block_lt_of_cell? _ _ c1)
     refine ⟨wS.setCell ⟨gl, 1, none⟩ (.int .i64 zk), (by go_simp; try with_reducible rfl), fun x => Below (wS.setCell ⟨gl, 1, none⟩ (.int .i64 zk)).heap.size (wS.setCell ⟨gl, 1, none⟩ (.int .i64 zk)) x, Below.refl _ _, ?_⟩
     have hO1 := own_set (own_up HV3.out (btr hB hS)) 1 (.int .i64 zk)
     rw [iV_set] at hO1
     have hA1 := (HSL.out.up (btr hB hS)).off ho3 1 (.int .i64 zk)
     have hX1 := (Ext.below (X := fun g => g = gl) (o := o3) (btr hB hS)).trans (Ext.setX (X := fun g => g = gl) rfl 1 (.int .i64 zk)) fun _ _ q => q
     have HO1 := Lib.hid hO1; have HA1 := Lib.hid hA1; have HX1 := Lib.hid hX1
     clear d1 d1f hS hO1 hA1 hX1
     (try simp only [Act.put, List.setIfInBounds_toArray, List.set_cons_zero, List.set_cons_succ])
     iterate 1 (refine seqE_free (v := ?_) rfl (by rfl) ?_ ?_; rotate_left; (focus (intro w; go_simp; try with_reducible rfl)); (try simp only [Act.put, List.setIfInBounds_toArray, List.set_cons_zero, List.set_cons_succ]))
     refine seqE_storeB rfl (by rfl) ?_ seqE_stop
     intro wT hT
     obtain ⟨d1, d1f⟩ := own_load (own_up HO1.out hT) (i := nx) (iV_get (by rw [List.length_set, HLN.out]; omega))
     refine ⟨wT.setCell ⟨gl, nx, none⟩ (.int .i64 z1), (by go_simp; try with_reducible rfl), fun x => Below (wT.setCell ⟨gl, nx, none⟩ (.int .i64 z1)).heap.size (wT.setCell ⟨gl, nx, none⟩ (.int .i64 z1)) x, Below.refl _ _, ?_⟩
     have hO2 := own_set (own_up HO1.out hT) nx (.int .i64 z1)
     rw [iV_set] at hO2
     have hA2 := (HA1.out.up hT).off ho3 nx (.int .i64 z1)
     have hX2 := (HX1.out.trans (Ext.below hT) fun _ _ q => q).trans (Ext.setX (X := fun g => g = gl) rfl nx (.int .i64 z1)) fun _ _ q => q
     have HO2 := Lib.hid hO2; have HA2 := Lib.hid hA2; have HX2 := Lib.hid hX2
     clear d1 d1f hT hO2 hA2 hX2
     (try simp only [Act.put, List.setIfInBounds_toArray, List.set_cons_zero, List.set_cons_succ])
     refine seqE_nil ?_
     intro w4 hS
     obtain ⟨L, hL0⟩ : ∃ z, swap1 l nx = z := ⟨_, rfl⟩
     have hO := own_up HO2.out hS
     have hA := HA2.out.up hS
     have hX := HX2.out.trans (Ext.below (X := fun g => g = gl) hS) fun _ _ q => q
     rw [show (l.set 1 zk).set nx z1 = L by rw [← hL0]; unfold swap1; rw [HZK.out, HZ1.out]] at hO
     have hLL : L.length = K := by rw [← hL0]; unfold swap1; rw [List.length_set, List.length_set, HLN.out]
     have hLm : ∀ x ∈ L, LOk n x := by
       intro x hx
       rw [← hL0] at hx
       unfold swap1 at hx
       have hg : ∀ j, j < K → LOk n (l.getD j 0) := fun j hj => HL.out _ (by rw [List.getD_eq_getElem?_getD, List.getElem?_eq_getElem (by rw [HLN.out]; exact hj)]; exact List.getElem_mem _)
       rcases List.mem_or_eq_of_mem_set hx with q | rfl
       · rcases List.mem_or_eq_of_mem_set q with q | rfl
         · exact HL.out _ q
         · exact hg _ (by omega)
       · exact hg _ (by omega)
     obtain ⟨y0, hy0⟩ : ∃ z, L.getD 0 0 = z := ⟨_, rfl⟩
     have hy0o : LOk n y0 := hLm _ (by rw [← hy0, List.getD_eq_getElem?_getD, List.getElem?_eq_getElem (by omega)]; exact List.getElem_mem _)
     obtain ⟨c0, -⟩ := own_load hO (i := 0) (iV_get (by omega))
     rw [hy0] at c0
     obtain ⟨C, hC⟩ : ∃ z, S.clauses.length = z := ⟨_, rfl⟩
     have hSc : S.clauses = s.clauses := by rw [← HS0.out]; rfl
     have hat : ∀ wc, Below w4.heap.size w4 wc → Calls Try.prog 36 #[.pointer (some ⟨b, 0, none⟩), .slice (some ⟨gl, 0, none⟩) K cap] wc fun e w' => e = .returned (.int .i64 C) ∧ ∃ o' oc' hd', Sl w' o' b (S.attach L) oc' hd' ∧ hd' (.cl C) = .slice (some ⟨gl, 0, none⟩) K cap ∧ Ext (fun g => g = gl) wc o3 w' o' := by
       intro wc hw
       have q := attach_any (hA.up hw).at hn (show S.watches.length = 2 * n + 2 by rw [← HS0.out]; exact HW.out) (by rw [← HS0.out]; exact HR.out) (by rw [hSc]; exact hcl) (lits := L) (gl := gl) (cap := cap) (by rw [hLL]; exact own_up hO hw) ho3 (by omega) hLm
       rw [hLL, hC] at q
       exact q
     have hcz : ∀ w5 o5 oc5 hd5, Sl w5 o5 b (S.attach L) oc5 hd5 → hd5 (.cl C) = .slice (some ⟨gl, 0, none⟩) K cap → w5.cell? ⟨gl, 0, none⟩ = some (.int .i64 y0) := by
       intro w5 o5 oc5 hd5 h5 he5
       refine (h5.cell he5 (i := 0) (u := .int .i64 y0) ?_).1
       have e1 : (S.attach L).clauses.getD C [] = L := by
         rw [attach_eq S (by omega)]
         show (S.clauses ++ [L]).getD C [] = L
         rw [List.getD_eq_getElem?_getD, List.getElem?_append_right (by omega), hC, Nat.sub_self]; rfl
       show (iV ((S.attach L).clauses.getD C []))[0]? = _
       rw [e1, iV_get (by omega), hy0]
     have hST : Tr n (S.attach L) := by rw [← HS0.out]; exact (HT.out.learn l).attach L
     have hmk2 : (S.attach L).marks.length ≤ 1000000 := by rw [← HS0.out]; exact hmk
     have hCb : C ≤ 1000000 := by rw [← hC, hSc]; omega
     have HAT := Lib.hid hat; have HCZ := Lib.hid hcz; have HST := Lib.hid hST; have HXX := Lib.hid hX; have HL0 := Lib.hid hL0; have HY0 := Lib.hid hy0; have HY0O := Lib.hid hy0o; have HCC := Lib.hid hC; have HSC := Lib.hid hSc
     clear hat hcz hST hX hL0 hLm hO hA hLL hy0 hy0o hC hSc c1 c1f ck ckf hS
     have hB4 : Below w4.heap.size w4 w4 := Below.refl _ _
     have h0i : 0 < K := by omega
     have h0ii : (0 : Int) < (K : Int) := by omega
     go_upto_region 11 with fail
     refine wp_region_seqE (fun x => Below w4.heap.size w4 x) (.one 0 1 (.one 1 1 (.one 2 1 (.one 3 1 (.one 4 1 (.one 6 1 (.one 7 1 (.alt 5 3 (.alt 8 3 (.alt 9 3 .nil .stop) .stop) (.alt 8 3 (.alt 5 3 (.alt 9 3 .nil .stop) .stop) .stop))))))))) (by kernel_rfl) (by kernel_rfl) (by kernel_rfl) (Below.drew (Below.refl _ _)) ?_
     iterate 7 (refine seqE_free (v := ?_) rfl (by rfl) ?_ ?_; rotate_left; (focus (intro w; go_simp; try with_reducible rfl)); (try simp only [Act.put, List.setIfInBounds_toArray, List.set_cons_zero, List.set_cons_succ]))
     refine seqE_moveB rfl (by rfl) ?_ ?_
     ·
      intro wl hS
      have c0 := oldcell (btr hB4 hS) c0 (World.block_lt_of_cell? _ _ c0)
      refine ⟨.int .i64 y0, wl, (by go_simp; try with_reducible rfl), fun y => Below wl.heap.size wl y, Below.refl _ _, ?_⟩
      replace hB4 := btr hB4 hS
      clear hS c0
      (try simp only [Act.put, List.setIfInBounds_toArray, List.set_cons_zero, List.set_cons_succ])
      refine seqE_callB (f := ?_) (args := ?_) rfl (by rfl) ?_ ?_ seqE_stop
      rotate_left 2
      focus (intro w hS; go_simp; first | done | with_reducible rfl | (refine ⟨?_, ?_⟩ <;> with_reducible rfl))
      intro wc hS
      refine (HAT.out wc (btr hB4 hS)).mono ?_
      rintro e w5 ⟨rfl, o5, oc5, hd5, hs5, hcl5, hx5⟩
      refine ⟨_, rfl, fun x => Below w5.heap.size w5 x, Below.refl _ _, ?_⟩
      have c5 := HCZ.out w5 o5 oc5 hd5 hs5 hcl5
      have hB5 : Below w5.heap.size w5 w5 := Below.refl _ _
      have HX5 := Lib.hid ((HXX.out.trans (Ext.below (btr hB4 hS)) fun _ _ q => q).trans hx5 fun _ _ q => q)
      have HS5 := Lib.hid hs5
      clear hS hx5 hs5 hcl5
      (try simp only [Act.put, List.setIfInBounds_toArray, List.set_cons_zero, List.set_cons_succ])
      refine seqE_callB (f := ?_) (args := ?_) rfl (by rfl) ?_ ?_ seqE_stop
      rotate_left 2
      focus (intro w hS; go_simp; first | done | with_reducible rfl | (refine ⟨?_, ?_⟩ <;> with_reducible rfl))
      intro wc hS
      refine (push_any ((HS5.out.up (btr hB5 hS)).at) HST.out hn hmk2 HY0O.out (r := C) (by omega) (by omega)).mono ?_
      rintro e w6 ⟨rfl, o6, hs6, hx6⟩
      refine ⟨_, rfl, fun x => Below w6.heap.size w6 x, Below.refl _ _, ?_⟩
      have HX6 := Lib.hid ((HX5.out.trans (Ext.below (btr hB5 hS)) fun _ _ q => q).trans hx6 fun _ _ q => q.elim)
      clear hS hx6
      (try simp only [Act.put, List.setIfInBounds_toArray, List.set_cons_zero, List.set_cons_succ])
      refine seqE_nil ?_
      intro w7 hS
      refine bodyPost_end (results_none rfl _ _ _) rfl ?_
      have e : s.assert l = (S.attach L).push y0 C := by
        unfold SS.assert
        have e1 : nextIdx S l = nx := by rw [← HNX.out, ← HLN.out]; rfl
        rw [if_neg (by rw [HLN.out]; exact hl1), HS0.out, e1, HL0.out, HY0.out, ← HSC.out, HCC.out]
      rw [e]
      exact ⟨rfl, o6, hs6.up hS, (((HX3.out.wide (Y := fun g => g = gl) fun _ q => q.elim).trans HX6.out fun _ _ q => q).trans (Ext.below (X := NoX) hS) fun _ _ q => q.elim)⟩
     refine seqE_callB (f := ?_) (args := ?_) rfl (by rfl) ?_ ?_ seqE_stop
     rotate_left 2
     focus (intro w hS; go_simp; first | done | with_reducible rfl | (refine ⟨?_, ?_⟩ <;> with_reducible rfl))
     intro wc hS
     refine (HAT.out wc (btr hB4 hS)).mono ?_
     rintro e w5 ⟨rfl, o5, oc5, hd5, hs5, hcl5, hx5⟩
     refine ⟨_, rfl, fun x => Below w5.heap.size w5 x, Below.refl _ _, ?_⟩
     have c5 := HCZ.out w5 o5 oc5 hd5 hs5 hcl5
     have hB5 : Below w5.heap.size w5 w5 := Below.refl _ _
     have HX5 := Lib.hid ((HXX.out.trans (Ext.below (btr hB4 hS)) fun _ _ q => q).trans hx5 fun _ _ q => q)
     have HS5 := Lib.hid hs5
     clear hS hx5 hs5 hcl5
     (try simp only [Act.put, List.setIfInBounds_toArray, List.set_cons_zero, List.set_cons_succ])
     refine seqE_moveB rfl (by rfl) ?_ seqE_stop
     intro wl hS
     have c0 := oldcell (btr hB5 hS) c5 (World.block_lt_of_cell? _ _ c5)
     refine ⟨.int .i64 y0, wl, (by go_simp; try with_reducible rfl), fun y => Below wl.heap.size wl y, Below.refl _ _, ?_⟩
     replace hB5 := btr hB5 hS
     clear hS c0
     (try simp only [Act.put, List.setIfInBounds_toArray, List.set_cons_zero, List.set_cons_succ])
     refine seqE_callB (f := ?_) (args := ?_) rfl (by rfl) ?_ ?_ seqE_stop
     rotate_left 2
     focus (intro w hS; go_simp; first | done | with_reducible rfl | (refine ⟨?_, ?_⟩ <;> with_reducible rfl))
     intro wc hS
     refine (push_any ((HS5.out.up (btr hB5 hS)).at) HST.out hn hmk2 HY0O.out (r := C) (by omega) (by omega)).mono ?_
     rintro e w6 ⟨rfl, o6, hs6, hx6⟩
     refine ⟨_, rfl, fun x => Below w6.heap.size w6 x, Below.refl _ _, ?_⟩
     have HX6 := Lib.hid ((HX5.out.trans (Ext.below (btr hB5 hS)) fun _ _ q => q).trans hx6 fun _ _ q => q.elim)
     clear hS hx6
     (try simp only [Act.put, List.setIfInBounds_toArray, List.set_cons_zero, List.set_cons_succ])
     refine seqE_nil ?_
     intro w7 hS
     refine bodyPost_end (results_none rfl _ _ _) rfl ?_
     have e : s.assert l = (S.attach L).push y0 C := by
       unfold SS.assert
       have e1 : nextIdx S l = nx := by rw [← HNX.out, ← HLN.out]; rfl
       rw [if_neg (by rw [HLN.out]; exact hl1), HS0.out, e1, HL0.out, HY0.out, ← HSC.out, HCC.out]
     rw [e]
     exact ⟨rfl, o6, hs6.up hS, (((HX3.out.wide (Y := fun g => g = gl) fun _ q => q.elim).trans HX6.out fun _ _ q => q).trans (Ext.below (X := NoX) hS) fun _ _ q => q.elim)⟩
end Go.Proofs.Ytdibfjcmgbpnpaa
