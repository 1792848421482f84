/- The solver's calls as the laws use them; made, values. -/
import Derived.Test.YtdibfjcmgbpnpaaKS
import Derived.Test.YtdibfjcmgbpnpaaKO
namespace Go.Proofs.Ytdibfjcmgbpnpaa
set_option linter.unusedSimpArgs false
set_option linter.unusedVariables false
open Go.RowKit

theorem So.up {B : Nat} {w w' : World} {o : Nat → Option Role} {b n : Nat} {A : List (List Int)} {s : SS} (h : So B w o b n A s) (hB : Below w.heap.size w w') : So B w' o b n A s := ⟨h.sol.up hB, h.tag, h.gd, h.sb⟩
theorem So.free {B : Nat} {w : World} {o : Nat → Option Role} {b n : Nat} {A : List (List Int)} {s : SS} (h : So B w o b n A s) {p : Option Addr} {l : List Int} (hlow : l ≠ [] → ∀ a, p = some a → a.block < B ∨ o a.block = none) : l ≠ [] → ∀ a, p = some a → o a.block = none := fun h0 a ha => by
  rcases hlow h0 a ha with q | q
  · cases ho : o a.block with
    | none => rfl
    | some r => have := h.tag a.block (by rw [ho]; intro q; cases q); omega
  · exact q
theorem So.solve_any {B : Nat} {w : World} {o : Nat → Option Role} {b n : Nat} {A : List (List Int)} {s : SS} (h : So B w o b n A s) (hn : n ≤ 20000) (hA : A.length ≤ 700000) {p : Option Addr} {cap : Nat} {l : List Int} (hl : SI w p cap l) (hll : l.length ≤ 50000) (hlow : l ≠ [] → ∀ a, p = some a → a.block < B ∨ o a.block = none) (fuel : Int) (hB : B ≤ w.heap.size) :
    Calls Try.prog 17 #[.pointer (some ⟨b, 0, none⟩), .slice p l.length cap, .int .i64 fuel] w fun e w' => e = .returned (.int .i64 (solve s l fuel).2) ∧ ∃ o', So B w' o' b n A (solve s l fuel).1 ∧ Ext NoX w o w' o' := by
  have hp := h.sb.pn; have hc := h.sb.cl
  refine (Go.Proofs.Ytdibfjcmgbpnpaa.solve_any h.sol h.gd.sv h.gd.nomk hn (by omega) hp hl hll (h.free hlow) fuel).mono ?_
  rintro e w' ⟨h1, o', h2, h3⟩
  exact ⟨h1, o', ⟨h2, (h3.low h.tag hB).2, h.gd.solve l fuel, solve_sb h.gd.sv h.gd.nomk h.sb⟩, h3⟩
theorem So.add_any {B : Nat} {w : World} {o : Nat → Option Role} {b n : Nat} {A : List (List Int)} {s : SS} (h : So B w o b n A s) (hn : n ≤ 20000) (hA : A.length < 60000) {p : Option Addr} {cap : Nat} {l : List Int} (hl : SI w p cap l) (hll : l.length ≤ 50000) (hlow : l ≠ [] → ∀ a, p = some a → a.block < B ∨ o a.block = none) (hB : B ≤ w.heap.size) :
    Calls Try.prog 15 #[.pointer (some ⟨b, 0, none⟩), .slice p l.length cap] w fun e w' => e = .returned (.bool (vlit n l)) ∧ ∃ o', So B w' o' b n (if vlit n l = true then A ++ [l] else A) (if vlit n l = true then s.add l else s) ∧ Ext NoX w o w' o' := by
  have hp := h.sb.pn; have hc := h.sb.cl
  have hin := h.gd.sv.inv
  have had := h.gd.added
  have hve := validl_eq hin.tr.vl l
  refine (addClause_any h.sol hin.tr hn h.gd.nomk hin.wa.wl (fun k hk => by have := hin.rows k hk; omega) (by omega) (by omega) hl (by omega) (h.free hlow)).mono ?_
  rintro e w' ⟨h1, o', h2, h3⟩
  have e1 : decide (s.added < 60000) = true := decide_eq_true (by omega)
  rw [hve, e1, Bool.and_true] at h1
  refine ⟨h1, o', ?_, h3⟩
  have ht := (h3.low h.tag hB).2
  rw [hve] at h2
  by_cases hv : vlit n l = true
  · rw [if_pos ⟨hv, by omega⟩] at h2
    rw [if_pos hv, if_pos hv]
    exact ⟨h2, ht, h.gd.add (vlit_iff.1 hv), by rw [List.length_append]; exact h.sb.added l⟩
  · rw [if_neg (fun q => hv q.1)] at h2
    rw [if_neg hv, if_neg hv]
    exact ⟨h2, ht, h.gd, h.sb⟩
theorem So.new_any {w : World} {n : Nat} (hn : n ≤ 20000) :
    Calls Try.prog 13 #[.int .i64 n] w fun e w' => ∃ b o, e = .returned (.pointer (some ⟨b, 0, none⟩)) ∧ So w.heap.size w' o b n [] (snew n) ∧ Below w.heap.size w w' := by
  refine (Go.Proofs.Ytdibfjcmgbpnpaa.new_any hn).mono ?_
  rintro e w' ⟨b, o, h1, h2, h3, h4⟩
  exact ⟨b, o, h1, ⟨h2, h3, Gd.new n, Sb.new n⟩, h4⟩
def mfuel (a : SAct) : Int := 1 + (a.fuel : Int) % 4

set_option maxRecDepth 100000 in
set_option maxHeartbeats 4000000 in
theorem made_any {w : World} {n : Nat} (hn : n ≤ 8) {p : Option Addr} {ca : Nat} {l : List SAct} (ha : AcAt w p ca l) (hl : l.length ≤ 60) (hll : ∀ a ∈ l, a.lits.length ≤ 12) :
    Calls Try.prog 22 #[.int .i64 n, .slice p l.length ca] w fun e w' => ∃ b o, e = .returned (.pointer (some ⟨b, 0, none⟩)) ∧ So w.heap.size w' o b n (rcl n l) (smade n l) ∧ Below w.heap.size w w' := by
 have hnew := So.new_any (w := w) (n := n) (by omega)
 have HA := Lib.hid ha; have HNW := Lib.hid hnew; have HLL := Lib.hid hll
 obtain ⟨N, hN⟩ : ∃ z, l.length = z := ⟨_, rfl⟩
 rw [hN] at hl ⊢
 have HN := Lib.hid hN
 clear ha hnew hll hN
 go_enter Try.func22, Try.ntmps22
 go_upto_region 2 with (first | (go_at_call 13; refine HNW.out.mono ?_; rintro e w1 ⟨b, o, rfl, hso, hb1⟩; have HSO := Lib.hid hso; have HB1 := Lib.hid hb1; clear hso hb1))
 go_wp2_with fail
 go_loopg [6] N (fun G s6 wr => ∃ (j : Nat) (o : Nat → Option Role) (s1 : SS), s6 = .int .i64 j ∧ j ≤ N ∧ G = N - j ∧ So w.heap.size wr o b n (rcl n (l.take j)) s1 ∧ s1 = (l.take j).foldl (sact n mfuel) (snew n) ∧ Below w.heap.size w wr)
 case atStart => exact ⟨0, o, _, rfl, by omega, rfl, HSO.out, rfl, HB1.out⟩
 case round =>
  obtain ⟨j, o1, s1, rfl, hj, hG, hso, hs1, hB⟩ := hrel
  have HG := Lib.hid hG; have HS := Lib.hid hso; have HE := Lib.hid hs1; have HB := Lib.hid hB
  clear hG hso hs1 hB HSO HB1
  by_cases hlt : j < N
  case neg =>
   obtain rfl : j = N := by omega
   have hfin : So w.heap.size wr o1 b n (rcl n l) (smade n l) := by
     have h := HS.out
     have e := HE.out
     rw [← HN.out, List.take_length] at h e
     rw [e] at h; exact h
   have HF := Lib.hid hfin; clear hfin
   go_wp2_with fail
   go_ret
   exact ⟨b, o1, rfl, HF.out, HB.out⟩
  case pos =>
   obtain ⟨x, hx⟩ : ∃ x, l[j]? = some x := ⟨_, List.getElem?_eq_getElem (by rw [HN.out]; exact hlt)⟩
   obtain ⟨b1, off, p1, c1, rfl, x0, x1, x2, hsi, hfu⟩ := HA.out.at' j x hx
   have hB := HB.out
   have hlow : x.lits ≠ [] → ∀ a, p1 = some a → a.block < w.heap.size ∨ o1 a.block = none := fun h0 a ha => .inl (hsi.lt h0 a ha)
   have hsi2 := hsi.up hB
   replace x0 := oldcell hB x0 (World.block_lt_of_cell? _ _ x0); replace x1 := oldcell hB x1 (World.block_lt_of_cell? _ _ x1); replace x2 := oldcell hB x2 (World.block_lt_of_cell? _ _ x2)
   have hx12 := HLL.out x (List.mem_of_getElem? hx)
   have hjl : (j : Int) < (N : Int) := by omega
   have hrl : (rcl n (l.take j)).length ≤ 60 := by have h1 := rcl_le n (l.take j); rw [List.length_take] at h1; omega
   have htk := take_succ_eq hx
   obtain ⟨sv, hsv⟩ : ∃ z, x.solve = z := ⟨_, rfl⟩
   rw [hsv] at x0
   obtain ⟨K, hK⟩ : ∃ z, x.lits.length = z := ⟨_, rfl⟩
   have hsz := hB.size
   obtain ⟨r4, hr4⟩ : ∃ z, x.fuel % 4 = z := ⟨_, rfl⟩
   obtain ⟨F, hF⟩ : ∃ z, x.fuel = z := ⟨_, rfl⟩
   rw [hF] at x2 hfu hr4
   have hw1 : IntKind.i64.wrap (F : Int) = (F : Int) := wrapI (by omega) (by omega)
   have hw2 : (F : Int).tmod 4 = (r4 : Int) := by rw [Int.tmod_eq_emod_of_nonneg (by omega)]; omega
   obtain ⟨f1, hf1⟩ : ∃ z, 1 + r4 = z := ⟨_, rfl⟩
   have hw3 : IntKind.i64.wrap (1 + (r4 : Int)) = (f1 : Int) := by rw [wrapI (by omega) (by omega)]; omega
   have hmf : mfuel x = (f1 : Int) := by unfold mfuel; rw [hF]; omega
   have hsolve := fun (wx : World) (hb : Below wr.heap.size wr wx) => (HS.out.up hb).solve_any (by omega) (by omega) (hsi2.up hb) (by omega) hlow (f1 : Int) (Nat.le_trans hsz hb.size)
   have hadd := HS.out.add_any (by omega) (by omega) hsi2 (by omega) hlow hsz
   rw [hK] at hsolve hadd x1
   have HSV := Lib.hid hsv; have HX := Lib.hid hx; have HTK := Lib.hid htk; have HSL := Lib.hid hsolve; have HAD := Lib.hid hadd; have HMF := Lib.hid hmf; have HSZ := Lib.hid hsz
   clear hsv hx htk hsolve hadd hsi hsi2 hlow hB hK hmf hF hf1 hr4 hfu hx12 hrl hsz
   cases sv with
   | true =>
     go_upto_region 6 with fail
     refine wp_region_seqE (fun x => Below wr.heap.size wr x) (.one 0 1 (.one 1 1 (.one 2 1 (.one 3 1 (.one 4 1 (.one 5 0 (.one 6 1 (.one 7 1 (.one 8 1 (.one 9 1 (.one 10 0 (.one 11 1 (.one 12 1 (.one 13 1 (.alt 14 3 .nil .stop))))))))))))))) (by kernel_rfl) (by kernel_rfl) (by kernel_rfl) (Below.drew (Below.refl _ _)) ?_
     iterate 14 (first | (refine seqE_free (v := ?_) rfl (by rfl) ?_ ?_; rotate_left; (focus (intro w; go_simp; try with_reducible rfl)); (try simp only [Act.put, List.setIfInBounds_toArray, List.set_cons_zero, List.set_cons_succ])) | (refine seqE_pure (v := ?_) rfl (by rfl) ?_ ?_; rotate_left; (focus (intro w hS; have x1 := oldcell hS x1 (World.block_lt_of_cell? _ _ x1); have x2 := oldcell hS x2 (World.block_lt_of_cell? _ _ x2); go_simp; try with_reducible rfl)); (try simp only [Act.put, List.setIfInBounds_toArray, List.set_cons_zero, List.set_cons_succ])))
     refine seqE_callB (f := ?_) (args := ?_) rfl (by rfl) ?_ ?_ seqE_stop
     rotate_left 2
     focus (intro w hS; go_simp; first | done | with_reducible rfl | (refine ⟨?_, ?_⟩ <;> with_reducible rfl))
     intro wq hS
     refine (HSL.out wq hS).mono ?_
     rintro e w6 ⟨rfl, o6, hs6, hx6⟩
     refine ⟨_, rfl, fun x => Below w6.heap.size w6 x, Below.refl _ _, ?_⟩
     have HS6 := Lib.hid hs6; have HB6 := Lib.hid (HB.out.trans ((hS.mono HB.out.size).trans (hx6.low HS.out.tag (Nat.le_trans HSZ.out hS.size)).1))
     clear hS hs6 hx6
     (try simp only [Act.put, List.setIfInBounds_toArray, List.set_cons_zero, List.set_cons_succ])
     refine seqE_nil ?_
     intro w9 hS
     have hso := HS6.out.up hS
     have hb9 := HB6.out.trans (hS.mono HB6.out.size)
     have HSO := Lib.hid hso; have HB9 := Lib.hid hb9
     clear hso hb9 hS
     go_wp2_with fail
     go_roundg (N - (j + 1))
     case measure => (have := HG.out; omega)
     case rel =>
       refine ⟨j + 1, o6, _, by go_num, by omega, rfl, ?_, rfl, HB9.out⟩
       rw [HTK.out, rcl_snoc, List.foldl_append, ← HE.out]
       have e1 : (if (!x.solve && vlit n x.lits) = true then [x.lits] else []) = ([] : List (List Int)) := by rw [HSV.out]; rfl
       have e2 : [x].foldl (sact n mfuel) s1 = (solve s1 x.lits (f1 : Int)).1 := by
         show sact n mfuel s1 x = _
         unfold sact; rw [HSV.out, if_pos rfl, HMF.out]
       rw [e1, e2, List.append_nil]; exact HSO.out
   | false =>
     go_wp2_with (first | (go_at_call 15; refine HAD.out.mono ?_; rintro e w6 ⟨rfl, o6, hs6, hx6⟩; have HS6 := Lib.hid hs6; have HB6 := Lib.hid (HB.out.trans (hx6.low HS.out.tag HSZ.out).1); clear hs6 hx6))
     go_roundg (N - (j + 1))
     case measure => (have := HG.out; omega)
     case rel =>
       refine ⟨j + 1, o6, _, by go_num, by omega, rfl, ?_, rfl, HB6.out⟩
       rw [HTK.out, rcl_snoc, List.foldl_append, ← HE.out]
       have e2 : [x].foldl (sact n mfuel) s1 = if vlit n x.lits = true then s1.add x.lits else s1 := by
         show sact n mfuel s1 x = _
         unfold sact; rw [HSV.out, if_neg (by decide)]
       have e1 : rcl n (l.take j) ++ (if (!x.solve && vlit n x.lits) = true then [x.lits] else []) = if vlit n x.lits = true then rcl n (l.take j) ++ [x.lits] else rcl n (l.take j) := by
         rw [HSV.out, Bool.not_false, Bool.true_and]
         split
         · rfl
         · rw [List.append_nil]
       rw [e1, e2]; exact HS6.out
end Go.Proofs.Ytdibfjcmgbpnpaa
