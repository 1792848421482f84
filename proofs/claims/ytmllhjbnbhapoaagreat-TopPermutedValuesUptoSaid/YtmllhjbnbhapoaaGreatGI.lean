/- Texts JA, JB, E4, P9, E5, E6, WA1, WA2, WA3, PA, PJ. Conditions: none. -/
import Derived.Test.YtmllhjbnbhapoaaGreatGH
import Derived.Deep.QuietTactic
import Derived.Deep.LoopGhost
import Derived.Deep.RegionHeld3
import Derived.BigQuiet
import Derived.Lib.Hide
import Derived.Deep.RegionLawGrows
import Derived.Deep.AppendLies
import Derived.Laws.OwnMore
import Derived.Carry
import Derived.Test.YtmllhjbnbhapoaaGreatGG
set_option linter.unusedSimpArgs false
set_option linter.unusedVariables false
namespace Go.Proofs.YtmllhjbnbhapoaaGreat
open Go.RowKit Go.Ab
theorem oldcell {B : Nat} {W w1 : World} {b o : Nat} {v : Value} (hb : Below B W w1) (h : W.cell? ⟨b, o, none⟩ = some v) (hlt : b < B) : w1.cell? ⟨b, o, none⟩ = some v :=
 (hb.cell (p := ⟨b, o, none⟩) hlt).trans h
theorem btr {w w1 w2 : World} (h1 : Below w.heap.size w w1) (h2 : Below w1.heap.size w1 w2) : Below w.heap.size w w2 := h1.trans (h2.mono h1.size)
theorem int_info : (Tryz.prog.info? 3).map (fun i => (i.zero, i.size, i.bytes)) = some (some (.int .i64 0), 1, 8) := by kernel_rfl
structure KeepX (X : List Nat) (w w' : World) : Prop where
 os : w'.os = w.os
 tape : w'.tape = w.tape
 output : w'.output = w.output
 size : w.heap.size ≤ w'.heap.size
 block : ∀ k, k < w.heap.size → k ∉ X → w'.heap[k]? = w.heap[k]?
theorem KeepX.of_below {X : List Nat} {w w' : World} (h : Below w.heap.size w w') : KeepX X w w' := ⟨h.os, h.tape, h.output, h.size, fun k hk _ => h.block k hk⟩
theorem KeepX.refl (X : List Nat) (w : World) : KeepX X w w := KeepX.of_below (Below.refl _ _)
theorem KeepX.trans {X : List Nat} {w w1 w2 : World} (h : KeepX X w w1) (k : KeepX X w1 w2) : KeepX X w w2 :=
 ⟨k.os.trans h.os, k.tape.trans h.tape, k.output.trans h.output, Nat.le_trans h.size k.size, fun i hi hx => (k.block i (Nat.lt_of_lt_of_le hi h.size) hx).trans (h.block i hi hx)⟩
theorem KeepX.sub {X Y : List Nat} {w w' : World} (h : KeepX X w w') (hs : ∀ k ∈ X, k ∈ Y) : KeepX Y w w' := ⟨h.os, h.tape, h.output, h.size, fun k hk hy => h.block k hk fun hx => hy (hs k hx)⟩
theorem KeepX.fresh {X Y : List Nat} {w w' : World} (h : KeepX X w w') (hs : ∀ k ∈ X, k ∈ Y ∨ w.heap.size ≤ k) : KeepX Y w w' := ⟨h.os, h.tape, h.output, h.size, fun k hk hy => h.block k hk fun hx => by rcases hs k hx with h1 | h1; exact hy h1; omega⟩
theorem KeepX.below {X : List Nat} {w w' : World} (h : KeepX X w w') {B : Nat} (hB : B ≤ w.heap.size) (hs : ∀ k ∈ X, B ≤ k) : Below B w w' :=
 ⟨h.os, h.tape, h.output, h.size, fun k hk => h.block k (by omega) fun hx => by have := hs k hx; omega⟩
theorem KeepX.cell {X : List Nat} {w w' : World} (h : KeepX X w w') {b o : Nat} {v : Value} (hc : w.cell? ⟨b, o, none⟩ = some v) (hx : b ∉ X) : w'.cell? ⟨b, o, none⟩ = some v := by
 rw [World.cell?_of_block (w := w) (h.block b (World.block_lt_of_cell? w _ hc) hx)]; exact hc
theorem KeepX.free {X : List Nat} {w w' : World} (h : KeepX X w w') {b o : Nat} (hc : w.frozen? ⟨b, o, none⟩ = false) (hb : b < w.heap.size) (hx : b ∉ X) : w'.frozen? ⟨b, o, none⟩ = false := by
 rw [← hc]; unfold World.frozen?; rw [h.block b hb hx]
theorem KeepX.of_grown {X : List Nat} {w w' : World} {row : Option Nat} (h : w.grownBy w' row) (hX : ∀ g, row = some g → g ∈ X) : KeepX X w w' :=
 ⟨h.os, h.tape, h.output, h.size, fun k hk hx => h.block k hk fun e => hx (hX k e.symm)⟩
theorem KeepX.below' {X : List Nat} {w w' w2 : World} {B : Nat} (h0 : Below B w w') (h : KeepX X w' w2) (hB : B ≤ w'.heap.size) (hs : ∀ k ∈ X, B ≤ k) : Below B w w2 := h0.trans (h.below hB hs)
theorem KeepX.upB {X : List Nat} {w w1 w2 : World} (h : KeepX X w w1) (hB : Below w1.heap.size w1 w2) : KeepX X w w2 := h.trans (KeepX.of_below hB)
def rowOf (v : Value) : List Nat := match v.ownBlock with | some g => [g] | none => []
theorem rowOf_mem {v : Value} {g : Nat} (h : g ∈ rowOf v) : v.ownBlock = some g := by
 unfold rowOf at h
 cases hv : v.ownBlock with
 | none => rw [hv] at h; cases h
 | some k => rw [hv] at h; rw [List.mem_singleton.1 h]
theorem mem_rowOf {v : Value} {g : Nat} (h : v.ownBlock = some g) : g ∈ rowOf v := by unfold rowOf; rw [h]; simp
theorem quo_rem {x : Int} {n : Nat} (h0 : 0 ≤ x) (h1 : x < 1000000) (hn : 0 < n) :
 IntKind.i64.wrap (x.tdiv n) = x / n ∧ x.tmod n = x % n ∧ IntKind.i64.wrap (x % n) = x % n ∧ 0 ≤ x / (n : Int) ∧ x / (n : Int) ≤ x ∧ 0 ≤ x % (n : Int) ∧ x % (n : Int) ≤ x := by
 have a1 := Int.ediv_nonneg h0 (show 0 ≤ (n : Int) by omega)
 have a2 := Int.ediv_le_self (n : Int) h0
 have a3 := Int.emod_nonneg x (show (n : Int) ≠ 0 by omega)
 have a4 : x % (n : Int) ≤ x := by
  have := Int.emod_add_mul_ediv x n
  have : 0 ≤ (n : Int) * (x / n) := Int.mul_nonneg (by omega) a1
  omega
 refine ⟨?_, Int.tmod_eq_emod_of_nonneg h0, ?_, a1, a2, a3, a4⟩
 · rw [Int.tdiv_eq_ediv_of_nonneg h0, IntWalk.i64_in]; omega
 · rw [IntWalk.i64_in]; omega
theorem app_two {P : Program} (w : World) (base : Nat) (t ty e : TypeId) (i : TypeInfo) (z : Value) (bytes : Nat) (ht : P.underlying t = some (.slice e)) (hi : P.info? e = some i) (hz : i.zero = some z)
 (hsize : i.size = 1) (hby : i.bytes = bytes) (hzs : z.cells.size = 1) (v : Value) (n : Nat) (xs : List Value) (hown : w.ownsRow base e 1 v n xs) (b c : Nat) (u : Value) (hu : w.cell? ⟨b, 0, none⟩ = some u) (h1 : u.oneCell' = true)
 (h63 : n + 1 ≤ maxLen) (hbytes : (n + 1) * bytes ≤ 140737488355328) (hbase : base ≤ w.heap.size) :
 ∃ v' w', (Builtin.append_ #[t, t] ty #[v, .slice (some ⟨b, 0, none⟩) 1 c]).run P w = .ok v' w' ∧ w'.ownsRow base e 1 v' (n + 1) (xs ++ [u]) ∧ w'.ownsRow base e 1 v n xs ∧ w.grownBy w' v.ownBlock ∧ (v'.ownBlock = v.ownBlock ∨ v'.ownBlock = some w.heap.size) := by
 subst hby
 have hnews : ∀ j x, [u][j]? = some x → w.cell? ((⟨b, 0, none⟩ : Addr).add j) = some x := by
  intro j x hj
  cases j with
  | zero => simp at hj; subst hj; simpa [Addr.add_lit] using hu
  | succ j => simp at hj
 have hl : [u].length = 1 * i.size := by rw [hsize]; rfl
 have hone : ∀ x ∈ [u], x.oneCell' = true := fun x hx => by rw [List.mem_singleton.1 hx]; exact h1
 have hsmall : n + 1 ≤ 9223372036854775807 := by simp only [maxLen] at h63; omega
 have hlen : (xs ++ [u]).length = (n + 1) * 1 := by rw [List.length_append, hown.1]; simp
 have grown : ∀ (old : Nat), old < n + 1 → ∀ (row : Option Nat),
  (w.drew.alloc (.cells (xs.toArray ++ [u].toArray ++ Builtin.zeroCells z.cells (grownCap w (n + 1) old e - (n + 1))) e)).ownsRow base e 1
   (.slice (some ⟨w.heap.size, 0, none⟩) (n + 1) (grownCap w (n + 1) old e)) (n + 1) (xs ++ [u]) ∧
  w.grownBy (w.drew.alloc (.cells (xs.toArray ++ [u].toArray ++ Builtin.zeroCells z.cells (grownCap w (n + 1) old e - (n + 1))) e)) row := by
  intro old ho row
  have hge := grownCap_ge w (n + 1) old e
  have hcm : grownCap w (n + 1) old e ≤ maxLen := grownCap_le_maxLen w (n + 1) old e h63
  refine ⟨⟨hlen, .inr ⟨w.heap.size, _, _, rfl, hbase, heap_alloc_new w.drew _, hge, hcm, ?_, ?_⟩⟩, ⟨rfl, rfl, rfl, by simp, fun k hk hne => (World.grownBy_alloc w.drew _ row).block k hk hne⟩⟩
  · simp only [Array.size_append, List.size_toArray, size_zeroCells, hzs, hown.1, List.length_singleton]
    omega
  · simp only [Array.toList_append, List.append_assoc]
    rw [← List.append_assoc, ← hlen]
    exact List.take_left
 rcases hown.2 with ⟨rfl, rfl⟩ | ⟨g, cap, cur, rfl, hbg, hg, hnc, hcm, hcs, htake⟩
 · have hx : xs = [] := List.eq_nil_of_length_eq_zero (by simpa using hown.1)
   subst hx
   have hr := run_append_nil (P := P) w t ty e i z ht hi hz ⟨b, 0, none⟩ 1 c [u] hl hnews (by omega) (by omega) (by have hb := hbytes; simp only [Nat.zero_add] at hb; omega)
   have hgr := grown 0 (by omega) (Value.ownBlock (.slice none 0 0))
   simp only [Nat.zero_add, List.nil_append, Array.empty_append] at hgr ⊢
   exact ⟨_, _, hr, hgr.1, World.ownsRow_nil _ _ _ _, hgr.2, .inr rfl⟩
 · by_cases hroom : n + 1 ≤ cap
   · have hfit : n * i.size + [u].length ≤ cur.size := by rw [hcs, hsize]; simp; omega
     have hr := run_append_room (P := P) w t ty e i ht hi g n cap cur hg ⟨b, 0, none⟩ 1 c [u] hl hnews hone hroom hfit
     rw [hsize] at hr
     have hsz : ((List.take (n * 1) cur.toList ++ [u] ++ List.drop (n * 1 + [u].length) cur.toList).toArray).size = cap * 1 := by
      simp only [List.size_toArray, List.length_append, List.length_take, List.length_drop, Array.length_toList, List.length_singleton]
      omega
     refine ⟨_, _, hr, ⟨hlen, .inr ⟨g, cap, _, rfl, hbg, setRow_heap w g cur _ e _ hg, hroom, hcm, hsz, ?_⟩⟩, ⟨hown.1, .inr ⟨g, cap, _, rfl, hbg, setRow_heap w g cur _ e _ hg, hnc, hcm, hsz, ?_⟩⟩, ⟨rfl, rfl, rfl, by simp, fun k _ hk => setRow_other w g k _ (fun e => hk (by simp [Value.ownBlock, e]))⟩, .inl rfl⟩
     · rw [htake, ← hlen]
       exact List.take_left
     · rw [htake, List.append_assoc, ← hown.1]
       exact List.take_left
   · have holds : ∀ j x, xs[j]? = some x → w.cell? ((⟨g, 0, none⟩ : Addr).add j) = some x := hown.cells (g := g) rfl
     have hr := run_append_grow (P := P) w t ty e i z ht hi hz ⟨g, 0, none⟩ n cap xs (by rw [hsize]; exact hown.1) holds ⟨b, 0, none⟩ 1 c [u] hl hnews (by omega) (by omega) (growslice_fits (by omega) hbytes)
     have hgr := grown cap (by omega) (Value.ownBlock (.slice (some ⟨g, 0, none⟩) n cap))
     refine ⟨_, _, hr, hgr.1, ?_, hgr.2, .inr rfl⟩
     exact (show w.drew.ownsRow base e 1 (.slice (some ⟨g, 0, none⟩) n cap) n xs from hown).alloc _
def OwnR (w : World) (B : Nat) (v : Value) (l : List Int) : Prop := w.ownsRow B 3 1 v l.length (l.map (Value.int .i64))
theorem OwnR.keep {w w' : World} {B : Nat} {v : Value} {l : List Int} {X : List Nat} (h : OwnR w B v l) (hk : KeepX X w w') (hx : ∀ k, v.ownBlock = some k → k ∉ X) : OwnR w' B v l := by
 refine ⟨h.1, ?_⟩
 rcases h.2 with hn | ⟨g, cap, cur, rfl, hb, hgg, rest⟩
 · exact .inl hn
 · refine .inr ⟨g, cap, cur, rfl, hb, ?_, rest⟩
   rw [hk.block g (Array.getElem?_eq_some_iff.1 hgg).1 (hx g rfl)]
   exact hgg
theorem OwnR.up {w w' : World} {B : Nat} {v : Value} {l : List Int} (h : OwnR w B v l) (hB : Below w.heap.size w w') : OwnR w' B v l := h.keep (X := []) (KeepX.of_below hB) (by simp)
theorem OwnR.low {w : World} {B C : Nat} {v : Value} {l : List Int} (h : OwnR w B v l) (hC : C ≤ B) : OwnR w C v l := by
 refine ⟨h.1, ?_⟩
 rcases h.2 with hn | ⟨g, cap, cur, rfl, hb, rest⟩
 · exact .inl hn
 · exact .inr ⟨g, cap, cur, rfl, Nat.le_trans hC hb, rest⟩
def lkS (S : List (Int × Value)) (r : Int) : Value := match S.find? (fun x => decide (x.1 = r)) with | some y => y.2 | none => .slice none 0 0
def setS (S : List (Int × Value)) (k : Int) (v : Value) : List (Int × Value) := bif S.any (fun x => decide (x.1 = k)) then S.map (fun x => bif decide (x.1 = k) then (k, v) else x) else S ++ [(k, v)]
def hdM (S : List (Int × Value)) : List (AV × AV) := S.map fun x => (eI x.1, .imm x.2)
def addK (l : List Int) (k : Int) : List Int := if k ∈ l then l else l ++ [k]
def keysOf (p : Int) (b : List Int) : List Int := b.foldl (fun l y => addK l (y / p)) []
theorem keysOf_snoc {p : Int} {b : List Int} {K : Nat} {t : Int} (h : b[K]? = some t) : keysOf p (b.take (K + 1)) = addK (keysOf p (b.take K)) (t / p) := by
 obtain ⟨hk, he⟩ := List.getElem?_eq_some_iff.1 h
 rw [List.take_succ_eq_append_getElem hk, he, keysOf, List.foldl_append]; rfl
theorem setS_keys (S : List (Int × Value)) (k : Int) (v : Value) : (setS S k v).map (·.1) = addK (S.map (·.1)) k := by
 have e : S.any (fun x => decide (x.1 = k)) = decide (k ∈ S.map (·.1)) := by
  rw [Bool.eq_iff_iff, List.any_eq_true, decide_eq_true_eq, List.mem_map]
  exact ⟨fun ⟨x, h1, h2⟩ => ⟨x, h1, of_decide_eq_true h2⟩, fun ⟨x, h1, h2⟩ => ⟨x, h1, decide_eq_true h2⟩⟩
 unfold setS addK
 rw [e]
 by_cases h : k ∈ S.map (·.1)
 · rw [decide_eq_true h, if_pos h]
   simp only [cond_true, List.map_map]
   refine List.map_congr_left fun x hx => ?_
   show (bif decide (x.1 = k) then (k, v) else x).1 = x.1
   by_cases h1 : x.1 = k
   · rw [decide_eq_true h1]; exact h1.symm
   · rw [decide_eq_false h1]; rfl
 · rw [decide_eq_false h, if_neg h]; simp
theorem find_eq {S : List (Int × Value)} {r : Int} {v : Value} (hn : (S.map (·.1)).Nodup) (h : (r, v) ∈ S) : lkS S r = v := by
 unfold lkS
 induction S with
 | nil => cases h
 | cons x t ih =>
  rw [List.find?_cons]
  rw [List.map_cons, List.nodup_cons] at hn
  rcases List.mem_cons.1 h with rfl | h
  · simp
  · have : x.1 ≠ r := fun e => hn.1 (List.mem_map.2 ⟨_, h, e.symm⟩)
    rw [decide_eq_false this]
    exact ih hn.2 h
theorem lkS_set (S : List (Int × Value)) (k : Int) (v : Value) (r : Int) : lkS (setS S k v) r = if r = k then v else lkS S r := by
 unfold lkS setS
 cases e : S.any (fun x => decide (x.1 = k)) with
 | true =>
  simp only [cond_true]
  rw [List.find?_map]
  have hc : (fun x : Int × Value => decide (x.1 = r)) ∘ (fun x : Int × Value => bif decide (x.1 = k) then (k, v) else x) = fun x => decide (x.1 = r) := by
   funext x
   show decide ((bif decide (x.1 = k) then (k, v) else x).1 = r) = _
   by_cases h : x.1 = k
   · rw [decide_eq_true h, cond_true, h]
   · rw [decide_eq_false h, cond_false]
  rw [hc]
  by_cases h : r = k
  · subst h
    rw [if_pos rfl]
    rw [List.any_eq_true] at e
    obtain ⟨x, hx, hx2⟩ := e
    cases hf : S.find? (fun x => decide (x.1 = r)) with
    | none => exact absurd hx2 (List.find?_eq_none.1 hf x hx)
    | some y =>
     have hy := List.find?_some hf
     simp only [Option.map_some]
     rw [hy]; rfl
  · rw [if_neg h]
    cases hf : S.find? (fun x => decide (x.1 = r)) with
    | none => rfl
    | some y =>
     have hy : y.1 = r := of_decide_eq_true (List.find?_some (p := fun x : Int × Value => decide (x.1 = r)) hf)
     simp only [Option.map_some]
     rw [decide_eq_false (by rw [hy]; exact h)]; rfl
 | false =>
  simp only [cond_false]
  rw [List.find?_append]
  by_cases h : r = k
  · subst h
    rw [if_pos rfl]
    have hf : S.find? (fun x => decide (x.1 = r)) = none := List.find?_eq_none.2 fun x hx hh => by
     rw [List.any_eq_false] at e; exact e x hx hh
    rw [hf]; simp
  · rw [if_neg h]
    have : [(k, v)].find? (fun x : Int × Value => decide (x.1 = r)) = none := by simp; exact fun e => h e.symm
    rw [this]
    cases S.find? (fun x => decide (x.1 = r)) <;> rfl
theorem mset_hd (S : List (Int × Value)) (k : Int) (v : Value) : mset (hdM S) (eI k) (.imm v) = hdM (setS S k v) := by
 have h1 : (hdM S).any (fun x => keyB x.1 (eI k)) = S.any (fun x => decide (x.1 = k)) := by
  rw [hdM, List.any_map]; rfl
 unfold mset setS
 rw [h1]
 cases S.any (fun x => decide (x.1 = k)) with
 | true =>
  simp only [cond_true, hdM, List.map_map]
  refine List.map_congr_left fun x hx => ?_
  show (bif decide (x.1 = k) then (eI k, AV.imm v) else (eI x.1, .imm x.2)) = _
  show _ = (eI (bif decide (x.1 = k) then (k, v) else x).1, AV.imm (bif decide (x.1 = k) then (k, v) else x).2)
  cases decide (x.1 = k) <;> rfl
 | false => simp [hdM]
abbrev nz : Fz := fun _ _ => none
def ByAt (w : World) (bm : Nat) (S : List (Int × Value)) : Prop := MapIs (.int .i64) nz w bm (hdM S)
theorem ByAt.keep {w w' : World} {bm : Nat} {S : List (Int × Value)} (h : ByAt w bm S) (hb : w'.heap[bm]? = w.heap[bm]?) : ByAt w' bm S := by
 obtain ⟨ents, clk, es0, h1, hr⟩ := h
 exact ⟨ents, clk, es0, hb.trans h1, hr⟩
theorem ByAt.lt {w : World} {bm : Nat} {S : List (Int × Value)} (h : ByAt w bm S) : bm < w.heap.size := by
 obtain ⟨ents, clk, es0, h1, hr⟩ := h
 exact lt_of_heap h1
theorem ByAt.start (w : World) : ByAt (w.alloc (.map #[] 0)) w.heap.size [] := ⟨#[], 0, [], heap_alloc_new w _, ⟨by simp, by simp⟩, rfl, List.Perm.refl _, ⟨by simp [hdM], by simp [hdM]⟩, by intro i e x he; simp at he, by intro i e x he; simp at he⟩
theorem kp_int : kpOk Tryz.prog 3 (.int .i64) = true := by kernel_rfl
theorem ByAt.look {w : World} {bm : Nat} {S : List (Int × Value)} (h : ByAt w bm S) (t : Int) :
 (Instr.lookup 305 (.map (some bm)) (.int .i64 t) false).run Tryz.prog w = .ok (lkS S t) w := by
 have hz : (zeroValue 28).run Tryz.prog w = .ok (.slice none 0 0) w := Tryz.zeroValue28 w
 have hfm : (hdM S).find? (fun x => keyB x.1 (eI t)) = (S.find? (fun x => decide (x.1 = t))).map fun x => (eI x.1, .imm x.2) := by
  rw [hdM, List.find?_map]; rfl
 unfold lkS
 cases hf : S.find? (fun x => decide (x.1 = t)) with
 | some y =>
  rw [hf] at hfm
  obtain ⟨ents, clk, hb, hres⟩ := MapIs.find (P := Tryz.prog) (A := fun v => v = .imm y.2) (B := False) h kp_int (k := eI t) rfl (by rw [mgo_eq, hfm]; rfl)
  have hc := run_checkKey_kv (P := Tryz.prog) w ents.isEmpty kp_int (a := eI t) rfl
  have hg := MapKept.run_getObj_map (P := Tryz.prog) hb
  rcases hres with ⟨j, v, x', hf', hv, rfl⟩ | ⟨_, hF⟩
  · obtain rfl : v = y.2 := by cases hv; rfl
    simp only [kv, kv1] at hc hf'
    simp [Instr.lookup, run_underlying Tryz.underlying305, hc, hf', hz, hg]
  · exact hF.elim
 | none =>
  rw [hf] at hfm
  obtain ⟨ents, clk, hb, hres⟩ := MapIs.find (P := Tryz.prog) (A := fun v => False) (B := True) h kp_int (k := eI t) rfl (by rw [mgo_eq, hfm]; trivial)
  have hc := run_checkKey_kv (P := Tryz.prog) w ents.isEmpty kp_int (a := eI t) rfl
  have hg := MapKept.run_getObj_map (P := Tryz.prog) hb
  rcases hres with ⟨j, v, x', hf', hv, hF⟩ | ⟨hf', _⟩
  · exact hF.elim
  · simp only [kv, kv1] at hc hf'
    simp [Instr.lookup, run_underlying Tryz.underlying305, hc, hf', hz, hg]
theorem ByAt.put {w : World} {bm : Nat} {S : List (Int × Value)} (h : ByAt w bm S) (t : Int) {v : Value} (hv : v.oneCell' = true) :
 ∃ w', (Instr.mapUpdate 305 (.map (some bm)) (.int .i64 t) v).run Tryz.prog w = .ok () w' ∧ ByAt w' bm (setS S t v) ∧ KeepX [bm] w w' := by
 obtain ⟨w', hrun, hM, _, hk⟩ := MapIs.set (P := Tryz.prog) (t := 3) (e := 28) h Tryz.underlying305 kp_int (k := eI t) (v := .imm v) rfl (vk := .int .i64 t) (vv := v) rfl (.imm _ rfl) (.imm _ hv)
 rw [mset_hd] at hM
 exact ⟨w', hrun, hM, ⟨hk.os, hk.tape, hk.output, hk.size, fun k h1 h2 => hk.block k h1 fun e => h2 (by rw [e]; simp)⟩⟩
theorem own_one {w : World} {B : Nat} {v : Value} {l : List Int} (h : OwnR w B v l) : v.oneCell' = true := by
 rcases h.2 with ⟨rfl, _⟩ | ⟨g, cap, cur, rfl, _⟩ <;> rfl
structure RowsAt (w : World) (B : Nat) (S : Int → Value) (F : Int → List Int) : Prop where
 own : ∀ r, OwnR w B (S r) (F r)
 dis : ∀ r r' g, (S r).ownBlock = some g → (S r').ownBlock = some g → r = r'
theorem RowsAt.keep {w w' : World} {B : Nat} {S : Int → Value} {F : Int → List Int} {X : List Nat} (h : RowsAt w B S F) (hk : KeepX X w w') (hx : ∀ k ∈ X, k < B) : RowsAt w' B S F :=
 ⟨fun r => (h.own r).keep hk fun k hk' hm => by have := ((h.own r).lt k hk').1; have := hx k hm; omega, h.dis⟩
def rowsOf (p : Int) (b : List Int) (r : Int) : List Int := (b.filter fun y => y / p == r).map fun y => y % p
theorem rowsOf_snoc {p : Int} {b : List Int} {K : Nat} {t : Int} (h : b[K]? = some t) (r : Int) : rowsOf p (b.take (K + 1)) r = if r = t / p then rowsOf p (b.take K) r ++ [t % p] else rowsOf p (b.take K) r := by
 obtain ⟨hk, he⟩ := List.getElem?_eq_some_iff.1 h
 unfold rowsOf
 rw [List.take_succ_eq_append_getElem hk, he, List.filter_append, List.map_append]
 by_cases e : r = t / p
 · rw [if_pos e, List.filter_cons_of_pos (by simp [e])]; rfl
 · rw [if_neg e, List.filter_cons_of_neg (by simp; exact fun h => e h.symm)]; simp
theorem rowsOf_len (p : Int) (b : List Int) (r : Int) : (rowsOf p b r).length ≤ b.length := by unfold rowsOf; rw [List.length_map]; exact List.length_filter_le _ _
theorem RowsAt.next {w w3 w4 : World} {B bm : Nat} {S : Int → Value} {p : Int} {b : List Int} {K : Nat} {t : Int} {v2 : Value} (h : RowsAt w B S (rowsOf p (b.take K))) (ht : b[K]? = some t)
 (hv2 : OwnR w3 B v2 (rowsOf p (b.take K) (t / p) ++ [t % p])) (hk3 : KeepX (rowOf (S (t / p))) w w3) (hb2 : v2.ownBlock = (S (t / p)).ownBlock ∨ ∃ g, v2.ownBlock = some g ∧ w.heap.size ≤ g) (hk4 : KeepX [bm] w3 w4) (hbm : bm < B) :
 RowsAt w4 B (fun r => if r = t / p then v2 else S r) (rowsOf p (b.take (K + 1))) := by
 refine ⟨fun r => ?_, fun r r' g h1 h2 => ?_⟩
 · rw [rowsOf_snoc ht]
   (try dsimp only)
   by_cases e : r = t / p
   · rw [if_pos e, if_pos e]
     subst e
     exact hv2.keep hk4 fun k hk hm => by have := (hv2.lt k hk).1; rw [List.mem_singleton.1 hm] at this; omega
   · rw [if_neg e, if_neg e]
     exact ((h.own r).keep hk3 fun k hk hm => e (h.dis r _ k hk (rowOf_mem hm))).keep hk4 fun k hk hm => by have := ((h.own r).lt k hk).1; rw [List.mem_singleton.1 hm] at this; omega
 · (try dsimp only at h1 h2)
   have key : ∀ r'', r'' ≠ t / p → (S r'').ownBlock = some g → v2.ownBlock = some g → False := fun r'' hne hs hv => by
    rcases hb2 with e | ⟨g', e, hg⟩
    · rw [e] at hv; exact hne (h.dis _ _ g hs hv)
    · rw [e] at hv; cases hv; have := ((h.own r'').lt _ hs).2; omega
   by_cases e : r = t / p
   · rw [if_pos e] at h1
     by_cases e' : r' = t / p
     · rw [e, e']
     · rw [if_neg e'] at h2; exact (key r' e' h2 h1).elim
   · rw [if_neg e] at h1
     by_cases e' : r' = t / p
     · rw [if_pos e'] at h2; exact (key r e h1 h2).elim
     · rw [if_neg e'] at h2; exact h.dis _ _ g h1 h2
theorem exec_append {P : Program} {o : Oper} {a : Act} {w w' : World} {v' v y : Value} {s x : Operand} {t : TypeId} (ho : o.op = .call { callee := .builtin .append, args := #[s, x], argTypes := #[t, t] }) (hs : a.eval s = v) (hx : a.eval x = y)
 (hr : (Builtin.append_ #[t, t] o.type #[v, y]).run P w = .ok v' w') : (execOp a.eval o).run P w = .ok (.value v') w' := by
 unfold execOp
 simp only [ho, resolve, invoke, builtin, Sem.run_bind, Sem.run_pure, Result.andThen_ok, List.map_toArray, List.map_cons, List.map_nil, hs, hx, hr]
theorem exec_mapUpdate {P : Program} {o : Oper} {a : Act} {w w' : World} {m x v : Operand} {mv key val : Value} {t : TypeId} (ho : o.op = Op.mapUpdate t m x v) (hm : a.eval m = mv) (hx : a.eval x = key) (hv : a.eval v = val)
 (hr : (Instr.mapUpdate t mv key val).run P w = .ok () w') : (execOp a.eval o).run P w = .ok .skip w' := by
 simp [execOp, ho, hm, hx, hv, hr, Result.andThen]
theorem RowsAt.low {w : World} {B C : Nat} {S : Int → Value} {F : Int → List Int} (h : RowsAt w B S F) (hC : C ≤ B) : RowsAt w C S F := ⟨fun r => (h.own r).low hC, h.dis⟩
structure MSt (w : World) (B ba bb bn bs bm : Nat) (n p ar1 : Int) (a : List Int) (pa : Option Addr) (ca : Nat) (S : List (Int × Value)) (F : Int → List Int) (ks : List Int) : Prop where
 a0 : w.cell? ⟨ba, 0, none⟩ = some (.int .i64 ar1)
 a1 : w.cell? ⟨ba, 1, none⟩ = some (.slice pa a.length ca)
 m0 : w.cell? ⟨bb, 0, none⟩ = some (.map (some bm))
 n0 : w.cell? ⟨bn, 0, none⟩ = some (.int .i64 n)
 p0 : w.cell? ⟨bs, 0, none⟩ = some (.int .i64 p)
 by' : ByAt w bm S
 ks : S.map (·.1) = ks
 rows : RowsAt w B (lkS S) F
 hB : B ≤ ba ∧ B ≤ bb ∧ B ≤ bn ∧ B ≤ bs ∧ B ≤ bm
set_option maxRecDepth 100000 in
set_option maxHeartbeats 4000000 in
theorem matches_any (n p : Nat) (a b : List Int) (ar1 ar2 : Int) (pa pb : Option Addr) (ca cb : Nat) (w : World) (hD : ∀ (j : Nat) x, b[j]? = some x → ∃ bx o, pb = some ⟨bx, o, none⟩ ∧ bx < w.heap.size ∧ w.cell? ⟨bx, o + j, none⟩ = some (.int .i64 x)) (hlb : b.length ≤ 20000) (hb : ∀ x ∈ b, 0 ≤ x ∧ x < 100000) (hp0 : 0 < p) (hp1 : p ≤ 1728) :
 Calls Tryz.prog 188 #[.int .i64 n, .int .i64 p, .agg #[.int .i64 ar1, .slice pa a.length ca], .agg #[.int .i64 ar2, .slice pb b.length cb]] w
  fun e w' => ∃ ba bb bn bs bm S, e = .returned (.func (.func 231) #[] #[.pointer (some ⟨ba, 0, none⟩), .pointer (some ⟨bb, 0, none⟩), .pointer (some ⟨bn, 0, none⟩), .pointer (some ⟨bs, 0, none⟩)]) ∧ MSt w' w.heap.size ba bb bn bs bm n p ar1 a pa ca S (rowsOf p b) (keysOf p b) ∧ Below w.heap.size w w' := by
 obtain ⟨i0, hi0, hz0, hz1, hz2⟩ := info_parts int_info
 obtain ⟨s, hs⟩ : ∃ s, w.heap.size = s := ⟨_, rfl⟩
 obtain ⟨W2, hW2⟩ : ∃ x, x = (((w.alloc (.cells #[.int .i64 n] 3)).alloc (.cells #[.int .i64 p] 3)).alloc (.cells #[.int .i64 ar1, .slice pa a.length ca] 50)).alloc (.cells #[.int .i64 ar2, .slice pb b.length cb] 50) := ⟨_, rfl⟩
 have hB2 : Below w.heap.size w W2 := by rw [hW2]; go_grown
 have z2 : W2.heap.size = s + 4 := by rw [hW2, ← hs]; simp
 have y0 : W2.cell? ⟨s, 0, none⟩ = some (.int .i64 n) := by rw [hW2, ← hs]; go_cell
 have y1 : W2.cell? ⟨s + 1, 0, none⟩ = some (.int .i64 p) := by rw [hW2, ← hs]; go_cell
 have y20 : W2.cell? ⟨s + 2, 0, none⟩ = some (.int .i64 ar1) := by rw [hW2, ← hs]; go_cell
 have y2 : W2.cell? ⟨s + 2, 1, none⟩ = some (.slice pa a.length ca) := by rw [hW2, ← hs]; go_cell
 have y3 : W2.cell? ⟨s + 3, 1, none⟩ = some (.slice pb b.length cb) := by rw [hW2, ← hs]; go_cell
 have HD := Lib.hid hD; have HRB := Lib.hid hb; have HW2 := Lib.hid hW2; have HS := Lib.hid hs; have HB2 := Lib.hid hB2
 clear hD hb hW2 hs hB2
 go_enter Tryz.func188, Tryz.ntmps188
 go_upto_region 1 with fail
 rw [← HW2.out]
 simp only [HS.out, Nat.add_assoc, Nat.reduceAdd]
 have hmk := run_makeMap (P := Tryz.prog) 305 W2
 go_upto_region 2 with fail
 obtain ⟨w4, hw4⟩ : ∃ x, x = (W2.alloc (.map #[] 0)).alloc (.cells #[.map (some (s + 4))] 305) := ⟨_, rfl⟩
 rw [← hw4]
 simp only [Nat.add_assoc, Nat.reduceAdd]
 have hB4 : Below W2.heap.size W2 w4 := by rw [hw4]; go_grown
 have z4 : w4.heap.size = s + 6 := by rw [hw4]; simp [z2]
 have v0 : w4.cell? ⟨s + 5, 0, none⟩ = some (.map (some (s + 4))) := by rw [hw4, show s + 5 = W2.heap.size + 1 by omega]; go_cell
 have HBY0 := Lib.hid (show ByAt w4 (s + 4) [] by
  have := ByAt.start W2
  rw [z2] at this
  rw [hw4]
  exact this.keep (Below.heap_alloc _ _ _ (by simp [z2])))
 have HR0 := Lib.hid (show RowsAt w4 (s + 6) (lkS []) (rowsOf p (b.take 0)) from ⟨fun r => World.ownsRow_nil _ _ _ _, fun r r' g h1 _ => by simp [lkS, Value.ownBlock] at h1⟩)
 replace y0 := oldcell hB4 y0 (by omega); replace y1 := oldcell hB4 y1 (by omega); replace y2 := oldcell hB4 y2 (by omega); replace y20 := oldcell hB4 y20 (by omega); replace y3 := oldcell hB4 y3 (by omega)
 have HB4 := Lib.hid (btr HB2.out hB4)
 clear hw4 hB4 hmk
 go_wp2_with fail
 go_loopg [16] b.length (fun M s16 wr => ∃ (K : Nat) (S : List (Int × Value)), s16 = .int .i64 K ∧ K ≤ b.length ∧ M = b.length - K ∧ S.map (·.1) = keysOf p (b.take K) ∧ ByAt wr (s + 4) S ∧ RowsAt wr (s + 6) (lkS S) (rowsOf p (b.take K)) ∧ KeepX [s + 4] w4 wr)
 case atStart => exact ⟨0, [], rfl, by omega, rfl, rfl, HBY0.out, HR0.out, KeepX.refl _ _⟩
 case round =>
  clear HBY0 HR0
  obtain ⟨K, S, rfl, hK, hM, hks, hby, hrow, hkx⟩ := hrel
  have HM := Lib.hid hM; have HKS := Lib.hid hks; have HBY := Lib.hid hby; have HROW := Lib.hid hrow
  have hszr := hkx.size
  have hBR : Below w.heap.size w wr := KeepX.below' HB4.out hkx HB4.out.size (by have := HS.out; simp; omega)
  clear hM hks hby hrow
  replace v0 := hkx.cell v0 (by simp); replace y1 := hkx.cell y1 (by simp)
  by_cases hlt : K < b.length
  case pos =>
   have hlt0 : (0 : Int) ≤ (K : Int) := by omega
   have hlt1 : (K : Int) < (b.length : Int) := by omega
   obtain ⟨t, ht⟩ : ∃ t, b[K]? = some t := ⟨_, List.getElem?_eq_getElem hlt⟩
   obtain ⟨bx, off, rfl, hbx, h0⟩ := HD.out K t ht
   replace h0 := oldcell hBR h0 hbx
   have hrt := HRB.out t (List.mem_of_getElem? ht)
   obtain ⟨a1, a2, a3, a4, a5, a6, a7⟩ := quo_rem (x := t) (n := p) hrt.1 (by omega) hp0
   obtain ⟨ky, hky⟩ : ∃ ky, t / (p : Int) = ky := ⟨_, rfl⟩
   obtain ⟨rm, hrm⟩ : ∃ rm, t % (p : Int) = rm := ⟨_, rfl⟩
   rw [hky] at a1 a4 a5; rw [hrm] at a2 a3 a6 a7
   have hk1 : ky < 100000 := by omega
   have HKY := Lib.hid hky; have HRM := Lib.hid hrm; have HT := Lib.hid ht
   obtain ⟨F, hF⟩ : ∃ F, rowsOf p (b.take K) ky = F := ⟨_, rfl⟩
   have hFl : F.length ≤ 20000 := by rw [← hF]; exact Nat.le_trans (rowsOf_len _ _ _) (by rw [List.length_take]; omega)
   have HO := Lib.hid (show OwnR wr (s + 6) (lkS S ky) F by rw [← hF]; exact HROW.out.own ky)
   have HF := Lib.hid hF
   have HX := Lib.hid (show ∀ k ∈ rowOf (lkS S ky), s + 6 ≤ k ∧ k < wr.heap.size from fun k hk => HO.out.lt k (rowOf_mem hk))
   have hx5 : s + 5 ∉ rowOf (lkS S ky) := fun hm => by have := (HX.out _ hm).1; omega
   have hx1 : s + 1 ∉ rowOf (lkS S ky) := fun hm => by have := (HX.out _ hm).1; omega
   have hx4 : s + 4 ∉ rowOf (lkS S ky) := fun hm => by have := (HX.out _ hm).1; omega
   have hbml := HBY.out.lt
   have hp00 : ¬ p = 0 := by omega
   clear hky hrm ht hF hbx
   go_upto_region 5 with fail
   refine wp_region_seqE (fun x => KeepX (rowOf (lkS S ky)) wr x ∧ OwnR x (s + 6) (lkS S ky) F) (.one 0 0 (.one 1 1 (.one 2 0 (.one 3 1 (.one 4 0 (.one 5 1 (.one 6 0 (.one 7 1 (.one 8 0 (.one 9 1 (.one 10 0 (.one 11 1 (.alt 12 2 (.alt 13 2 (.alt 14 3 .nil .stop) .stop) .stop))))))))))))) (by kernel_rfl) (by kernel_rfl) (by kernel_rfl) ⟨KeepX.of_below (Below.drew (Below.refl _ _)), HO.out.up (Below.drew (Below.refl _ _))⟩ ?_
   iterate 12 (first | (refine seqE_free (v := ?_) rfl (by rfl) ?_ ?_; rotate_left; (focus (intro w; go_simp; try with_reducible rfl)); (try simp only [Act.put, List.setIfInBounds_toArray, List.set_cons_zero, List.set_cons_succ])) | (refine seqE_pure (v := ?_) rfl (by rfl) ?_ ?_; rotate_left; (focus (intro w hS; have e5 := hS.1.cell v0 hx5; have e1 := hS.1.cell y1 hx1; have el := (HBY.out.keep (hS.1.block _ hbml hx4)).look ky; go_simp; try with_reducible rfl)); (try simp only [Act.put, List.setIfInBounds_toArray, List.set_cons_zero, List.set_cons_succ])))
   refine seqE_move rfl (by rfl) ?_ seqE_stop
   intro w1 hS
   refine ⟨.slice (some ⟨w1.heap.size, 0, none⟩) 1 1, w1.alloc (.cells #[.int .i64 rm] 3), (by go_simp; try with_reducible rfl), ?_⟩
   obtain ⟨b32, hb32⟩ : ∃ b, b = w1.heap.size := ⟨_, rfl⟩
   obtain ⟨v1, hv1⟩ : ∃ x, x = w1.alloc (.cells #[.int .i64 rm] 3) := ⟨_, rfl⟩
   rw [← hv1, ← hb32]
   have hbl : Below w1.heap.size w1 v1 := by rw [hv1]; go_grown
   have hx32 : b32 ∉ rowOf (lkS S ky) := fun hm => by have h1 := (HX.out _ hm).2; have h2 := hS.1.size; omega
   refine ⟨fun x => (KeepX (rowOf (lkS S ky)) wr x ∧ OwnR x (s + 6) (lkS S ky) F) ∧ x.cell? ⟨b32, 0, none⟩ = some (.int .i64 rm), ⟨⟨hS.1.upB hbl, hS.2.up hbl⟩, by rw [hv1, hb32]; go_cell⟩, fun x hx => hx.1, ?_⟩
   clear hS hbl hv1 hb32 w1 v1
   (try simp only [Act.put, List.setIfInBounds_toArray, List.set_cons_zero, List.set_cons_succ])
   refine seqE_move rfl (by rfl) ?_ seqE_stop
   intro w2 hS
   have hz3 := hS.1.1.size
   obtain ⟨v', w', hrun, ho1, ho2, hg, hb⟩ := app_two (P := Tryz.prog) w2 (s + 6) 28 28 3 i0 _ 8 Tryz.underlying28 hi0 hz0 hz1 hz2 rfl (lkS S ky) F.length _ hS.1.2 b32 1 (.int .i64 rm) hS.2 rfl (by simp only [maxLen]; omega) (by omega) (by omega)
   refine ⟨v', w', exec_append rfl rfl rfl hrun, ?_⟩
   have hkw : KeepX (rowOf (lkS S ky)) w2 w' := KeepX.of_grown hg fun g hg' => mem_rowOf hg'
   have ho3 : OwnR w' (s + 6) v' (F ++ [rm]) := by unfold OwnR; rw [List.map_append, List.length_append]; exact ho1
   have hb' : v'.ownBlock = (lkS S ky).ownBlock ∨ ∃ g, v'.ownBlock = some g ∧ wr.heap.size ≤ g := hb.imp id fun h => ⟨_, h, hz3⟩
   refine ⟨fun x => ((KeepX (rowOf (lkS S ky)) wr x ∧ OwnR x (s + 6) (lkS S ky) F) ∧ x.cell? ⟨b32, 0, none⟩ = some (.int .i64 rm)) ∧ OwnR x (s + 6) v' (F ++ [rm]), ⟨⟨⟨hS.1.1.trans hkw, ho2⟩, hkw.cell hS.2 hx32⟩, ho3⟩, fun x hx => hx.1, ?_⟩
   clear hS hrun ho1 ho2 hg hb hkw ho3 hz3 w2 w'
   (try simp only [Act.put, List.setIfInBounds_toArray, List.set_cons_zero, List.set_cons_succ])
   refine seqE_storeB rfl (by rfl) ?_ seqE_stop
   intro w3 hS
   obtain ⟨w5, hrun5, hby5, hk5⟩ := (HBY.out.keep (hS.1.1.1.block _ hbml hx4)).put ky (own_one hS.2)
   refine ⟨w5, exec_mapUpdate rfl rfl rfl rfl hrun5, fun x => Below w5.heap.size w5 x, Below.refl _ _, ?_⟩
   have HBY5 := Lib.hid hby5
   have HROW5 := Lib.hid (show RowsAt w5 (s + 6) (lkS (setS S ky v')) (rowsOf p (b.take (K + 1))) by
    have h1 := RowsAt.next (w3 := w3) (w4 := w5) (v2 := v') (bm := s + 4) HROW.out HT.out (by rw [HKY.out, HRM.out, HF.out]; exact hS.2) (by rw [HKY.out]; exact hS.1.1.1) (by rw [HKY.out]; exact hb') hk5 (by omega)
    rw [HKY.out] at h1
    rw [show lkS (setS S ky v') = fun r => if r = ky then v' else lkS S r from funext fun r => lkS_set S ky v' r]
    exact h1)
   have HKS5 := Lib.hid (show (setS S ky v').map (·.1) = keysOf p (b.take (K + 1)) by rw [setS_keys, keysOf_snoc HT.out, HKY.out, HKS.out])
   have hkx5 : KeepX [s + 4] w4 w5 := by
    have h1 : KeepX ((s + 4) :: rowOf (lkS S ky)) w4 w5 := ((hkx.sub (by simp)).trans (hS.1.1.1.sub (fun k hk => List.mem_cons_of_mem _ hk))).trans (hk5.sub (by simp))
    exact h1.fresh fun k hk => by
     rcases List.mem_cons.1 hk with e | e
     · exact .inl (by rw [e]; simp)
     · exact .inr (by rw [z4]; exact (HX.out k e).1)
   clear hrun5 hby5 hk5 hS hb'
   (try simp only [Act.put, List.setIfInBounds_toArray, List.set_cons_zero, List.set_cons_succ])
   refine seqE_nil ?_
   intro wz hS
   have hbyz := HBY5.out.keep (hS.block _ HBY5.out.lt)
   have hrowz := HROW5.out.keep (X := []) (KeepX.of_below hS) (by simp)
   have hkxz := hkx5.upB hS
   clear hS HBY5 HROW5 hkx5
   go_wp2_with fail
   go_roundg (b.length - (K + 1))
   case measure => (have := HM.out; omega)
   case rel => exact ⟨K + 1, _, by go_num, by omega, rfl, HKS5.out, hbyz, hrowz, hkxz⟩
  case neg =>
   obtain rfl : K = b.length := by omega
   replace y0 := hkx.cell y0 (by simp); replace y2 := hkx.cell y2 (by simp); replace y20 := hkx.cell y20 (by simp)
   have hrw := HROW.out
   rw [List.take_length] at hrw
   have hks2 := HKS.out
   rw [List.take_length] at hks2
   have HRW := Lib.hid (hrw.low (C := w.heap.size) (by have := HS.out; omega))
   have hBs : w.heap.size ≤ s := Nat.le_of_eq HS.out
   clear hrw
   go_wp2_with fail
   go_ret
   exact ⟨_, _, _, _, _, _, rfl, ⟨y20, y2, v0, y0, y1, HBY.out, hks2, HRW.out, by omega⟩, hBR⟩
end Go.Proofs.YtmllhjbnbhapoaaGreat
namespace Go.Ab
open Go Go.Proofs Go.RowKit
open Go.Proofs.YtmllhjbnbhapoaaGreat (rowsOf keysOf MSt ByAt RowsAt OwnR lkS hdM nz find_eq matches_any)
set_option maxRecDepth 10000
theorem rep_rl {fz : Fz} {v : Value} {r : Rl} (h : Rep fz v r.av) : ∃ p cap, v = .agg #[.int .i64 r.arity, .slice p r.tuples.length cap] ∧ Rep fz (.slice p r.tuples.length cap) (ints r.tuples) ∧ ∀ (j : Nat) x, r.tuples[j]? = some x → ∃ b o, p = some ⟨b, o, none⟩ ∧ fz b (o + j) = some (.int .i64 x) := by
 change Rep fz v (.agg [eI r.arity, ints r.tuples]) at h
 cases h with
 | agg vs _ h1 hl hc =>
  match vs, hl with
  | [v0, v1], _ =>
   have e0 := hc 0 v0 _ rfl rfl
   have e1 := hc 1 v1 _ rfl rfl
   obtain ⟨p, cap, rfl, _, _, h3⟩ := rep_ints_val e1
   cases e0
   exact ⟨p, cap, rfl, e1, h3⟩
def rowsM (p : Int) (b : List Int) : List (AV × AV) := (keysOf p b).map fun r => (eI r, ints (rowsOf p b r))
theorem own_rep {fz : Fz} {w : World} {B : Nat} (hf : ∀ b o, B ≤ b → fz b o = w.pk b o) {v : Value} {l : List Int} (hl : l.length ≤ 9223372036854775807) (h : OwnR w B v l) : Rep fz v (ints l) := by
 rcases h.2 with ⟨rfl, h0⟩ | ⟨g, cap, cur, rfl, hg, hh, h1, h2, h3, h4⟩
 · obtain rfl : l = [] := List.length_eq_zero_iff.1 h0
   exact .slice none 0 0 1 [] [] rfl (Nat.le_refl _) (by omega) (fun _ h => by cases h) (fun _ h => by cases h) (fun i v h => by simp at h) rfl (fun i v x h => by simp at h)
 · rw [Nat.mul_one] at h4
   have hcur : ∀ (i : Nat) x, l[i]? = some x → cur[i]? = some (.int .i64 x) := fun i x hx => by
    have h5 : (cur.toList.take l.length)[i]? = (l.map (Value.int .i64))[i]? := by rw [h4]
    rw [List.getElem?_take_of_lt (List.getElem?_eq_some_iff.1 hx).1, List.getElem?_map, hx, Array.getElem?_toList] at h5
    exact h5
   refine .slice _ _ cap 1 (l.map eI) (l.map (Value.int .i64)) (List.length_map _).symm h1 hl (fun e he => ?_) (fun v hv => ?_) (fun i v hv => ?_) (by rw [flat_ints, List.length_map, List.length_map]) (fun i v x hv hx => ?_)
   · obtain ⟨x, _, rfl⟩ := List.mem_map.1 he; rfl
   · obtain ⟨x, _, rfl⟩ := List.mem_map.1 hv; rfl
   · refine ⟨g, 0, rfl, ?_⟩
     rw [List.getElem?_map] at hv
     cases hx : l[i]? with
     | none => rw [hx] at hv; cases hv
     | some x =>
      rw [hx] at hv; cases hv
      rw [hf _ _ hg, Nat.zero_add]
      refine cell_pk ?_ rfl
      simp only [World.cell?, hh, Option.isSome_none, Bool.false_eq_true, if_false]
      exact hcur i x hx
   · rw [flat_ints, List.getElem?_map] at hx
     rw [List.getElem?_map] at hv
     cases hi : l[i]? with
     | none => rw [hi] at hv; cases hv
     | some y =>
      rw [hi] at hv hx; cases hv; cases hx
      exact .imm _ rfl
theorem ref_rep {fz : Fz} {w : World} {B : Nat} (hf : ∀ b o, B ≤ b → fz b o = w.pk b o) {b : Nat} (hb : B ≤ b) {vs : List Value} {cs : List AV} (h1 : Ones vs) (hl : vs.length = cs.length) (hc : ∀ (i : Nat) v, vs[i]? = some v → w.cell? ⟨b, i, none⟩ = some v) (h : ∀ (i : Nat) v x, vs[i]? = some v → cs[i]? = some x → Rep fz v x) : Rep fz (.pointer (some ⟨b, 0, none⟩)) (.ref cs) :=
 .ref b 0 cs vs h1 (fun i v hv => ⟨b, 0, rfl, by rw [hf _ _ hb, Nat.zero_add]; exact cell_pk (hc i v hv) (h1 v (List.mem_of_getElem? hv))⟩) hl h
theorem rowsOf_len' (p : Int) (b : List Int) (r : Int) : (rowsOf p b r).length ≤ b.length := by unfold rowsOf; rw [List.length_map]; exact List.length_filter_le _ _
theorem matchesP (n p : Nat) (a b : Rl) (hlb : b.tuples.length ≤ 20000) (hb : ∀ x ∈ b.tuples, 0 ≤ x ∧ x < 100000) (hp0 : 0 < p) (hp1 : p ≤ 1728) :
 AFun Tryz.prog 188 [eI n, eI p, a.av, b.av] (.p (.fn (.func 231) [] [.ref a.cs, .ref [.mp (.int .i64) (rowsM p b.tuples)], .ref [eI n], .ref [eI p]])) := by
 refine ⟨⟨_, Tryz.func188, rfl, rfl⟩, fun fz w vs hz hr => ?_⟩
 obtain ⟨v0, v1, v2, v3, rfl⟩ : ∃ v0 v1 v2 v3, vs = [v0, v1, v2, v3] := by
  match vs, hr.1 with
  | [v0, v1, v2, v3], _ => exact ⟨v0, v1, v2, v3, rfl⟩
 have e0 := hr.2 0 v0 _ rfl rfl
 have e1 := hr.2 1 v1 _ rfl rfl
 cases e0
 cases e1
 obtain ⟨pa, ca, rfl, ra, ha⟩ := rep_rl (hr.2 2 v2 _ rfl rfl)
 obtain ⟨pb, cb, rfl, rb, hb'⟩ := rep_rl (hr.2 3 v3 _ rfl rfl)
 refine (matches_any n p a.tuples b.tuples a.arity b.arity pa pb ca cb w (fun j x hx => ?_) hlb hb hp0 hp1).mono ?_
 · obtain ⟨bx, o, e, h1⟩ := hb' j x hx
   have h2 := hz _ _ _ h1
   exact ⟨bx, o, e, pk_lt h2, pk_cell h2 rfl⟩
 · rintro e w' ⟨ba, bb, bn, bs, bm, S, rfl, hM, hB⟩
   obtain ⟨B, hBw⟩ : ∃ B, w.heap.size = B := ⟨_, rfl⟩
   rw [hBw] at hM
   obtain ⟨q1, q2, q3, q4, q5⟩ := hM.hB
   let fz' : Fz := fun b o => if b < w.heap.size then fz b o else w'.pk b o
   have hlow : ∀ b, b < w.heap.size → fz' b = fz b := fun b hb => by funext o; exact if_pos hb
   have hhi : ∀ b o, B ≤ b → fz' b o = w'.pk b o := fun b o hb => if_neg (by omega)
   have hle : FzLe fz fz' := fun b o v hv => by rw [hlow b (pk_lt (hz _ _ _ hv))]; exact hv
   have hok : FzOk fz' w' := fun b o v hv => by
    by_cases h : b < w.heap.size
    · rw [hlow b h] at hv
      exact hz.kept (Kept.of_below hB) b o v hv
    · rw [hhi b o (by omega)] at hv; exact hv
   refine ⟨_, fz', rfl, Kept.of_below hB, ⟨hle, hlow⟩, hok, fun g hg => .p _ _ ?_⟩
   rw [hg]
   obtain ⟨ents, clk, es0, m1, m2, m3, m4, m5, m6, m7⟩ := hM.by'
   have hnd : (S.map (·.1)).Nodup := by
    have h := (m5.perm m4).2
    have e : (hdM S).map (·.1) = (S.map (·.1)).map eI := by rw [hdM, List.map_map, List.map_map]; rfl
    rw [e] at h
    exact List.Pairwise.of_map eI (fun a b hab e => hab (by rw [e])) h
   have rmap : Rep fz' (.map (some bm)) (.mp (.int .i64) (rowsM p b.tuples)) := by
    let f : AV × AV → AV × AV := fun x => (x.1, match x.1 with | .imm (.int _ r) => ints (rowsOf p b.tuples r) | y => y)
    have hperm : (es0.map f).Perm (rowsM p b.tuples) := by
     have h := m4.map f
     have e : (hdM S).map f = rowsM p b.tuples := by rw [rowsM, ← hM.ks, hdM, List.map_map, List.map_map]; rfl
     rw [e] at h; exact h
    have hkeys : (es0.map f).map (·.1) = es0.map (·.1) := by rw [List.map_map]; rfl
    refine .mp _ bm ents clk (es0.map f) _ ?_ m2 (by rw [List.length_map]; exact m3) hperm ⟨fun x hx => ?_, by rw [hkeys]; exact m5.2⟩ (fun i e x he hx => ?_) (fun i e x he hx => ?_)
    · rw [hhi _ _ q5]; exact map_pk m1
    · obtain ⟨y, hy, rfl⟩ := List.mem_map.1 hx
      exact m5.1 y hy
    · rw [List.getElem?_map] at hx
      cases hy : es0[i]? with
      | none => rw [hy] at hx; cases hx
      | some y =>
       rw [hy] at hx; cases hx
       exact (m6 i e y he hy).mono (fun _ _ _ h => by cases h)
    · rw [List.getElem?_map] at hx
      cases hy : es0[i]? with
      | none => rw [hy] at hx; cases hx
      | some y =>
       rw [hy] at hx; cases hx
       have hmem : y ∈ hdM S := m4.mem_iff.1 (List.mem_of_getElem? hy)
       obtain ⟨⟨r, v⟩, hs, rfl⟩ := List.mem_map.1 hmem
       have hv := m7 i e _ he hy
       have hlk := find_eq hnd hs
       have hrow := hM.rows.own r
       rw [hlk] at hrow
       have : e.val = v := by
        generalize e.val = u at hv
        cases hv; rfl
       rw [this]
       exact own_rep hhi (Nat.le_trans (rowsOf_len' p b.tuples r) (by omega)) hrow
   refine .fn _ [] [.pointer (some ⟨ba, 0, none⟩), .pointer (some ⟨bb, 0, none⟩), .pointer (some ⟨bn, 0, none⟩), .pointer (some ⟨bs, 0, none⟩)] [] _ rfl rfl (fun i v x h => by simp at h) fun i v x hv hx => ?_
   match i with
   | 0 =>
    cases hv; cases hx
    refine ref_rep hhi q1 (vs := [.int .i64 a.arity, .slice pa a.tuples.length ca]) (by intro v hv; simp at hv; rcases hv with rfl | rfl <;> rfl) rfl (fun i v hv => ?_) (fun i v x hv hx => ?_)
    · match i with
      | 0 => cases hv; exact hM.a0
      | 1 => cases hv; exact hM.a1
      | i + 2 => simp at hv
    · match i with
      | 0 => cases hv; cases hx; exact .imm _ rfl
      | 1 => cases hv; cases hx; exact ra.mono hle
      | i + 2 => simp at hv
   | 1 =>
    cases hv; cases hx
    refine ref_rep hhi q2 (vs := [.map (some bm)]) (by intro v hv; simp at hv; subst hv; rfl) rfl (fun i v hv => ?_) (fun i v x hv hx => ?_)
    · match i with
      | 0 => cases hv; exact hM.m0
      | i + 1 => simp at hv
    · match i with
      | 0 => cases hv; cases hx; exact rmap
      | i + 1 => simp at hv
   | 2 =>
    cases hv; cases hx
    refine ref_rep hhi q3 (vs := [.int .i64 n]) (by intro v hv; simp at hv; subst hv; rfl) rfl (fun i v hv => ?_) (fun i v x hv hx => ?_)
    · match i with
      | 0 => cases hv; exact hM.n0
      | i + 1 => simp at hv
    · match i with
      | 0 => cases hv; cases hx; exact .imm _ rfl
      | i + 1 => simp at hv
   | 3 =>
    cases hv; cases hx
    refine ref_rep hhi q4 (vs := [.int .i64 p]) (by intro v hv; simp at hv; subst hv; rfl) rfl (fun i v hv => ?_) (fun i v x hv hx => ?_)
    · match i with
      | 0 => cases hv; exact hM.p0
      | i + 1 => simp at hv
    · match i with
      | 0 => cases hv; cases hx; exact .imm _ rfl
      | i + 1 => simp at hv
   | i + 4 => simp at hv
end Go.Ab
namespace Go.Ab
open Go Go.Proofs
theorem sumI_acc : ∀ (l : List Int) (a : Int), l.foldl (· + ·) a = a + sumI l
 | [], a => by simp [sumI]
 | x :: r, a => by rw [sumI, List.foldl_cons, List.foldl_cons, sumI_acc r, sumI_acc r (0 + x)]; omega
theorem sumI_cons (x : Int) (r : List Int) : sumI (x :: r) = x + sumI r := by rw [sumI, List.foldl_cons, sumI_acc]; omega
theorem sumI_nn : ∀ {l : List Int}, (∀ k ∈ l, 1 ≤ k) → 0 ≤ sumI l
 | [], _ => by simp [sumI]
 | x :: r, h => by rw [sumI_cons]; have := h x (List.mem_cons_self ..); have := sumI_nn fun k hk => h k (List.mem_cons_of_mem _ hk); omega
theorem sortGo_iff : ∀ {l : List Int} (j : Int) (x : Int) (i : Nat), (∀ k ∈ l, 1 ≤ k) → 0 ≤ j → 0 ≤ x → (sortGo j l x = j + i ∧ i < l.length ↔ sumI (l.take i) ≤ x ∧ x < sumI (l.take (i + 1)) ∧ i < l.length)
 | [], j, x, i, _, _, _ => by simp
 | k :: r, j, x, i, h, hj, hx => by
  have hk := h k (List.mem_cons_self ..)
  have hr : ∀ k ∈ r, 1 ≤ k := fun y hy => h y (List.mem_cons_of_mem _ hy)
  have nn : ∀ i, 0 ≤ sumI (r.take i) := fun i => sumI_nn fun y hy => hr y (List.mem_of_mem_take hy)
  have ge : ∀ (l : List Int) (j x : Int), sortGo j l x = -1 ∨ j ≤ sortGo j l x := by
   intro l
   induction l with
   | nil => intro j x; exact .inl rfl
   | cons y l ih =>
    intro j x
    rw [sortGo]
    split
    · exact .inr (Int.le_refl _)
    · rcases ih (j + 1) (x - y) with h | h
      · exact .inl h
      · exact .inr (by omega)
  rw [sortGo]
  cases i with
  | zero =>
   rw [List.take_zero, List.take_succ_cons, List.take_zero, sumI_cons]
   have e0 : sumI ([] : List Int) = 0 := rfl
   rw [e0]
   split
   · simp; omega
   · rename_i h1
     rcases ge r (j + 1) (x - k) with h2 | h2
     · rw [h2]; simp; omega
     · simp; constructor <;> intro h3 <;> omega
  | succ i =>
   rw [List.take_succ_cons, List.take_succ_cons, sumI_cons, sumI_cons, List.length_cons]
   have n1 := nn i
   split
   · constructor <;> intro h3 <;> omega
   · rename_i h1
     have ih := sortGo_iff (l := r) (j + 1) (x - k) i hr (by omega) (by omega)
     constructor
     · intro ⟨h3, h4⟩
       have := ih.1 ⟨by omega, by omega⟩
       omega
     · intro ⟨h3, h4, h5⟩
       have := ih.2 ⟨by omega, by omega, by omega⟩
       omega
structure MOk (s : Spc) (m : Mdl) : Prop where
 pos : 0 < m.n
 n12 : m.n ≤ 12
 at1 : ∀ k ∈ m.scope.atoms, 1 ≤ k
 sl : m.scope.atoms.length = s.sorts.length
 fs : ∀ f ∈ s.fields, SortsOk s.sorts.length f.sorts
 st : ∀ st ∈ m.states, st.length = s.fields.length ∧ ∀ (f : Nat) (h : f < st.length) (h' : f < s.fields.length), st[f].Ok m.n ∧ st[f].arity = s.fields[f].sorts.length
 ne : 0 < m.states.length
 loop : 0 ≤ m.loop ∧ m.loop < m.states.length
theorem firstOf_iff {s : Spc} {m : Mdl} (h : MOk s m) {i : Nat} (hi : i < m.scope.atoms.length) (x : Int) : (firstOf m.scope i ≤ x ∧ x < firstOf m.scope i + atomsOf m.scope i) ↔ 0 ≤ x ∧ x < m.n ∧ sortGo 0 m.scope.atoms x = i := by
 have h1 : firstOf m.scope i + atomsOf m.scope i = sumI (m.scope.atoms.take (i + 1)) := by
  unfold firstOf atomsOf
  rw [sumI_snoc _ hi, List.getElem?_eq_getElem hi]; rfl
 have nn : 0 ≤ firstOf m.scope i := sumI_nn fun y hy => h.at1 y (List.mem_of_mem_take hy)
 have le : sumI (m.scope.atoms.take (i + 1)) ≤ m.n := by
  have e : m.n = sumI (m.scope.atoms.take (i + 1)) + sumI (m.scope.atoms.drop (i + 1)) := by
   show sumI m.scope.atoms = _
   conv => lhs; rw [← List.take_append_drop (i + 1) m.scope.atoms]
   rw [sumI, List.foldl_append, sumI_acc]; rfl
  have := sumI_nn (l := m.scope.atoms.drop (i + 1)) fun y hy => h.at1 y (List.mem_of_mem_drop hy)
  omega
 rw [h1]
 constructor
 · intro ⟨a, b⟩
   have := (sortGo_iff 0 x i h.at1 (Int.le_refl _) (by omega)).2 ⟨a, b, hi⟩
   exact ⟨by omega, by omega, by omega⟩
 · intro ⟨a, b, c⟩
   have := (sortGo_iff 0 x i h.at1 (Int.le_refl _) a).1 ⟨by omega, hi⟩
   exact ⟨this.1, this.2.1⟩
structure Sym (s : Spc) (m : Mdl) (π : Int → Int) : Prop where
 prm : Prm m.n π
 srt : ∀ x, 0 ≤ x → x < m.n → sortGo 0 m.scope.atoms (π x) = sortGo 0 m.scope.atoms x
 fix : ∀ (i : Nat) (h : i < s.sorts.length), s.sorts[i].ordered = true → ∀ x, 0 ≤ x → x < m.n → sortGo 0 m.scope.atoms x = i → π x = x
noncomputable def imgM (π : Int → Int) (m : Mdl) : Mdl := ⟨m.scope, m.states.map fun st => st.map (imgR m.n π), m.loop⟩
def imgE (π : Int → Int) (env : List (ByteArray × Int)) : List (ByteArray × Int) := env.map fun x => (x.1, π x.2)
def tyE (env : List (ByteArray × Int)) : List (ByteArray × Int) := env.map fun x => (x.1, 1)
theorem envLook_map {α β : Type} (f : α → β) : ∀ (l : List (ByteArray × α)) (nm : ByteArray), envLook (l.map fun x => (x.1, f x.2)) nm = (envLook l nm).map f
 | [], _ => rfl
 | x :: r, nm => by
  rw [List.map_cons, envLook, envLook, envLook_map f r nm]
  cases envLook r nm with
  | some b => rfl
  | none => dsimp only [Option.map_none]; split <;> rfl
theorem envLook_mem {α : Type} : ∀ {l : List (ByteArray × α)} {nm : ByteArray} {a : α}, envLook l nm = some a → ∃ x ∈ l, x.2 = a
 | x :: r, nm, a, h => by
  rw [envLook] at h
  cases hq : envLook r nm with
  | some b =>
   rw [hq] at h
   obtain ⟨y, hy, rfl⟩ := envLook_mem hq
   exact ⟨y, List.mem_cons_of_mem _ hy, Option.some.inj h⟩
  | none =>
   rw [hq] at h
   dsimp only at h
   split at h
   · exact ⟨x, List.mem_cons_self .., Option.some.inj h⟩
   · cases h
theorem tyE_look (env : List (ByteArray × Int)) (nm : ByteArray) : envLook (tyE env) nm = (envLook env nm).map fun _ => 1 := envLook_map (fun _ => (1 : Int)) env nm
theorem imgE_look (π : Int → Int) (env : List (ByteArray × Int)) (nm : ByteArray) : envLook (imgE π env) nm = (envLook env nm).map π := envLook_map π env nm
theorem mem_zip {α : Type} {l : List α} {x : α × Nat} (h : x ∈ l.zipIdx) : ∃ (i : Nat) (hi : i < l.length), x = (l[i], i) := by
 obtain ⟨a, i⟩ := x
 obtain ⟨_, hi, e⟩ := List.mem_zipIdx h
 simp only [Nat.zero_add, Nat.sub_zero] at hi e
 exact ⟨i, hi, by rw [e]⟩
inductive Ty (s : Spc) : List (ByteArray × Int) → Nd → Int → Prop
 | name {env} {n : Nd} {a : Int} (h : n.op = 1) (ha : NameTy s env n.name a) : Ty s env n a
 | call {env} {n : Nd} {a : Int} (h : n.op = 47) : Ty s env n a
 | bind {env} {n k0 k1 : Nd} {b : Int} (h : n.op = 15 ∨ n.op = 45 ∨ n.op = 46) (hk : n.kids = [k0, k1]) (h0 : Ty s env k0 1) (h1 : Ty s (env ++ [(n.name, 1)]) k1 b) : Ty s env n 1
 | app {env} {n : Nd} {a : Int} (h : n.op ≠ 1 ∧ n.op ≠ 47 ∧ n.op ≠ 15 ∧ n.op ≠ 45 ∧ n.op ≠ 46) (al : List Int) (hl : al.length = n.kids.length) (hk : ∀ (i : Nat) (h : i < n.kids.length) (h' : i < al.length), Ty s env n.kids[i] al[i]) (ha : ArApp n.op n.n al a) : Ty s env n a
section
theorem sortRel_ok {s : Spc} {m : Mdl} (hm : MOk s m) {i : Nat} (hi : i < s.sorts.length) : (sortRel m.scope i).Ok m.n := ⟨⟨by show (1 : Int) ≤ 1; omega, by show (1 : Int) ≤ 3; omega⟩, cl_up _, fun t ht => by
 have := (firstOf_iff hm (by rw [hm.sl]; exact hi) t).1 (mem_cl.1 ht).2
 show 0 ≤ t ∧ t < m.n ^ 1
 rw [Int.pow_succ, Int.pow_zero]; omega⟩
theorem atoms_pos {s : Spc} {m : Mdl} (hm : MOk s m) {i : Nat} (hi : i < s.sorts.length) : 1 ≤ atomsOf m.scope i := by
 unfold atomsOf
 rw [List.getElem?_eq_getElem (by rw [hm.sl]; exact hi)]
 exact hm.at1 _ (List.getElem_mem _)
theorem first_in {s : Spc} {m : Mdl} (hm : MOk s m) {i : Nat} (hi : i < s.sorts.length) : 0 ≤ firstOf m.scope i ∧ firstOf m.scope i < m.n ∧ sortGo 0 m.scope.atoms (firstOf m.scope i) = i :=
 (firstOf_iff hm (by rw [hm.sl]; exact hi) _).1 ⟨Int.le_refl _, by have := atoms_pos hm hi; omega⟩
theorem one_ok {s : Spc} {m : Mdl} (hm : MOk s m) {a : Int} (h0 : 0 ≤ a) (h1 : a < m.n) : (⟨1, [a]⟩ : Rl).Ok m.n := ⟨⟨by show (1 : Int) ≤ 1; omega, by show (1 : Int) ≤ 3; omega⟩, List.pairwise_singleton .., fun t ht => by
 obtain rfl := List.mem_singleton.1 ht
 show 0 ≤ t ∧ t < m.n ^ 1
 rw [Int.pow_succ, Int.pow_zero]; omega⟩
theorem nextRel_ok {s : Spc} {m : Mdl} (hm : MOk s m) {i : Nat} (hi : i < s.sorts.length) : (nextRel m.scope i).Ok m.n := ⟨⟨by show (1 : Int) ≤ 2; omega, by show (2 : Int) ≤ 3; omega⟩, cl_up _, fun t ht => by
 obtain ⟨k, h1, h2, rfl⟩ := (mem_cl.1 ht).2
 have hi' : i < m.scope.atoms.length := by rw [hm.sl]; exact hi
 have a := (firstOf_iff hm hi' k).1 ⟨h1, by omega⟩
 have b := (firstOf_iff hm hi' (k + 1)).1 ⟨by omega, by omega⟩
 show 0 ≤ _ ∧ _ < m.n ^ (2 : Int).toNat
 rw [sq hm.pos hm.n12]
 exact ⟨comb_nn hm.pos a.1 b.1, comb_lt hm.pos a.2.1 b.2.1⟩⟩
theorem state_at {s : Spc} {m : Mdl} (hm : MOk s m) {st : Int} (h0 : 0 ≤ st) (h1 : st < m.states.length) : ∃ l, m.states[st.toNat]? = some l ∧ l.length = s.fields.length ∧ ∀ (f : Nat) (h : f < l.length) (h' : f < s.fields.length), l[f].Ok m.n ∧ l[f].arity = s.fields[f].sorts.length := by
 have hlt : st.toNat < m.states.length := by omega
 exact ⟨_, List.getElem?_eq_getElem hlt, hm.st _ (List.getElem_mem hlt)⟩
theorem foundR_ok {s : Spc} {m : Mdl} (hm : MOk s m) {st : Int} (h0 : 0 ≤ st) (h1 : st < m.states.length) (nm : ByteArray) : (∀ r ∈ foundR s m st nm, r.Ok m.n) ∧ (foundR s m st nm).map Rl.arity = s.found nm := by
 obtain ⟨l, hl, hlen, hok⟩ := state_at hm h0 h1
 have hf : ∀ x ∈ s.fields.zipIdx, (∀ r ∈ fRels m st nm x, r.Ok m.n) ∧ (fRels m st nm x).map Rl.arity = fArs nm x.1 := by
  intro x hx
  obtain ⟨i, hi, rfl⟩ := mem_zip hx
  unfold fRels fArs
  simp only [hl, Option.getD_some]
  have hi' : i < l.length := by rw [hlen]; exact hi
  rw [List.getElem?_eq_getElem hi', Option.getD_some]
  obtain ⟨o1, o2⟩ := hok i hi' hi
  split
  · exact ⟨fun r hr => (by obtain rfl := List.mem_singleton.1 hr; exact o1), by simp [o2]⟩
  · exact ⟨fun r hr => (by cases hr), rfl⟩
 have hs : ∀ x ∈ s.sorts.zipIdx, (∀ r ∈ sRels m nm x, r.Ok m.n) ∧ (sRels m nm x).map Rl.arity = sArs nm x.1 := by
  intro x hx
  obtain ⟨i, hi, rfl⟩ := mem_zip hx
  unfold sRels sArs
  have a1 := sortRel_ok hm hi
  have a2 : (headRel m.scope i).Ok m.n := one_ok hm (first_in hm hi).1 (first_in hm hi).2.1
  have a3 := nextRel_ok hm hi
  dsimp only
  refine ⟨fun r hr => ?_, ?_⟩
  · rcases List.mem_append.1 hr with hr | hr
    · split at hr
      · obtain rfl := List.mem_singleton.1 hr; exact a1
      · cases hr
    · rcases List.mem_append.1 hr with hr | hr
      · split at hr
        · obtain rfl := List.mem_singleton.1 hr; exact a2
        · cases hr
      · split at hr
        · obtain rfl := List.mem_singleton.1 hr; exact a3
        · cases hr
  · rw [List.map_append, List.map_append]
    congr 1
    · split <;> rfl
    · congr 1
      · split <;> rfl
      · split <;> rfl
 have gen : ∀ {α : Type} (l : List α) (k : Nat) (g : α × Nat → List Rl) (a : α → List Int), (∀ x ∈ l.zipIdx k, (∀ r ∈ g x, r.Ok m.n) ∧ (g x).map Rl.arity = a x.1) → (∀ r ∈ (l.zipIdx k).flatMap g, r.Ok m.n) ∧ ((l.zipIdx k).flatMap g).map Rl.arity = l.flatMap a := by
  intro α l
  induction l with
  | nil => intro k g a _; exact ⟨fun r hr => (by simp at hr), rfl⟩
  | cons x r ih =>
   intro k g a h
   rw [List.zipIdx_cons] at h ⊢
   obtain ⟨i1, i2⟩ := ih (k + 1) g a fun y hy => h y (List.mem_cons_of_mem _ hy)
   obtain ⟨j1, j2⟩ := h _ (List.mem_cons_self ..)
   rw [List.flatMap_cons, List.flatMap_cons, List.map_append, i2, j2]
   exact ⟨fun y hy => (by rcases List.mem_append.1 hy with hy | hy; exact j1 y hy; exact i1 y hy), rfl⟩
 obtain ⟨f1, f2⟩ := gen s.fields 0 _ _ hf
 obtain ⟨g1, g2⟩ := gen s.sorts 0 _ _ hs
 unfold foundR Spc.found
 rw [List.map_append, f2, g2]
 exact ⟨fun r hr => (by rcases List.mem_append.1 hr with hr | hr; exact f1 r hr; exact g1 r hr), rfl⟩
theorem nameVal_ok {s : Spc} {m : Mdl} (hm : MOk s m) {st : Int} (h0 : 0 ≤ st) (h1 : st < m.states.length) {env : List (ByteArray × Int)} (he : ∀ x ∈ env, 0 ≤ x.2 ∧ x.2 < m.n) {nm : ByteArray} {a : Int} (ht : NameTy s (tyE env) nm a) : (nameVal s m st env nm).Ok m.n ∧ (nameVal s m st env nm).arity = a := by
 unfold NameTy at ht
 rw [tyE_look] at ht
 unfold nameVal
 cases hq : envLook env nm with
 | some b =>
  rw [hq] at ht
  obtain ⟨x, hx, rfl⟩ := envLook_mem hq
  have ht : a = 1 := ht
  exact ⟨one_ok hm (he x hx).1 (he x hx).2, ht.symm⟩
 | none =>
  rw [hq] at ht
  have ht : s.found nm = [a] := ht
  obtain ⟨f1, f2⟩ := foundR_ok hm h0 h1 nm
  rw [ht] at f2
  cases hF : foundR s m st nm with
  | nil => rw [hF] at f2; cases f2
  | cons r l =>
   rw [hF] at f2 f1
   simp only [List.map_cons, List.cons.injEq] at f2
   exact ⟨f1 r (List.mem_cons_self ..), f2.1⟩
theorem nextSt_ok {s : Spc} {m : Mdl} (hm : MOk s m) {st : Int} (h0 : 0 ≤ st) (h1 : st < m.states.length) : 0 ≤ nextSt m st ∧ nextSt m st < m.states.length := by
 have := hm.loop
 have := hm.ne
 unfold nextSt
 split
 · omega
 · split <;> omega
theorem pathGo_ok {s : Spc} {m : Mdl} (hm : MOk s m) : ∀ (k : Nat) (st : Int) (out : List Int), 0 ≤ st → st < m.states.length → (∀ x ∈ out, 0 ≤ x ∧ x < (m.states.length : Int)) → ∀ x ∈ pathGo m k st out, 0 ≤ x ∧ x < (m.states.length : Int)
 | 0, st, out, _, _, h => h
 | k + 1, st, out, h0, h1, h => by
  rw [pathGo]
  split
  · exact h
  · obtain ⟨a, b⟩ := nextSt_ok hm h0 h1
    refine pathGo_ok hm k _ _ a b fun x hx => ?_
    rcases List.mem_append.1 hx with hx | hx
    · exact h x hx
    · obtain rfl := List.mem_singleton.1 hx; exact ⟨h0, h1⟩
theorem pathOf_ok {s : Spc} {m : Mdl} (hm : MOk s m) {st : Int} (h0 : 0 ≤ st) (h1 : st < m.states.length) : ∀ x ∈ pathOf m st, 0 ≤ x ∧ x < (m.states.length : Int) := pathGo_ok hm _ _ _ h0 h1 (by simp)
end
end Go.Ab
namespace Go.Ab
open Go Go.Proofs
set_option maxRecDepth 10000
theorem withinP (x a b : Int) : AFun Tryz.prog 45 [eI x, eI a, eI b] (.p (eB (decide (a ≤ x) && decide (x ≤ b)))) := by
 refine AFun.of hT Tryz.func45 rfl rfl (by simp) (AD.run hT hmix ?_)
 refine bgo_split (fun h => ?_) (fun h => ?_)
 · have h' : a ≤ x := of_decide_eq_true h
   exact ⟨_, _, rfl, rfl, by rw [decide_eq_true h', Bool.true_and]; rfl⟩
 · have h' : ¬ a ≤ x := of_decide_eq_false h
   exact ⟨_, _, rfl, rfl, by rw [decide_eq_false h', Bool.false_and]; rfl⟩
theorem sumP (l : List Int) (h : small l) : AFun Tryz.prog 97 [ints l] (.p (eI (sumI l))) := by
 have ha : (l.map eI).length = l.length := List.length_map _
 refine AFun.of hT Tryz.func97 rfl rfl (by simp) (AD.run hT hmix ?_)
 intro h1
 refine AD.loopI (fun x : Nat × Int => x.1 ≤ l.length ∧ x.2 = sumI (l.take x.1)) (fun x => l.length - x.1) (fun x => [(3, .p (eI x.2)), (6, .p (ints l)), (7, eint .i64 (l.map eI).length), (8, eint .i64 x.1)]) (fun _ => []) (0, 0) ⟨Nat.zero_le _, by simp [sumI]⟩ .of fun ⟨i, v⟩ ⟨g1, g2⟩ => AD.run hT hmix ?_
 dsimp only at g1 g2 ⊢
 subst g2
 have hb := h.sum i g1
 refine bgo_split (fun h2 => ?_) (fun h2 => ?_)
 · replace h2 := of_decide_eq_true h2
   have hlt : i < l.length := by omega
   have hli := h.at hlt
   have hl4 := h.1
   refine igo_map i rfl hlt (ngo_in (by omega) (by omega) (ngo_in (by omega) (by omega) ⟨(i + 1, _), ⟨by dsimp only; omega, (sumI_snoc l hlt).symm⟩, by dsimp only; omega, .of⟩))
 · replace h2 := of_decide_eq_false h2
   obtain rfl : i = l.length := by omega
   exact ⟨_, _, rfl, rfl, by rw [List.take_length]; rfl⟩
theorem small.take {l : List Int} (h : small l) (i : Nat) : small (l.take i) := ⟨by rw [List.length_take]; have := h.1; omega, fun k hk => h.2 k (List.mem_of_mem_take hk)⟩
theorem atomsP (s : Scope) (h : small s.atoms) : AFun Tryz.prog 46 [s.av] (.p (eI (sumI s.atoms))) :=
 AFun.of hT Tryz.func46 rfl rfl (by simp) (AD.run hT hmix (.pure [ints s.atoms] _ rfl (sumP _ h) ⟨_, _, rfl, rfl, rfl⟩))
theorem firstP (s : Scope) (h : small s.atoms) (i : Nat) (hi : i ≤ s.atoms.length) : AFun Tryz.prog 233 [s.av, eI i] (.p (eI (firstOf s i))) := by
 have ha : (s.atoms.map eI).length = s.atoms.length := List.length_map _
 refine AFun.of hT Tryz.func233 rfl rfl (by simp) (AD.run hT hmix ?_)
 refine ⟨0, i, rfl, rfl, by omega, by omega, ?_⟩
 refine .pure [ints (s.atoms.take i)] _ (congrArg (fun z => some [AV.slice 1 z]) ?_) (sumP _ (h.take i)) ⟨_, _, rfl, rfl, rfl⟩
 simp [List.map_take]
theorem nextP (m : Mdl) (st : Int) (hst : 0 ≤ st ∧ st ≤ 100) : AFun Tryz.prog 85 [m.av, eI st] (.p (eI (nextSt m st))) := by
 have hl : (m.states.map fun l => AV.slice 2 (l.map Rl.av)).length = m.states.length := List.length_map _
 refine AFun.of hT Tryz.func85 rfl rfl (by simp) (AD.run hT hmix ?_)
 refine bgo_true (decide_eq_true (show st ≥ 0 from hst.1)) ?_
 intro h1
 refine ngo_in (by omega) (by omega) ?_
 refine bgo_split (fun h2 => ?_) (fun h2 => ?_)
 · replace h2 := of_decide_eq_true h2
   refine ngo_in (by omega) (by omega) ⟨_, _, rfl, rfl, ?_⟩
   rw [nextSt, if_pos ⟨hst.1, by omega⟩]; rfl
 · replace h2 := of_decide_eq_false h2
   intro _
   refine ngo_in (by omega) (by omega) ?_
   refine bgo_split (fun h3 => ?_) (fun h3 => ?_)
   · have h3 : st = ((m.states.map fun l => AV.slice 2 (l.map Rl.av)).length : Int) - 1 := by simpa using h3
     refine ⟨_, _, rfl, rfl, ?_⟩
     rw [nextSt, if_neg (by omega), if_pos (by omega)]; rfl
   · have h3 : st ≠ ((m.states.map fun l => AV.slice 2 (l.map Rl.av)).length : Int) - 1 := by simpa using h3
     refine ⟨_, _, rfl, rfl, ?_⟩
     rw [nextSt, if_neg (by omega), if_neg (by omega)]; rfl
end Go.Ab
namespace Go.Ab
open Go Go.Proofs
section
variable {s : Spc} {m : Mdl} {n k0 k1 : Nd} {st : Int} {env : List (ByteArray × Int)}
theorem ev_1 (h : n.op = 1) : ev s m n st env = .ofR (nameVal s m st env n.name) := by rw [ev_eq, h]; rfl
theorem ev_2 (h : n.op = 2) : ev s m n st env = .ofR ⟨n.n, []⟩ := by rw [ev_eq, h]; rfl
theorem ev_3 (h : n.op = 3) : ev s m n st env = .ofR (rUniv m.n) := by rw [ev_eq, h]; rfl
theorem ev_4 (h : n.op = 4) : ev s m n st env = .ofR (rIden m.n) := by rw [ev_eq, h]; rfl
theorem ev_20 (h : n.op = 20) : ev s m n st env = .ofI n.n := by rw [ev_eq, h]; rfl
theorem ev_30 (h : n.op = 30) : ev s m n st env = .ofB true := by rw [ev_eq, h]; rfl
theorem ev_31 (h : n.op = 31) : ev s m n st env = .ofB false := by rw [ev_eq, h]; rfl
theorem ev_5 (h : n.op = 5) (hk : n.kids = [k0]) : ev s m n st env = .ofR (ev s m k0 (nextSt m st) env).r := by rw [ev_eq, h, hk]; rfl
theorem ev_11 (h : n.op = 11) (hk : n.kids = [k0]) : ev s m n st env = .ofR (rTrans m.n (ev s m k0 st env).r) := by rw [ev_eq, h, hk]; rfl
theorem ev_12 (h : n.op = 12) (hk : n.kids = [k0]) : ev s m n st env = .ofR (rClos m.n (ev s m k0 st env).r) := by rw [ev_eq, h, hk]; rfl
theorem ev_13 (h : n.op = 13) (hk : n.kids = [k0]) : ev s m n st env = .ofR (rUnion (rClos m.n (ev s m k0 st env).r) (rIden m.n)) := by rw [ev_eq, h, hk]; rfl
theorem ev_21 (h : n.op = 21) (hk : n.kids = [k0]) : ev s m n st env = .ofI (ev s m k0 st env).r.tuples.length := by rw [ev_eq, h, hk]; rfl
theorem ev_34 (h : n.op = 34) (hk : n.kids = [k0]) : ev s m n st env = .ofB (decide (0 < (ev s m k0 st env).r.tuples.length)) := by rw [ev_eq, h, hk]; rfl
theorem ev_35 (h : n.op = 35) (hk : n.kids = [k0]) : ev s m n st env = .ofB (decide ((ev s m k0 st env).r.tuples.length = 0)) := by rw [ev_eq, h, hk]; rfl
theorem ev_36 (h : n.op = 36) (hk : n.kids = [k0]) : ev s m n st env = .ofB (decide ((ev s m k0 st env).r.tuples.length = 1)) := by rw [ev_eq, h, hk]; rfl
theorem ev_37 (h : n.op = 37) (hk : n.kids = [k0]) : ev s m n st env = .ofB (decide ((ev s m k0 st env).r.tuples.length ≤ 1)) := by rw [ev_eq, h, hk]; rfl
theorem ev_40 (h : n.op = 40) (hk : n.kids = [k0]) : ev s m n st env = .ofB !(ev s m k0 st env).b := by rw [ev_eq, h, hk]; rfl
theorem ev_48 (h : n.op = 48) (hk : n.kids = [k0]) : ev s m n st env = .ofB ((pathOf m st).all fun t => (ev s m k0 t env).b) := by rw [ev_eq, h, hk]; rfl
theorem ev_49 (h : n.op = 49) (hk : n.kids = [k0]) : ev s m n st env = .ofB ((pathOf m st).any fun t => (ev s m k0 t env).b) := by rw [ev_eq, h, hk]; rfl
theorem ev_50 (h : n.op = 50) (hk : n.kids = [k0]) : ev s m n st env = .ofB (ev s m k0 (nextSt m st) env).b := by rw [ev_eq, h, hk]; rfl
theorem ev_6 (h : n.op = 6) (hk : n.kids = [k0, k1]) : ev s m n st env = .ofR (rUnion (ev s m k0 st env).r (ev s m k1 st env).r) := by rw [ev_eq, h, hk]; rfl
theorem ev_7 (h : n.op = 7) (hk : n.kids = [k0, k1]) : ev s m n st env = .ofR (rInter (ev s m k0 st env).r (ev s m k1 st env).r) := by rw [ev_eq, h, hk]; rfl
theorem ev_8 (h : n.op = 8) (hk : n.kids = [k0, k1]) : ev s m n st env = .ofR (rDiff (ev s m k0 st env).r (ev s m k1 st env).r) := by rw [ev_eq, h, hk]; rfl
theorem ev_9 (h : n.op = 9) (hk : n.kids = [k0, k1]) : ev s m n st env = .ofR (rJoin m.n (ev s m k0 st env).r (ev s m k1 st env).r) := by rw [ev_eq, h, hk]; rfl
theorem ev_10 (h : n.op = 10) (hk : n.kids = [k0, k1]) : ev s m n st env = .ofR (rProduct m.n (ev s m k0 st env).r (ev s m k1 st env).r) := by rw [ev_eq, h, hk]; rfl
theorem ev_14 (h : n.op = 14) (hk : n.kids = [k0, k1]) : ev s m n st env = .ofR (rOver m.n (ev s m k0 st env).r (ev s m k1 st env).r) := by rw [ev_eq, h, hk]; rfl
theorem ev_15 (h : n.op = 15) (hk : n.kids = [k0, k1]) : ev s m n st env = .ofR ⟨1, (ev s m k0 st env).r.tuples.filter (fun a => (ev s m k1 st (env ++ [(n.name, a)])).b)⟩ := by rw [ev_eq, h, hk]; rfl
theorem ev_22 (h : n.op = 22) (hk : n.kids = [k0, k1]) : ev s m n st env = .ofI (IntKind.i64.wrap ((ev s m k0 st env).i + (ev s m k1 st env).i)) := by rw [ev_eq, h, hk]; rfl
theorem ev_23 (h : n.op = 23) (hk : n.kids = [k0, k1]) : ev s m n st env = .ofI (IntKind.i64.wrap ((ev s m k0 st env).i - (ev s m k1 st env).i)) := by rw [ev_eq, h, hk]; rfl
theorem ev_32 (h : n.op = 32) (hk : n.kids = [k0, k1]) : ev s m n st env = .ofB (decide (∀ x ∈ (ev s m k0 st env).r.tuples, x ∈ (ev s m k1 st env).r.tuples)) := by rw [ev_eq, h, hk]; rfl
theorem ev_33 (h : n.op = 33) (hk : n.kids = [k0, k1]) : ev s m n st env = .ofB (decide ((ev s m k0 st env).r.tuples = (ev s m k1 st env).r.tuples)) := by rw [ev_eq, h, hk]; rfl
theorem ev_38 (h : n.op = 38) (hk : n.kids = [k0, k1]) : ev s m n st env = .ofB (decide ((ev s m k0 st env).i = (ev s m k1 st env).i)) := by rw [ev_eq, h, hk]; rfl
theorem ev_39 (h : n.op = 39) (hk : n.kids = [k0, k1]) : ev s m n st env = .ofB (decide ((ev s m k0 st env).i < (ev s m k1 st env).i)) := by rw [ev_eq, h, hk]; rfl
theorem ev_41 (h : n.op = 41) (hk : n.kids = [k0, k1]) : ev s m n st env = .ofB ((ev s m k0 st env).b && (ev s m k1 st env).b) := by rw [ev_eq, h, hk]; rfl
theorem ev_42 (h : n.op = 42) (hk : n.kids = [k0, k1]) : ev s m n st env = .ofB ((ev s m k0 st env).b || (ev s m k1 st env).b) := by rw [ev_eq, h, hk]; rfl
theorem ev_43 (h : n.op = 43) (hk : n.kids = [k0, k1]) : ev s m n st env = .ofB (!(ev s m k0 st env).b || (ev s m k1 st env).b) := by rw [ev_eq, h, hk]; rfl
theorem ev_44 (h : n.op = 44) (hk : n.kids = [k0, k1]) : ev s m n st env = .ofB ((ev s m k0 st env).b == (ev s m k1 st env).b) := by rw [ev_eq, h, hk]; rfl
theorem ev_45 (h : n.op = 45) (hk : n.kids = [k0, k1]) : ev s m n st env = .ofB ((ev s m k0 st env).r.tuples.all (fun a => (ev s m k1 st (env ++ [(n.name, a)])).b)) := by rw [ev_eq, h, hk]; rfl
theorem ev_46 (h : n.op = 46) (hk : n.kids = [k0, k1]) : ev s m n st env = .ofB ((ev s m k0 st env).r.tuples.any (fun a => (ev s m k1 st (env ++ [(n.name, a)])).b)) := by rw [ev_eq, h, hk]; rfl
theorem ev_51 (h : n.op = 51) (hk : n.kids = [k0, k1]) : ev s m n st env = .ofB (untilGo (fun t => (ev s m k0 t env).b) (fun t => (ev s m k1 t env).b) (pathOf m st) false false) := by rw [ev_eq, h, hk]; rfl
end
def Nd.isR (n : Nd) : Prop := 1 ≤ n.op ∧ n.op ≤ 15
def Nd.isI (n : Nd) : Prop := 20 ≤ n.op ∧ n.op ≤ 23
def Nd.isF (n : Nd) : Prop := 30 ≤ n.op ∧ n.op ≤ 51
theorem kind_R {n : Nd} (h : kindOf n.op = 101) : n.isR := by unfold kindOf at h; unfold Nd.isR; repeat' split at h <;> omega
theorem kind_I {n : Nd} (h : kindOf n.op = 105) : n.isI := by unfold kindOf at h; unfold Nd.isI; repeat' split at h <;> omega
theorem kind_F {n : Nd} (h : kindOf n.op = 102) : n.isF := by unfold kindOf at h; unfold Nd.isF; repeat' split at h <;> omega
theorem WF_0 {n : Nd} (h : n.WF) {s : ByteArray} (hs : shapeOf n.op n.kids.length = some s) (h0 : s.size = 0) : n.kids = [] := by
 obtain ⟨⟨⟨s', h1, h2, _⟩, _⟩, _⟩ := (Nd.WF_iff n).1 h
 rw [hs] at h1
 obtain rfl := Option.some.inj h1
 exact List.eq_nil_of_length_eq_zero (by omega)
theorem WF_1 {n : Nd} (h : n.WF) {a : UInt8} (hs : shapeOf n.op n.kids.length = some ⟨#[a]⟩) : ∃ k0, n.kids = [k0] ∧ k0.WF ∧ kindOf k0.op = (a.toNat : Int) := by
 obtain ⟨⟨⟨s', h1, h2, h3⟩, _⟩, h4⟩ := (Nd.WF_iff n).1 h
 rw [hs] at h1
 obtain rfl := Option.some.inj h1
 have h2 : 1 = n.kids.length := h2
 match hk : n.kids, h2 with
 | [k0], _ =>
  obtain ⟨b, hb, hk0⟩ := h3 0 (by rw [hk]; exact Nat.zero_lt_one)
  have hb : some a = some b := hb
  obtain rfl := Option.some.inj hb
  refine ⟨k0, rfl, h4 k0 (by rw [hk]; exact List.mem_singleton.2 rfl), ?_⟩
  simp only [hk] at hk0; exact hk0
theorem WF_2 {n : Nd} (h : n.WF) {a c : UInt8} (hs : shapeOf n.op n.kids.length = some ⟨#[a, c]⟩) : ∃ k0 k1, n.kids = [k0, k1] ∧ (k0.WF ∧ kindOf k0.op = (a.toNat : Int)) ∧ k1.WF ∧ kindOf k1.op = (c.toNat : Int) := by
 obtain ⟨⟨⟨s', h1, h2, h3⟩, _⟩, h4⟩ := (Nd.WF_iff n).1 h
 rw [hs] at h1
 obtain rfl := Option.some.inj h1
 have h2 : 2 = n.kids.length := h2
 match hk : n.kids, h2 with
 | [k0, k1], _ =>
  obtain ⟨b, hb, hk0⟩ := h3 0 (by rw [hk]; exact Nat.zero_lt_two)
  have hb : some a = some b := hb
  obtain rfl := Option.some.inj hb
  obtain ⟨d, hd, hk1⟩ := h3 1 (by rw [hk]; exact Nat.one_lt_two)
  have hd : some c = some d := hd
  obtain rfl := Option.some.inj hd
  simp only [hk] at hk0 hk1
  exact ⟨k0, k1, rfl, ⟨h4 k0 (by rw [hk]; simp), hk0⟩, h4 k1 (by rw [hk]; simp), hk1⟩
theorem WF_op {n : Nd} (h : n.WF) : n.isR ∨ n.isI ∨ n.isF := by
 obtain ⟨⟨⟨s', h1, _, _⟩, _⟩, _⟩ := (Nd.WF_iff n).1 h
 unfold shapeOf at h1
 simp only [List.mem_cons, List.not_mem_nil, or_false] at h1
 unfold Nd.isR Nd.isI Nd.isF
 repeat' split at h1
 all_goals first | omega | cases h1
theorem wf_0 {n : Nd} (h : n.WF) (ho : n.op = 1 ∨ n.op = 2 ∨ n.op = 3 ∨ n.op = 4 ∨ n.op = 20 ∨ n.op = 30 ∨ n.op = 31) : n.kids = [] := WF_0 (s := ⟨#[]⟩) h (by rcases ho with e | e | e | e | e | e | e <;> (rw [e]; rfl)) rfl
theorem wf_e {n : Nd} (h : n.WF) (ho : n.op = 5 ∨ n.op = 11 ∨ n.op = 12 ∨ n.op = 13 ∨ n.op = 21 ∨ n.op = 34 ∨ n.op = 35 ∨ n.op = 36 ∨ n.op = 37) : ∃ k0, n.kids = [k0] ∧ k0.WF ∧ k0.isR := by
 obtain ⟨k0, h1, h2, h3⟩ := WF_1 (a := 101) h (by rcases ho with e | e | e | e | e | e | e | e | e <;> (rw [e]; rfl))
 exact ⟨k0, h1, h2, kind_R h3⟩
theorem wf_ee {n : Nd} (h : n.WF) (ho : n.op = 6 ∨ n.op = 7 ∨ n.op = 8 ∨ n.op = 9 ∨ n.op = 10 ∨ n.op = 14 ∨ n.op = 32 ∨ n.op = 33) : ∃ k0 k1, n.kids = [k0, k1] ∧ (k0.WF ∧ k0.isR) ∧ k1.WF ∧ k1.isR := by
 obtain ⟨k0, k1, h1, ⟨h2, h3⟩, h4, h5⟩ := WF_2 (a := 101) (c := 101) h (by rcases ho with e | e | e | e | e | e | e | e <;> (rw [e]; rfl))
 exact ⟨k0, k1, h1, ⟨h2, kind_R h3⟩, h4, kind_R h5⟩
theorem wf_ef {n : Nd} (h : n.WF) (ho : n.op = 15 ∨ n.op = 45 ∨ n.op = 46) : ∃ k0 k1, n.kids = [k0, k1] ∧ (k0.WF ∧ k0.isR) ∧ k1.WF ∧ k1.isF := by
 obtain ⟨k0, k1, h1, ⟨h2, h3⟩, h4, h5⟩ := WF_2 (a := 101) (c := 102) h (by rcases ho with e | e | e <;> (rw [e]; rfl))
 exact ⟨k0, k1, h1, ⟨h2, kind_R h3⟩, h4, kind_F h5⟩
theorem wf_ii {n : Nd} (h : n.WF) (ho : n.op = 22 ∨ n.op = 23 ∨ n.op = 38 ∨ n.op = 39) : ∃ k0 k1, n.kids = [k0, k1] ∧ (k0.WF ∧ k0.isI) ∧ k1.WF ∧ k1.isI := by
 obtain ⟨k0, k1, h1, ⟨h2, h3⟩, h4, h5⟩ := WF_2 (a := 105) (c := 105) h (by rcases ho with e | e | e | e <;> (rw [e]; rfl))
 exact ⟨k0, k1, h1, ⟨h2, kind_I h3⟩, h4, kind_I h5⟩
theorem wf_f {n : Nd} (h : n.WF) (ho : n.op = 40 ∨ n.op = 48 ∨ n.op = 49 ∨ n.op = 50) : ∃ k0, n.kids = [k0] ∧ k0.WF ∧ k0.isF := by
 obtain ⟨k0, h1, h2, h3⟩ := WF_1 (a := 102) h (by rcases ho with e | e | e | e <;> (rw [e]; rfl))
 exact ⟨k0, h1, h2, kind_F h3⟩
theorem wf_ff {n : Nd} (h : n.WF) (ho : n.op = 41 ∨ n.op = 42 ∨ n.op = 43 ∨ n.op = 44 ∨ n.op = 51) : ∃ k0 k1, n.kids = [k0, k1] ∧ (k0.WF ∧ k0.isF) ∧ k1.WF ∧ k1.isF := by
 obtain ⟨k0, k1, h1, ⟨h2, h3⟩, h4, h5⟩ := WF_2 (a := 102) (c := 102) h (by rcases ho with e | e | e | e | e <;> (rw [e]; rfl))
 exact ⟨k0, k1, h1, ⟨h2, kind_F h3⟩, h4, kind_F h5⟩
theorem Ty.inv_app {s e n a} (h : Ty s e n a) (ho : n.op ≠ 1 ∧ n.op ≠ 47 ∧ n.op ≠ 15 ∧ n.op ≠ 45 ∧ n.op ≠ 46) : ∃ al : List Int, al.length = n.kids.length ∧ (∀ (i : Nat) (h : i < n.kids.length) (h' : i < al.length), Ty s e n.kids[i] al[i]) ∧ ArApp n.op n.n al a := by
 cases h with
 | name h => omega
 | call h => omega
 | bind h => omega
 | app _ al hl hk ha => exact ⟨al, hl, hk, ha⟩
theorem Ty.inv_1 {s e n a k0} (h : Ty s e n a) (ho : n.op ≠ 1 ∧ n.op ≠ 47 ∧ n.op ≠ 15 ∧ n.op ≠ 45 ∧ n.op ≠ 46) (hk : n.kids = [k0]) : ∃ a0, Ty s e k0 a0 ∧ ArApp n.op n.n [a0] a := by
 obtain ⟨al, hl, h1, h2⟩ := h.inv_app ho
 rw [hk] at hl
 match al, hl with
 | [a0], _ => exact ⟨a0, by have := h1 0 (by rw [hk]; simp) (by simp); simpa [hk] using this, h2⟩
theorem Ty.inv_2 {s e n a k0 k1} (h : Ty s e n a) (ho : n.op ≠ 1 ∧ n.op ≠ 47 ∧ n.op ≠ 15 ∧ n.op ≠ 45 ∧ n.op ≠ 46) (hk : n.kids = [k0, k1]) : ∃ a0 a1, Ty s e k0 a0 ∧ Ty s e k1 a1 ∧ ArApp n.op n.n [a0, a1] a := by
 obtain ⟨al, hl, h1, h2⟩ := h.inv_app ho
 rw [hk] at hl
 match al, hl with
 | [a0, a1], _ => exact ⟨a0, a1, by have := h1 0 (by rw [hk]; simp) (by simp); simpa [hk] using this, by have := h1 1 (by rw [hk]; simp) (by simp); simpa [hk] using this, h2⟩
theorem Ty.inv_bind {s e n a k0 k1} (h : Ty s e n a) (ho : n.op = 15 ∨ n.op = 45 ∨ n.op = 46) (hk : n.kids = [k0, k1]) : a = 1 ∧ Ty s e k0 1 ∧ ∃ b, Ty s (e ++ [(n.name, 1)]) k1 b := by
 cases h with
 | name h => omega
 | call h => omega
 | bind _ hk' h0 h1 => rw [hk] at hk'; cases hk'; exact ⟨rfl, h0, _, h1⟩
 | app h => omega
theorem Ty.inv_name {s e n a} (h : Ty s e n a) (ho : n.op = 1) : NameTy s e n.name a := by
 cases h with
 | name _ ha => exact ha
 | call h => omega
 | bind h => omega
 | app h => omega
theorem nc_kid {n k : Nd} (h : n.hasCall = false) (hk : k ∈ n.kids) : k.hasCall = false := by
 rw [n.hasCall_eq, Bool.or_eq_false_iff, List.any_eq_false] at h
 simpa using h.2 k hk
theorem nc_op {n : Nd} (h : n.hasCall = false) : n.op ≠ 47 := by
 rw [n.hasCall_eq, Bool.or_eq_false_iff] at h
 simpa using h.1
theorem tyE_snoc (env : List (ByteArray × Int)) (nm : ByteArray) (a : Int) : tyE (env ++ [(nm, a)]) = tyE env ++ [(nm, 1)] := by simp [tyE]
theorem imgE_snoc (π : Int → Int) (env : List (ByteArray × Int)) (nm : ByteArray) (a : Int) : imgE π (env ++ [(nm, a)]) = imgE π env ++ [(nm, π a)] := by simp [imgE]
theorem ofR_r (r : Rl) : (Val.ofR r).r = r := rfl
section
theorem empty_ok {s : Spc} {m : Mdl} (hm : MOk s m) {a : Int} (h : 1 ≤ a ∧ a ≤ 3) : (⟨a, []⟩ : Rl).Ok m.n := ⟨h, List.Pairwise.nil, fun t ht => by cases ht⟩
theorem filter_ok {s : Spc} {m : Mdl} (hm : MOk s m) {r : Rl} (hr : r.Ok m.n) (h1 : r.arity = 1) (q : Int → Bool) : (⟨1, r.tuples.filter q⟩ : Rl).Ok m.n := ⟨⟨by show (1 : Int) ≤ 1; omega, by show (1 : Int) ≤ 3; omega⟩, hr.up.filter _, fun t ht => by have := hr.rng t (List.mem_filter.1 ht).1; rw [h1] at this; exact this⟩
theorem ev_ok {s : Spc} {m : Mdl} (hm : MOk s m) (n : Nd) : n.WF → n.hasCall = false → ∀ (env : List (ByteArray × Int)) (st a : Int), Ty s (tyE env) n a → 0 ≤ st → st < m.states.length → (∀ x ∈ env, 0 ≤ x.2 ∧ x.2 < m.n) → n.isR → (ev s m n st env).r.Ok m.n ∧ (ev s m n st env).r.arity = a := by
 induction n using Nd.ind with
 | h n ih =>
  intro hw hc env st a ht s0 s1 he hR
  have hnum := ((Nd.WF_iff n).1 hw).1.2.1
  have one : ∀ {k0}, n.kids = [k0] → k0.WF → k0.isR → ∀ (st a0 : Int), Ty s (tyE env) k0 a0 → 0 ≤ st → st < m.states.length → (ev s m k0 st env).r.Ok m.n ∧ (ev s m k0 st env).r.arity = a0 := fun {k0} hk w r st a0 t u0 u1 => ih k0 (by rw [hk]; simp) w (nc_kid hc (by rw [hk]; simp)) env st a0 t u0 u1 he r
  have two : ∀ {k0 k1}, n.kids = [k0, k1] → k0.WF ∧ k0.isR → k1.WF ∧ k1.isR → ∀ a0 a1, Ty s (tyE env) k0 a0 → Ty s (tyE env) k1 a1 → ((ev s m k0 st env).r.Ok m.n ∧ (ev s m k0 st env).r.arity = a0) ∧ (ev s m k1 st env).r.Ok m.n ∧ (ev s m k1 st env).r.arity = a1 := fun {k0 k1} hk w0 w1 a0 a1 t0 t1 =>
   ⟨ih k0 (by rw [hk]; simp) w0.1 (nc_kid hc (by rw [hk]; simp)) env st a0 t0 s0 s1 he w0.2, ih k1 (by rw [hk]; simp) w1.1 (nc_kid hc (by rw [hk]; simp)) env st a1 t1 s0 s1 he w1.2⟩
  unfold Nd.isR at hR
  have hcase : n.op = 1 ∨ n.op = 2 ∨ n.op = 3 ∨ n.op = 4 ∨ n.op = 5 ∨ n.op = 6 ∨ n.op = 7 ∨ n.op = 8 ∨ n.op = 9 ∨ n.op = 10 ∨ n.op = 11 ∨ n.op = 12 ∨ n.op = 13 ∨ n.op = 14 ∨ n.op = 15 := by omega
  rcases hcase with h | h | h | h | h | h | h | h | h | h | h | h | h | h | h
  · rw [ev_1 h, ofR_r]
    exact nameVal_ok hm s0 s1 he (ht.inv_name h)
  · rw [ev_2 h, ofR_r]
    obtain ⟨al, _, _, ha⟩ := ht.inv_app (by omega)
    exact ⟨empty_ok hm (hnum h), (ha.1 h).symm⟩
  · rw [ev_3 h, ofR_r]
    obtain ⟨al, _, _, ha⟩ := ht.inv_app (by omega)
    exact ⟨rUniv_ok hm.pos hm.n12, (ha.2.1 h).symm⟩
  · rw [ev_4 h, ofR_r]
    obtain ⟨al, _, _, ha⟩ := ht.inv_app (by omega)
    exact ⟨rIden_ok hm.pos hm.n12, (ha.2.2.1 h).symm⟩
  · obtain ⟨k0, hk, w0, r0⟩ := wf_e hw (by omega)
    obtain ⟨a0, t0, ha⟩ := ht.inv_1 (by omega) hk
    have e := ha.2.2.2.1 h
    simp only [List.cons.injEq, and_true] at e
    subst e
    obtain ⟨n0, n1⟩ := nextSt_ok hm s0 s1
    rw [ev_5 h hk, ofR_r]
    exact one hk w0 r0 _ _ t0 n0 n1
  · obtain ⟨k0, k1, hk, w0, w1⟩ := wf_ee hw (by omega)
    obtain ⟨a0, a1, t0, t1, ha⟩ := ht.inv_2 (by omega) hk
    have e := ha.2.2.2.2.1 (by omega)
    simp only [List.cons.injEq, and_true] at e
    obtain ⟨⟨o0, e0⟩, o1, e1⟩ := two hk w0 w1 _ _ t0 t1
    rw [ev_6 h hk, ofR_r]
    exact ⟨rUnion_ok hm.pos hm.n12 o0 o1 (by omega), by show (ev s m k0 st env).r.arity = a; omega⟩
  · obtain ⟨k0, k1, hk, w0, w1⟩ := wf_ee hw (by omega)
    obtain ⟨a0, a1, t0, t1, ha⟩ := ht.inv_2 (by omega) hk
    have e := ha.2.2.2.2.1 (by omega)
    simp only [List.cons.injEq, and_true] at e
    obtain ⟨⟨o0, e0⟩, o1, e1⟩ := two hk w0 w1 _ _ t0 t1
    rw [ev_7 h hk, ofR_r]
    exact ⟨rInter_ok hm.pos hm.n12 o0, by show (ev s m k0 st env).r.arity = a; omega⟩
  · obtain ⟨k0, k1, hk, w0, w1⟩ := wf_ee hw (by omega)
    obtain ⟨a0, a1, t0, t1, ha⟩ := ht.inv_2 (by omega) hk
    have e := ha.2.2.2.2.1 (by omega)
    simp only [List.cons.injEq, and_true] at e
    obtain ⟨⟨o0, e0⟩, o1, e1⟩ := two hk w0 w1 _ _ t0 t1
    rw [ev_8 h hk, ofR_r]
    exact ⟨rDiff_ok hm.pos hm.n12 o0, by show (ev s m k0 st env).r.arity = a; omega⟩
  · obtain ⟨k0, k1, hk, w0, w1⟩ := wf_ee hw (by omega)
    obtain ⟨a0, a1, t0, t1, ha⟩ := ht.inv_2 (by omega) hk
    obtain ⟨b, c, e, e2, e3, e4⟩ := ha.2.2.2.2.2.2.1 (by omega)
    simp only [List.cons.injEq, and_true] at e
    obtain ⟨⟨o0, e0⟩, o1, e1⟩ := two hk w0 w1 _ _ t0 t1
    rw [ev_9 h hk, ofR_r]
    exact ⟨rJoin_ok hm.pos hm.n12 o0 o1 (by omega) (by omega), by show (ev s m k0 st env).r.arity + (ev s m k1 st env).r.arity - 2 = a; omega⟩
  · obtain ⟨k0, k1, hk, w0, w1⟩ := wf_ee hw (by omega)
    obtain ⟨a0, a1, t0, t1, ha⟩ := ht.inv_2 (by omega) hk
    obtain ⟨b, c, e, e2, e3⟩ := ha.2.2.2.2.2.2.2.1 (by omega)
    simp only [List.cons.injEq, and_true] at e
    obtain ⟨⟨o0, e0⟩, o1, e1⟩ := two hk w0 w1 _ _ t0 t1
    rw [ev_10 h hk, ofR_r]
    exact ⟨rProduct_ok hm.pos hm.n12 o0 o1 (by omega), by show (ev s m k0 st env).r.arity + (ev s m k1 st env).r.arity = a; omega⟩
  · obtain ⟨k0, hk, w0, r0⟩ := wf_e hw (by omega)
    obtain ⟨a0, t0, ha⟩ := ht.inv_1 (by omega) hk
    obtain ⟨e, e2⟩ := ha.2.2.2.2.2.2.2.2 (by omega)
    simp only [List.cons.injEq, and_true] at e
    obtain ⟨o0, e0⟩ := one hk w0 r0 _ _ t0 s0 s1
    rw [ev_11 h hk, ofR_r]
    exact ⟨rTrans_ok hm.pos hm.n12 o0 (by omega), e2.symm⟩
  · obtain ⟨k0, hk, w0, r0⟩ := wf_e hw (by omega)
    obtain ⟨a0, t0, ha⟩ := ht.inv_1 (by omega) hk
    obtain ⟨e, e2⟩ := ha.2.2.2.2.2.2.2.2 (by omega)
    rw [ev_12 h hk, ofR_r]
    exact ⟨rClos_ok hm.pos hm.n12, e2.symm⟩
  · obtain ⟨k0, hk, w0, r0⟩ := wf_e hw (by omega)
    obtain ⟨a0, t0, ha⟩ := ht.inv_1 (by omega) hk
    obtain ⟨e, e2⟩ := ha.2.2.2.2.2.2.2.2 (by omega)
    rw [ev_13 h hk, ofR_r]
    exact ⟨rUnion_ok hm.pos hm.n12 (rClos_ok hm.pos hm.n12) (rIden_ok hm.pos hm.n12) rfl, e2.symm⟩
  · obtain ⟨k0, k1, hk, w0, w1⟩ := wf_ee hw (by omega)
    obtain ⟨a0, a1, t0, t1, ha⟩ := ht.inv_2 (by omega) hk
    have e := ha.2.2.2.2.1 (by omega)
    simp only [List.cons.injEq, and_true] at e
    obtain ⟨⟨o0, e0⟩, o1, e1⟩ := two hk w0 w1 _ _ t0 t1
    rw [ev_14 h hk, ofR_r]
    exact ⟨rOver_ok hm.pos hm.n12 o0 o1 (by omega), by show (ev s m k0 st env).r.arity = a; omega⟩
  · obtain ⟨k0, k1, hk, w0, w1⟩ := wf_ef hw (by omega)
    obtain ⟨rfl, t0, b, t1⟩ := ht.inv_bind (by omega) hk
    obtain ⟨o0, e0⟩ := ih k0 (by rw [hk]; simp) w0.1 (nc_kid hc (by rw [hk]; simp)) env st 1 t0 s0 s1 he w0.2
    rw [ev_15 h hk, ofR_r]
    exact ⟨filter_ok hm o0 e0 _, rfl⟩
end
section
theorem one_img {s : Spc} {m : Mdl} (hm : MOk s m) {π : Int → Int} (hs : Sym s m π) {a : Int} (h0 : 0 ≤ a) (h1 : a < m.n) : (⟨1, [π a]⟩ : Rl) = imgR m.n π ⟨1, [a]⟩ := by
 obtain ⟨b0, b1⟩ := hs.prm.lt a h0 h1
 refine img_of hs.prm hm.n12 (one_ok hm h0 h1) (one_ok hm b0 b1) rfl fun t t0 t1 => ?_
 have t1 : t < m.n := by have t1 : t < m.n ^ 1 := t1; rw [Int.pow_succ, Int.pow_zero] at t1; omega
 show pm m.n π 1 t ∈ [π a] ↔ t ∈ [a]
 rw [pm_one hs.prm t t0 t1, List.mem_singleton, List.mem_singleton]
 exact ⟨fun e => hs.prm.inj _ _ t0 t1 h0 h1 e, fun e => by rw [e]⟩
theorem sortRel_img {s : Spc} {m : Mdl} (hm : MOk s m) {π : Int → Int} (hs : Sym s m π) {i : Nat} (hi : i < s.sorts.length) : sortRel m.scope i = imgR m.n π (sortRel m.scope i) := by
 have hi' : i < m.scope.atoms.length := by rw [hm.sl]; exact hi
 refine img_of hs.prm hm.n12 (sortRel_ok hm hi) (sortRel_ok hm hi) rfl fun t t0 t1 => ?_
 have t1 : t < m.n ^ 1 := t1
 have t2 : t < m.n := by rw [Int.pow_succ, Int.pow_zero] at t1; omega
 show pm m.n π 1 t ∈ _ ↔ _
 rw [pm_one hs.prm t t0 t2]
 obtain ⟨b0, b1⟩ := hs.prm.lt t t0 t2
 refine (mem_cl_rng hm.pos hm.n12 (k := 1) (by omega) b0 (by rw [Int.pow_succ, Int.pow_zero]; omega)).trans (Iff.trans ?_ (mem_cl_rng hm.pos hm.n12 (k := 1) (by omega) t0 t1).symm)
 rw [firstOf_iff hm hi', firstOf_iff hm hi', hs.srt t t0 t2]
 exact ⟨fun ⟨_, _, h⟩ => ⟨t0, t2, h⟩, fun ⟨_, _, h⟩ => ⟨b0, b1, h⟩⟩
theorem headRel_img {s : Spc} {m : Mdl} (hm : MOk s m) {π : Int → Int} (hs : Sym s m π) {i : Nat} (hi : i < s.sorts.length) (ho : s.sorts[i].ordered = true) : headRel m.scope i = imgR m.n π (headRel m.scope i) := by
 obtain ⟨a, b, c⟩ := first_in hm hi
 have := one_img hm hs a b
 rw [hs.fix i hi ho _ a b c] at this
 exact this
theorem nextRel_img {s : Spc} {m : Mdl} (hm : MOk s m) {π : Int → Int} (hs : Sym s m π) {i : Nat} (hi : i < s.sorts.length) (ho : s.sorts[i].ordered = true) : nextRel m.scope i = imgR m.n π (nextRel m.scope i) := by
 have hi' : i < m.scope.atoms.length := by rw [hm.sl]; exact hi
 have ok := nextRel_ok hm hi
 refine img_of hs.prm hm.n12 ok ok rfl fun t t0 t1 => ?_
 have t1' : t < m.n * m.n := by rw [← sq hm.pos hm.n12]; exact t1
 have b0 := Int.ediv_nonneg t0 (Int.le_of_lt hm.pos)
 have b1 := Int.ediv_lt_of_lt_mul hm.pos t1'
 obtain ⟨m0, m1⟩ := mod_rng hm.pos t
 have stay : ∀ u ∈ (nextRel m.scope i).tuples, pm m.n π 2 u = u := fun u hu => by
  have hr := ok.rng u hu
  rw [show (nextRel m.scope i).arity = 2 from rfl, sq hm.pos hm.n12] at hr
  rw [pm_two hs.prm hm.n12 hr.1 hr.2]
  obtain ⟨k, h1, h2, rfl⟩ := (mem_cl.1 hu).2
  have a := (firstOf_iff hm hi' k).1 ⟨h1, by omega⟩
  have b := (firstOf_iff hm hi' (k + 1)).1 ⟨by omega, by omega⟩
  show π ((k * m.n + (k + 1)) / m.n) * m.n + π ((k * m.n + (k + 1)) % m.n) = k * m.n + (k + 1)
  rw [comb_div b.1 b.2.1, comb_mod b.1 b.2.1, hs.fix i hi ho _ a.1 a.2.1 a.2.2, hs.fix i hi ho _ b.1 b.2.1 b.2.2]
 show pm m.n π 2 t ∈ _ ↔ _
 constructor
 · intro h
   have e := stay _ h
   obtain ⟨c, d⟩ := pm_rng hs.prm 2 t t0 (by rw [← sq hm.pos hm.n12] at t1'; exact t1')
   have := pm_inj hs.prm 2 _ _ c d t0 (by rw [← sq hm.pos hm.n12] at t1'; exact t1') e
   rw [this] at h; exact h
 · intro h; rw [stay t h]; exact h
theorem foundR_img {s : Spc} {m : Mdl} (hm : MOk s m) {π : Int → Int} (hs : Sym s m π) {st : Int} (h0 : 0 ≤ st) (h1 : st < m.states.length) (nm : ByteArray) : foundR s (imgM π m) st nm = (foundR s m st nm).map (imgR m.n π) := by
 obtain ⟨l, hl, hlen, hok⟩ := state_at hm h0 h1
 have hf : ∀ x ∈ s.fields.zipIdx, fRels (imgM π m) st nm x = (fRels m st nm x).map (imgR m.n π) := by
  intro x hx
  obtain ⟨i, hi, rfl⟩ := mem_zip hx
  have hi' : i < l.length := by rw [hlen]; exact hi
  unfold fRels imgM
  simp only [List.getElem?_map, hl, Option.map_some, Option.getD_some, List.getElem?_eq_getElem hi']
  split <;> rfl
 have hS : ∀ x ∈ s.sorts.zipIdx, sRels (imgM π m) nm x = (sRels m nm x).map (imgR m.n π) := by
  intro x hx
  obtain ⟨i, hi, rfl⟩ := mem_zip hx
  unfold sRels
  dsimp only
  rw [List.map_append, List.map_append]
  have e : (imgM π m).scope = m.scope := rfl
  rw [e]
  congr 1
  · split
    · exact congrArg (fun r => [r]) (sortRel_img hm hs hi)
    · rfl
  · congr 1
    · split
      · rename_i h
        exact congrArg (fun r => [r]) (headRel_img hm hs hi (by simp only [Bool.and_eq_true] at h; exact h.1))
      · rfl
    · split
      · rename_i h
        exact congrArg (fun r => [r]) (nextRel_img hm hs hi (by simp only [Bool.and_eq_true] at h; exact h.1))
      · rfl
 have gen : ∀ {α : Type} (l : List α) (g g' : α → List Rl), (∀ x ∈ l, g' x = (g x).map (imgR m.n π)) → l.flatMap g' = (l.flatMap g).map (imgR m.n π) := by
  intro α l
  induction l with
  | nil => intro g g' _; rfl
  | cons x r ih =>
   intro g g' h
   rw [List.flatMap_cons, List.flatMap_cons, List.map_append, ih g g' fun y hy => h y (List.mem_cons_of_mem _ hy), h x (List.mem_cons_self ..)]
 unfold foundR
 rw [List.map_append, gen _ _ _ hf, gen _ _ _ hS]
theorem nameVal_img {s : Spc} {m : Mdl} (hm : MOk s m) {π : Int → Int} (hs : Sym s m π) {st : Int} (h0 : 0 ≤ st) (h1 : st < m.states.length) {env : List (ByteArray × Int)} (he : ∀ x ∈ env, 0 ≤ x.2 ∧ x.2 < m.n) {nm : ByteArray} {a : Int} (ht : NameTy s (tyE env) nm a) : nameVal s (imgM π m) st (imgE π env) nm = imgR m.n π (nameVal s m st env nm) := by
 unfold nameVal
 rw [imgE_look]
 unfold NameTy at ht
 rw [tyE_look] at ht
 cases hq : envLook env nm with
 | some b =>
  obtain ⟨x, hx, rfl⟩ := envLook_mem hq
  exact one_img hm hs (he x hx).1 (he x hx).2
 | none =>
  rw [hq] at ht
  have ht : s.found nm = [a] := ht
  obtain ⟨f1, f2⟩ := foundR_ok hm h0 h1 nm
  rw [ht] at f2
  show (foundR s (imgM π m) st nm).head?.getD ⟨0, []⟩ = _
  rw [foundR_img hm hs h0 h1 nm]
  cases hF : foundR s m st nm with
  | nil => rw [hF] at f2; cases f2
  | cons r l => rfl
theorem nextSt_img {s : Spc} {m : Mdl} (hm : MOk s m) {π : Int → Int} (hs : Sym s m π) (st : Int) : nextSt (imgM π m) st = nextSt m st := by unfold nextSt imgM; simp only [List.length_map]
theorem pathOf_img {s : Spc} {m : Mdl} (hm : MOk s m) {π : Int → Int} (hs : Sym s m π) (st : Int) : pathOf (imgM π m) st = pathOf m st := by
 have : ∀ (k : Nat) (st : Int) (out : List Int), pathGo (imgM π m) k st out = pathGo m k st out := by
  intro k
  induction k with
  | zero => intro st out; rfl
  | succ k ih => intro st out; rw [pathGo, pathGo, nextSt_img hm hs, ih]
 unfold pathOf
 rw [this]
 unfold imgM
 simp only [List.length_map]
theorem all_img {s : Spc} {m : Mdl} (hm : MOk s m) {π : Int → Int} (hs : Sym s m π) {r : Rl} (hr : r.Ok m.n) (h1 : r.arity = 1) {q q' : Int → Bool} (hq : ∀ x ∈ r.tuples, q' (π x) = q x) : (imgR m.n π r).tuples.all q' = r.tuples.all q ∧ (imgR m.n π r).tuples.any q' = r.tuples.any q := by
 have e : ∀ x ∈ r.tuples, pm m.n π r.arity.toNat x = π x := fun x hx => by
  have := hr.rng x hx
  rw [h1] at this ⊢
  have h2 : x < m.n ^ 1 := this.2
  rw [Int.pow_succ, Int.pow_zero] at h2
  exact pm_one hs.prm x this.1 (by omega)
 constructor
 · rw [Bool.eq_iff_iff, List.all_eq_true, List.all_eq_true]
   constructor
   · intro h x hx
     rw [← hq x hx, ← e x hx]
     exact h _ ((mem_img hs.prm hm.n12 hr).2 ⟨x, hx, rfl⟩)
   · intro h y hy
     obtain ⟨x, hx, rfl⟩ := (mem_img hs.prm hm.n12 hr).1 hy
     rw [e x hx, hq x hx]; exact h x hx
 · rw [Bool.eq_iff_iff, List.any_eq_true, List.any_eq_true]
   constructor
   · rintro ⟨y, hy, h⟩
     obtain ⟨x, hx, rfl⟩ := (mem_img hs.prm hm.n12 hr).1 hy
     rw [e x hx, hq x hx] at h
     exact ⟨x, hx, h⟩
   · rintro ⟨x, hx, h⟩
     refine ⟨_, (mem_img hs.prm hm.n12 hr).2 ⟨x, hx, rfl⟩, ?_⟩
     rw [e x hx, hq x hx]; exact h
theorem in_img {s : Spc} {m : Mdl} (hm : MOk s m) {π : Int → Int} (hs : Sym s m π) {a b : Rl} (ha : a.Ok m.n) (hb : b.Ok m.n) (e : a.arity = b.arity) : (∀ x ∈ (imgR m.n π a).tuples, x ∈ (imgR m.n π b).tuples) ↔ ∀ x ∈ a.tuples, x ∈ b.tuples := by
 have key : ∀ x, x ∈ a.tuples → (pm m.n π a.arity.toNat x ∈ (imgR m.n π b).tuples ↔ x ∈ b.tuples) := fun x hx => by
  obtain ⟨h0, h1⟩ := ha.rng x hx
  rw [e] at h1 ⊢
  exact mem_img_pm hs.prm hm.n12 hb h0 h1
 constructor
 · intro h x hx
   exact (key x hx).1 (h _ ((mem_img hs.prm hm.n12 ha).2 ⟨x, hx, rfl⟩))
 · intro h y hy
   obtain ⟨x, hx, rfl⟩ := (mem_img hs.prm hm.n12 ha).1 hy
   exact (key x hx).2 (h x hx)
theorem eq_img {s : Spc} {m : Mdl} (hm : MOk s m) {π : Int → Int} (hs : Sym s m π) {a b : Rl} (ha : a.Ok m.n) (hb : b.Ok m.n) (e : a.arity = b.arity) : (imgR m.n π a).tuples = (imgR m.n π b).tuples ↔ a.tuples = b.tuples := by
 constructor
 · intro h
   refine up_ext ha.up hb.up fun x => ⟨fun hx => ?_, fun hx => ?_⟩
   · exact (in_img hm hs ha hb e).1 (fun y hy => h ▸ hy) x hx
   · exact (in_img hm hs hb ha e.symm).1 (fun y hy => h ▸ hy) x hx
 · intro h
   cases a; cases b
   simp only at h e
   rw [h, e]
end
theorem until_congr {f g f' g' : Int → Bool} : ∀ (l : List Int) (d x : Bool), (∀ t ∈ l, f t = f' t ∧ g t = g' t) → untilGo f g l d x = untilGo f' g' l d x
 | [], _, _, _ => rfl
 | t :: r, d, x, h => by
  rw [untilGo, untilGo, (h t (List.mem_cons_self ..)).1, (h t (List.mem_cons_self ..)).2, until_congr r _ _ fun u hu => h u (List.mem_cons_of_mem _ hu)]
end Go.Ab
namespace Go.Ab
open Go Go.Proofs
set_option maxRecDepth 10000
theorem fill_var2 (nm : ByteArray) (a : Int) (f : List Bool) (hf : f.length = 64) : ∀ ti, T.get 294 = some ti → fillE (placeOf ti) ti.zero [(0, .p (eS nm)), (1, .agg ((setcs a f).map .p))] = some ((eS nm :: setcs a f).map .p) := fun ti h => fill_var nm a f hf ti h
theorem binder04 (v : Vw) (l : List Vr) (hl : ∀ x ∈ l, x.2.Ok) (hl2 : l.length ≤ 10000000) (n : Nd) (hk : n.kids.length = 2) (Q0 Q1 : Bool → Int → Prop) (H0 : ∀ w : Vw, w.sp = v.sp → ∃ y, ExR (Q0 w.inside) y ∧ AFun Tryz.prog 168 [w.av, .slice 66 (l.map Vr.av), n.kids[0].av] y) (H1 : ∀ (w : Vw) (x : Vr), w.sp = v.sp → x.2.Ok → vty x = (n.name, 1) → ∃ y, ExR (Q1 w.inside) y ∧ AFun Tryz.prog 168 [w.av, .slice 66 ((l ++ [x]).map Vr.av), n.kids[1].av] y) : ∃ y, ExR (fun a => a = 1 ∧ ∃ i, i = (v.inside || decide (n.op = 15)) ∧ Q0 i 1 ∧ ∃ b, Q1 i b) y ∧ AFun Tryz.prog 218 [v.av, .slice 66 (l.map Vr.av), n.ex] y := by
 refine AFunE.intro hT Tryz.func218 rfl rfl (by simp) (ExR.any _) (AD.run hT hmix ?_)
 refine bgo_split (fun hb15 => ?_) (fun hb15 => ?_)
 · skip
   obtain ⟨y, ⟨a, f, e, p, rfl, hf, ha⟩, hx⟩ := H0 { v with inside := true } rfl
   refine igo_map 0 rfl (show 0 < n.kids.length by omega) ?_
   refine .pure [Vw.av { v with inside := true }, .slice 66 (l.map Vr.av), n.kids[0].av] _ rfl hx ?_
   refine bgo_true (by rw [Bool.and_eq_true, Bool.and_eq_true]; exact ⟨len_beq hf, rfl, rfl⟩) ?_
   generalize hy : setSeg _ _ ((setav a f).cells.map EV.p) = y
   obtain rfl : y = (setcs a f).map .p := hy.symm.trans (setSeg_all (zeroOf 240) ((setcs a f).map EV.p) (by rw [setcs_len, hf]; rfl))
   clear hy
   refine ⟨by kernel_rfl, ?_⟩
   refine bgo_split (fun hb => ⟨by kernel_rfl, res_err (by simpa using hb) rfl rfl rfl rfl⟩) (fun he0 => ?_)
   have he0 : e = 0 := by simpa using he0
   refine bgo_split (fun hb => ⟨by kernel_rfl, res_err (by decide) rfl rfl rfl rfl⟩) (fun h1 => ?_)
   have h1 : a = 1 := by simpa using h1
   have hll : (l.map Vr.av).length = l.length := List.length_map _
   obtain ⟨y, ⟨a2, f2, e2, p2, rfl, hf2, ha2⟩, hx2⟩ := H1 { v with inside := true } (n.name, (a, f)) rfl ⟨(by dsimp only; omega), hf⟩ (by rw [h1]; rfl)
   rw [List.map_append] at hx2
   refine ⟨⟨by simp; omega, by simp; omega⟩, ?_⟩
   refine bgo_true (Nat.ble_eq_true_of_le (by rw [setcs_len]; show 0 + 65 ≤ _; omega)) ?_
   generalize hz : List.take _ (List.drop _ ((setcs a f).map EV.p)) = z
   obtain rfl : z = (setcs a f).map .p := hz.symm.trans (take_setcs a f hf)
   clear hz
   refine ogo_of (fill_var2 n.name _ f hf _ rfl) ?_
   refine ogo_of (parts_var (n.name, (a, f)) hf) ?_
   refine bgo_true rfl ⟨(by simp), ⟨by simp; omega, by simp; omega⟩, ?_⟩
   refine igo_map 1 rfl (show 1 < n.kids.length by omega) ?_
   refine .pure [Vw.av { v with inside := true }, .slice 66 (l.map Vr.av ++ [(n.name, (a, f))].map Vr.av), n.kids[1].av] _ rfl hx2 ?_
   refine bgo_true (by rw [Bool.and_eq_true, Bool.and_eq_true]; exact ⟨len_beq hf2, rfl, rfl⟩) ?_
   generalize hy : setSeg _ _ ((setav a2 f2).cells.map EV.p) = y
   clear hy
   refine ⟨by kernel_rfl, ?_⟩
   refine bgo_true (Nat.ble_eq_true_of_le (by rw [setcs_len]; show 0 + 65 ≤ _; omega)) ?_
   generalize hz : List.take _ (List.drop _ ((setcs a f).map EV.p)) = z
   obtain rfl : z = (setcs a f).map .p := hz.symm.trans (take_setcs a f hf)
   clear hz
   refine bgo_true (by rw [Bool.and_eq_true, Bool.and_eq_true]; exact ⟨by rw [setcs_len, hf]; rfl, rfl, rfl⟩) ?_
   exact ⟨by kernel_rfl, res_two hf (fun he2 => ⟨h1, _, (by rw [decide_eq_true (beq_iff_eq.1 hb15), Bool.or_true]), h1 ▸ ha he0, a2, ha2 he2⟩) rfl rfl rfl rfl⟩
 · skip
   obtain ⟨y, ⟨a, f, e, p, rfl, hf, ha⟩, hx⟩ := H0 v rfl
   refine igo_map 0 rfl (show 0 < n.kids.length by omega) ?_
   refine .pure [Vw.av v, .slice 66 (l.map Vr.av), n.kids[0].av] _ rfl hx ?_
   refine bgo_true (by rw [Bool.and_eq_true, Bool.and_eq_true]; exact ⟨len_beq hf, rfl, rfl⟩) ?_
   generalize hy : setSeg _ _ ((setav a f).cells.map EV.p) = y
   obtain rfl : y = (setcs a f).map .p := hy.symm.trans (setSeg_all (zeroOf 240) ((setcs a f).map EV.p) (by rw [setcs_len, hf]; rfl))
   clear hy
   refine ⟨by kernel_rfl, ?_⟩
   refine bgo_split (fun hb => ⟨by kernel_rfl, res_err (by simpa using hb) rfl rfl rfl rfl⟩) (fun he0 => ?_)
   have he0 : e = 0 := by simpa using he0
   refine bgo_split (fun hb => ⟨by kernel_rfl, res_err (by decide) rfl rfl rfl rfl⟩) (fun h1 => ?_)
   have h1 : a = 1 := by simpa using h1
   have hll : (l.map Vr.av).length = l.length := List.length_map _
   obtain ⟨y, ⟨a2, f2, e2, p2, rfl, hf2, ha2⟩, hx2⟩ := H1 v (n.name, (a, f)) rfl ⟨(by dsimp only; omega), hf⟩ (by rw [h1]; rfl)
   rw [List.map_append] at hx2
   refine ⟨⟨by simp; omega, by simp; omega⟩, ?_⟩
   refine bgo_true (Nat.ble_eq_true_of_le (by rw [setcs_len]; show 0 + 65 ≤ _; omega)) ?_
   generalize hz : List.take _ (List.drop _ ((setcs a f).map EV.p)) = z
   obtain rfl : z = (setcs a f).map .p := hz.symm.trans (take_setcs a f hf)
   clear hz
   refine ogo_of (fill_var2 n.name _ f hf _ rfl) ?_
   refine ogo_of (parts_var (n.name, (a, f)) hf) ?_
   refine bgo_true rfl ⟨(by simp), ⟨by simp; omega, by simp; omega⟩, ?_⟩
   refine igo_map 1 rfl (show 1 < n.kids.length by omega) ?_
   refine .pure [Vw.av v, .slice 66 (l.map Vr.av ++ [(n.name, (a, f))].map Vr.av), n.kids[1].av] _ rfl hx2 ?_
   refine bgo_true (by rw [Bool.and_eq_true, Bool.and_eq_true]; exact ⟨len_beq hf2, rfl, rfl⟩) ?_
   generalize hy : setSeg _ _ ((setav a2 f2).cells.map EV.p) = y
   clear hy
   refine ⟨by kernel_rfl, ?_⟩
   refine bgo_true (Nat.ble_eq_true_of_le (by rw [setcs_len]; show 0 + 65 ≤ _; omega)) ?_
   generalize hz : List.take _ (List.drop _ ((setcs a f).map EV.p)) = z
   obtain rfl : z = (setcs a f).map .p := hz.symm.trans (take_setcs a f hf)
   clear hz
   refine bgo_true (by rw [Bool.and_eq_true, Bool.and_eq_true]; exact ⟨by rw [setcs_len, hf]; rfl, rfl, rfl⟩) ?_
   exact ⟨by kernel_rfl, res_two hf (fun he2 => ⟨h1, _, (by rw [decide_eq_false (by simpa using hb15), Bool.or_false]), h1 ▸ ha he0, a2, ha2 he2⟩) rfl rfl rfl rfl⟩
theorem fin_diag {env : Env} {h : AHp} {e p : Int} (h2 : lk env 6 = .loc 6 0) (h3 : hp h 6 = .box 103 [.p (eI e), .p (eI p)]) : ∃ es xs, resAll T env h [.cell 6 103] = some es ∧ toPs es = some xs ∧ ∃ e p, retEV xs = .p (Dg e p) := by
 have r2 : resAll T env h [.cell 6 103] = some [.agg [.p (eI e), .p (eI p)]] := res_cell rfl h2 h3 rfl rfl
 exact ⟨_, _, r2, rfl, e, p, rfl⟩
set_option maxHeartbeats 1000000 in
theorem call04 (v : Vw) (l : List Vr) (n : Nd) (hpl : ∀ p ∈ v.sp.preds, p.params.length ≤ 1000) (H : ∀ w : Vw, w.sp = v.sp → ∀ k ∈ n.kids, ∃ y, ExR (fun _ => True) y ∧ AFun Tryz.prog 168 [w.av, .slice 66 (l.map Vr.av), k.av] y) : ∃ e p, AFun Tryz.prog 217 [v.av, .slice 66 (l.map Vr.av), n.ex] (.p (Dg e p)) := by
 suffices hh : ∃ y, (∃ e p, y = .p (Dg e p)) ∧ AFun Tryz.prog 217 [v.av, .slice 66 (l.map Vr.av), n.ex] y by
  obtain ⟨y, ⟨e, p, rfl⟩, hf⟩ := hh
  exact ⟨e, p, hf⟩
 refine AFunE.intro hT Tryz.func217 rfl rfl (by simp) ⟨_, 0, 0, rfl⟩ (AD.run hT hmix ?_)
 have hl1 : (v.sp.preds.map Prd.ex).length = v.sp.preds.length := List.length_map _
 have hl2 : (n.kids.map Nd.av).length = n.kids.length := List.length_map _
 obtain ⟨p, hp, hpf⟩ := pred04 v.sp v.calls n.name
 refine .pure [v.sp.ex, eI v.calls, eS n.name] _ rfl hpf ?_
 refine bgo_split (fun hb => ?_) (fun hb => ?_)
 · obtain ⟨q, hq, hqf⟩ := pred04 v.sp (v.sp.preds.map Prd.ex).length n.name
   intro _
   refine .pure [v.sp.ex, eI (v.sp.preds.map Prd.ex).length, eS n.name] _ rfl hqf ?_
   exact bgo_split (fun _ => fin_diag rfl rfl) (fun _ => fin_diag rfl rfl)
 replace hb := of_decide_eq_false hb
 obtain ⟨j, rfl⟩ := Int.eq_ofNat_of_zero_le (show 0 ≤ p by omega)
 have hj : j < v.sp.preds.length := by omega
 have hpj := hpl _ (List.getElem_mem hj)
 have hl3 : (v.sp.preds[j].params.map Param.av).length = v.sp.preds[j].params.length := List.length_map _
 refine igo_map j rfl hj ?_
 intro _ _
 refine bgo_split (fun _ => fin_diag rfl rfl) (fun hc => ?_)
 have hc : n.kids.length = v.sp.preds[j].params.length := by
  have hc : (((n.kids.map Nd.av).length : Nat) : Int) = (((v.sp.preds[j].params.map Param.av).length : Nat) : Int) := by simpa using hc
  omega
 refine AD.loopI (fun i : Nat => i ≤ n.kids.length) (fun i => n.kids.length - i) (fun i => [(1, .p (.slice 66 (l.map Vr.av))), (3, .loc 3 0), (5, .loc 5 0), (6, .loc 6 0), (8, .p (.slice 2 (v.sp.preds[j].params.map Param.av))), (9, eint .i64 i)]) (fun _ => [(3, .box 245 ((Vw.cs { v with inside := true }).map .p)), (5, .box 35 ([eI n.op, eS n.name, eI n.n, .slice 5 (n.kids.map Nd.av), eI n.at_].map .p)), (6, .box 103 [.p (eI 0), .p (eI 0)])]) 0 (Nat.zero_le _) .of fun i hi => AD.run hT hmix ?_
 intro _
 refine bgo_split (fun hb2 => ?_) (fun hb2 => fin_diag rfl rfl)
 replace hb2 := of_decide_eq_true hb2
 have hlt : i < n.kids.length := by omega
 have hlt2 : i < v.sp.preds[j].params.length := by omega
 obtain ⟨y, ⟨a, f, e, q, rfl, hf, _⟩, hx⟩ := H { v with inside := true } rfl _ (List.getElem_mem hlt)
 refine igo_map i rfl hlt ?_
 refine .pure [Vw.av { v with inside := true }, .slice 66 (l.map Vr.av), n.kids[i].av] _ rfl hx ?_
 refine bgo_true (by rw [Bool.and_eq_true, Bool.and_eq_true]; exact ⟨len_beq hf, rfl, rfl⟩) ?_
 generalize hy : setSeg _ _ ((setav a f).cells.map EV.p) = y
 obtain rfl : y = (setcs a f).map .p := hy.symm.trans (setSeg_all (zeroOf 240) ((setcs a f).map EV.p) (by rw [setcs_len, hf]; rfl))
 clear hy
 refine ⟨by kernel_rfl, ?_⟩
 refine bgo_split (fun hd => fin_diag rfl rfl) (fun hd => ?_)
 refine bgo_split (fun he => fin_diag rfl rfl) (fun he => ?_)
 refine AD.loopI (fun k : Nat => k ≤ 4) (fun k => 4 - k) (fun k => [(1, .p (.slice 66 (l.map Vr.av))), (3, .loc 3 0), (5, .loc 5 0), (6, .loc 6 0), (8, .p (.slice 2 (v.sp.preds[j].params.map Param.av))), (9, eint .i64 i), (10, .loc 10 0), (12, eint .i64 k)]) (fun _ => [(3, .box 245 ((Vw.cs { v with inside := true }).map .p)), (5, .box 35 ([eI n.op, eS n.name, eI n.n, .slice 5 (n.kids.map Nd.av), eI n.at_].map .p)), (6, .box 103 [.p (eI 0), .p (eI 0)]), (10, .box 240 ((setcs a f).map .p))]) 0 (Nat.zero_le _) .of fun k hk => AD.run hT hmix ?_
 refine bgo_split (fun hb3 => ?_) (fun hb3 => ?_)
 · replace hb3 := of_decide_eq_true hb3
   have hk64 : k < 64 := by omega
   refine ⟨k, rfl, hk64, ogo_of (nth_setcs a f k (by omega)) ?_⟩
   refine bgo_split (fun hv => ?_) (fun hv => ?_)
   · refine igo_map i rfl hlt2 ?_
     refine bgo_split (fun hw => fin_diag rfl rfl) (fun hw => ?_)
     exact ngo_in (by omega) (by omega) ⟨k + 1, by omega, by omega, .of⟩
   · exact ngo_in (by omega) (by omega) ⟨k + 1, by omega, by omega, .of⟩
 · exact ngo_in (by omega) (by omega) ⟨i + 1, by omega, by omega, .of⟩
inductive NoT : Bool → Nd → Prop
 | mk {i : Bool} {n : Nd} (h : i = true → timedOp n.op = false) (hk : n.op ≠ 47 → ∀ k ∈ n.kids, NoT (i || decide (n.op = 12 ∨ n.op = 13 ∨ n.op = 15)) k) : NoT i n
mutual
def Nd.sz : Nd → Nat
 | .mk _ _ _ kids _ => 1 + Nd.szs kids
def Nd.szs : List Nd → Nat
 | [] => 0
 | x :: r => x.sz + Nd.szs r
end
theorem Nd.szs_mem : ∀ {l : List Nd} {k : Nd}, k ∈ l → k.sz ≤ Nd.szs l
 | x :: r, k, h => by
  rw [Nd.szs]
  rcases List.mem_cons.1 h with rfl | h
  · omega
  · have := Nd.szs_mem h; omega
theorem Nd.sz_kid {n k : Nd} (h : k ∈ n.kids) : k.sz < n.sz := by
 cases n with
 | mk op name num kids a => have := Nd.szs_mem (l := kids) h; rw [Nd.sz]; omega
theorem partsP_set {a : Int} {f : List Bool} (hf : f.length = 64) : partsP 65 0 [(0, .agg ((setcs a f).map .p))] = some [setav a f] := by
 have h1 := toPs_p (setcs a f)
 simp only [toPs] at h1
 have hl : (setcs a f).length = 65 := by simp [setcs, hf]
 simp only [partsP, toP, h1, Option.map_some, AV.cells, hl, Nat.beq_refl, cond_true]
 rfl
theorem WF_few {n : Nd} (h : n.WF) : n.kids.length ≤ 401 := by
 obtain ⟨⟨⟨s, h1, h2, _⟩, _⟩, _⟩ := (Nd.WF_iff n).1 h
 rw [← h2]
 unfold shapeOf at h1
 repeat' split at h1
 all_goals first | (obtain rfl := Option.some.inj h1; simp [ByteArray.size]; done) | (obtain rfl := Option.some.inj h1; simp [ByteArray.size]; omega) | cases h1
theorem res_zero {env : Env} {h : AHp} {e p : Int} {Q : Int → Prop} (he : e = 0 → Q 0) (h2 : lk env 6 = .loc 6 0) (h3 : hp h 6 = .box 240 (setSeg (zeroOf 240) 0 (zeroOf 240))) (h4 : lk env 7 = .loc 7 0) (h5 : hp h 7 = .box 103 [.p (eI e), .p (eI p)]) : ∃ es xs, resAll T env h [.cell 6 240, .cell 7 103] = some es ∧ toPs es = some xs ∧ ExR Q (retEV xs) := by
 have ez : zeroOf 240 = (setcs 0 (List.replicate 64 false)).map .p := by
  have e : zeroOf 240 = .p (eI 0) :: List.replicate 64 (.p (eB false)) := rfl
  rw [e]; simp [setcs, List.map_replicate]
 refine res_two (A := 0) (f := List.replicate 64 false) List.length_replicate he h2 ?_ h4 h5
 rw [← ez]; exact h3
def Ex (s : Spc) (i : Bool) (env : List (ByteArray × Int)) (n : Nd) (a : Int) : Prop := Ty s env n a ∧ NoT i n ∧ (n.isR → 1 ≤ a ∧ a ≤ 3)
set_option maxHeartbeats 2000000 in
theorem examine04 (s : Spc) (hs : s.Fit) (hnm : ∀ x ∈ s.sorts, x.name.size ≤ 1048576) (n : Nd) : n.WF → ∀ (v : Vw) (l : List Vr), v.sp = s → (∀ x ∈ l, x.2.Ok) → l.length + n.sz ≤ 5000000 → ∃ y, ExR (Ex s v.inside (l.map vty) n) y ∧ AFun Tryz.prog 168 [v.av, .slice 66 (l.map Vr.av), n.av] y := by
 induction n using Nd.ind with
 | h n ih =>
  intro hw v l hv hl hsz
  rw [Nd.av_ex]
  have hkl : (n.kids.map Nd.av).length = n.kids.length := List.length_map _
  have hfew := WF_few hw
  have ht := timed04 n.op
  obtain ⟨tb, htb⟩ := tpred04 v.sp v.temp v.calls n.name
  have hso : ∀ f ∈ v.sp.fields, SortsOk v.sp.sorts.length f.sorts := by rw [hv]; exact hs.fld
  have hn1 := hs.n1
  have hn2 := hs.n2
  have IH : ∀ k ∈ n.kids, ∀ (w : Vw) (l' : List Vr), w.sp = s → (∀ x ∈ l', x.2.Ok) → l'.length + k.sz ≤ 5000000 → ∃ y, ExR (Ex s w.inside (l'.map vty) k) y ∧ AFun Tryz.prog 168 [w.av, .slice 66 (l'.map Vr.av), k.av] y := fun k hk => ih k hk (((Nd.WF_iff n).1 hw).2 k hk)
  refine AFunE.intro hT Tryz.func168 rfl rfl (by simp) (ExR.any _) (AD.cut hT hmix 3 (fun _ : Unit => v.inside = true → timedOp n.op = false) (fun _ => [(1, .p (.slice 66 (l.map Vr.av))), (3, .loc 3 0), (5, .loc 5 0), (6, .loc 6 0), (7, .loc 7 0)]) (fun _ => [(3, .box 245 ((Vw.cs v).map .p)), (5, .box 35 ([eI n.op, eS n.name, eI n.n, .slice 5 (n.kids.map Nd.av), eI n.at_].map .p)), (6, .box 240 (zeroOf 240)), (7, .box 103 [.p (eI 0), .p (eI 0)])]) ?_ fun _ hti => AD.cut hT hmix 15 (fun b : Bool => (n.op ≠ 1 ∧ n.op ≠ 47 ∧ n.op ≠ 15 ∧ n.op ≠ 45 ∧ n.op ≠ 46) ∧ b = (v.inside || decide (n.op = 12 ∨ n.op = 13 ∨ n.op = 15))) (fun _ => [(1, .p (.slice 66 (l.map Vr.av))), (3, .loc 3 0), (5, .loc 5 0), (6, .loc 6 0), (7, .loc 7 0)]) (fun b => [(3, .box 245 ((Vw.cs { v with inside := b }).map .p)), (5, .box 35 ([eI n.op, eS n.name, eI n.n, .slice 5 (n.kids.map Nd.av), eI n.at_].map .p)), (6, .box 240 (zeroOf 240)), (7, .box 103 [.p (eI 0), .p (eI 0)])]) ?_ fun b ⟨hop, hb⟩ => AD.run hT hmix ?_)
  · refine bgo_split (fun hi => ?_) (fun hi => ⟨(), fun h => (by rw [hi] at h; cases h), .of⟩)
    refine .pure _ _ rfl ht ?_
    refine bgo_split (fun h1 => ⟨by kernel_rfl, res_err (by decide) rfl rfl rfl rfl⟩) (fun h1 => ?_)
    refine bgo_split (fun h2 => ?_) (fun h2 => ⟨(), fun _ => h1, .of⟩)
    refine .pure [v.sp.ex, .slice 1 (v.temp.map eB), eI v.calls, eS n.name] _ rfl htb ?_
    exact bgo_split (fun h3 => ⟨by kernel_rfl, res_err (by decide) rfl rfl rfl rfl⟩) (fun h3 => ⟨(), fun _ => h1, .of⟩)
  · refine bgo_split (fun h1 => ?_) (fun h1 => ?_)
    · have h1 : n.op = 1 := beq_iff_eq.1 h1
      obtain ⟨y, ⟨a, f, e, p, rfl, hf, ha⟩, hx⟩ := name04 v (by rw [hv]; omega) (by rw [hv]; omega) hso (by rw [hv]; exact hnm) l hl n
      refine .pure [v.av, .slice 66 (l.map Vr.av), n.ex] _ rfl hx ?_
      refine bgo_true (by rw [Bool.and_eq_true, Bool.and_eq_true]; exact ⟨len_beq hf, rfl, rfl⟩) ?_
      refine res_two hf (fun he => ?_) rfl rfl rfl rfl
      obtain ⟨t1, t2⟩ := ha he
      rw [hv] at t1
      exact ⟨.name h1 t1, .mk hti (fun _ k hk => (by rw [wf_0 hw (by omega)] at hk; cases hk)), fun _ => t2⟩
    refine bgo_split (fun h2 => ?_) (fun h2 => ?_)
    · have h2 : n.op = 47 := beq_iff_eq.1 h2
      obtain ⟨e, p, hx⟩ := call04 v l n (by rw [hv]; exact fun p hp => by have := (hs.prd p hp).1.1; omega) (fun w hw2 k hk => by
       obtain ⟨y, ⟨a, f, e, p, h1, h2, _⟩, hx⟩ := IH k hk w l (hw2.trans hv) hl (by have := Nd.sz_kid hk; omega)
       exact ⟨y, ⟨a, f, e, p, h1, h2, fun _ => trivial⟩, hx⟩)
      refine .pure [v.av, .slice 66 (l.map Vr.av), n.ex] _ rfl hx ?_
      exact res_zero (fun _ => ⟨.call h2, .mk hti (fun h => absurd h2 h), fun h => by unfold Nd.isR at h; omega⟩) rfl rfl rfl rfl
    refine bgo_split (fun h3 => ?_) (fun h3 => ?_)
    · refine bgo_true h3 ?_
      have h3 : n.op = 15 := beq_iff_eq.1 h3
      obtain ⟨k0, k1, hk, w0, w1⟩ := wf_ef hw (by omega)
      have hk0 : n.kids[0]'(by rw [hk]; simp) = k0 := by simp [hk]
      have hk1 : n.kids[1]'(by rw [hk]; simp) = k1 := by simp [hk]
      obtain ⟨y, ⟨a, f, e, p, rfl, hf, ha⟩, hx⟩ := binder04 v l hl (by omega) n (by rw [hk]; rfl) (fun i => Ex s i (l.map vty) k0) (fun i => Ex s i (l.map vty ++ [(n.name, 1)]) k1) (fun w hw2 => by
       rw [hk0]
       exact IH k0 (by rw [hk]; simp) w l (hw2.trans hv) hl (by have := Nd.sz_kid (n := n) (k := k0) (by rw [hk]; simp); omega)) (fun w x hw2 hx hxt => by
       rw [hk1]
       have := IH k1 (by rw [hk]; simp) w (l ++ [x]) (hw2.trans hv) (fun z hz => by
        rcases List.mem_append.1 hz with hz | hz
        · exact hl z hz
        · obtain rfl := List.mem_singleton.1 hz; exact hx) (by have := Nd.sz_kid (n := n) (k := k1) (by rw [hk]; simp); rw [List.length_append, List.length_singleton]; omega)
       rw [List.map_append (f := vty), List.map_singleton, hxt] at this
       exact this)
      refine .pure [v.av, .slice 66 (l.map Vr.av), n.ex] _ rfl hx ?_
      refine bgo_true (by rw [Bool.and_eq_true, Bool.and_eq_true]; exact ⟨len_beq hf, rfl, rfl⟩) ?_
      refine res_two hf (fun he => ?_) rfl rfl rfl rfl
      obtain ⟨rfl, i, hi, q0, b, q1⟩ := ha he
      refine ⟨.bind (by omega) hk q0.1 q1.1, .mk hti (fun _ k hkm => ?_), fun _ => by omega⟩
      rw [show (v.inside || decide (n.op = 12 ∨ n.op = 13 ∨ n.op = 15)) = i by rw [hi]; congr 1; rw [decide_eq_decide]; omega]
      rw [hk] at hkm
      rcases List.mem_cons.1 hkm with rfl | hkm
      · exact q0.2.1
      · obtain rfl := List.mem_singleton.1 hkm; exact q1.2.1
    refine bgo_split (fun h4 => ?_) (fun h4 => ?_)
    · refine bgo_true h4 ?_
      have h4 : n.op = 45 := beq_iff_eq.1 h4
      obtain ⟨k0, k1, hk, w0, w1⟩ := wf_ef hw (by omega)
      have hk0 : n.kids[0]'(by rw [hk]; simp) = k0 := by simp [hk]
      have hk1 : n.kids[1]'(by rw [hk]; simp) = k1 := by simp [hk]
      obtain ⟨y, ⟨a, f, e, p, rfl, hf, ha⟩, hx⟩ := binder04 v l hl (by omega) n (by rw [hk]; rfl) (fun i => Ex s i (l.map vty) k0) (fun i => Ex s i (l.map vty ++ [(n.name, 1)]) k1) (fun w hw2 => by
       rw [hk0]
       exact IH k0 (by rw [hk]; simp) w l (hw2.trans hv) hl (by have := Nd.sz_kid (n := n) (k := k0) (by rw [hk]; simp); omega)) (fun w x hw2 hx hxt => by
       rw [hk1]
       have := IH k1 (by rw [hk]; simp) w (l ++ [x]) (hw2.trans hv) (fun z hz => by
        rcases List.mem_append.1 hz with hz | hz
        · exact hl z hz
        · obtain rfl := List.mem_singleton.1 hz; exact hx) (by have := Nd.sz_kid (n := n) (k := k1) (by rw [hk]; simp); rw [List.length_append, List.length_singleton]; omega)
       rw [List.map_append (f := vty), List.map_singleton, hxt] at this
       exact this)
      refine .pure [v.av, .slice 66 (l.map Vr.av), n.ex] _ rfl hx ?_
      refine bgo_true (by rw [Bool.and_eq_true, Bool.and_eq_true]; exact ⟨len_beq hf, rfl, rfl⟩) ?_
      refine res_two hf (fun he => ?_) rfl rfl rfl rfl
      obtain ⟨rfl, i, hi, q0, b, q1⟩ := ha he
      refine ⟨.bind (by omega) hk q0.1 q1.1, .mk hti (fun _ k hkm => ?_), fun _ => by omega⟩
      rw [show (v.inside || decide (n.op = 12 ∨ n.op = 13 ∨ n.op = 15)) = i by rw [hi]; congr 1; rw [decide_eq_decide]; omega]
      rw [hk] at hkm
      rcases List.mem_cons.1 hkm with rfl | hkm
      · exact q0.2.1
      · obtain rfl := List.mem_singleton.1 hkm; exact q1.2.1
    refine bgo_split (fun h5 => ?_) (fun h5 => ?_)
    · have h5 : n.op = 46 := beq_iff_eq.1 h5
      obtain ⟨k0, k1, hk, w0, w1⟩ := wf_ef hw (by omega)
      have hk0 : n.kids[0]'(by rw [hk]; simp) = k0 := by simp [hk]
      have hk1 : n.kids[1]'(by rw [hk]; simp) = k1 := by simp [hk]
      obtain ⟨y, ⟨a, f, e, p, rfl, hf, ha⟩, hx⟩ := binder04 v l hl (by omega) n (by rw [hk]; rfl) (fun i => Ex s i (l.map vty) k0) (fun i => Ex s i (l.map vty ++ [(n.name, 1)]) k1) (fun w hw2 => by
       rw [hk0]
       exact IH k0 (by rw [hk]; simp) w l (hw2.trans hv) hl (by have := Nd.sz_kid (n := n) (k := k0) (by rw [hk]; simp); omega)) (fun w x hw2 hx hxt => by
       rw [hk1]
       have := IH k1 (by rw [hk]; simp) w (l ++ [x]) (hw2.trans hv) (fun z hz => by
        rcases List.mem_append.1 hz with hz | hz
        · exact hl z hz
        · obtain rfl := List.mem_singleton.1 hz; exact hx) (by have := Nd.sz_kid (n := n) (k := k1) (by rw [hk]; simp); rw [List.length_append, List.length_singleton]; omega)
       rw [List.map_append (f := vty), List.map_singleton, hxt] at this
       exact this)
      refine .pure [v.av, .slice 66 (l.map Vr.av), n.ex] _ rfl hx ?_
      refine bgo_true (by rw [Bool.and_eq_true, Bool.and_eq_true]; exact ⟨len_beq hf, rfl, rfl⟩) ?_
      refine res_two hf (fun he => ?_) rfl rfl rfl rfl
      obtain ⟨rfl, i, hi, q0, b, q1⟩ := ha he
      refine ⟨.bind (by omega) hk q0.1 q1.1, .mk hti (fun _ k hkm => ?_), fun _ => by omega⟩
      rw [show (v.inside || decide (n.op = 12 ∨ n.op = 13 ∨ n.op = 15)) = i by rw [hi]; congr 1; rw [decide_eq_decide]; omega]
      rw [hk] at hkm
      rcases List.mem_cons.1 hkm with rfl | hkm
      · exact q0.2.1
      · obtain rfl := List.mem_singleton.1 hkm; exact q1.2.1
    simp only [beq_eq_false_iff_ne] at h1 h2 h3 h4 h5
    refine bgo_split (fun h6 => ?_) (fun h6 => ?_)
    · refine bgo_true h6 ?_
      have h6 : n.op = 12 := beq_iff_eq.1 h6
      refine ⟨true, ⟨by omega, ?_⟩, .of⟩
      simp [h6]
    refine bgo_split (fun h7 => ?_) (fun h7 => ?_)
    · have h7 : n.op = 13 := beq_iff_eq.1 h7
      refine ⟨true, ⟨by omega, ?_⟩, .of⟩
      simp [h7]
    simp only [beq_eq_false_iff_ne] at h6 h7
    refine ⟨v.inside, ⟨by omega, ?_⟩, .of⟩
    simp [h6, h7, h3]
  · refine AD.loopI (fun x : Nat × List Sx => x.1 ≤ n.kids.length ∧ x.2.length = x.1 ∧ ∀ (j : Nat) (h : j < x.2.length) (h' : j < n.kids.length), x.2[j].2.length = 64 ∧ Ex s b (l.map vty) n.kids[j] x.2[j].1) (fun x => n.kids.length - x.1) (fun x => [(1, .p (.slice 66 (l.map Vr.av))), (3, .loc 3 0), (5, .loc 5 0), (6, .loc 6 0), (7, .loc 7 0), (8, .own 65 (x.2.map Sx.av) 98), (9, eint .i64 x.1)]) (fun x => [(3, .box 245 ((Vw.cs { v with inside := b }).map .p)), (5, .box 35 ([eI n.op, eS n.name, eI n.n, .slice 5 (n.kids.map Nd.av), eI n.at_].map .p)), (6, .box 240 (zeroOf 240)), (7, .box 103 [.p (eI 0), .p (eI 0)]), (98, .tail x.2.length)]) (0, []) ⟨Nat.zero_le _, rfl, fun j h => absurd h (Nat.not_lt_zero j)⟩ .of fun ⟨i, xs⟩ ⟨hi, hl1, hk⟩ => AD.run hT hmix ?_
    dsimp only at hi hl1 hk ⊢
    have hxl : (xs.map Sx.av).length = xs.length := List.length_map _
    intro _
    refine bgo_split (fun hb2 => ?_) (fun hb2 => ?_)
    · replace hb2 := of_decide_eq_true hb2
      have hlt : i < n.kids.length := by omega
      obtain ⟨y, ⟨a, f, e, p, rfl, hf, ha⟩, hx⟩ := IH _ (List.getElem_mem hlt) { v with inside := b } l hv hl (by have := Nd.sz_kid (List.getElem_mem hlt); omega)
      refine igo_map i rfl hlt ?_
      refine .pure [Vw.av { v with inside := b }, .slice 66 (l.map Vr.av), n.kids[i].av] _ rfl hx ?_
      refine bgo_true (by rw [Bool.and_eq_true, Bool.and_eq_true]; exact ⟨len_beq hf, rfl, rfl⟩) ?_
      generalize hy : setSeg _ _ ((setav a f).cells.map EV.p) = y
      obtain rfl : y = (setcs a f).map .p := hy.symm.trans (setSeg_all (zeroOf 240) ((setcs a f).map EV.p) (by rw [setcs_len, hf]; rfl))
      clear hy
      refine ⟨by kernel_rfl, ?_⟩
      refine bgo_split (fun hc => ⟨by kernel_rfl, res_err (by simpa using hc) rfl rfl rfl rfl⟩) (fun hc => ?_)
      have hc : e = 0 := by simpa using hc
      refine bgo_true (Nat.ble_eq_true_of_le (by rw [setcs_len]; show 0 + 65 ≤ _; omega)) ?_
      generalize hz : List.take _ (List.drop _ ((setcs a f).map EV.p)) = z
      obtain rfl : z = (setcs a f).map .p := hz.symm.trans (take_setcs a f hf)
      clear hz
      refine ogo_of (partsP_set hf) ?_
      have e1 : (xs ++ [(a, f)]).map Sx.av = xs.map Sx.av ++ [setav a f] := by simp [Sx.av]
      refine bgo_true rfl ⟨hxl.symm, ⟨by simp; omega, by simp; omega⟩, ngo_in (by omega) (by omega) ⟨(i + 1, xs ++ [(a, f)]), ⟨by dsimp only; omega, by simp; omega, fun j h h' => ?_⟩, by dsimp only; omega, ?_⟩⟩
      · dsimp only at h h' ⊢
        by_cases hj : j < xs.length
        · simp only [List.getElem_append_left hj]; exact hk j hj h'
        · obtain rfl : j = i := by simp at h; omega
          have e2 : (xs ++ [(a, f)])[j]'h = (a, f) := by rw [List.getElem_append_right (by omega)]; simp [hl1]
          rw [e2]
          exact ⟨hf, ha hc⟩
      · dsimp only
        rw [e1, show (xs ++ [(a, f)]).length = (xs.map Sx.av ++ [setav a f]).length by simp]
        exact .of
    · replace hb2 := of_decide_eq_false hb2
      obtain rfl : i = n.kids.length := by omega
      have hnum := ((Nd.WF_iff n).1 hw).1.2.1
      have g1 : n.op = 5 ∨ n.op = 11 ∨ n.op = 12 ∨ n.op = 13 → ∃ x : Sx, xs = [x] ∧ x.Ok := fun ho => by
       obtain ⟨k0, hk0, w0, r0⟩ := wf_e hw (by omega)
       rw [hk0] at hl1
       match xs, hl1 with
       | [x], _ =>
        obtain ⟨q1, q2⟩ := hk 0 (by simp) (by rw [hk0]; simp)
        exact ⟨x, rfl, q2.2.2 (by simpa [hk0] using r0), q1⟩
      have g2 : (6 ≤ n.op ∧ n.op ≤ 10) ∨ n.op = 14 ∨ n.op = 32 ∨ n.op = 33 → ∃ x y : Sx, xs = [x, y] ∧ x.Ok ∧ y.Ok := fun ho => by
       obtain ⟨k0, k1, hk0, ⟨w0, r0⟩, w1, r1⟩ := wf_ee hw (by omega)
       rw [hk0] at hl1
       match xs, hl1 with
       | [x, y], _ =>
        obtain ⟨q1, q2⟩ := hk 0 (by simp) (by rw [hk0]; simp)
        obtain ⟨p1, p2⟩ := hk 1 (by simp) (by rw [hk0]; simp)
        exact ⟨x, y, rfl, ⟨q2.2.2 (by simpa [hk0] using r0), q1⟩, p2.2.2 (by simpa [hk0] using r1), p1⟩
      obtain ⟨y, ⟨a, f, ok, rfl, hf, ha⟩, hx⟩ := apply04 v.sp (by rw [hv]; omega) n xs hnum g1 g2 ⟨hop.1, hop.2.2.1⟩
      refine .pure [v.sp.ex, n.ex, .slice 65 (xs.map Sx.av)] _ rfl hx ?_
      refine bgo_true (by rw [Bool.and_eq_true, Bool.and_eq_true]; exact ⟨len_beq hf, rfl, rfl⟩) ?_
      generalize hy : setSeg _ _ ((setav a f).cells.map EV.p) = y
      obtain rfl : y = (setcs a f).map .p := hy.symm.trans (setSeg_all (zeroOf 240) ((setcs a f).map EV.p) (by rw [setcs_len, hf]; rfl))
      clear hy
      refine bgo_split (fun hc => ⟨by kernel_rfl, res_err (by decide) rfl rfl rfl rfl⟩) (fun hc => ?_)
      have hc : ok = true := by simpa using hc
      refine bgo_true (Nat.ble_eq_true_of_le (by rw [setcs_len]; show 0 + 65 ≤ _; omega)) ?_
      generalize hz : List.take _ (List.drop _ ((setcs a f).map EV.p)) = z
      obtain rfl : z = (setcs a f).map .p := hz.symm.trans (take_setcs a f hf)
      clear hz
      refine bgo_true (by rw [Bool.and_eq_true, Bool.and_eq_true]; exact ⟨by rw [setcs_len, hf]; rfl, rfl, rfl⟩) ?_
      refine res_two hf (fun _ => ?_) rfl rfl rfl rfl
      obtain ⟨a1, a2⟩ := ha hc
      refine ⟨.app hop (xs.map (·.1)) (by rw [List.length_map]; exact hl1) (fun j h h' => ?_) a1, .mk hti (fun _ k hkm => ?_), fun hR => a2 hR.1 hR.2⟩
      · rw [List.getElem_map]; exact (hk j (by simpa using h') h).2.1
      · obtain ⟨j, h, rfl⟩ := List.getElem_of_mem hkm
        rw [← hb]; exact (hk j (by omega) h).2.2.1
def mcs (s : Spc) (m : Mdl) : List AV := m.cs ++ s.cx ++ [eI m.n]
def mch (s : Spc) (m : Mdl) : AV := .ref (mcs s m)
def bdA (b : ByteArray × Int) : AV := .agg [eS b.1, eI b.2]
def plc (st : Int) (env : List (ByteArray × Int)) : AV := .agg [eI st, .slice 2 (env.map bdA)]
def CX (s : Spc) (m : Mdl) (k : Nd) (st : Int) (env : List (ByteArray × Int)) (r : Rl) : Prop := AFun Tryz.prog 32 [mch s m, plc st env, k.ex] (.p r.av)
def CN (s : Spc) (m : Mdl) (k : Nd) (st : Int) (env : List (ByteArray × Int)) (i : Int) : Prop := AFun Tryz.prog 80 [mch s m, plc st env, k.ex] (.p (eI i))
def CF (s : Spc) (m : Mdl) (k : Nd) (st : Int) (env : List (ByteArray × Int)) (b : Bool) : Prop := AFun Tryz.prog 37 [mch s m, plc st env, k.ex] (.p (eB b))
theorem pairP {s : Spc} {m : Mdl} {n : Nd} {k0 k1 : Nd} (hk : n.kids = [k0, k1]) {st : Int} {env : List (ByteArray × Int)} {r0 r1 : Rl} (h0 : CX s m k0 st env r0) (h1 : CX s m k1 st env r1) (e : r0.arity = r1.arity) :
 AFun Tryz.prog 79 [mch s m, plc st env, n.ex] (.tup [.p r0.av, .p r1.av]) := by
 have hkm : n.kids.map Nd.av = [k0.ex, k1.ex] := by rw [hk, Nd.av_ex]; rfl
 refine AFun.of hT Tryz.func79 rfl rfl (by simp) ?_
 rw [show n.ex = .agg [eI n.op, eS n.name, eI n.n, .slice 5 [k0.ex, k1.ex], eI n.at_] by rw [Nd.ex, hkm]]
 refine AD.run hT hmix ?_
 refine ⟨0, _, rfl, rfl, ?_⟩
 refine .pure [mch s m, plc st env, k0.ex] _ rfl h0 ?_
 refine ⟨1, _, rfl, rfl, ?_⟩
 refine .pure [mch s m, plc st env, k1.ex] _ rfl h1 ?_
 refine ⟨by kernel_rfl, bgo_false (by simp [e]) ⟨by kernel_rfl, _, _, rfl, rfl, rfl⟩⟩
def JP (n : Int) : Prop := ∀ a b : Rl, a.Ok n → b.Ok n → 1 ≤ a.arity + b.arity - 2 → a.arity + b.arity - 2 ≤ 3 → AFun Tryz.prog 117 [eI n, a.av, b.av] (.tup [.p (rJoin n a b).av, .p (eI 0)])
theorem rInter_eq {n : Int} (hn0 : 0 < n) (hn : n ≤ 12) {a b : Rl} (ha : a.Ok n) : (⟨a.arity, a.tuples.filter fun x => decide (x ∈ b.tuples)⟩ : Rl) = rInter a b := by
 rw [rInter, cl_eq (l := a.tuples.filter fun x => decide (x ∈ b.tuples)) (S := fun x => x ∈ a.tuples ∧ x ∈ b.tuples) (ha.up.filter _) fun x => ?_]
 rw [List.mem_filter, decide_eq_true_eq]
 exact ⟨fun h => ⟨ok_rng hn0 hn ha h.1, h⟩, fun h => h.2⟩
theorem rDiff_eq {n : Int} (hn0 : 0 < n) (hn : n ≤ 12) {a b : Rl} (ha : a.Ok n) : (⟨a.arity, a.tuples.filter fun x => decide (x ∉ b.tuples)⟩ : Rl) = rDiff a b := by
 rw [rDiff, cl_eq (l := a.tuples.filter fun x => decide (x ∉ b.tuples)) (S := fun x => x ∈ a.tuples ∧ x ∉ b.tuples) (ha.up.filter _) fun x => ?_]
 rw [List.mem_filter, decide_eq_true_eq]
 exact ⟨fun h => ⟨ok_rng hn0 hn ha h.1, h⟩, fun h => h.2⟩
theorem checkedP (r : Rl) : AFun Tryz.prog 116 [r.av, eI 0] (.p r.av) :=
 AFun.of hT Tryz.func116 rfl rfl (by simp) (AD.run hT hmix ⟨_, _, rfl, rfl, rfl⟩)
abbrev MC (f : FuncId) (s : Spc) (m : Mdl) (st : Int) (env : List (ByteArray × Int)) (n : Nd) (r : Rl) : Prop := AFun Tryz.prog f [mch s m, plc st env, n.ex] (.p r.av)
theorem unionM {s : Spc} {m : Mdl} {n : Nd} {k0 k1 : Nd} {st : Int} {env : List (ByteArray × Int)} {r0 r1 : Rl} (hn0 : 0 < m.n) (hn : m.n ≤ 12) (hk : n.kids = [k0, k1]) (h0 : CX s m k0 st env r0) (h1 : CX s m k1 st env r1) (e : r0.arity = r1.arity) (ho0 : r0.Ok m.n) (ho1 : r1.Ok m.n) : MC 62 s m st env n (rUnion r0 r1) :=
 AFun.of hT Tryz.func62 rfl rfl (by simp) (AD.run hT hmix (.pure [mch s m, plc st env, n.ex] _ rfl (pairP hk h0 h1 e) (.pure [r0.av, r1.av] _ rfl (unionP hn0 hn ho0 ho1) ⟨_, _, rfl, rfl, rfl⟩)))
theorem ok_1e9 {n : Int} (hn0 : 0 < n) (hn : n ≤ 12) {a : Rl} (ha : a.Ok n) : a.tuples.length ≤ 1000000000 := by have := ok_len hn0 hn ha; omega
theorem interQ {n : Int} (hn0 : 0 < n) (hn : n ≤ 12) {a b : Rl} (ha : a.Ok n) : AFun Tryz.prog 113 [a.av, b.av] (.p (rInter a b).av) := by
 rw [← rInter_eq hn0 hn ha]; exact interP a b (ok_1e9 hn0 hn ha)
theorem diffQ {n : Int} (hn0 : 0 < n) (hn : n ≤ 12) {a b : Rl} (ha : a.Ok n) : AFun Tryz.prog 114 [a.av, b.av] (.p (rDiff a b).av) := by
 rw [← rDiff_eq hn0 hn ha]; exact diffP a b (ok_1e9 hn0 hn ha)
theorem interM {s : Spc} {m : Mdl} {n : Nd} {k0 k1 : Nd} {st : Int} {env : List (ByteArray × Int)} {r0 r1 : Rl} (hn0 : 0 < m.n) (hn : m.n ≤ 12) (hk : n.kids = [k0, k1]) (h0 : CX s m k0 st env r0) (h1 : CX s m k1 st env r1) (e : r0.arity = r1.arity) (ho0 : r0.Ok m.n) (ho1 : r1.Ok m.n) : MC 63 s m st env n (rInter r0 r1) :=
 AFun.of hT Tryz.func63 rfl rfl (by simp) (AD.run hT hmix (.pure [mch s m, plc st env, n.ex] _ rfl (pairP hk h0 h1 e) (.pure [r0.av, r1.av] _ rfl (interQ hn0 hn ho0) ⟨_, _, rfl, rfl, rfl⟩)))
theorem diffM {s : Spc} {m : Mdl} {n : Nd} {k0 k1 : Nd} {st : Int} {env : List (ByteArray × Int)} {r0 r1 : Rl} (hn0 : 0 < m.n) (hn : m.n ≤ 12) (hk : n.kids = [k0, k1]) (h0 : CX s m k0 st env r0) (h1 : CX s m k1 st env r1) (e : r0.arity = r1.arity) (ho0 : r0.Ok m.n) (ho1 : r1.Ok m.n) : MC 64 s m st env n (rDiff r0 r1) :=
 AFun.of hT Tryz.func64 rfl rfl (by simp) (AD.run hT hmix (.pure [mch s m, plc st env, n.ex] _ rfl (pairP hk h0 h1 e) (.pure [r0.av, r1.av] _ rfl (diffQ hn0 hn ho0) ⟨_, _, rfl, rfl, rfl⟩)))
theorem overM {s : Spc} {m : Mdl} {n : Nd} {k0 k1 : Nd} {st : Int} {env : List (ByteArray × Int)} {r0 r1 : Rl} (hn0 : 0 < m.n) (hn : m.n ≤ 12) (hk : n.kids = [k0, k1]) (h0 : CX s m k0 st env r0) (h1 : CX s m k1 st env r1) (e : r0.arity = r1.arity) (ho0 : r0.Ok m.n) (ho1 : r1.Ok m.n) : MC 65 s m st env n (rOver m.n r0 r1) :=
 AFun.of hT Tryz.func65 rfl rfl (by simp) (AD.run hT hmix (.pure [mch s m, plc st env, n.ex] _ rfl (pairP hk h0 h1 e) (.pure [eI m.n, r0.av, r1.av] _ rfl (overP hn0 hn ho0 ho1 e) ⟨by kernel_rfl, _, _, rfl, rfl, rfl⟩)))
theorem joinM {s : Spc} {m : Mdl} {n : Nd} {k0 k1 : Nd} {st : Int} {env : List (ByteArray × Int)} {r0 r1 : Rl} (hn0 : 0 < m.n) (hn : m.n ≤ 12) (hJ : JP m.n) (hk : n.kids = [k0, k1]) (h0 : CX s m k0 st env r0) (h1 : CX s m k1 st env r1) (ho0 : r0.Ok m.n) (ho1 : r1.Ok m.n) (a1 : 1 ≤ r0.arity + r1.arity - 2) (a3 : r0.arity + r1.arity - 2 ≤ 3) : MC 66 s m st env n (rJoin m.n r0 r1) := by
 have hkm : n.kids.map Nd.av = [k0.ex, k1.ex] := by rw [hk, Nd.av_ex]; rfl
 refine AFun.of hT Tryz.func66 rfl rfl (by simp) ?_
 rw [show n.ex = .agg [eI n.op, eS n.name, eI n.n, .slice 5 [k0.ex, k1.ex], eI n.at_] by rw [Nd.ex, hkm]]
 refine AD.run hT hmix ?_
 refine ⟨0, _, rfl, rfl, .pure [mch s m, plc st env, k0.ex] _ rfl h0 ⟨1, _, rfl, rfl, .pure [mch s m, plc st env, k1.ex] _ rfl h1 ⟨by kernel_rfl, ?_⟩⟩⟩
 exact .pure [eI m.n, r0.av, r1.av] _ rfl (hJ r0 r1 ho0 ho1 a1 a3) (.pure [(rJoin m.n r0 r1).av, eI 0] _ rfl (checkedP _) ⟨by kernel_rfl, _, _, rfl, rfl, rfl⟩)
theorem prodM {s : Spc} {m : Mdl} {n : Nd} {k0 k1 : Nd} {st : Int} {env : List (ByteArray × Int)} {r0 r1 : Rl} (hn0 : 0 < m.n) (hn : m.n ≤ 12) (hk : n.kids = [k0, k1]) (h0 : CX s m k0 st env r0) (h1 : CX s m k1 st env r1) (ho0 : r0.Ok m.n) (ho1 : r1.Ok m.n) (a3 : r0.arity + r1.arity ≤ 3) : MC 67 s m st env n (rProduct m.n r0 r1) := by
 have hkm : n.kids.map Nd.av = [k0.ex, k1.ex] := by rw [hk, Nd.av_ex]; rfl
 refine AFun.of hT Tryz.func67 rfl rfl (by simp) ?_
 rw [show n.ex = .agg [eI n.op, eS n.name, eI n.n, .slice 5 [k0.ex, k1.ex], eI n.at_] by rw [Nd.ex, hkm]]
 refine AD.run hT hmix ?_
 refine ⟨0, _, rfl, rfl, .pure [mch s m, plc st env, k0.ex] _ rfl h0 ⟨1, _, rfl, rfl, .pure [mch s m, plc st env, k1.ex] _ rfl h1 ⟨by kernel_rfl, ?_⟩⟩⟩
 exact .pure [eI m.n, r0.av, r1.av] _ rfl (prodP hn0 hn ho0 ho1 a3) (.pure [(rProduct m.n r0 r1).av, eI 0] _ rfl (checkedP _) ⟨by kernel_rfl, _, _, rfl, rfl, rfl⟩)
theorem binaryM {s : Spc} {m : Mdl} {n : Nd} {k0 : Nd} {st : Int} {env : List (ByteArray × Int)} {r0 : Rl} (hn0 : 0 < m.n) (hn : m.n ≤ 12) (hk : n.kids = [k0]) (h0 : CX s m k0 st env r0) (a2 : r0.arity = 2) : MC 120 s m st env n r0 := by
 have hkm : n.kids.map Nd.av = [k0.ex] := by rw [hk, Nd.av_ex]; rfl
 refine AFun.of hT Tryz.func120 rfl rfl (by simp) ?_
 rw [show n.ex = .agg [eI n.op, eS n.name, eI n.n, .slice 5 [k0.ex], eI n.at_] by rw [Nd.ex, hkm]]
 refine AD.run hT hmix ?_
 refine ⟨0, _, rfl, rfl, .pure [mch s m, plc st env, k0.ex] _ rfl h0 ⟨by kernel_rfl, bgo_false (by simp [a2]) ⟨_, _, rfl, rfl, rfl⟩⟩⟩
theorem transM {s : Spc} {m : Mdl} {n : Nd} {k0 : Nd} {st : Int} {env : List (ByteArray × Int)} {r0 : Rl} (hn0 : 0 < m.n) (hn : m.n ≤ 12) (hk : n.kids = [k0]) (h0 : CX s m k0 st env r0) (a2 : r0.arity = 2) (ho0 : r0.Ok m.n) : MC 68 s m st env n (rTrans m.n r0) :=
 AFun.of hT Tryz.func68 rfl rfl (by simp) (AD.run hT hmix (.pure [mch s m, plc st env, n.ex] _ rfl (binaryM hn0 hn hk h0 a2) (.pure [eI m.n, r0.av] _ rfl (transP hn0 hn ho0 a2) ⟨by kernel_rfl, _, _, rfl, rfl, rfl⟩)))
theorem JP.two {n : Int} (hn0 : 0 < n) (hn : n ≤ 12) (h : JP n) : ∀ c, (⟨2, c⟩ : Rl).Ok n → AFun Tryz.prog 117 [eI n, Rl.av ⟨2, c⟩, Rl.av ⟨2, c⟩] (.tup [.p (rJoin n ⟨2, c⟩ ⟨2, c⟩).av, .p (eI 0)]) := fun c hc => h _ _ hc hc (by show (1 : Int) ≤ 2 + 2 - 2; omega) (by show (2 : Int) + 2 - 2 ≤ 3; omega)
theorem closM {s : Spc} {m : Mdl} {n : Nd} {k0 : Nd} {st : Int} {env : List (ByteArray × Int)} {r0 : Rl} (hn0 : 0 < m.n) (hn : m.n ≤ 12) (hJ : JP m.n) (hk : n.kids = [k0]) (h0 : CX s m k0 st env r0) (a2 : r0.arity = 2) (ho0 : r0.Ok m.n) : MC 69 s m st env n (rClos m.n r0) :=
 AFun.of hT Tryz.func69 rfl rfl (by simp) (AD.run hT hmix (.pure [mch s m, plc st env, n.ex] _ rfl (binaryM hn0 hn hk h0 a2) (.pure [eI m.n, r0.av] _ rfl (closP hn0 hn (hJ.two hn0 hn) ho0 a2) ⟨by kernel_rfl, _, _, rfl, rfl, rfl⟩)))
theorem reflM {s : Spc} {m : Mdl} {n : Nd} {k0 : Nd} {st : Int} {env : List (ByteArray × Int)} {r0 : Rl} (hn0 : 0 < m.n) (hn : m.n ≤ 12) (hJ : JP m.n) (hk : n.kids = [k0]) (h0 : CX s m k0 st env r0) (a2 : r0.arity = 2) (ho0 : r0.Ok m.n) : MC 70 s m st env n (rUnion (rClos m.n r0) (rIden m.n)) := by
 obtain ⟨N, hN⟩ : ∃ N : Nat, m.n = N := ⟨m.n.toNat, by omega⟩
 have hi := idenP N (by omega)
 rw [← hN] at hi
 exact AFun.of hT Tryz.func70 rfl rfl (by simp) (AD.run hT hmix (.pure [mch s m, plc st env, n.ex] _ rfl (closM hn0 hn hJ hk h0 a2 ho0) (.pure [eI m.n] _ rfl hi (.pure [(rClos m.n r0).av, (rIden m.n).av] _ rfl (unionP hn0 hn (rClos_ok hn0 hn) (rIden_ok hn0 hn)) ⟨by kernel_rfl, _, _, rfl, rfl, rfl⟩))))
theorem primeM {s : Spc} {m : Mdl} {n : Nd} {k0 : Nd} {st : Int} {env : List (ByteArray × Int)} {r0 : Rl} (hn0 : 0 < m.n) (hn : m.n ≤ 12) (hst : 0 ≤ st ∧ st ≤ 100) (hk : n.kids = [k0]) (h0 : CX s m k0 (nextSt m st) env r0) : MC 71 s m st env n r0 := by
 have hkm : n.kids.map Nd.av = [k0.ex] := by rw [hk, Nd.av_ex]; rfl
 refine AFun.of hT Tryz.func71 rfl rfl (by simp) ?_
 rw [show n.ex = .agg [eI n.op, eS n.name, eI n.n, .slice 5 [k0.ex], eI n.at_] by rw [Nd.ex, hkm]]
 refine AD.run hT hmix ?_
 refine .pure [m.av, eI st] _ rfl (nextP m st hst) ⟨0, _, rfl, rfl, .pure [mch s m, plc (nextSt m st) env, k0.ex] _ rfl h0 ⟨by kernel_rfl, _, _, rfl, rfl, rfl⟩⟩
end Go.Ab
namespace Go.Ab
open Go Go.Proofs
open Go.Proofs.YtmllhjbnbhapoaaGreat (rowsOf keysOf addK)
set_option maxRecDepth 10000
def jits (n p : Int) (a b : List Int) : List Int := a.flatMap fun x => (rowsOf p b (x % n)).map fun y => x / n * p + y
def its (l : List Int) : List (List AV) := l.map fun x => [eI x]
theorem its_at {l : List Int} {j : Nat} {x : Int} (h : l[j]? = some x) : (its l)[j]? = some [eI x] := by simp [its, h]
theorem mgo_rows {l : List Int} {f : Int → AV} {a : Int} {A : AV × AV → Prop} {B : Prop} (hA : ∀ v, v = f a → A (eI a, v)) (hB : a ∉ l → B) : List.rec (motive := fun _ => Prop) B (fun x _ ih => bgo (keyB x.1 (eI a)) (A x) ih) (l.map fun r => (eI r, f r)) := by
 induction l with
 | nil => exact hB (by simp)
 | cons x r ih =>
  show bgo (keyB (eI x) (eI a)) (A (eI x, f x)) _
  refine bgo_split (fun h => ?_) (fun h => ?_)
  · obtain rfl : x = a := of_decide_eq_true h
    exact hA _ rfl
  · have hx : ¬ x = a := of_decide_eq_false h
    exact ih fun h2 => hB fun hv => by
     rcases List.mem_cons.1 hv with e | hv
     · exact hx e.symm
     · exact h2 hv
theorem mem_addK {l : List Int} {k x : Int} : x ∈ addK l k ↔ x ∈ l ∨ x = k := by
 unfold addK
 split
 · rename_i h; exact ⟨.inl, fun h1 => h1.elim id fun e => e ▸ h⟩
 · simp
theorem mem_keysOf (p : Int) (b : List Int) (r : Int) : r ∈ keysOf p b ↔ ∃ y ∈ b, y / p = r := by
 have : ∀ (b l : List Int), r ∈ b.foldl (fun l y => addK l (y / p)) l ↔ r ∈ l ∨ ∃ y ∈ b, y / p = r := by
  intro b
  induction b with
  | nil => intro l; simp
  | cons y t ih =>
   intro l
   rw [List.foldl_cons, ih, mem_addK]
   constructor
   · rintro ((h | h) | ⟨z, hz, e⟩)
     · exact .inl h
     · exact .inr ⟨y, List.mem_cons_self .., h.symm⟩
     · exact .inr ⟨z, List.mem_cons_of_mem _ hz, e⟩
   · rintro (h | ⟨z, hz, e⟩)
     · exact .inl (.inl h)
     · rcases List.mem_cons.1 hz with rfl | hz
       · exact .inl (.inr e.symm)
       · exact .inr ⟨z, hz, e⟩
 rw [keysOf, this]; simp
theorem rowsOf_nil {p : Int} {b : List Int} {r : Int} (h : r ∉ keysOf p b) : rowsOf p b r = [] := by
 unfold rowsOf
 rw [List.filter_eq_nil_iff.2 fun y hy hh => h ((mem_keysOf p b r).2 ⟨y, hy, by simpa using hh⟩)]; rfl
theorem jits_snoc {n p : Int} {a b : List Int} {i : Nat} (hi : i < a.length) : jits n p (a.take (i + 1)) b = jits n p (a.take i) b ++ (rowsOf p b (a[i] % n)).map fun y => a[i] / n * p + y := by
 rw [List.take_succ_eq_append_getElem hi, jits, List.flatMap_append, jits]; simp
theorem jits_pre {n p : Int} {a b : List Int} {i : Nat} (hi : i ≤ a.length) : ∃ r, jits n p a b = jits n p (a.take i) b ++ r :=
 ⟨jits n p (a.drop i) b, by rw [jits, jits, jits, ← List.flatMap_append, List.take_append_drop]⟩
theorem jits_at {n p : Int} {a b : List Int} {i k : Nat} (hi : i < a.length) (hk : k < (rowsOf p b (a[i] % n)).length) : (jits n p a b)[(jits n p (a.take i) b).length + k]? = some (a[i] / n * p + (rowsOf p b (a[i] % n))[k]) := by
 obtain ⟨r, hr⟩ := jits_pre (n := n) (p := p) (b := b) (show i + 1 ≤ a.length from hi)
 rw [hr, jits_snoc hi, List.append_assoc, List.getElem?_append_right (by omega), Nat.add_sub_cancel_left, List.getElem?_append_left (by simpa using hk)]
 simp [hk]
theorem jits_le {n p : Int} {a b : List Int} {i : Nat} (hi : i ≤ a.length) : (jits n p (a.take i) b).length ≤ (jits n p a b).length := by
 obtain ⟨r, hr⟩ := jits_pre (n := n) (p := p) (b := b) hi
 rw [hr, List.length_append]; omega
theorem jits_most (n p : Int) (a b : List Int) : (jits n p a b).length ≤ a.length * b.length := by
 induction a with
 | nil => simp [jits]
 | cons x t ih =>
  have h1 := rowsOf_len' p b (x % n)
  have e : jits n p (x :: t) b = (rowsOf p b (x % n)).map (fun y => x / n * p + y) ++ jits n p t b := by simp [jits]
  rw [e, List.length_append, List.length_map, List.length_cons, Nat.add_mul]; omega
theorem mem_jits {n p : Int} {a b : List Int} {x : Int} : x ∈ jits n p a b ↔ ∃ u ∈ a, ∃ v ∈ b, u % n = v / p ∧ x = u / n * p + v % p := by
 unfold jits rowsOf
 simp only [List.mem_flatMap, List.mem_map, List.mem_filter, beq_iff_eq]
 constructor
 · rintro ⟨u, hu, y, ⟨v, ⟨hv, e⟩, rfl⟩, rfl⟩; exact ⟨u, hu, v, hv, e.symm, rfl⟩
 · rintro ⟨u, hu, v, hv, e, rfl⟩; exact ⟨u, hu, _, ⟨v, ⟨hv, e.symm⟩, rfl⟩, rfl⟩
theorem matchIter (n p : Nat) (a : Rl) (b : List Int) (hn0 : 0 < n) (hp0 : 0 < p) (hp1 : p ≤ 1728) (hla : a.tuples.length ≤ 20000) (hlb : b.length ≤ 20000) (hra : ∀ x ∈ a.tuples, 0 ≤ x ∧ x < 2000) (hrb : ∀ x ∈ b, 0 ≤ x ∧ x < 2000) :
 IterP Tryz.prog 231 [] [.ref a.cs, .ref [.mp (.int .i64) (rowsM p b)], .ref [eI n], .ref [eI p]] (its (jits n p a.tuples b)) := by
 obtain ⟨ar, l⟩ := a
 dsimp only at hla hra
 have hl : (l.map eI).length = l.length := List.length_map _
 have hil : (its (jits n p l b)).length = (jits n p l b).length := by simp [its]
 refine IterP.of hT Tryz.func231 rfl rfl (by simp) fun q J stop fin h1 h2 h3 hy => AD.run hT hmix ?_
 rw [hil] at h1 h2
 intro _
 obtain ⟨c, hc⟩ : ∃ c : Nat → Nat, c = fun i => (jits n p (l.take i) b).length := ⟨_, rfl⟩
 have hcs : ∀ i, c i = (jits n p (l.take i) b).length := fun i => by rw [hc]
 have c0 : c 0 = 0 := by rw [hcs]; rfl
 have he0 : J 0 = J (c 0) := by rw [c0]
 rw [he0]
 refine AD.loopI (fun i : Nat => i ≤ l.length ∧ c i ≤ stop ∧ (fin = false → c i < stop)) (fun i => l.length - i) (fun i => [(0, .p (yv q)), (2, .p (.ref [.mp (.int .i64) (rowsM p b)])), (3, .p (.ref [eI n])), (4, .p (.ref [eI p])), (11, .p (ints l)), (12, eint .i64 (l.map eI).length), (13, eint .i64 i)]) (fun i => [(xk, .ext (J (c i)))]) 0 ⟨Nat.zero_le _, by rw [c0]; exact Nat.zero_le _, fun h => by rw [c0]; exact h3 h⟩ .of fun i ⟨g1, g2, g3⟩ => ?_
 obtain ⟨row, hrow⟩ : ∃ row, rowsOf p b ((l[i]?.getD 0) % n) = row := ⟨_, rfl⟩
 have hrl : (row.map eI).length = row.length := List.length_map _
 refine AD.cut hT hmix 4 (fun _ : Unit => i < l.length) (fun _ => [(0, .p (yv q)), (2, .p (.ref [.mp (.int .i64) (rowsM p b)])), (3, .p (.ref [eI n])), (4, .p (.ref [eI p])), (7, .p (eI (l[i]?.getD 0))), (11, .p (ints l)), (12, eint .i64 (l.map eI).length), (13, eint .i64 i), (21, .p (ints row)), (22, eint .i64 (row.map eI).length), (23, eint .i64 0)]) (fun _ => [(xk, .ext (J (c i)))]) ?_ fun _ hlt => ?_
 · refine bgo_split (fun hb => ?_) (fun hb => ?_)
   · replace hb := of_decide_eq_true hb
     have hlt : i < l.length := by omega
     have hx := hra _ (List.getElem_mem hlt)
     have hg : l[i]?.getD 0 = l[i] := by rw [List.getElem?_eq_getElem hlt]; rfl
     rw [hg] at hrow ⊢
     refine igo_map i rfl hlt ⟨by omega, l[i] % n, Int.tmod_eq_emod_of_nonneg hx.1, ?_⟩
     refine mgo_rows (fun v hv => ?_) (fun hk => ?_)
     · rw [hrow] at hv
       subst hv
       intro _
       exact ⟨by kernel_rfl, (), hlt, .of⟩
     · obtain rfl : row = [] := by rw [← hrow]; exact rowsOf_nil hk
       intro _
       exact ⟨by kernel_rfl, (), hlt, .of⟩
   · replace hb := of_decide_eq_false hb
     have hi : i = l.length := by omega
     have e : c i = (jits n p l b).length := by rw [hcs, hi, List.take_length]
     have : fin = true := by
      cases fin with
      | true => rfl
      | false => have := g3 rfl; omega
     have := h2 this
     rw [show c i = stop by omega]
     exact ⟨[], [], _, rfl, .of, rfl, rfl, rfl⟩
 · have hg : l[i]?.getD 0 = l[i] := by rw [List.getElem?_eq_getElem hlt]; rfl
   have hx := hra _ (List.getElem_mem hlt)
   rw [hg] at hrow ⊢
   have hc1 : c (i + 1) = c i + row.length := by rw [hcs, hcs, jits_snoc hlt, List.length_append, List.length_map, hrow]
   have hc2 : c (i + 1) ≤ (jits n p l b).length := by rw [hcs]; exact jits_le hlt
   have hxn := Int.ediv_nonneg hx.1 (show 0 ≤ (n : Int) by omega)
   have hxl := Int.ediv_le_self (n : Int) hx.1
   have q0 : 0 ≤ l[i] / (n : Int) * (p : Int) := Int.mul_nonneg hxn (by omega)
   have q1 : l[i] / (n : Int) * (p : Int) ≤ 2000 * 1728 := Int.mul_le_mul (by omega) (by omega) (by omega) (by omega)
   have hr2 : row.length ≤ 20000 := by rw [← hrow]; exact Nat.le_trans (rowsOf_len' ..) hlb
   refine AD.run hT hmix ?_
   refine AD.loopI (fun k : Nat => k ≤ row.length ∧ c i + k ≤ stop ∧ (fin = false → c i + k < stop)) (fun k => row.length - k) (fun k => [(0, .p (yv q)), (2, .p (.ref [.mp (.int .i64) (rowsM p b)])), (3, .p (.ref [eI n])), (4, .p (.ref [eI p])), (7, .p (eI l[i])), (11, .p (ints l)), (12, eint .i64 (l.map eI).length), (13, eint .i64 i), (21, .p (ints row)), (22, eint .i64 (row.map eI).length), (23, eint .i64 k)]) (fun k => [(xk, .ext (J (c i + k)))]) 0 ⟨Nat.zero_le _, g2, g3⟩ .of fun k ⟨f1, f2, f3⟩ => AD.run hT hmix ?_
   refine bgo_split (fun hb => ?_) (fun hb => ?_)
   · replace hb := of_decide_eq_true hb
     have hk : k < row.length := by omega
     have hks : c i + k < stop := by
      cases fin with
      | true => have := h2 rfl; omega
      | false => exact f3 rfl
     have hyr : 0 ≤ row[k] ∧ row[k] < 2000 := by
      have hm : row[k] ∈ rowsOf p b (l[i] % n) := by rw [hrow]; exact List.getElem_mem hk
      unfold rowsOf at hm
      obtain ⟨z, hz, e⟩ := List.mem_map.1 hm
      have := hrb z (List.mem_filter.1 hz).1
      have h5 := Int.emod_nonneg z (show (p : Int) ≠ 0 by omega)
      have h6 := Int.emod_lt_of_pos z (show (0 : Int) < p by omega)
      omega
     have hat : (jits n p l b)[c i + k]? = some (l[i] / n * p + row[k]) := by
      subst hrow
      rw [hcs]; exact jits_at hlt hk
     have hyi := hy (c i + k) _ hks (its_at hat)
     refine igo_map k rfl hk ⟨by omega, l[i] / n, by rw [Int.tdiv_eq_ediv_of_nonneg hx.1]; exact wrap64_in (by omega) (by omega), ngo_in (by omega) (by omega) (ngo_in (by omega) (by omega) (.mk xk (J (c i + k)) (J (c i + k + 1)) _ _ rfl rfl hyi ?_))⟩
     cases hB : fin || Nat.blt (c i + k + 1) stop with
     | true =>
      refine ⟨by kernel_rfl, ngo_in (by omega) (by omega) ⟨k + 1, ⟨by omega, by omega, fun hf => ?_⟩, by omega, .of⟩⟩
      rw [hf] at hB
      exact Nat.le_of_ble_eq_true hB
     | false =>
      rw [Bool.or_eq_false_iff] at hB
      have : ¬ (c i + k + 1 < stop) := fun h => by rw [show Nat.blt (c i + k + 1) stop = true from Nat.ble_eq_true_of_le h] at hB; cases hB.2
      obtain rfl : c i + k + 1 = stop := by omega
      exact ⟨by kernel_rfl, [], [], _, rfl, .of, rfl, rfl, rfl⟩
   · replace hb := of_decide_eq_false hb
     obtain rfl : k = row.length := by omega
     refine AD.run hT hmix (ngo_in (by omega) (by omega) ⟨i + 1, ⟨by omega, by omega, fun hf => by have := f3 hf; omega⟩, by omega, ?_⟩)
     rw [hc1]
     exact .of
end Go.Ab
