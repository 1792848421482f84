import Derived.Test.YtadilppdlbhjnaaM2
import Derived.RangeFuncWrites
namespace Go.Proofs.Ytadilppdlbhjnaa
set_option linter.unusedSimpArgs false
set_option linter.unusedVariables false
open Go.RowKit Go.Shelf
attribute [local go_sem] Oper.semAt_some
set_option maxRecDepth 100000 in
set_option maxHeartbeats 1000000 in
theorem merged_any (x y : Value) (ar1 ar2 : Int) (s1 s2 : Value) (w : World) (hx : x = .agg #[.int .i64 ar1, s1]) (hy : y = .agg #[.int .i64 ar2, s2]) (h1 : ∃ p n c, s1 = .slice p n c) (h2 : ∃ p n c, s2 = .slice p n c) :
 Calls Try.prog 100 #[x, y] w fun e w' => e = .returned (.func (.func 137) #[] #[.pointer (some ⟨w.heap.size, 0, none⟩), .pointer (some ⟨w.heap.size + 1, 0, none⟩)]) ∧
  w' = (w.alloc (.cells #[.int .i64 ar1, s1] 30)).alloc (.cells #[.int .i64 ar2, s2] 30) := by
 obtain ⟨p1, n1, c1, rfl⟩ := h1
 obtain ⟨p2, n2, c2, rfl⟩ := h2
 subst hx hy
 go_enter Try.func100, Try.ntmps100
 go_wp2_with fail
 go_ret
 exact ⟨rfl, rfl⟩
def ZPost (L0 : List Nat) (w : World) (bb : Nat) (ar : Int) (x : List Gate × List Cell) (e : Ending) (w' : World) : Prop :=
 ∃ p cap q cq, e = .returned (.tuple #[.agg #[.slice p x.1.length cap], .agg #[.int .i64 ar, .slice q x.2.length cq]]) ∧ CAt w' p cap x.1 ∧ MxAt w' q cq x.2 ∧ KeepX [bb] w w' ∧ (∀ ad, p = some ad → ad.block ∉ L0) ∧ ∀ ad, q = some ad → w.heap.size ≤ ad.block
theorem slat_kept {α : Type} {E : Nat} {enc : α → Nat → Value} {W W' : World} {row : Option Nat} {p : Option Addr} {xs : List α} (h : SlAt E enc W p xs) (hg : W.grownBy W' row) (hr : ∀ r, row = some r → ∃ o : Obj, W.heap[r]? = some o ∧ o.isCells = false) : SlAt E enc W' p xs := by
 rcases h with h | ⟨b, off, hp, hb, hc⟩
 · exact .inl h
 · exact .inr ⟨b, off, hp, Nat.lt_of_lt_of_le hb hg.size, fun i x hx j hj => cell_kept (hc i x hx j hj) hg hr⟩
theorem owns_kept {W W' : World} {row : Option Nat} {B : Nat} {e : TypeId} {size : Nat} {v : Value} {n : Nat} {xs : List Value} (h : W.ownsRow B e size v n xs) (hg : W.grownBy W' row) (hr : ∀ r, row = some r → ∃ o : Obj, W.heap[r]? = some o ∧ o.isCells = false) : W'.ownsRow B e size v n xs := by
 refine ⟨h.1, ?_⟩
 rcases h.2 with h0 | ⟨g, cap, cur, hv, hb, hh, hrest⟩
 · exact .inl h0
 · refine .inr ⟨g, cap, cur, hv, hb, ?_, hrest⟩
   rw [hg.block g (Array.getElem?_eq_some_iff.1 hh).1 fun e' => ?_]
   · exact hh
   · obtain ⟨o, ho, hc⟩ := hr g e'.symm
     rw [hh] at ho; cases ho; cases hc
def rowOf (v : Value) : List Nat := match v.ownBlock with | some g => [g] | none => []
structure ZI (L0 : List Nat) (op : List Gate → Int → Int → List Gate × Int) (c : List Gate) (ar1 : Int) (bb s : Nat) (w0 : World) (fv : Value) (pre : List TriB) (W : World) (v : Value) : Prop where
 g : GMx W (s + 8) (s + 5) ar1 (zrun op (pre.map Subtype.val) (c, [])).2 v
 bx : BxA ((s + 3) :: (s + 4) :: (s + 5) :: (rowOf v ++ L0)) W bb (zrun op (pre.map Subtype.val) (c, [])).1
 fc : W.cell? ⟨s + 2, 0, none⟩ = some fv
 r3 : W.cell? ⟨s + 3, 0, none⟩ = some (.slice none 0 0)
 f3 : W.frozen? ⟨s + 3, 0, none⟩ = false
 r40 : W.cell? ⟨s + 4, 0, none⟩ = some (.int .i64 0)
 r41 : W.cell? ⟨s + 4, 1, none⟩ = some (.slice none 0 0)
 f40 : W.frozen? ⟨s + 4, 0, none⟩ = false
 f41 : W.frozen? ⟨s + 4, 1, none⟩ = false
 kx : KeepX [bb] w0 W
theorem ZI.own {L0 : List Nat} {op : List Gate → Int → Int → List Gate × Int} {c : List Gate} {ar1 : Int} {bb s B : Nat} {w0 : World} {fv : Value} (hs : w0.heap.size ≤ B) : OwnFrom B (fun pre W => ∃ v, ZI L0 op c ar1 bb s w0 fv pre W v) := by
 rintro pre W W' row ⟨v, h⟩ hg hr0
 have hr : ∀ r, row = some r → ∃ o : Obj, W.heap[r]? = some o ∧ o.isCells = false := fun r e => (hr0 r e).2
 obtain ⟨p, cap, x1, x2, x3, x4⟩ := h.bx
 refine ⟨v, ⟨cell_kept h.g.c0 hg hr, cell_kept h.g.c1 hg hr, (frozen_kept h.g.c0 hg hr).trans h.g.fr, (frozen_kept h.g.c1 hg hr).trans h.g.fr1, owns_kept h.g.own hg hr, h.g.hb, Nat.le_trans h.g.hB hg.size⟩,
  ⟨p, cap, cell_kept x1 hg hr, (frozen_kept x1 hg hr).trans x2, ⟨x3.le, x3.cm, x3.p0, slat_kept x3.at' hg hr⟩, x4⟩, cell_kept h.fc hg hr, cell_kept h.r3 hg hr, (frozen_kept h.r3 hg hr).trans h.f3, cell_kept h.r40 hg hr, cell_kept h.r41 hg hr, (frozen_kept h.r40 hg hr).trans h.f40, (frozen_kept h.r41 hg hr).trans h.f41, ?_⟩
 exact ⟨hg.os.trans h.kx.os, hg.tape.trans h.kx.tape, hg.output.trans h.kx.output, Nat.le_trans h.kx.size hg.size, fun k hk hx => (hg.block k (Nat.lt_of_lt_of_le hk h.kx.size) (fun e => by have := (hr0 k e.symm).1; omega)).trans (h.kx.block k hk hx)⟩
theorem zrun_snoc (op : List Gate → Int → Int → List Gate × Int) (l : List Tri) (t : Tri) (x : List Gate × List Cell) : zrun op (l ++ [t]) x = zstep op (zrun op l x) t := by simp [zrun, List.foldl_append]
theorem GMx.keep {w w' : World} {B b : Nat} {ar : Int} {m : List Cell} {v : Value} {X : List Nat} (h : GMx w B b ar m v) (hk : KeepX X w w') (hb : b ∉ X) (hX : ∀ k ∈ X, k < B) : GMx w' B b ar m v := by
 have hlt : b < w.heap.size := Nat.lt_of_lt_of_le h.hb h.hB
 have hf1 : w'.frozen? ⟨b, 1, none⟩ = false := hk.free h.fr1 hlt hb
 refine ⟨hk.cell h.c0 hb, hk.cell h.c1 hb, hk.free h.fr hlt hb, hf1, ?_, h.hb, Nat.le_trans h.hB hk.size⟩
 refine ⟨h.own.1, ?_⟩
 rcases h.own.2 with h0 | ⟨g, cap, cur, hv, hg, hh, hr⟩
 · exact .inl h0
 · refine .inr ⟨g, cap, cur, hv, hg, ?_, hr⟩
   rw [hk.block g (Array.getElem?_eq_some_iff.1 hh).1 (fun hx => by have := hX g hx; omega)]; exact hh
theorem rowOf_mem {v : Value} {g : Nat} (h : g ∈ rowOf v) : v.ownBlock = some g := by
 unfold rowOf at h
 cases hv : v.ownBlock with
 | none => rw [hv] at h; cases h
 | some k => rw [hv] at h; rw [List.mem_singleton.1 h]
theorem mem_rowOf {v : Value} {g : Nat} (h : v.ownBlock = some g) : g ∈ rowOf v := by unfold rowOf; rw [h]; simp
theorem ZI.next {L0 : List Nat} {op : List Gate → Int → Int → List Gate × Int} {c c1 c2 : List Gate} {m1 : List Cell} {ar1 rank p q r : Int} {bb s ka kb : Nat} {w0 W w1 w2 : World} {fv v : Value} {pre : List TriB} {x : TriB} (h : ZI L0 op c ar1 bb s w0 fv pre W v) (hs : w0.heap.size = s) (hbl : bb < s)
 (hcm : zrun op (pre.map Subtype.val) (c, []) = (c1, m1)) (hx : x.1 = ⟨rank, p, q⟩) (e1 : op c1 p q = (c2, r)) (hb1 : BxA ((s + 3) :: (s + 4) :: (s + 5) :: (rowOf v ++ L0)) w1 bb c2) (hk1 : KeepX [bb] W w1) {v' : Value} (hg : GMx w2 (s + 8) (s + 5) ar1 (put m1 rank r) v')
 (hrow : v'.ownBlock = v.ownBlock ∨ ∃ g, v'.ownBlock = some g ∧ w1.heap.size ≤ g) (hkp : ∀ X, (s + 5) ∈ X → (∀ g, v.ownBlock = some g → g ∈ X) → KeepX X w1 w2) (hka : ka ≠ bb) (hkal : ka < s ∨ ka = s + 6) (hkb : kb ≠ bb) (hkbl : kb < s ∨ kb = s + 6) (hne : c2 ≠ []) :
 KeepsFrom (s + 8) W w2 ∧ KpB ka kb W w2 ∧ ∃ v, ZI L0 op c ar1 bb s w0 fv (pre ++ [x]) w2 v := by
 have hrg : ∀ g, v.ownBlock = some g → s + 8 ≤ g ∧ g < W.heap.size := fun g hg => h.g.own.lt g hg
 have K2 := hkp ((s + 5) :: rowOf v) (by simp) (fun g hg => List.mem_cons_of_mem _ (mem_rowOf hg))
 have KT : KeepX (bb :: (s + 5) :: rowOf v) W w2 := (hk1.sub (by simp)).trans (K2.sub (fun k hk => List.mem_cons_of_mem _ hk))
 have hnot : ∀ k, k ≠ bb → k ≠ s + 5 → (k < s + 8) → k ∉ bb :: (s + 5) :: rowOf v := by
  intro k h1 h2 h3 hm
  rcases List.mem_cons.1 hm with e | hm
  · exact h1 e
  · rcases List.mem_cons.1 hm with e | hm
    · exact h2 e
    · have := (hrg k (rowOf_mem hm)).1; omega
 have hW8 : s + 8 ≤ W.heap.size := h.g.hB
 refine ⟨⟨KT.size, fun k o hB ho hc => ?_⟩, ⟨KT.block ka (by omega) (hnot ka hka (by omega) (by omega)), KT.block kb (by omega) (hnot kb hkb (by omega) (by omega))⟩, v', ?_⟩
 · have hkl := (Array.getElem?_eq_some_iff.1 ho).1
   rw [KT.block k hkl (fun hm => ?_)]
   · exact ho
   · rcases List.mem_cons.1 hm with e | hm
     · omega
     · rcases List.mem_cons.1 hm with e | hm
       · omega
       · have hv := rowOf_mem hm
         rcases h.g.own.2 with ⟨h0, _⟩ | ⟨g, cap, cur, hg', _, hh, _⟩
         · rw [h0] at hv; cases hv
         · rw [hg'] at hv; cases hv
           rw [hh] at ho; cases ho; cases hc
 · have hcm2 : zrun op ((pre ++ [x]).map Subtype.val) (c, []) = (c2, put m1 rank r) := by
    rw [List.map_append, List.map_cons, List.map_nil, zrun_snoc, hcm, hx]
    show ((op c1 p q).1, put m1 rank (op c1 p q).2) = _
    rw [e1]
   have hbx : BxA ((s + 3) :: (s + 4) :: (s + 5) :: (rowOf v' ++ L0)) w2 bb c2 := by
    have hL := hb1.keep K2 (fun hm => by
     rcases List.mem_cons.1 hm with e | hm
     · omega
     · have := (hrg bb (rowOf_mem hm)).1; omega) (fun k hk => by simp only [List.mem_cons, List.mem_append] at hk ⊢; rcases hk with h | h; exact .inr (.inr (.inl h)); exact .inr (.inr (.inr (.inl h))))
    obtain ⟨p', cap', y1, y2, y3, y4⟩ := hL
    obtain ⟨p0, cap0, z1, z2, z3, z4⟩ := hb1
    have hpp : p' = p0 := by
     have := K2.cell z1 (fun hm => by
      rcases List.mem_cons.1 hm with e | hm
      · omega
      · have := (hrg bb (rowOf_mem hm)).1; omega)
     rw [y1] at this; cases this; rfl
    refine ⟨p', cap', y1, y2, y3, fun ad ha hm => ?_⟩
    rcases List.mem_cons.1 hm with e | hm
    · exact y4 ad ha (by rw [e]; simp)
    rcases List.mem_cons.1 hm with e | hm
    · exact y4 ad ha (by rw [e]; simp)
    rcases List.mem_cons.1 hm with e | hm
    · exact y4 ad ha (by rw [e]; simp)
    rcases List.mem_append.1 hm with hm | hm
    · have hv := rowOf_mem hm
      rcases hrow with e | ⟨g, e, hg2⟩
      · rw [e] at hv; exact y4 ad ha (by simp only [List.mem_cons, List.mem_append]; exact .inr (.inr (.inr (.inl (mem_rowOf hv)))))
      · rw [e] at hv; cases hv
        subst hpp
        rcases z3.at' with h0 | ⟨b', off, hp, hb', _⟩
        · exact absurd h0 hne
        · rw [ha] at hp; cases hp; dsimp only at hg2; omega
    · exact y4 ad ha (by simp only [List.mem_cons, List.mem_append]; exact .inr (.inr (.inr (.inr hm))))
   have hc : ∀ {k o : Nat} {u : Value}, W.cell? ⟨k, o, none⟩ = some u → k ≠ bb → k ≠ s + 5 → k < s + 8 → w2.cell? ⟨k, o, none⟩ = some u := fun hcell h1 h2 h3 => KT.cell hcell (hnot _ h1 h2 h3)
   have hf : ∀ {k o : Nat}, W.frozen? ⟨k, o, none⟩ = false → k ≠ bb → k ≠ s + 5 → k < s + 8 → w2.frozen? ⟨k, o, none⟩ = false := fun hfr h1 h2 h3 => KT.free hfr (by omega) (hnot _ h1 h2 h3)
   refine ⟨by rw [hcm2]; exact hg, by rw [hcm2]; exact hbx, hc h.fc (by omega) (by omega) (by omega), hc h.r3 (by omega) (by omega) (by omega), hf h.f3 (by omega) (by omega) (by omega), hc h.r40 (by omega) (by omega) (by omega), hc h.r41 (by omega) (by omega) (by omega), hf h.f40 (by omega) (by omega) (by omega), hf h.f41 (by omega) (by omega) (by omega), ?_⟩
   refine ((h.kx.sub (Y := bb :: (s + 5) :: rowOf v) (by simp)).trans KT).fresh fun k hk => ?_
   rcases List.mem_cons.1 hk with e | hm
   · exact .inl (by rw [e]; simp)
   · rcases List.mem_cons.1 hm with e | hm
     · exact .inr (by omega)
     · exact .inr (by have := (hrg k (rowOf_mem hm)).1; omega)
theorem zrun_len {op : List Gate → Int → Int → List Gate × Int} (h : ∀ c p q, (op c p q).1.length ≤ c.length + 1) : ∀ (l : List Tri) (x : List Gate × List Cell), (zrun op l x).1.length ≤ x.1.length + l.length ∧ (zrun op l x).2.length ≤ x.2.length + l.length
 | [], x => ⟨Nat.le_refl _, Nat.le_refl _⟩
 | t :: l, x => by
  obtain ⟨h1, h2⟩ := zrun_len h l (zstep op x t)
  have h3 := h x.1 t.p t.q
  have h4 : (put x.2 t.rank (op x.1 t.p t.q).2).length ≤ x.2.length + 1 := by unfold put; split <;> simp
  have e : zrun op (t :: l) x = zrun op l (zstep op x t) := rfl
  rw [e, List.length_cons]
  exact ⟨Nat.le_trans h1 (by show (op x.1 t.p t.q).1.length + _ ≤ _; omega), Nat.le_trans h2 (by show (put x.2 t.rank (op x.1 t.p t.q).2).length + _ ≤ _; omega)⟩
theorem cand_len (c : List Gate) (p q : Int) : (cand c p q).1.length ≤ c.length + 1 := by
 unfold cand; split
 · simp
 · split
   · simp
   · split
     · simp
     · split
       · simp
       · unfold cshare; split
         · simp
         · split <;> simp
theorem cand_ge (c : List Gate) (p q : Int) : c.length ≤ (cand c p q).1.length := by
 unfold cand; split
 · simp
 · split
   · simp
   · split
     · simp
     · split
       · simp
       · unfold cshare; split
         · simp
         · split <;> simp
theorem zrun_ge {op : List Gate → Int → Int → List Gate × Int} (h : ∀ c p q, c.length ≤ (op c p q).1.length) : ∀ (l : List Tri) (x : List Gate × List Cell), x.1.length ≤ (zrun op l x).1.length
 | [], x => Nat.le_refl _
 | t :: l, x => Nat.le_trans (h x.1 t.p t.q) (zrun_ge h l (zstep op x t))
theorem cor_ge (c : List Gate) (p q : Int) : c.length ≤ (cor c p q).1.length := cand_ge c _ _
theorem cbut_ge (c : List Gate) (p q : Int) : c.length ≤ (cbut c p q).1.length := cand_ge c _ _
theorem cor_len (c : List Gate) (p q : Int) : (cor c p q).1.length ≤ c.length + 1 := cand_len c _ _
theorem cbut_len (c : List Gate) (p q : Int) : (cbut c p q).1.length ≤ c.length + 1 := cand_len c _ _
theorem suff_of {w : World} {p : Option Addr} {cap k : Nat} {m : List Cell} (h : MxAt w p cap m) (hk : ∀ ad, p = some ad → ad.block = k) : SuffAt w k p cap m := by
 refine ⟨h.le, h.cm, ?_⟩
 rcases h.at' with h1 | ⟨b, off, hp, hb, hc⟩
 · exact .inl h1
 · have := hk _ hp
   dsimp only at this
   subst this
   exact .inr ⟨off, hp, hb, hc⟩
set_option maxRecDepth 100000 in
set_option maxHeartbeats 4000000 in
theorem zip_or (L0 : List Nat) (c : List Gate) (a b : List Cell) (ar1 ar2 : Int) (bb : Nat) (pa pb : Option Addr) (capa capb : Nat) (w : World) (hB : BxA L0 w bb c) (hL0' : ∀ k ∈ L0, k < w.heap.size) (ha : MxAt w pa capa a) (hb : MxAt w pb capb b)
 (ra : ∀ x ∈ a, x.ref ≤ 100000) (rb : ∀ x ∈ b, x.ref ≤ 100000) (hl : c.length + (a.length + b.length) ≤ 20000) (hna : ∀ ad, pa = some ad → ad.block ≠ bb) (hnb : ∀ ad, pb = some ad → ad.block ≠ bb) (hc0 : 0 < c.length) :
 Calls Try.prog 95 #[.pointer (some ⟨bb, 0, none⟩), .agg #[.int .i64 ar1, .slice pa a.length capa], .agg #[.int .i64 ar2, .slice pb b.length capb], .func (.func 93) #[.pointer (some ⟨bb, 0, none⟩)] #[]] w (ZPost L0 w bb ar1 (zrun cor (mzip a b) (c, []))) := by
 obtain ⟨s, hs⟩ : ∃ s, w.heap.size = s := ⟨_, rfl⟩
 obtain ⟨ka, hka, hkab, hkal⟩ : ∃ k, (∀ ad, pa = some ad → ad.block = k) ∧ k ≠ bb ∧ (k < s ∨ k = s + 6) := by
  cases pa with
  | none => exact ⟨s + 6, (fun ad h => by cases h), by have := hB.lt; omega, .inr rfl⟩
  | some ad => exact ⟨ad.block, (fun x h => by cases h; rfl), hna ad rfl, .inl (by rw [← hs]; exact ha.lt ad rfl)⟩
 obtain ⟨kb, hkb, hkbb, hkbl⟩ : ∃ k, (∀ ad, pb = some ad → ad.block = k) ∧ k ≠ bb ∧ (k < s ∨ k = s + 6) := by
  cases pb with
  | none => exact ⟨s + 6, (fun ad h => by cases h), by have := hB.lt; omega, .inr rfl⟩
  | some ad => exact ⟨ad.block, (fun x h => by cases h; rfl), hnb ad rfl, .inl (by rw [← hs]; exact hb.lt ad rfl)⟩
 have HKA := Lib.hid hka; have HKB := Lib.hid hkb
 have HBB := Lib.hid hB; have HA := Lib.hid ha; have HB := Lib.hid hb; have RA := Lib.hid ra; have RB := Lib.hid rb
 have hbl : bb < s := by rw [← hs]; exact hB.lt
 have hmz := mzip_len a b
 have hL0 : ∀ k ∈ L0, k < s := fun k hk => by rw [← hs]; exact hL0' k hk
 clear hL0' hB ha hb ra rb hna hnb hka hkb
 refine (callsIn_wide (n := 4)).1 ?_
 refine callsIn_of_wp_marks Try.func95 rfl trivial ?_ rfl
 refine wpIn_wide.2 ?_
 simp only [Try.ntmps95, List.size_toArray, List.length_cons, List.length_nil, Nat.reduceAdd, Nat.reduceSub, Array.replicate_succ, Array.replicate_zero, List.push_toArray, List.append_toArray, List.nil_append, List.cons_append]
 go_wp2_with (first | (go_at_call 100; refine (merged_any _ _ ar1 ar2 _ _ _ rfl rfl ⟨_, _, _, rfl⟩ ⟨_, _, _, rfl⟩).mono ?_; rintro e w' ⟨rfl, hw'⟩))
 have z8 : w'.heap.size = s + 8 := by rw [hw', ← hs]; simp
 have BW : Below w.heap.size w w' := by rw [hw']; go_grown
 have q6 : w'.cell? ⟨s + 6, 1, none⟩ = some (.slice pa a.length capa) := by rw [hw', ← hs]; go_cell
 have q7 : w'.cell? ⟨s + 7, 1, none⟩ = some (.slice pb b.length capb) := by rw [hw', ← hs]; go_cell
 have c2 : w'.cell? ⟨s + 2, 0, none⟩ = some (.func (.func 93) #[.pointer (some ⟨bb, 0, none⟩)] #[]) := by rw [hw', ← hs]; go_cell
 have hkw : ka < w'.heap.size := by omega
 have hkw2 : kb < w'.heap.size := by omega
 have SXA := Lib.hid (suff_of (HA.out.up BW) HKA.out); have SXB := Lib.hid (suff_of (HB.out.up BW) HKB.out)
 have ZS : ∃ v, ZI L0 cor c ar1 bb s w (.func (.func 93) #[.pointer (some ⟨bb, 0, none⟩)] #[]) [] w' v := by
  have hbb := hs ▸ hbl
  refine ⟨.slice none 0 0, ⟨by rw [hw', ← hs]; go_cell, by rw [hw', ← hs]; go_cell, by rw [hw', ← hs]; go_cell, by rw [hw', ← hs]; go_cell, World.ownsRow_nil _ _ _ _, by omega, by omega⟩, ?_, c2, by rw [hw', ← hs]; go_cell, by rw [hw', ← hs]; go_cell, by rw [hw', ← hs]; go_cell, by rw [hw', ← hs]; go_cell, by rw [hw', ← hs]; go_cell, by rw [hw', ← hs]; go_cell, KeepX.of_below BW⟩
  obtain ⟨p, cap, x1, x2, x3, x4⟩ := HBB.out
  refine ⟨p, cap, oldcell BW x1 hbb, oldfree BW x2 hbb, x3.mono BW, fun ad h => ?_⟩
  have hx4 := x4 ad h
  simp [rowOf, Value.ownBlock]
  refine ⟨?_, ?_, ?_, hx4⟩
  all_goals rcases x3.at' with h0 | ⟨b', off, hp, hb', _⟩
  all_goals first | (rw [h0] at hc0; cases hc0; done) | (rw [h] at hp; cases hp; dsimp only at hb' ⊢; omega)
 have HZS := Lib.hid ZS; have HW' := Lib.hid hw'; have HBW := Lib.hid BW
 clear ZS hw' BW c2
 rw [← HW'.out]
 simp only [Nat.add_assoc, Nat.reduceAdd]
 refine (wpIn_wide (n := 4)).1 ?_
 refine wpIn_rangeFunc_ownH (F := Fence.wide) rfl (by decide) (gf := 137) (lb := #[.pointer (some ⟨s + 6, 0, none⟩), .pointer (some ⟨s + 7, 0, none⟩)]) rfl trivial (enters_of Try.func137 (by kernel_rfl) rfl)
  (merged_stops 3 (by decide) a b (s + 6) (s + 7) ka kb ar1 ar2 pa pb capa capb w' SXA.out SXB.out RA.out RB.out hkw hkw2 q6 q7) kpB_t (kpB_b hkw hkw2) (Below.refl _ _) (fun _ => rfl)
  (fun pre W => ∃ v, ZI L0 cor c ar1 bb s w (.func (.func 93) #[.pointer (some ⟨bb, 0, none⟩)] #[]) pre W v) (fun _ _ _ => False) (ZI.own (by omega)) (fun _ _ _ _ _ h _ _ => h.elim) HZS.out
  (fun x a' W => ∃ Bx, W.cell? ⟨Bx, 0, none⟩ = some (.int .i64 x.1.p) ∧ W.cell? ⟨Bx, 1, none⟩ = some (.int .i64 x.1.q) ∧ a' = { tmps := #[.pointer (some ⟨bb, 0, none⟩), .agg #[.int .i64 ar1, .slice pa a.length capa], .agg #[.int .i64 ar2, .slice pb b.length capb], .func (.func 93) #[.pointer (some ⟨bb, 0, none⟩)] #[], undef, .pointer (some ⟨s, 0, none⟩), .pointer (some ⟨s + 1, 0, none⟩), .pointer (some ⟨s + 2, 0, none⟩), .pointer (some ⟨s + 3, 0, none⟩), .pointer (some ⟨s + 4, 0, none⟩), .pointer (some ⟨s + 5, 0, none⟩), .int .i64 x.1.rank, .pointer (some ⟨Bx, 0, none⟩), .pointer (some ⟨s, 0, none⟩), .int .i64 ar1, .agg #[.int .i64 ar1, .slice none 0 0], .agg #[.int .i64 ar1, .slice pa a.length capa], .agg #[.int .i64 ar2, .slice pb b.length capb], .func (.func 137) #[] #[.pointer (some ⟨s + 6, 0, none⟩), .pointer (some ⟨s + 7, 0, none⟩)], .int .i64 x.1.rank, .agg #[.int .i64 x.1.p, .int .i64 x.1.q], undef, undef, undef, undef, undef, undef, undef, undef, undef, undef, undef, undef, undef], defers := [] }) (fun x a' _ W W' row h hg hr => by obtain ⟨Bx, h1, h2, h3⟩ := h; exact ⟨Bx, cell_kept h1 hg (fun r e => (hr r e).2), cell_kept h2 hg (fun r e => (hr r e).2), h3⟩) ?assign ?body ?done ?stop
 case assign =>
  intro l pre x W K hI hK
  obtain ⟨v, hz⟩ := id hI
  have hW8 := hz.g.hB
  have HI := Lib.hid hI; clear hI hz
  simp only [tEnc]
  gi_wp2
  refine hK _ _ ((KeepsOthers.alloc W _).from _) ⟨Below.heap_alloc W _ ka (by omega), Below.heap_alloc W _ kb (by omega)⟩ (OwnFrom.alloc (ZI.own (B := w'.heap.size) (by omega)) _ HI.out) ⟨W.heap.size, ?_, ?_, rfl⟩
  all_goals go_cell
 case body =>
  rintro l pre x a' W hl' ⟨r, hr⟩ ⟨v, hz⟩ ⟨Bx, k0, k1, rfl⟩ hlen
  obtain ⟨⟨⟨rank, p, q⟩, hp, hq⟩, hx⟩ : ∃ y : TriB, y = x := ⟨_, rfl⟩
  subst hx
  dsimp only at hp hq k0 k1 ⊢
  obtain ⟨c1, m1, hcm⟩ : ∃ c1 m1, zrun cor (pre.map Subtype.val) (c, []) = (c1, m1) := ⟨_, _, rfl⟩
  obtain ⟨c2, r2, e1⟩ : ∃ c2 r2, cor c1 p q = (c2, r2) := ⟨_, _, rfl⟩
  have hzl := zrun_len cor_len (pre.map Subtype.val) (c, [])
  have hzg := zrun_ge cor_ge (pre.map Subtype.val) (c, [])
  have hge := cor_ge c1 p q
  rw [hcm] at hzl hzg
  rw [e1] at hge
  simp only [List.length_map, List.length_nil, Nat.zero_add] at hzl hzg hge
  have hne : c2 ≠ [] := by intro h; rw [h] at hge; simp at hge; rw [hge] at hzg; simp at hzg; rw [hzg] at hc0; cases hc0
  have hc1 : c1.length ≤ 20000 := by omega
  have hm1 : m1.length ≤ 100000 := by omega
  have hbx := hz.bx; have hgm := hz.g; have hfc := hz.fc
  rw [hcm] at hbx hgm
  have hLw : ∀ k ∈ (s + 3) :: (s + 4) :: (s + 5) :: (rowOf v ++ L0), k < W.heap.size := by
   intro k hk
   have := hz.g.hB
   rcases List.mem_cons.1 hk with e | hk
   · omega
   rcases List.mem_cons.1 hk with e | hk
   · omega
   rcases List.mem_cons.1 hk with e | hm
   · omega
   rcases List.mem_append.1 hm with hm | hm
   · exact (hz.g.own.lt k (rowOf_mem hm)).2
   · have := hL0 k hm; omega
  have HZ := Lib.hid hz; have HBX := Lib.hid hbx; have HGM := Lib.hid hgm; have HLW := Lib.hid hLw
  have HCM := Lib.hid hcm; have HE1 := Lib.hid e1; have HNE := Lib.hid hne
  clear hz hbx hgm hLw hcm e1 hne hzl hzg hge
  gi_wp2_with (first | (refine ⟨trivial, ?_⟩; gi_at_call 93; refine (CallsIn.inRound l (callsIn_wide.2 (orM_any ((s + 3) :: (s + 4) :: (s + 5) :: (rowOf v ++ L0)) c1 p q bb W (by omega) (by omega) hc1 HBX.out HLW.out))).mono ?_; rintro e w1 ⟨rfl, hb1, hk1⟩; rw [HE1.out] at hb1; have HB1 := Lib.hid hb1; have HK1 := Lib.hid hk1; have HG1 := Lib.hid (HGM.out.keep (X := [bb]) hk1 (fun hm => by rw [List.mem_singleton] at hm; omega) (fun k hk => by rw [List.mem_singleton] at hk; omega)); clear hb1 hk1) | (refine ⟨trivial, ?_⟩; gi_at_call 86; refine (CallsIn.inRound l (callsIn_wide.2 (put_any m1 ar1 rank (cor c1 p q).2 (s + 5) (s + 8) v w1 HG1.out hm1))).mono ?_; rintro e w2 ⟨rfl, v', hg', hrow, hkp⟩; rw [HE1.out] at hg'))
  rw [z8]
  exact ZI.next HZ.out hs hbl HCM.out rfl HE1.out HB1.out HK1.out hg' hrow hkp hkab hkal hkbb hkbl HNE.out
 case done =>
  rintro D xs W hD hS ⟨v, hz⟩ hDD
  obtain ⟨qv, cqv, rfl, o1, o2, o3, o4⟩ := owns_val (by decide) hz.g.own
  obtain ⟨pg, capg, x1, x2, x3, x4⟩ := hz.bx
  have hmm : zrun cor (xs.map Subtype.val) (c, []) = zrun cor (mzip a b) (c, []) := by rw [hS]
  have r3 := hz.r3; have f3 := hz.f3; have r40 := hz.r40; have r41 := hz.r41; have f40 := hz.f40; have f41 := hz.f41; have g0 := hz.g.c0; have g1 := hz.g.c1
  have HO := Lib.hid hz.g.own; have HKX := Lib.hid hz.kx; have HX3 := Lib.hid x3; have HO4 := Lib.hid o4; have HDD := Lib.hid hDD; have HX4 := Lib.hid x4; have HO3 := Lib.hid o3
  have hW8 := hz.g.hB
  rw [hmm] at g1 x1 o1
  rw [hmm] at HO HX3 HO4
  obtain ⟨C, M, hCM⟩ : ∃ C M, zrun cor (mzip a b) (c, []) = (C, M) := ⟨_, _, rfl⟩
  rw [hCM] at g1 x1 o1
  rw [hCM] at HO HX3 HO4
  rw [hCM]
  dsimp only at g1 x1 o1 HO HX3 HO4
  have HCM := Lib.hid hCM
  have hbs : bb ≠ s + 3 := by omega
  have hbs4 : bb ≠ s + 4 := by omega
  clear hz hS x3 x4 o4 o3 hDD hmm hCM x2
  go_wp2_with fail
  refine wp_region_seqM (fun j w' => w'.cell? ⟨bb, 0, none⟩ = some (.slice pg C.length capg) ∧ w'.cell? ⟨s + 5, 0, none⟩ = some (.int .i64 ar1) ∧ w'.cell? ⟨s + 5, 1, none⟩ = some (.slice qv M.length cqv) ∧ w'.cell? ⟨s + 3, 0, none⟩ = some (match j with | 0 => .slice none 0 0 | _ => .slice pg C.length capg) ∧ w'.frozen? ⟨s + 3, 0, none⟩ = false ∧ w'.cell? ⟨s + 4, 0, none⟩ = some (match j with | 0 | 1 => .int .i64 0 | _ => .int .i64 ar1) ∧ w'.cell? ⟨s + 4, 1, none⟩ = some (match j with | 0 | 1 => .slice none 0 0 | _ => .slice qv M.length cqv) ∧ w'.frozen? ⟨s + 4, 0, none⟩ = false ∧ w'.frozen? ⟨s + 4, 1, none⟩ = false ∧ KeepX [s + 3, s + 4] W w') [5, 6] (by kernel_rfl) (by kernel_rfl) (by kernel_rfl) ?_ ?_
  · exact ⟨keep_drew x1, keep_drew g0, keep_drew g1, keep_drew r3, f3, keep_drew r40, keep_drew r41, f40, f41, KeepX.of_below (by go_grown)⟩
  iterate 5 (refine seqM_pure (v := ?_) (by decide) (by decide) (by rfl) ?_ ?_; rotate_left; (focus (intro sj hj w hS; obtain ⟨d1, d2, d3, d4, d5, d6, d7, d8, d9, d10⟩ := hS; go_simp; try with_reducible rfl)); (try simp only [Act.put, zA, zB, zC]))
  refine seqM_store (f := fun w' => w'.setCell ⟨s + 3, 0, none⟩ (.slice pg C.length capg)) (by decide) (by decide) (by rfl) ?_ ?_
  · (intro w hS; obtain ⟨d1, d2, d3, d4, d5, d6, d7, d8, d9, d10⟩ := hS; exact ⟨by go_simp, keep_far d1 (Ne.symm hbs), keep_far d2 (by simp), keep_far d3 (by simp), by go_cell, by rw [World.frozen?_setCell]; exact d5, keep_far d6 (by simp), keep_far d7 (by simp), by rw [World.frozen?_setCell]; exact d8, by rw [World.frozen?_setCell]; exact d9, d10.setCell (by simp) _⟩)
  (try simp only [Act.put, zA, zB, zC])
  refine seqM_store (f := fun w' => (w'.setCell ⟨s + 4, 0, none⟩ (.int .i64 ar1)).setCell ⟨s + 4, 1, none⟩ (.slice qv M.length cqv)) (by decide) (by decide) (by rfl) ?_ ?_
  · (intro w hS; obtain ⟨d1, d2, d3, d4, d5, d6, d7, d8, d9, d10⟩ := hS; exact ⟨by go_simp, keep_far (keep_far d1 (Ne.symm hbs4)) (Ne.symm hbs4), keep_far (keep_far d2 (by simp)) (by simp), keep_far (keep_far d3 (by simp)) (by simp), keep_far (keep_far d4 (by simp)) (by simp), by rw [World.frozen?_setCell, World.frozen?_setCell]; exact d5, by go_cell, by go_cell, by rw [World.frozen?_setCell, World.frozen?_setCell]; exact d8, by rw [World.frozen?_setCell, World.frozen?_setCell]; exact d9, (d10.setCell (by simp) _).setCell (by simp) _⟩)
  (try simp only [Act.put, zA, zB, zC])
  refine seqM_nil ?_
  intro w2 hS
  obtain ⟨d1, d2, d3, d4, d5, d6, d7, d8, d9, d10⟩ := hS
  have HK10 := Lib.hid d10; clear d10
  go_wp2_with fail
  have hDl := (Array.getElem?_eq_some_iff.1 HDD.out).1
  have hD2 : w2.heap[D]? = some (.deferred (some [])) := by (rw [HK10.out.block D hDl (by simp; omega)]; exact HDD.out)
  refine ⟨by simp, .inl ⟨_, _, rfl, run_takeDeferred hD2, ?_⟩⟩
  have hgp := grownBy_putObj' w2 D (.deferred none)
  have hgr : ∀ r, some D = some r → ∃ o : Obj, w2.heap[r]? = some o ∧ o.isCells = false := fun r e => by cases e; exact ⟨_, hD2, rfl⟩
  have e3 := cell_kept d4 hgp hgr; have e40 := cell_kept d6 hgp hgr; have e41 := cell_kept d7 hgp hgr
  refine ⟨.tuple #[.agg #[.slice pg C.length capg], .agg #[.int .i64 ar1, .slice qv M.length cqv]], by simp [results, Try.results95, go_sem, e3, e40, e41]; try rfl, ?_⟩
  have hne3 : ∀ ad, pg = some ad → ad.block ∉ [s + 3, s + 4] := fun ad h hm => HX4.out ad h (by simp only [List.mem_cons, List.mem_append, List.not_mem_nil, or_false] at hm ⊢; rcases hm with e | e; exact .inl e; exact .inr (.inl e))
  have hqr : ∀ ad, qv = some ad → s + 8 ≤ ad.block ∧ ad.block < W.heap.size := fun ad h => HO.out.lt ad.block (by rw [h]; rfl)
  have hne4 : ∀ ad, qv = some ad → ad.block ∉ [s + 3, s + 4] := fun ad h hm => by have := (hqr ad h).1; simp at hm; omega
  rw [HCM.out]
  refine ⟨pg, capg, qv, cqv, rfl, ⟨HX3.out.le, HX3.out.cm, HX3.out.p0, slat_kept (HX3.out.at'.keep HK10.out hne3) hgp hgr⟩, ⟨o1, o2, HO3.out, slat_kept (HO4.out.keep HK10.out hne4) hgp hgr, fun ad h => ?_⟩, ?_, fun ad h hm => HX4.out ad h (by simp only [List.mem_cons, List.mem_append]; exact .inr (.inr (.inr (.inr hm)))), fun ad h => by have := (hqr ad h).1; omega⟩
  · have h1 := (hqr ad h).2
    have h2 := HK10.out.size
    have h3 := hgp.size
    omega
  · refine KeepX.fresh (X := [bb, s + 3, s + 4, D]) (((HKX.out.sub (by simp)).trans (HK10.out.sub (by simp))).trans (KeepX.of_grown hgp (by simp))) ?_
    intro k hk
    simp at hk
    rcases hk with rfl | rfl | rfl | rfl
    · exact .inl (by simp)
    · exact .inr (by omega)
    · exact .inr (by omega)
    · exact .inr (by omega)
 rintro D c pre W _ _ h _
 exact h.elim
set_option maxRecDepth 100000 in
set_option maxHeartbeats 4000000 in
theorem zip_and (L0 : List Nat) (c : List Gate) (a b : List Cell) (ar1 ar2 : Int) (bb : Nat) (pa pb : Option Addr) (capa capb : Nat) (w : World) (hB : BxA L0 w bb c) (hL0' : ∀ k ∈ L0, k < w.heap.size) (ha : MxAt w pa capa a) (hb : MxAt w pb capb b)
 (ra : ∀ x ∈ a, x.ref ≤ 100000) (rb : ∀ x ∈ b, x.ref ≤ 100000) (hl : c.length + (a.length + b.length) ≤ 20000) (hna : ∀ ad, pa = some ad → ad.block ≠ bb) (hnb : ∀ ad, pb = some ad → ad.block ≠ bb) (hc0 : 0 < c.length) :
 Calls Try.prog 95 #[.pointer (some ⟨bb, 0, none⟩), .agg #[.int .i64 ar1, .slice pa a.length capa], .agg #[.int .i64 ar2, .slice pb b.length capb], .func (.func 94) #[.pointer (some ⟨bb, 0, none⟩)] #[]] w (ZPost L0 w bb ar1 (zrun cand (mzip a b) (c, []))) := by
 obtain ⟨s, hs⟩ : ∃ s, w.heap.size = s := ⟨_, rfl⟩
 obtain ⟨ka, hka, hkab, hkal⟩ : ∃ k, (∀ ad, pa = some ad → ad.block = k) ∧ k ≠ bb ∧ (k < s ∨ k = s + 6) := by
  cases pa with
  | none => exact ⟨s + 6, (fun ad h => by cases h), by have := hB.lt; omega, .inr rfl⟩
  | some ad => exact ⟨ad.block, (fun x h => by cases h; rfl), hna ad rfl, .inl (by rw [← hs]; exact ha.lt ad rfl)⟩
 obtain ⟨kb, hkb, hkbb, hkbl⟩ : ∃ k, (∀ ad, pb = some ad → ad.block = k) ∧ k ≠ bb ∧ (k < s ∨ k = s + 6) := by
  cases pb with
  | none => exact ⟨s + 6, (fun ad h => by cases h), by have := hB.lt; omega, .inr rfl⟩
  | some ad => exact ⟨ad.block, (fun x h => by cases h; rfl), hnb ad rfl, .inl (by rw [← hs]; exact hb.lt ad rfl)⟩
 have HKA := Lib.hid hka; have HKB := Lib.hid hkb
 have HBB := Lib.hid hB; have HA := Lib.hid ha; have HB := Lib.hid hb; have RA := Lib.hid ra; have RB := Lib.hid rb
 have hbl : bb < s := by rw [← hs]; exact hB.lt
 have hmz := mzip_len a b
 have hL0 : ∀ k ∈ L0, k < s := fun k hk => by rw [← hs]; exact hL0' k hk
 clear hL0' hB ha hb ra rb hna hnb hka hkb
 refine (callsIn_wide (n := 4)).1 ?_
 refine callsIn_of_wp_marks Try.func95 rfl trivial ?_ rfl
 refine wpIn_wide.2 ?_
 simp only [Try.ntmps95, List.size_toArray, List.length_cons, List.length_nil, Nat.reduceAdd, Nat.reduceSub, Array.replicate_succ, Array.replicate_zero, List.push_toArray, List.append_toArray, List.nil_append, List.cons_append]
 go_wp2_with (first | (go_at_call 100; refine (merged_any _ _ ar1 ar2 _ _ _ rfl rfl ⟨_, _, _, rfl⟩ ⟨_, _, _, rfl⟩).mono ?_; rintro e w' ⟨rfl, hw'⟩))
 have z8 : w'.heap.size = s + 8 := by rw [hw', ← hs]; simp
 have BW : Below w.heap.size w w' := by rw [hw']; go_grown
 have q6 : w'.cell? ⟨s + 6, 1, none⟩ = some (.slice pa a.length capa) := by rw [hw', ← hs]; go_cell
 have q7 : w'.cell? ⟨s + 7, 1, none⟩ = some (.slice pb b.length capb) := by rw [hw', ← hs]; go_cell
 have c2 : w'.cell? ⟨s + 2, 0, none⟩ = some (.func (.func 94) #[.pointer (some ⟨bb, 0, none⟩)] #[]) := by rw [hw', ← hs]; go_cell
 have hkw : ka < w'.heap.size := by omega
 have hkw2 : kb < w'.heap.size := by omega
 have SXA := Lib.hid (suff_of (HA.out.up BW) HKA.out); have SXB := Lib.hid (suff_of (HB.out.up BW) HKB.out)
 have ZS : ∃ v, ZI L0 cand c ar1 bb s w (.func (.func 94) #[.pointer (some ⟨bb, 0, none⟩)] #[]) [] w' v := by
  have hbb := hs ▸ hbl
  refine ⟨.slice none 0 0, ⟨by rw [hw', ← hs]; go_cell, by rw [hw', ← hs]; go_cell, by rw [hw', ← hs]; go_cell, by rw [hw', ← hs]; go_cell, World.ownsRow_nil _ _ _ _, by omega, by omega⟩, ?_, c2, by rw [hw', ← hs]; go_cell, by rw [hw', ← hs]; go_cell, by rw [hw', ← hs]; go_cell, by rw [hw', ← hs]; go_cell, by rw [hw', ← hs]; go_cell, by rw [hw', ← hs]; go_cell, KeepX.of_below BW⟩
  obtain ⟨p, cap, x1, x2, x3, x4⟩ := HBB.out
  refine ⟨p, cap, oldcell BW x1 hbb, oldfree BW x2 hbb, x3.mono BW, fun ad h => ?_⟩
  have hx4 := x4 ad h
  simp [rowOf, Value.ownBlock]
  refine ⟨?_, ?_, ?_, hx4⟩
  all_goals rcases x3.at' with h0 | ⟨b', off, hp, hb', _⟩
  all_goals first | (rw [h0] at hc0; cases hc0; done) | (rw [h] at hp; cases hp; dsimp only at hb' ⊢; omega)
 have HZS := Lib.hid ZS; have HW' := Lib.hid hw'; have HBW := Lib.hid BW
 clear ZS hw' BW c2
 rw [← HW'.out]
 simp only [Nat.add_assoc, Nat.reduceAdd]
 refine (wpIn_wide (n := 4)).1 ?_
 refine wpIn_rangeFunc_ownH (F := Fence.wide) rfl (by decide) (gf := 137) (lb := #[.pointer (some ⟨s + 6, 0, none⟩), .pointer (some ⟨s + 7, 0, none⟩)]) rfl trivial (enters_of Try.func137 (by kernel_rfl) rfl)
  (merged_stops 3 (by decide) a b (s + 6) (s + 7) ka kb ar1 ar2 pa pb capa capb w' SXA.out SXB.out RA.out RB.out hkw hkw2 q6 q7) kpB_t (kpB_b hkw hkw2) (Below.refl _ _) (fun _ => rfl)
  (fun pre W => ∃ v, ZI L0 cand c ar1 bb s w (.func (.func 94) #[.pointer (some ⟨bb, 0, none⟩)] #[]) pre W v) (fun _ _ _ => False) (ZI.own (by omega)) (fun _ _ _ _ _ h _ _ => h.elim) HZS.out
  (fun x a' W => ∃ Bx, W.cell? ⟨Bx, 0, none⟩ = some (.int .i64 x.1.p) ∧ W.cell? ⟨Bx, 1, none⟩ = some (.int .i64 x.1.q) ∧ a' = { tmps := #[.pointer (some ⟨bb, 0, none⟩), .agg #[.int .i64 ar1, .slice pa a.length capa], .agg #[.int .i64 ar2, .slice pb b.length capb], .func (.func 94) #[.pointer (some ⟨bb, 0, none⟩)] #[], undef, .pointer (some ⟨s, 0, none⟩), .pointer (some ⟨s + 1, 0, none⟩), .pointer (some ⟨s + 2, 0, none⟩), .pointer (some ⟨s + 3, 0, none⟩), .pointer (some ⟨s + 4, 0, none⟩), .pointer (some ⟨s + 5, 0, none⟩), .int .i64 x.1.rank, .pointer (some ⟨Bx, 0, none⟩), .pointer (some ⟨s, 0, none⟩), .int .i64 ar1, .agg #[.int .i64 ar1, .slice none 0 0], .agg #[.int .i64 ar1, .slice pa a.length capa], .agg #[.int .i64 ar2, .slice pb b.length capb], .func (.func 137) #[] #[.pointer (some ⟨s + 6, 0, none⟩), .pointer (some ⟨s + 7, 0, none⟩)], .int .i64 x.1.rank, .agg #[.int .i64 x.1.p, .int .i64 x.1.q], undef, undef, undef, undef, undef, undef, undef, undef, undef, undef, undef, undef, undef], defers := [] }) (fun x a' _ W W' row h hg hr => by obtain ⟨Bx, h1, h2, h3⟩ := h; exact ⟨Bx, cell_kept h1 hg (fun r e => (hr r e).2), cell_kept h2 hg (fun r e => (hr r e).2), h3⟩) ?assign ?body ?done ?stop
 case assign =>
  intro l pre x W K hI hK
  obtain ⟨v, hz⟩ := id hI
  have hW8 := hz.g.hB
  have HI := Lib.hid hI; clear hI hz
  simp only [tEnc]
  gi_wp2
  refine hK _ _ ((KeepsOthers.alloc W _).from _) ⟨Below.heap_alloc W _ ka (by omega), Below.heap_alloc W _ kb (by omega)⟩ (OwnFrom.alloc (ZI.own (B := w'.heap.size) (by omega)) _ HI.out) ⟨W.heap.size, ?_, ?_, rfl⟩
  all_goals go_cell
 case body =>
  rintro l pre x a' W hl' ⟨r, hr⟩ ⟨v, hz⟩ ⟨Bx, k0, k1, rfl⟩ hlen
  obtain ⟨⟨⟨rank, p, q⟩, hp, hq⟩, hx⟩ : ∃ y : TriB, y = x := ⟨_, rfl⟩
  subst hx
  dsimp only at hp hq k0 k1 ⊢
  obtain ⟨c1, m1, hcm⟩ : ∃ c1 m1, zrun cand (pre.map Subtype.val) (c, []) = (c1, m1) := ⟨_, _, rfl⟩
  obtain ⟨c2, r2, e1⟩ : ∃ c2 r2, cand c1 p q = (c2, r2) := ⟨_, _, rfl⟩
  have hzl := zrun_len cand_len (pre.map Subtype.val) (c, [])
  have hzg := zrun_ge cand_ge (pre.map Subtype.val) (c, [])
  have hge := cand_ge c1 p q
  rw [hcm] at hzl hzg
  rw [e1] at hge
  simp only [List.length_map, List.length_nil, Nat.zero_add] at hzl hzg hge
  have hne : c2 ≠ [] := by intro h; rw [h] at hge; simp at hge; rw [hge] at hzg; simp at hzg; rw [hzg] at hc0; cases hc0
  have hc1 : c1.length ≤ 20000 := by omega
  have hm1 : m1.length ≤ 100000 := by omega
  have hbx := hz.bx; have hgm := hz.g; have hfc := hz.fc
  rw [hcm] at hbx hgm
  have hLw : ∀ k ∈ (s + 3) :: (s + 4) :: (s + 5) :: (rowOf v ++ L0), k < W.heap.size := by
   intro k hk
   have := hz.g.hB
   rcases List.mem_cons.1 hk with e | hk
   · omega
   rcases List.mem_cons.1 hk with e | hk
   · omega
   rcases List.mem_cons.1 hk with e | hm
   · omega
   rcases List.mem_append.1 hm with hm | hm
   · exact (hz.g.own.lt k (rowOf_mem hm)).2
   · have := hL0 k hm; omega
  have HZ := Lib.hid hz; have HBX := Lib.hid hbx; have HGM := Lib.hid hgm; have HLW := Lib.hid hLw
  have HCM := Lib.hid hcm; have HE1 := Lib.hid e1; have HNE := Lib.hid hne
  clear hz hbx hgm hLw hcm e1 hne hzl hzg hge
  gi_wp2_with (first | (refine ⟨trivial, ?_⟩; gi_at_call 94; refine (CallsIn.inRound l (callsIn_wide.2 (andM_any ((s + 3) :: (s + 4) :: (s + 5) :: (rowOf v ++ L0)) c1 p q bb W (by omega) (by omega) hc1 HBX.out HLW.out))).mono ?_; rintro e w1 ⟨rfl, hb1, hk1⟩; rw [HE1.out] at hb1; have HB1 := Lib.hid hb1; have HK1 := Lib.hid hk1; have HG1 := Lib.hid (HGM.out.keep (X := [bb]) hk1 (fun hm => by rw [List.mem_singleton] at hm; omega) (fun k hk => by rw [List.mem_singleton] at hk; omega)); clear hb1 hk1) | (refine ⟨trivial, ?_⟩; gi_at_call 86; refine (CallsIn.inRound l (callsIn_wide.2 (put_any m1 ar1 rank (cand c1 p q).2 (s + 5) (s + 8) v w1 HG1.out hm1))).mono ?_; rintro e w2 ⟨rfl, v', hg', hrow, hkp⟩; rw [HE1.out] at hg'))
  rw [z8]
  exact ZI.next HZ.out hs hbl HCM.out rfl HE1.out HB1.out HK1.out hg' hrow hkp hkab hkal hkbb hkbl HNE.out
 case done =>
  rintro D xs W hD hS ⟨v, hz⟩ hDD
  obtain ⟨qv, cqv, rfl, o1, o2, o3, o4⟩ := owns_val (by decide) hz.g.own
  obtain ⟨pg, capg, x1, x2, x3, x4⟩ := hz.bx
  have hmm : zrun cand (xs.map Subtype.val) (c, []) = zrun cand (mzip a b) (c, []) := by rw [hS]
  have r3 := hz.r3; have f3 := hz.f3; have r40 := hz.r40; have r41 := hz.r41; have f40 := hz.f40; have f41 := hz.f41; have g0 := hz.g.c0; have g1 := hz.g.c1
  have HO := Lib.hid hz.g.own; have HKX := Lib.hid hz.kx; have HX3 := Lib.hid x3; have HO4 := Lib.hid o4; have HDD := Lib.hid hDD; have HX4 := Lib.hid x4; have HO3 := Lib.hid o3
  have hW8 := hz.g.hB
  rw [hmm] at g1 x1 o1
  rw [hmm] at HO HX3 HO4
  obtain ⟨C, M, hCM⟩ : ∃ C M, zrun cand (mzip a b) (c, []) = (C, M) := ⟨_, _, rfl⟩
  rw [hCM] at g1 x1 o1
  rw [hCM] at HO HX3 HO4
  rw [hCM]
  dsimp only at g1 x1 o1 HO HX3 HO4
  have HCM := Lib.hid hCM
  have hbs : bb ≠ s + 3 := by omega
  have hbs4 : bb ≠ s + 4 := by omega
  clear hz hS x3 x4 o4 o3 hDD hmm hCM x2
  go_wp2_with fail
  refine wp_region_seqM (fun j w' => w'.cell? ⟨bb, 0, none⟩ = some (.slice pg C.length capg) ∧ w'.cell? ⟨s + 5, 0, none⟩ = some (.int .i64 ar1) ∧ w'.cell? ⟨s + 5, 1, none⟩ = some (.slice qv M.length cqv) ∧ w'.cell? ⟨s + 3, 0, none⟩ = some (match j with | 0 => .slice none 0 0 | _ => .slice pg C.length capg) ∧ w'.frozen? ⟨s + 3, 0, none⟩ = false ∧ w'.cell? ⟨s + 4, 0, none⟩ = some (match j with | 0 | 1 => .int .i64 0 | _ => .int .i64 ar1) ∧ w'.cell? ⟨s + 4, 1, none⟩ = some (match j with | 0 | 1 => .slice none 0 0 | _ => .slice qv M.length cqv) ∧ w'.frozen? ⟨s + 4, 0, none⟩ = false ∧ w'.frozen? ⟨s + 4, 1, none⟩ = false ∧ KeepX [s + 3, s + 4] W w') [5, 6] (by kernel_rfl) (by kernel_rfl) (by kernel_rfl) ?_ ?_
  · exact ⟨keep_drew x1, keep_drew g0, keep_drew g1, keep_drew r3, f3, keep_drew r40, keep_drew r41, f40, f41, KeepX.of_below (by go_grown)⟩
  iterate 5 (refine seqM_pure (v := ?_) (by decide) (by decide) (by rfl) ?_ ?_; rotate_left; (focus (intro sj hj w hS; obtain ⟨d1, d2, d3, d4, d5, d6, d7, d8, d9, d10⟩ := hS; go_simp; try with_reducible rfl)); (try simp only [Act.put, zA, zB, zC]))
  refine seqM_store (f := fun w' => w'.setCell ⟨s + 3, 0, none⟩ (.slice pg C.length capg)) (by decide) (by decide) (by rfl) ?_ ?_
  · (intro w hS; obtain ⟨d1, d2, d3, d4, d5, d6, d7, d8, d9, d10⟩ := hS; exact ⟨by go_simp, keep_far d1 (Ne.symm hbs), keep_far d2 (by simp), keep_far d3 (by simp), by go_cell, by rw [World.frozen?_setCell]; exact d5, keep_far d6 (by simp), keep_far d7 (by simp), by rw [World.frozen?_setCell]; exact d8, by rw [World.frozen?_setCell]; exact d9, d10.setCell (by simp) _⟩)
  (try simp only [Act.put, zA, zB, zC])
  refine seqM_store (f := fun w' => (w'.setCell ⟨s + 4, 0, none⟩ (.int .i64 ar1)).setCell ⟨s + 4, 1, none⟩ (.slice qv M.length cqv)) (by decide) (by decide) (by rfl) ?_ ?_
  · (intro w hS; obtain ⟨d1, d2, d3, d4, d5, d6, d7, d8, d9, d10⟩ := hS; exact ⟨by go_simp, keep_far (keep_far d1 (Ne.symm hbs4)) (Ne.symm hbs4), keep_far (keep_far d2 (by simp)) (by simp), keep_far (keep_far d3 (by simp)) (by simp), keep_far (keep_far d4 (by simp)) (by simp), by rw [World.frozen?_setCell, World.frozen?_setCell]; exact d5, by go_cell, by go_cell, by rw [World.frozen?_setCell, World.frozen?_setCell]; exact d8, by rw [World.frozen?_setCell, World.frozen?_setCell]; exact d9, (d10.setCell (by simp) _).setCell (by simp) _⟩)
  (try simp only [Act.put, zA, zB, zC])
  refine seqM_nil ?_
  intro w2 hS
  obtain ⟨d1, d2, d3, d4, d5, d6, d7, d8, d9, d10⟩ := hS
  have HK10 := Lib.hid d10; clear d10
  go_wp2_with fail
  have hDl := (Array.getElem?_eq_some_iff.1 HDD.out).1
  have hD2 : w2.heap[D]? = some (.deferred (some [])) := by (rw [HK10.out.block D hDl (by simp; omega)]; exact HDD.out)
  refine ⟨by simp, .inl ⟨_, _, rfl, run_takeDeferred hD2, ?_⟩⟩
  have hgp := grownBy_putObj' w2 D (.deferred none)
  have hgr : ∀ r, some D = some r → ∃ o : Obj, w2.heap[r]? = some o ∧ o.isCells = false := fun r e => by cases e; exact ⟨_, hD2, rfl⟩
  have e3 := cell_kept d4 hgp hgr; have e40 := cell_kept d6 hgp hgr; have e41 := cell_kept d7 hgp hgr
  refine ⟨.tuple #[.agg #[.slice pg C.length capg], .agg #[.int .i64 ar1, .slice qv M.length cqv]], by simp [results, Try.results95, go_sem, e3, e40, e41]; try rfl, ?_⟩
  have hne3 : ∀ ad, pg = some ad → ad.block ∉ [s + 3, s + 4] := fun ad h hm => HX4.out ad h (by simp only [List.mem_cons, List.mem_append, List.not_mem_nil, or_false] at hm ⊢; rcases hm with e | e; exact .inl e; exact .inr (.inl e))
  have hqr : ∀ ad, qv = some ad → s + 8 ≤ ad.block ∧ ad.block < W.heap.size := fun ad h => HO.out.lt ad.block (by rw [h]; rfl)
  have hne4 : ∀ ad, qv = some ad → ad.block ∉ [s + 3, s + 4] := fun ad h hm => by have := (hqr ad h).1; simp at hm; omega
  rw [HCM.out]
  refine ⟨pg, capg, qv, cqv, rfl, ⟨HX3.out.le, HX3.out.cm, HX3.out.p0, slat_kept (HX3.out.at'.keep HK10.out hne3) hgp hgr⟩, ⟨o1, o2, HO3.out, slat_kept (HO4.out.keep HK10.out hne4) hgp hgr, fun ad h => ?_⟩, ?_, fun ad h hm => HX4.out ad h (by simp only [List.mem_cons, List.mem_append]; exact .inr (.inr (.inr (.inr hm)))), fun ad h => by have := (hqr ad h).1; omega⟩
  · have h1 := (hqr ad h).2
    have h2 := HK10.out.size
    have h3 := hgp.size
    omega
  · refine KeepX.fresh (X := [bb, s + 3, s + 4, D]) (((HKX.out.sub (by simp)).trans (HK10.out.sub (by simp))).trans (KeepX.of_grown hgp (by simp))) ?_
    intro k hk
    simp at hk
    rcases hk with rfl | rfl | rfl | rfl
    · exact .inl (by simp)
    · exact .inr (by omega)
    · exact .inr (by omega)
    · exact .inr (by omega)
 rintro D c pre W _ _ h _
 exact h.elim
set_option maxRecDepth 100000 in
set_option maxHeartbeats 4000000 in
theorem zip_but (L0 : List Nat) (c : List Gate) (a b : List Cell) (ar1 ar2 : Int) (bb : Nat) (pa pb : Option Addr) (capa capb : Nat) (w : World) (hB : BxA L0 w bb c) (hL0' : ∀ k ∈ L0, k < w.heap.size) (ha : MxAt w pa capa a) (hb : MxAt w pb capb b)
 (ra : ∀ x ∈ a, x.ref ≤ 100000) (rb : ∀ x ∈ b, x.ref ≤ 100000) (hl : c.length + (a.length + b.length) ≤ 20000) (hna : ∀ ad, pa = some ad → ad.block ≠ bb) (hnb : ∀ ad, pb = some ad → ad.block ≠ bb) (hc0 : 0 < c.length) :
 Calls Try.prog 95 #[.pointer (some ⟨bb, 0, none⟩), .agg #[.int .i64 ar1, .slice pa a.length capa], .agg #[.int .i64 ar2, .slice pb b.length capb], .func (.func 90) #[.pointer (some ⟨bb, 0, none⟩)] #[]] w (ZPost L0 w bb ar1 (zrun cbut (mzip a b) (c, []))) := by
 obtain ⟨s, hs⟩ : ∃ s, w.heap.size = s := ⟨_, rfl⟩
 obtain ⟨ka, hka, hkab, hkal⟩ : ∃ k, (∀ ad, pa = some ad → ad.block = k) ∧ k ≠ bb ∧ (k < s ∨ k = s + 6) := by
  cases pa with
  | none => exact ⟨s + 6, (fun ad h => by cases h), by have := hB.lt; omega, .inr rfl⟩
  | some ad => exact ⟨ad.block, (fun x h => by cases h; rfl), hna ad rfl, .inl (by rw [← hs]; exact ha.lt ad rfl)⟩
 obtain ⟨kb, hkb, hkbb, hkbl⟩ : ∃ k, (∀ ad, pb = some ad → ad.block = k) ∧ k ≠ bb ∧ (k < s ∨ k = s + 6) := by
  cases pb with
  | none => exact ⟨s + 6, (fun ad h => by cases h), by have := hB.lt; omega, .inr rfl⟩
  | some ad => exact ⟨ad.block, (fun x h => by cases h; rfl), hnb ad rfl, .inl (by rw [← hs]; exact hb.lt ad rfl)⟩
 have HKA := Lib.hid hka; have HKB := Lib.hid hkb
 have HBB := Lib.hid hB; have HA := Lib.hid ha; have HB := Lib.hid hb; have RA := Lib.hid ra; have RB := Lib.hid rb
 have hbl : bb < s := by rw [← hs]; exact hB.lt
 have hmz := mzip_len a b
 have hL0 : ∀ k ∈ L0, k < s := fun k hk => by rw [← hs]; exact hL0' k hk
 clear hL0' hB ha hb ra rb hna hnb hka hkb
 refine (callsIn_wide (n := 4)).1 ?_
 refine callsIn_of_wp_marks Try.func95 rfl trivial ?_ rfl
 refine wpIn_wide.2 ?_
 simp only [Try.ntmps95, List.size_toArray, List.length_cons, List.length_nil, Nat.reduceAdd, Nat.reduceSub, Array.replicate_succ, Array.replicate_zero, List.push_toArray, List.append_toArray, List.nil_append, List.cons_append]
 go_wp2_with (first | (go_at_call 100; refine (merged_any _ _ ar1 ar2 _ _ _ rfl rfl ⟨_, _, _, rfl⟩ ⟨_, _, _, rfl⟩).mono ?_; rintro e w' ⟨rfl, hw'⟩))
 have z8 : w'.heap.size = s + 8 := by rw [hw', ← hs]; simp
 have BW : Below w.heap.size w w' := by rw [hw']; go_grown
 have q6 : w'.cell? ⟨s + 6, 1, none⟩ = some (.slice pa a.length capa) := by rw [hw', ← hs]; go_cell
 have q7 : w'.cell? ⟨s + 7, 1, none⟩ = some (.slice pb b.length capb) := by rw [hw', ← hs]; go_cell
 have c2 : w'.cell? ⟨s + 2, 0, none⟩ = some (.func (.func 90) #[.pointer (some ⟨bb, 0, none⟩)] #[]) := by rw [hw', ← hs]; go_cell
 have hkw : ka < w'.heap.size := by omega
 have hkw2 : kb < w'.heap.size := by omega
 have SXA := Lib.hid (suff_of (HA.out.up BW) HKA.out); have SXB := Lib.hid (suff_of (HB.out.up BW) HKB.out)
 have ZS : ∃ v, ZI L0 cbut c ar1 bb s w (.func (.func 90) #[.pointer (some ⟨bb, 0, none⟩)] #[]) [] w' v := by
  have hbb := hs ▸ hbl
  refine ⟨.slice none 0 0, ⟨by rw [hw', ← hs]; go_cell, by rw [hw', ← hs]; go_cell, by rw [hw', ← hs]; go_cell, by rw [hw', ← hs]; go_cell, World.ownsRow_nil _ _ _ _, by omega, by omega⟩, ?_, c2, by rw [hw', ← hs]; go_cell, by rw [hw', ← hs]; go_cell, by rw [hw', ← hs]; go_cell, by rw [hw', ← hs]; go_cell, by rw [hw', ← hs]; go_cell, by rw [hw', ← hs]; go_cell, KeepX.of_below BW⟩
  obtain ⟨p, cap, x1, x2, x3, x4⟩ := HBB.out
  refine ⟨p, cap, oldcell BW x1 hbb, oldfree BW x2 hbb, x3.mono BW, fun ad h => ?_⟩
  have hx4 := x4 ad h
  simp [rowOf, Value.ownBlock]
  refine ⟨?_, ?_, ?_, hx4⟩
  all_goals rcases x3.at' with h0 | ⟨b', off, hp, hb', _⟩
  all_goals first | (rw [h0] at hc0; cases hc0; done) | (rw [h] at hp; cases hp; dsimp only at hb' ⊢; omega)
 have HZS := Lib.hid ZS; have HW' := Lib.hid hw'; have HBW := Lib.hid BW
 clear ZS hw' BW c2
 rw [← HW'.out]
 simp only [Nat.add_assoc, Nat.reduceAdd]
 refine (wpIn_wide (n := 4)).1 ?_
 refine wpIn_rangeFunc_ownH (F := Fence.wide) rfl (by decide) (gf := 137) (lb := #[.pointer (some ⟨s + 6, 0, none⟩), .pointer (some ⟨s + 7, 0, none⟩)]) rfl trivial (enters_of Try.func137 (by kernel_rfl) rfl)
  (merged_stops 3 (by decide) a b (s + 6) (s + 7) ka kb ar1 ar2 pa pb capa capb w' SXA.out SXB.out RA.out RB.out hkw hkw2 q6 q7) kpB_t (kpB_b hkw hkw2) (Below.refl _ _) (fun _ => rfl)
  (fun pre W => ∃ v, ZI L0 cbut c ar1 bb s w (.func (.func 90) #[.pointer (some ⟨bb, 0, none⟩)] #[]) pre W v) (fun _ _ _ => False) (ZI.own (by omega)) (fun _ _ _ _ _ h _ _ => h.elim) HZS.out
  (fun x a' W => ∃ Bx, W.cell? ⟨Bx, 0, none⟩ = some (.int .i64 x.1.p) ∧ W.cell? ⟨Bx, 1, none⟩ = some (.int .i64 x.1.q) ∧ a' = { tmps := #[.pointer (some ⟨bb, 0, none⟩), .agg #[.int .i64 ar1, .slice pa a.length capa], .agg #[.int .i64 ar2, .slice pb b.length capb], .func (.func 90) #[.pointer (some ⟨bb, 0, none⟩)] #[], undef, .pointer (some ⟨s, 0, none⟩), .pointer (some ⟨s + 1, 0, none⟩), .pointer (some ⟨s + 2, 0, none⟩), .pointer (some ⟨s + 3, 0, none⟩), .pointer (some ⟨s + 4, 0, none⟩), .pointer (some ⟨s + 5, 0, none⟩), .int .i64 x.1.rank, .pointer (some ⟨Bx, 0, none⟩), .pointer (some ⟨s, 0, none⟩), .int .i64 ar1, .agg #[.int .i64 ar1, .slice none 0 0], .agg #[.int .i64 ar1, .slice pa a.length capa], .agg #[.int .i64 ar2, .slice pb b.length capb], .func (.func 137) #[] #[.pointer (some ⟨s + 6, 0, none⟩), .pointer (some ⟨s + 7, 0, none⟩)], .int .i64 x.1.rank, .agg #[.int .i64 x.1.p, .int .i64 x.1.q], undef, undef, undef, undef, undef, undef, undef, undef, undef, undef, undef, undef, undef], defers := [] }) (fun x a' _ W W' row h hg hr => by obtain ⟨Bx, h1, h2, h3⟩ := h; exact ⟨Bx, cell_kept h1 hg (fun r e => (hr r e).2), cell_kept h2 hg (fun r e => (hr r e).2), h3⟩) ?assign ?body ?done ?stop
 case assign =>
  intro l pre x W K hI hK
  obtain ⟨v, hz⟩ := id hI
  have hW8 := hz.g.hB
  have HI := Lib.hid hI; clear hI hz
  simp only [tEnc]
  gi_wp2
  refine hK _ _ ((KeepsOthers.alloc W _).from _) ⟨Below.heap_alloc W _ ka (by omega), Below.heap_alloc W _ kb (by omega)⟩ (OwnFrom.alloc (ZI.own (B := w'.heap.size) (by omega)) _ HI.out) ⟨W.heap.size, ?_, ?_, rfl⟩
  all_goals go_cell
 case body =>
  rintro l pre x a' W hl' ⟨r, hr⟩ ⟨v, hz⟩ ⟨Bx, k0, k1, rfl⟩ hlen
  obtain ⟨⟨⟨rank, p, q⟩, hp, hq⟩, hx⟩ : ∃ y : TriB, y = x := ⟨_, rfl⟩
  subst hx
  dsimp only at hp hq k0 k1 ⊢
  obtain ⟨c1, m1, hcm⟩ : ∃ c1 m1, zrun cbut (pre.map Subtype.val) (c, []) = (c1, m1) := ⟨_, _, rfl⟩
  obtain ⟨c2, r2, e1⟩ : ∃ c2 r2, cbut c1 p q = (c2, r2) := ⟨_, _, rfl⟩
  have hzl := zrun_len cbut_len (pre.map Subtype.val) (c, [])
  have hzg := zrun_ge cbut_ge (pre.map Subtype.val) (c, [])
  have hge := cbut_ge c1 p q
  rw [hcm] at hzl hzg
  rw [e1] at hge
  simp only [List.length_map, List.length_nil, Nat.zero_add] at hzl hzg hge
  have hne : c2 ≠ [] := by intro h; rw [h] at hge; simp at hge; rw [hge] at hzg; simp at hzg; rw [hzg] at hc0; cases hc0
  have hc1 : c1.length ≤ 20000 := by omega
  have hm1 : m1.length ≤ 100000 := by omega
  have hbx := hz.bx; have hgm := hz.g; have hfc := hz.fc
  rw [hcm] at hbx hgm
  have hLw : ∀ k ∈ (s + 3) :: (s + 4) :: (s + 5) :: (rowOf v ++ L0), k < W.heap.size := by
   intro k hk
   have := hz.g.hB
   rcases List.mem_cons.1 hk with e | hk
   · omega
   rcases List.mem_cons.1 hk with e | hk
   · omega
   rcases List.mem_cons.1 hk with e | hm
   · omega
   rcases List.mem_append.1 hm with hm | hm
   · exact (hz.g.own.lt k (rowOf_mem hm)).2
   · have := hL0 k hm; omega
  have HZ := Lib.hid hz; have HBX := Lib.hid hbx; have HGM := Lib.hid hgm; have HLW := Lib.hid hLw
  have HCM := Lib.hid hcm; have HE1 := Lib.hid e1; have HNE := Lib.hid hne
  clear hz hbx hgm hLw hcm e1 hne hzl hzg hge
  gi_wp2_with (first | (refine ⟨trivial, ?_⟩; gi_at_call 90; refine (CallsIn.inRound l (callsIn_wide.2 (butM_any ((s + 3) :: (s + 4) :: (s + 5) :: (rowOf v ++ L0)) c1 p q bb W (by omega) (by omega) hc1 HBX.out HLW.out))).mono ?_; rintro e w1 ⟨rfl, hb1, hk1⟩; rw [HE1.out] at hb1; have HB1 := Lib.hid hb1; have HK1 := Lib.hid hk1; have HG1 := Lib.hid (HGM.out.keep (X := [bb]) hk1 (fun hm => by rw [List.mem_singleton] at hm; omega) (fun k hk => by rw [List.mem_singleton] at hk; omega)); clear hb1 hk1) | (refine ⟨trivial, ?_⟩; gi_at_call 86; refine (CallsIn.inRound l (callsIn_wide.2 (put_any m1 ar1 rank (cbut c1 p q).2 (s + 5) (s + 8) v w1 HG1.out hm1))).mono ?_; rintro e w2 ⟨rfl, v', hg', hrow, hkp⟩; rw [HE1.out] at hg'))
  rw [z8]
  exact ZI.next HZ.out hs hbl HCM.out rfl HE1.out HB1.out HK1.out hg' hrow hkp hkab hkal hkbb hkbl HNE.out
 case done =>
  rintro D xs W hD hS ⟨v, hz⟩ hDD
  obtain ⟨qv, cqv, rfl, o1, o2, o3, o4⟩ := owns_val (by decide) hz.g.own
  obtain ⟨pg, capg, x1, x2, x3, x4⟩ := hz.bx
  have hmm : zrun cbut (xs.map Subtype.val) (c, []) = zrun cbut (mzip a b) (c, []) := by rw [hS]
  have r3 := hz.r3; have f3 := hz.f3; have r40 := hz.r40; have r41 := hz.r41; have f40 := hz.f40; have f41 := hz.f41; have g0 := hz.g.c0; have g1 := hz.g.c1
  have HO := Lib.hid hz.g.own; have HKX := Lib.hid hz.kx; have HX3 := Lib.hid x3; have HO4 := Lib.hid o4; have HDD := Lib.hid hDD; have HX4 := Lib.hid x4; have HO3 := Lib.hid o3
  have hW8 := hz.g.hB
  rw [hmm] at g1 x1 o1
  rw [hmm] at HO HX3 HO4
  obtain ⟨C, M, hCM⟩ : ∃ C M, zrun cbut (mzip a b) (c, []) = (C, M) := ⟨_, _, rfl⟩
  rw [hCM] at g1 x1 o1
  rw [hCM] at HO HX3 HO4
  rw [hCM]
  dsimp only at g1 x1 o1 HO HX3 HO4
  have HCM := Lib.hid hCM
  have hbs : bb ≠ s + 3 := by omega
  have hbs4 : bb ≠ s + 4 := by omega
  clear hz hS x3 x4 o4 o3 hDD hmm hCM x2
  go_wp2_with fail
  refine wp_region_seqM (fun j w' => w'.cell? ⟨bb, 0, none⟩ = some (.slice pg C.length capg) ∧ w'.cell? ⟨s + 5, 0, none⟩ = some (.int .i64 ar1) ∧ w'.cell? ⟨s + 5, 1, none⟩ = some (.slice qv M.length cqv) ∧ w'.cell? ⟨s + 3, 0, none⟩ = some (match j with | 0 => .slice none 0 0 | _ => .slice pg C.length capg) ∧ w'.frozen? ⟨s + 3, 0, none⟩ = false ∧ w'.cell? ⟨s + 4, 0, none⟩ = some (match j with | 0 | 1 => .int .i64 0 | _ => .int .i64 ar1) ∧ w'.cell? ⟨s + 4, 1, none⟩ = some (match j with | 0 | 1 => .slice none 0 0 | _ => .slice qv M.length cqv) ∧ w'.frozen? ⟨s + 4, 0, none⟩ = false ∧ w'.frozen? ⟨s + 4, 1, none⟩ = false ∧ KeepX [s + 3, s + 4] W w') [5, 6] (by kernel_rfl) (by kernel_rfl) (by kernel_rfl) ?_ ?_
  · exact ⟨keep_drew x1, keep_drew g0, keep_drew g1, keep_drew r3, f3, keep_drew r40, keep_drew r41, f40, f41, KeepX.of_below (by go_grown)⟩
  iterate 5 (refine seqM_pure (v := ?_) (by decide) (by decide) (by rfl) ?_ ?_; rotate_left; (focus (intro sj hj w hS; obtain ⟨d1, d2, d3, d4, d5, d6, d7, d8, d9, d10⟩ := hS; go_simp; try with_reducible rfl)); (try simp only [Act.put, zA, zB, zC]))
  refine seqM_store (f := fun w' => w'.setCell ⟨s + 3, 0, none⟩ (.slice pg C.length capg)) (by decide) (by decide) (by rfl) ?_ ?_
  · (intro w hS; obtain ⟨d1, d2, d3, d4, d5, d6, d7, d8, d9, d10⟩ := hS; exact ⟨by go_simp, keep_far d1 (Ne.symm hbs), keep_far d2 (by simp), keep_far d3 (by simp), by go_cell, by rw [World.frozen?_setCell]; exact d5, keep_far d6 (by simp), keep_far d7 (by simp), by rw [World.frozen?_setCell]; exact d8, by rw [World.frozen?_setCell]; exact d9, d10.setCell (by simp) _⟩)
  (try simp only [Act.put, zA, zB, zC])
  refine seqM_store (f := fun w' => (w'.setCell ⟨s + 4, 0, none⟩ (.int .i64 ar1)).setCell ⟨s + 4, 1, none⟩ (.slice qv M.length cqv)) (by decide) (by decide) (by rfl) ?_ ?_
  · (intro w hS; obtain ⟨d1, d2, d3, d4, d5, d6, d7, d8, d9, d10⟩ := hS; exact ⟨by go_simp, keep_far (keep_far d1 (Ne.symm hbs4)) (Ne.symm hbs4), keep_far (keep_far d2 (by simp)) (by simp), keep_far (keep_far d3 (by simp)) (by simp), keep_far (keep_far d4 (by simp)) (by simp), by rw [World.frozen?_setCell, World.frozen?_setCell]; exact d5, by go_cell, by go_cell, by rw [World.frozen?_setCell, World.frozen?_setCell]; exact d8, by rw [World.frozen?_setCell, World.frozen?_setCell]; exact d9, (d10.setCell (by simp) _).setCell (by simp) _⟩)
  (try simp only [Act.put, zA, zB, zC])
  refine seqM_nil ?_
  intro w2 hS
  obtain ⟨d1, d2, d3, d4, d5, d6, d7, d8, d9, d10⟩ := hS
  have HK10 := Lib.hid d10; clear d10
  go_wp2_with fail
  have hDl := (Array.getElem?_eq_some_iff.1 HDD.out).1
  have hD2 : w2.heap[D]? = some (.deferred (some [])) := by (rw [HK10.out.block D hDl (by simp; omega)]; exact HDD.out)
  refine ⟨by simp, .inl ⟨_, _, rfl, run_takeDeferred hD2, ?_⟩⟩
  have hgp := grownBy_putObj' w2 D (.deferred none)
  have hgr : ∀ r, some D = some r → ∃ o : Obj, w2.heap[r]? = some o ∧ o.isCells = false := fun r e => by cases e; exact ⟨_, hD2, rfl⟩
  have e3 := cell_kept d4 hgp hgr; have e40 := cell_kept d6 hgp hgr; have e41 := cell_kept d7 hgp hgr
  refine ⟨.tuple #[.agg #[.slice pg C.length capg], .agg #[.int .i64 ar1, .slice qv M.length cqv]], by simp [results, Try.results95, go_sem, e3, e40, e41]; try rfl, ?_⟩
  have hne3 : ∀ ad, pg = some ad → ad.block ∉ [s + 3, s + 4] := fun ad h hm => HX4.out ad h (by simp only [List.mem_cons, List.mem_append, List.not_mem_nil, or_false] at hm ⊢; rcases hm with e | e; exact .inl e; exact .inr (.inl e))
  have hqr : ∀ ad, qv = some ad → s + 8 ≤ ad.block ∧ ad.block < W.heap.size := fun ad h => HO.out.lt ad.block (by rw [h]; rfl)
  have hne4 : ∀ ad, qv = some ad → ad.block ∉ [s + 3, s + 4] := fun ad h hm => by have := (hqr ad h).1; simp at hm; omega
  rw [HCM.out]
  refine ⟨pg, capg, qv, cqv, rfl, ⟨HX3.out.le, HX3.out.cm, HX3.out.p0, slat_kept (HX3.out.at'.keep HK10.out hne3) hgp hgr⟩, ⟨o1, o2, HO3.out, slat_kept (HO4.out.keep HK10.out hne4) hgp hgr, fun ad h => ?_⟩, ?_, fun ad h hm => HX4.out ad h (by simp only [List.mem_cons, List.mem_append]; exact .inr (.inr (.inr (.inr hm)))), fun ad h => by have := (hqr ad h).1; omega⟩
  · have h1 := (hqr ad h).2
    have h2 := HK10.out.size
    have h3 := hgp.size
    omega
  · refine KeepX.fresh (X := [bb, s + 3, s + 4, D]) (((HKX.out.sub (by simp)).trans (HK10.out.sub (by simp))).trans (KeepX.of_grown hgp (by simp))) ?_
    intro k hk
    simp at hk
    rcases hk with rfl | rfl | rfl | rfl
    · exact .inl (by simp)
    · exact .inr (by omega)
    · exact .inr (by omega)
    · exact .inr (by omega)
 rintro D c pre W _ _ h _
 exact h.elim
set_option maxRecDepth 100000 in
set_option maxHeartbeats 2000000 in
theorem union_any (c : List Gate) (a b : List Cell) (ar1 ar2 : Int) (p pa pb : Option Addr) (cap capa capb : Nat) (w : World) (hC : CAt w p cap c) (ha : MxAt w pa capa a) (hb : MxAt w pb capb b)
 (ra : ∀ x ∈ a, x.ref ≤ 100000) (rb : ∀ x ∈ b, x.ref ≤ 100000) (hl : c.length + (a.length + b.length) ≤ 20000) (hc0 : 0 < c.length) :
 Calls Try.prog 42 #[.agg #[.slice p c.length cap], .agg #[.int .i64 ar1, .slice pa a.length capa], .agg #[.int .i64 ar2, .slice pb b.length capb]] w (RetCMB w p (mUnion c a b).1 ar1 (mUnion c a b).2) := by
 have HC := Lib.hid hC; have HA := Lib.hid ha; have HB := Lib.hid hb; have RA := Lib.hid ra; have RB := Lib.hid rb
 obtain ⟨s, hs⟩ : ∃ s, w.heap.size = s := ⟨_, rfl⟩
 have la : ∀ ad, pa = some ad → ad.block < s := fun ad h => by rw [← hs]; exact ha.lt ad h
 have lb : ∀ ad, pb = some ad → ad.block < s := fun ad h => by rw [← hs]; exact hb.lt ad h
 have HLA := Lib.hid la; have HLB := Lib.hid lb
 clear hC ha hb ra rb la lb
 go_enter Try.func42, Try.ntmps42
 obtain ⟨w6, hw6⟩ : ∃ w6, w6 = ((((((w.alloc (.cells #[.slice p c.length cap] 27)).alloc (.cells #[.int .i64 ar1, .slice pa a.length capa] 30)).alloc (.cells #[.int .i64 ar2, .slice pb b.length capb] 30)).alloc (.cells #[.slice none 0 0] 27)).alloc (.cells #[.int .i64 0, .slice none 0 0] 30)).alloc (.cells #[.slice p c.length cap] 87)) := ⟨_, rfl⟩
 have BW : Below w.heap.size w w6 := by rw [hw6]; go_grown
 have z6 : w6.heap.size = s + 6 := by rw [hw6, ← hs]; simp
 have hpl : ∀ ad, p = some ad → ad.block < s := by
  intro ad h
  rcases HC.out.at' with h0 | ⟨b', off, hp, hb', _⟩
  · rw [h0] at hc0; cases hc0
  · rw [h] at hp; cases hp; rw [← hs]; exact hb'
 obtain ⟨L0, hL0⟩ : ∃ L, L = (s + 3) :: (s + 4) :: oth s p := ⟨_, rfl⟩
 have hL1 : ∀ k ∈ L0, k < s + 5 := by
  intro k hk; rw [hL0] at hk
  rcases List.mem_cons.1 hk with e | hk
  · omega
  rcases List.mem_cons.1 hk with e | hk
  · omega
  have := oth_lt hk; omega
 have hL2 : ∀ k, k ∉ L0 → k ∉ [s + 3, s + 4] := by
  intro k hk hm; rw [hL0] at hk; apply hk
  simp only [List.mem_cons, List.not_mem_nil, or_false] at hm ⊢
  rcases hm with e | e
  · exact .inl e
  · exact .inr (.inl e)
 have hL3 : ∀ ad, p = some ad → ad.block ∉ L0 := by
  intro ad h hm; rw [hL0] at hm
  have := hpl ad h
  rcases List.mem_cons.1 hm with e | hm
  · omega
  rcases List.mem_cons.1 hm with e | hm
  · omega
  exact oth_not h hm
 have hL4 : ∀ k, k ∉ L0 → k < s → ∃ a, p = some a ∧ k = a.block := by
  intro k hk hl; rw [hL0] at hk
  exact oth_of (fun h => hk (List.mem_cons_of_mem _ (List.mem_cons_of_mem _ h))) hl
 have HL2 := Lib.hid hL2; have HL4 := Lib.hid hL4
 clear hL0 hL2 hL4
 have HX : BxA L0 w6 (s + 5) c := ⟨p, cap, by rw [hw6, ← hs]; go_cell, by rw [hw6, ← hs]; go_cell, HC.out.mono BW, hL3⟩
 have q3 : w6.cell? ⟨s + 3, 0, none⟩ = some (.slice none 0 0) := by rw [hw6, ← hs]; go_cell
 have q40 : w6.cell? ⟨s + 4, 0, none⟩ = some (.int .i64 0) := by rw [hw6, ← hs]; go_cell
 have q41 : w6.cell? ⟨s + 4, 1, none⟩ = some (.slice none 0 0) := by rw [hw6, ← hs]; go_cell
 have q3f : w6.frozen? ⟨s + 3, 0, none⟩ = false := by rw [hw6, ← hs]; go_cell
 have q40f : w6.frozen? ⟨s + 4, 0, none⟩ = false := by rw [hw6, ← hs]; go_cell
 have q41f : w6.frozen? ⟨s + 4, 1, none⟩ = false := by rw [hw6, ← hs]; go_cell
 have HW6 := Lib.hid hw6; have HBW := Lib.hid BW
 clear hw6 BW
 have hXL : ∀ k ∈ L0, k < w6.heap.size := by intro k hk; have := hL1 k hk; omega
 clear hL3
 go_wp2_with (first | (go_at_call 95; simp only [Nat.add_assoc, Nat.reduceAdd]; rw [← HW6.out]; refine (zip_or L0 c a b ar1 ar2 (s + 5) pa pb capa capb w6 HX hXL (HA.out.up HBW.out) (HB.out.up HBW.out) RA.out RB.out hl (fun ad h => by have := HLA.out ad h; omega) (fun ad h => by have := HLB.out ad h; omega) hc0).mono ?_; rintro e w7 ⟨p7, cap7, q7, cq7, rfl, hC7, hM7, hk7, hp7, hq7⟩; have r3 := hk7.cell q3 (by simp); have r40 := hk7.cell q40 (by simp); have r41 := hk7.cell q41 (by simp); have r3f := hk7.free q3f (by omega) (by simp); have r40f := hk7.free q40f (by omega) (by simp); have r41f := hk7.free q41f (by omega) (by simp); have HC7 := Lib.hid hC7; have HM7 := Lib.hid hM7; have HK7 := Lib.hid hk7; have HP7 := Lib.hid hp7; have HQ7 := Lib.hid hq7; clear hC7 hM7 hk7 hp7 hq7))
 obtain ⟨C, M, hCM⟩ : ∃ C M, mUnion c a b = (C, M) := ⟨_, _, rfl⟩
 have hCM2 : zrun cor (mzip a b) (c, []) = (C, M) := hCM
 rw [hCM2] at HC7 HM7 ⊢
 rw [hCM]
 dsimp only at HC7 HM7 ⊢
 have KX : KeepX [s + 3, s + 4] w7 (((w7.setCell ⟨s + 3, 0, none⟩ (.slice p7 C.length cap7)).setCell ⟨s + 4, 0, none⟩ (.int .i64 ar1)).setCell ⟨s + 4, 1, none⟩ (.slice q7 M.length cq7)) := (((KeepX.refl _ w7).setCell (by simp) _).setCell (by simp) _).setCell (by simp) _
 have e3 : (((w7.setCell ⟨s + 3, 0, none⟩ (.slice p7 C.length cap7)).setCell ⟨s + 4, 0, none⟩ (.int .i64 ar1)).setCell ⟨s + 4, 1, none⟩ (.slice q7 M.length cq7)).cell? ⟨s + 3, 0, none⟩ = some (.slice p7 C.length cap7) := by go_cell
 have e40 : (((w7.setCell ⟨s + 3, 0, none⟩ (.slice p7 C.length cap7)).setCell ⟨s + 4, 0, none⟩ (.int .i64 ar1)).setCell ⟨s + 4, 1, none⟩ (.slice q7 M.length cq7)).cell? ⟨s + 4, 0, none⟩ = some (.int .i64 ar1) := by go_cell
 have e41 : (((w7.setCell ⟨s + 3, 0, none⟩ (.slice p7 C.length cap7)).setCell ⟨s + 4, 0, none⟩ (.int .i64 ar1)).setCell ⟨s + 4, 1, none⟩ (.slice q7 M.length cq7)).cell? ⟨s + 4, 1, none⟩ = some (.slice q7 M.length cq7) := by go_cell
 obtain ⟨W9, hW9⟩ : ∃ W9, W9 = (((w7.setCell ⟨s + 3, 0, none⟩ (.slice p7 C.length cap7)).setCell ⟨s + 4, 0, none⟩ (.int .i64 ar1)).setCell ⟨s + 4, 1, none⟩ (.slice q7 M.length cq7)) := ⟨_, rfl⟩
 rw [← hW9] at KX e3 e40 e41 ⊢
 clear hW9
 refine bodyPost_ret (by simp [results, Try.results42, go_sem, e3, e40, e41]; try rfl) rfl ?_
 have hq8 : ∀ ad, q7 = some ad → ad.block ∉ [s + 3, s + 4] := fun ad h hm => by have := HQ7.out ad h; simp at hm; omega
 exact ⟨p7, cap7, q7, cq7, rfl, ⟨HC7.out.le, HC7.out.cm, HC7.out.p0, HC7.out.at'.keep KX fun ad h => HL2.out _ (HP7.out ad h)⟩, ⟨HM7.out.le, HM7.out.cm, HM7.out.p0, HM7.out.at'.keep KX hq8, fun ad h => Nat.lt_of_lt_of_le (HM7.out.lt ad h) KX.size⟩,
  (HBW.out.trans (HK7.out.below (B := w.heap.size) (by omega) (by simp; omega))).trans (KX.below (by have := HK7.out.size; omega) (by simp; omega)),
  fun ad h => by rcases Nat.lt_or_ge ad.block s with hlt | hge; exact .inl (by obtain ⟨a0, h1, h2⟩ := HL4.out _ (HP7.out ad h) hlt; exact ⟨a0, h1, h2⟩); exact .inr (by omega), fun ad h => by have := HQ7.out ad h; omega⟩
set_option maxRecDepth 100000 in
set_option maxHeartbeats 2000000 in
theorem inter_any (c : List Gate) (a b : List Cell) (ar1 ar2 : Int) (p pa pb : Option Addr) (cap capa capb : Nat) (w : World) (hC : CAt w p cap c) (ha : MxAt w pa capa a) (hb : MxAt w pb capb b)
 (ra : ∀ x ∈ a, x.ref ≤ 100000) (rb : ∀ x ∈ b, x.ref ≤ 100000) (hl : c.length + (a.length + b.length) ≤ 20000) (hc0 : 0 < c.length) :
 Calls Try.prog 50 #[.agg #[.slice p c.length cap], .agg #[.int .i64 ar1, .slice pa a.length capa], .agg #[.int .i64 ar2, .slice pb b.length capb]] w (RetCMB w p (mInter c a b).1 ar1 (mInter c a b).2) := by
 have HC := Lib.hid hC; have HA := Lib.hid ha; have HB := Lib.hid hb; have RA := Lib.hid ra; have RB := Lib.hid rb
 obtain ⟨s, hs⟩ : ∃ s, w.heap.size = s := ⟨_, rfl⟩
 have la : ∀ ad, pa = some ad → ad.block < s := fun ad h => by rw [← hs]; exact ha.lt ad h
 have lb : ∀ ad, pb = some ad → ad.block < s := fun ad h => by rw [← hs]; exact hb.lt ad h
 have HLA := Lib.hid la; have HLB := Lib.hid lb
 clear hC ha hb ra rb la lb
 go_enter Try.func50, Try.ntmps50
 obtain ⟨w6, hw6⟩ : ∃ w6, w6 = ((((((w.alloc (.cells #[.slice p c.length cap] 27)).alloc (.cells #[.int .i64 ar1, .slice pa a.length capa] 30)).alloc (.cells #[.int .i64 ar2, .slice pb b.length capb] 30)).alloc (.cells #[.slice none 0 0] 27)).alloc (.cells #[.int .i64 0, .slice none 0 0] 30)).alloc (.cells #[.slice p c.length cap] 87)) := ⟨_, rfl⟩
 have BW : Below w.heap.size w w6 := by rw [hw6]; go_grown
 have z6 : w6.heap.size = s + 6 := by rw [hw6, ← hs]; simp
 have hpl : ∀ ad, p = some ad → ad.block < s := by
  intro ad h
  rcases HC.out.at' with h0 | ⟨b', off, hp, hb', _⟩
  · rw [h0] at hc0; cases hc0
  · rw [h] at hp; cases hp; rw [← hs]; exact hb'
 obtain ⟨L0, hL0⟩ : ∃ L, L = (s + 3) :: (s + 4) :: oth s p := ⟨_, rfl⟩
 have hL1 : ∀ k ∈ L0, k < s + 5 := by
  intro k hk; rw [hL0] at hk
  rcases List.mem_cons.1 hk with e | hk
  · omega
  rcases List.mem_cons.1 hk with e | hk
  · omega
  have := oth_lt hk; omega
 have hL2 : ∀ k, k ∉ L0 → k ∉ [s + 3, s + 4] := by
  intro k hk hm; rw [hL0] at hk; apply hk
  simp only [List.mem_cons, List.not_mem_nil, or_false] at hm ⊢
  rcases hm with e | e
  · exact .inl e
  · exact .inr (.inl e)
 have hL3 : ∀ ad, p = some ad → ad.block ∉ L0 := by
  intro ad h hm; rw [hL0] at hm
  have := hpl ad h
  rcases List.mem_cons.1 hm with e | hm
  · omega
  rcases List.mem_cons.1 hm with e | hm
  · omega
  exact oth_not h hm
 have hL4 : ∀ k, k ∉ L0 → k < s → ∃ a, p = some a ∧ k = a.block := by
  intro k hk hl; rw [hL0] at hk
  exact oth_of (fun h => hk (List.mem_cons_of_mem _ (List.mem_cons_of_mem _ h))) hl
 have HL2 := Lib.hid hL2; have HL4 := Lib.hid hL4
 clear hL0 hL2 hL4
 have HX : BxA L0 w6 (s + 5) c := ⟨p, cap, by rw [hw6, ← hs]; go_cell, by rw [hw6, ← hs]; go_cell, HC.out.mono BW, hL3⟩
 have q3 : w6.cell? ⟨s + 3, 0, none⟩ = some (.slice none 0 0) := by rw [hw6, ← hs]; go_cell
 have q40 : w6.cell? ⟨s + 4, 0, none⟩ = some (.int .i64 0) := by rw [hw6, ← hs]; go_cell
 have q41 : w6.cell? ⟨s + 4, 1, none⟩ = some (.slice none 0 0) := by rw [hw6, ← hs]; go_cell
 have q3f : w6.frozen? ⟨s + 3, 0, none⟩ = false := by rw [hw6, ← hs]; go_cell
 have q40f : w6.frozen? ⟨s + 4, 0, none⟩ = false := by rw [hw6, ← hs]; go_cell
 have q41f : w6.frozen? ⟨s + 4, 1, none⟩ = false := by rw [hw6, ← hs]; go_cell
 have HW6 := Lib.hid hw6; have HBW := Lib.hid BW
 clear hw6 BW
 have hXL : ∀ k ∈ L0, k < w6.heap.size := by intro k hk; have := hL1 k hk; omega
 clear hL3
 go_wp2_with (first | (go_at_call 95; simp only [Nat.add_assoc, Nat.reduceAdd]; rw [← HW6.out]; refine (zip_and L0 c a b ar1 ar2 (s + 5) pa pb capa capb w6 HX hXL (HA.out.up HBW.out) (HB.out.up HBW.out) RA.out RB.out hl (fun ad h => by have := HLA.out ad h; omega) (fun ad h => by have := HLB.out ad h; omega) hc0).mono ?_; rintro e w7 ⟨p7, cap7, q7, cq7, rfl, hC7, hM7, hk7, hp7, hq7⟩; have r3 := hk7.cell q3 (by simp); have r40 := hk7.cell q40 (by simp); have r41 := hk7.cell q41 (by simp); have r3f := hk7.free q3f (by omega) (by simp); have r40f := hk7.free q40f (by omega) (by simp); have r41f := hk7.free q41f (by omega) (by simp); have HC7 := Lib.hid hC7; have HM7 := Lib.hid hM7; have HK7 := Lib.hid hk7; have HP7 := Lib.hid hp7; have HQ7 := Lib.hid hq7; clear hC7 hM7 hk7 hp7 hq7))
 obtain ⟨C, M, hCM⟩ : ∃ C M, mInter c a b = (C, M) := ⟨_, _, rfl⟩
 have hCM2 : zrun cand (mzip a b) (c, []) = (C, M) := hCM
 rw [hCM2] at HC7 HM7 ⊢
 rw [hCM]
 dsimp only at HC7 HM7 ⊢
 have KX : KeepX [s + 3, s + 4] w7 (((w7.setCell ⟨s + 3, 0, none⟩ (.slice p7 C.length cap7)).setCell ⟨s + 4, 0, none⟩ (.int .i64 ar1)).setCell ⟨s + 4, 1, none⟩ (.slice q7 M.length cq7)) := (((KeepX.refl _ w7).setCell (by simp) _).setCell (by simp) _).setCell (by simp) _
 have e3 : (((w7.setCell ⟨s + 3, 0, none⟩ (.slice p7 C.length cap7)).setCell ⟨s + 4, 0, none⟩ (.int .i64 ar1)).setCell ⟨s + 4, 1, none⟩ (.slice q7 M.length cq7)).cell? ⟨s + 3, 0, none⟩ = some (.slice p7 C.length cap7) := by go_cell
 have e40 : (((w7.setCell ⟨s + 3, 0, none⟩ (.slice p7 C.length cap7)).setCell ⟨s + 4, 0, none⟩ (.int .i64 ar1)).setCell ⟨s + 4, 1, none⟩ (.slice q7 M.length cq7)).cell? ⟨s + 4, 0, none⟩ = some (.int .i64 ar1) := by go_cell
 have e41 : (((w7.setCell ⟨s + 3, 0, none⟩ (.slice p7 C.length cap7)).setCell ⟨s + 4, 0, none⟩ (.int .i64 ar1)).setCell ⟨s + 4, 1, none⟩ (.slice q7 M.length cq7)).cell? ⟨s + 4, 1, none⟩ = some (.slice q7 M.length cq7) := by go_cell
 obtain ⟨W9, hW9⟩ : ∃ W9, W9 = (((w7.setCell ⟨s + 3, 0, none⟩ (.slice p7 C.length cap7)).setCell ⟨s + 4, 0, none⟩ (.int .i64 ar1)).setCell ⟨s + 4, 1, none⟩ (.slice q7 M.length cq7)) := ⟨_, rfl⟩
 rw [← hW9] at KX e3 e40 e41 ⊢
 clear hW9
 refine bodyPost_ret (by simp [results, Try.results50, go_sem, e3, e40, e41]; try rfl) rfl ?_
 have hq8 : ∀ ad, q7 = some ad → ad.block ∉ [s + 3, s + 4] := fun ad h hm => by have := HQ7.out ad h; simp at hm; omega
 exact ⟨p7, cap7, q7, cq7, rfl, ⟨HC7.out.le, HC7.out.cm, HC7.out.p0, HC7.out.at'.keep KX fun ad h => HL2.out _ (HP7.out ad h)⟩, ⟨HM7.out.le, HM7.out.cm, HM7.out.p0, HM7.out.at'.keep KX hq8, fun ad h => Nat.lt_of_lt_of_le (HM7.out.lt ad h) KX.size⟩,
  (HBW.out.trans (HK7.out.below (B := w.heap.size) (by omega) (by simp; omega))).trans (KX.below (by have := HK7.out.size; omega) (by simp; omega)),
  fun ad h => by rcases Nat.lt_or_ge ad.block s with hlt | hge; exact .inl (by obtain ⟨a0, h1, h2⟩ := HL4.out _ (HP7.out ad h) hlt; exact ⟨a0, h1, h2⟩); exact .inr (by omega), fun ad h => by have := HQ7.out ad h; omega⟩
set_option maxRecDepth 100000 in
set_option maxHeartbeats 2000000 in
theorem diff_any (c : List Gate) (a b : List Cell) (ar1 ar2 : Int) (p pa pb : Option Addr) (cap capa capb : Nat) (w : World) (hC : CAt w p cap c) (ha : MxAt w pa capa a) (hb : MxAt w pb capb b)
 (ra : ∀ x ∈ a, x.ref ≤ 100000) (rb : ∀ x ∈ b, x.ref ≤ 100000) (hl : c.length + (a.length + b.length) ≤ 20000) (hc0 : 0 < c.length) :
 Calls Try.prog 52 #[.agg #[.slice p c.length cap], .agg #[.int .i64 ar1, .slice pa a.length capa], .agg #[.int .i64 ar2, .slice pb b.length capb]] w (RetCMB w p (mDiff c a b).1 ar1 (mDiff c a b).2) := by
 have HC := Lib.hid hC; have HA := Lib.hid ha; have HB := Lib.hid hb; have RA := Lib.hid ra; have RB := Lib.hid rb
 obtain ⟨s, hs⟩ : ∃ s, w.heap.size = s := ⟨_, rfl⟩
 have la : ∀ ad, pa = some ad → ad.block < s := fun ad h => by rw [← hs]; exact ha.lt ad h
 have lb : ∀ ad, pb = some ad → ad.block < s := fun ad h => by rw [← hs]; exact hb.lt ad h
 have HLA := Lib.hid la; have HLB := Lib.hid lb
 clear hC ha hb ra rb la lb
 go_enter Try.func52, Try.ntmps52
 obtain ⟨w6, hw6⟩ : ∃ w6, w6 = ((((((w.alloc (.cells #[.slice p c.length cap] 27)).alloc (.cells #[.int .i64 ar1, .slice pa a.length capa] 30)).alloc (.cells #[.int .i64 ar2, .slice pb b.length capb] 30)).alloc (.cells #[.slice none 0 0] 27)).alloc (.cells #[.int .i64 0, .slice none 0 0] 30)).alloc (.cells #[.slice p c.length cap] 87)) := ⟨_, rfl⟩
 have BW : Below w.heap.size w w6 := by rw [hw6]; go_grown
 have z6 : w6.heap.size = s + 6 := by rw [hw6, ← hs]; simp
 have hpl : ∀ ad, p = some ad → ad.block < s := by
  intro ad h
  rcases HC.out.at' with h0 | ⟨b', off, hp, hb', _⟩
  · rw [h0] at hc0; cases hc0
  · rw [h] at hp; cases hp; rw [← hs]; exact hb'
 obtain ⟨L0, hL0⟩ : ∃ L, L = (s + 3) :: (s + 4) :: oth s p := ⟨_, rfl⟩
 have hL1 : ∀ k ∈ L0, k < s + 5 := by
  intro k hk; rw [hL0] at hk
  rcases List.mem_cons.1 hk with e | hk
  · omega
  rcases List.mem_cons.1 hk with e | hk
  · omega
  have := oth_lt hk; omega
 have hL2 : ∀ k, k ∉ L0 → k ∉ [s + 3, s + 4] := by
  intro k hk hm; rw [hL0] at hk; apply hk
  simp only [List.mem_cons, List.not_mem_nil, or_false] at hm ⊢
  rcases hm with e | e
  · exact .inl e
  · exact .inr (.inl e)
 have hL3 : ∀ ad, p = some ad → ad.block ∉ L0 := by
  intro ad h hm; rw [hL0] at hm
  have := hpl ad h
  rcases List.mem_cons.1 hm with e | hm
  · omega
  rcases List.mem_cons.1 hm with e | hm
  · omega
  exact oth_not h hm
 have hL4 : ∀ k, k ∉ L0 → k < s → ∃ a, p = some a ∧ k = a.block := by
  intro k hk hl; rw [hL0] at hk
  exact oth_of (fun h => hk (List.mem_cons_of_mem _ (List.mem_cons_of_mem _ h))) hl
 have HL2 := Lib.hid hL2; have HL4 := Lib.hid hL4
 clear hL0 hL2 hL4
 have HX : BxA L0 w6 (s + 5) c := ⟨p, cap, by rw [hw6, ← hs]; go_cell, by rw [hw6, ← hs]; go_cell, HC.out.mono BW, hL3⟩
 have q3 : w6.cell? ⟨s + 3, 0, none⟩ = some (.slice none 0 0) := by rw [hw6, ← hs]; go_cell
 have q40 : w6.cell? ⟨s + 4, 0, none⟩ = some (.int .i64 0) := by rw [hw6, ← hs]; go_cell
 have q41 : w6.cell? ⟨s + 4, 1, none⟩ = some (.slice none 0 0) := by rw [hw6, ← hs]; go_cell
 have q3f : w6.frozen? ⟨s + 3, 0, none⟩ = false := by rw [hw6, ← hs]; go_cell
 have q40f : w6.frozen? ⟨s + 4, 0, none⟩ = false := by rw [hw6, ← hs]; go_cell
 have q41f : w6.frozen? ⟨s + 4, 1, none⟩ = false := by rw [hw6, ← hs]; go_cell
 have HW6 := Lib.hid hw6; have HBW := Lib.hid BW
 clear hw6 BW
 have hXL : ∀ k ∈ L0, k < w6.heap.size := by intro k hk; have := hL1 k hk; omega
 clear hL3
 go_wp2_with (first | (go_at_call 95; simp only [Nat.add_assoc, Nat.reduceAdd]; rw [← HW6.out]; refine (zip_but L0 c a b ar1 ar2 (s + 5) pa pb capa capb w6 HX hXL (HA.out.up HBW.out) (HB.out.up HBW.out) RA.out RB.out hl (fun ad h => by have := HLA.out ad h; omega) (fun ad h => by have := HLB.out ad h; omega) hc0).mono ?_; rintro e w7 ⟨p7, cap7, q7, cq7, rfl, hC7, hM7, hk7, hp7, hq7⟩; have r3 := hk7.cell q3 (by simp); have r40 := hk7.cell q40 (by simp); have r41 := hk7.cell q41 (by simp); have r3f := hk7.free q3f (by omega) (by simp); have r40f := hk7.free q40f (by omega) (by simp); have r41f := hk7.free q41f (by omega) (by simp); have HC7 := Lib.hid hC7; have HM7 := Lib.hid hM7; have HK7 := Lib.hid hk7; have HP7 := Lib.hid hp7; have HQ7 := Lib.hid hq7; clear hC7 hM7 hk7 hp7 hq7))
 obtain ⟨C, M, hCM⟩ : ∃ C M, mDiff c a b = (C, M) := ⟨_, _, rfl⟩
 have hCM2 : zrun cbut (mzip a b) (c, []) = (C, M) := hCM
 rw [hCM2] at HC7 HM7 ⊢
 rw [hCM]
 dsimp only at HC7 HM7 ⊢
 have KX : KeepX [s + 3, s + 4] w7 (((w7.setCell ⟨s + 3, 0, none⟩ (.slice p7 C.length cap7)).setCell ⟨s + 4, 0, none⟩ (.int .i64 ar1)).setCell ⟨s + 4, 1, none⟩ (.slice q7 M.length cq7)) := (((KeepX.refl _ w7).setCell (by simp) _).setCell (by simp) _).setCell (by simp) _
 have e3 : (((w7.setCell ⟨s + 3, 0, none⟩ (.slice p7 C.length cap7)).setCell ⟨s + 4, 0, none⟩ (.int .i64 ar1)).setCell ⟨s + 4, 1, none⟩ (.slice q7 M.length cq7)).cell? ⟨s + 3, 0, none⟩ = some (.slice p7 C.length cap7) := by go_cell
 have e40 : (((w7.setCell ⟨s + 3, 0, none⟩ (.slice p7 C.length cap7)).setCell ⟨s + 4, 0, none⟩ (.int .i64 ar1)).setCell ⟨s + 4, 1, none⟩ (.slice q7 M.length cq7)).cell? ⟨s + 4, 0, none⟩ = some (.int .i64 ar1) := by go_cell
 have e41 : (((w7.setCell ⟨s + 3, 0, none⟩ (.slice p7 C.length cap7)).setCell ⟨s + 4, 0, none⟩ (.int .i64 ar1)).setCell ⟨s + 4, 1, none⟩ (.slice q7 M.length cq7)).cell? ⟨s + 4, 1, none⟩ = some (.slice q7 M.length cq7) := by go_cell
 obtain ⟨W9, hW9⟩ : ∃ W9, W9 = (((w7.setCell ⟨s + 3, 0, none⟩ (.slice p7 C.length cap7)).setCell ⟨s + 4, 0, none⟩ (.int .i64 ar1)).setCell ⟨s + 4, 1, none⟩ (.slice q7 M.length cq7)) := ⟨_, rfl⟩
 rw [← hW9] at KX e3 e40 e41 ⊢
 clear hW9
 refine bodyPost_ret (by simp [results, Try.results52, go_sem, e3, e40, e41]; try rfl) rfl ?_
 have hq8 : ∀ ad, q7 = some ad → ad.block ∉ [s + 3, s + 4] := fun ad h hm => by have := HQ7.out ad h; simp at hm; omega
 exact ⟨p7, cap7, q7, cq7, rfl, ⟨HC7.out.le, HC7.out.cm, HC7.out.p0, HC7.out.at'.keep KX fun ad h => HL2.out _ (HP7.out ad h)⟩, ⟨HM7.out.le, HM7.out.cm, HM7.out.p0, HM7.out.at'.keep KX hq8, fun ad h => Nat.lt_of_lt_of_le (HM7.out.lt ad h) KX.size⟩,
  (HBW.out.trans (HK7.out.below (B := w.heap.size) (by omega) (by simp; omega))).trans (KX.below (by have := HK7.out.size; omega) (by simp; omega)),
  fun ad h => by rcases Nat.lt_or_ge ad.block s with hlt | hge; exact .inl (by obtain ⟨a0, h1, h2⟩ := HL4.out _ (HP7.out ad h) hlt; exact ⟨a0, h1, h2⟩); exact .inr (by omega), fun ad h => by have := HQ7.out ad h; omega⟩
end Go.Proofs.Ytadilppdlbhjnaa
