import Derived.Test.YtadilppdlbhjnaaLR
import Derived.Test.YtadilppdlbhjnaaGN
import Derived.Test.YtadilppdlbhjnaaGI
import Derived.Lib.SlicesCompact
namespace Go.Proofs.Ytadilppdlbhjnaa
set_option linter.unusedSimpArgs false
set_option linter.unusedVariables false
theorem mValue_cv {c : List Gate} {N : Int} {m : List Cell} (V : List Bool) (h : MOk c N m) : mValue c V m = (m.filter fun x => cv c V x.ref).map Cell.rank := by
 unfold mValue
 congr 1
 exact List.filter_congr fun x hx => ceval_cv (h.ref_in hx).1 (h.ref_in hx).2
theorem mat_none {m : List Cell} {r : Int} (h : ∀ y ∈ m, y.rank ≠ r) : mat m r = 1 := by
 induction m with
 | nil => rfl
 | cons x m ih =>
  rw [mat, if_neg (h x (List.mem_cons_self ..))]
  exact ih fun y hy => h y (List.mem_cons_of_mem _ hy)
theorem mem_value {c : List Gate} {N : Int} {m : List Cell} {V : List Bool} (hg : Good c) (h : MOk c N m) (r : Int) : r ∈ mValue c V m ↔ cv c V (mat m r) = true := by
 rw [mValue_cv V h, List.mem_map]
 constructor
 · rintro ⟨x, hx, rfl⟩
   rw [List.mem_filter] at hx
   rw [mat_mem h.sorted hx.1]; exact hx.2
 · intro hv
   by_cases hm : ∃ y ∈ m, y.rank = r
   · obtain ⟨y, hy, rfl⟩ := hm
     rw [mat_mem h.sorted hy] at hv
     exact ⟨y, List.mem_filter.2 ⟨hy, hv⟩, rfl⟩
   · have h1 := mat_none (m := m) (r := r) fun y hy e => hm ⟨y, hy, e⟩
     rw [h1, cv_1 hg V] at hv; cases hv
theorem atoms_facts {k : Nat} (hk : k < 256) : IntKind.i64.wrap (k : Int) = k ∧ (k : Int).tmod 3 = ((k % 3 : Nat) : Int) ∧ ((k : Int).tdiv 3).tmod 2 = ((k / 3 % 2 : Nat) : Int) ∧ ((k : Int).tdiv 6).tmod 2 = ((k / 6 % 2 : Nat) : Int) := by
 refine ⟨by rw [IntWalk.i64_in]; omega, ?_, ?_, ?_⟩
 · rw [Int.tmod_eq_emod_of_nonneg (by omega)]; omega
 · rw [Int.tdiv_eq_ediv_of_nonneg (by omega), Int.tmod_eq_emod_of_nonneg (by omega)]; omega
 · rw [Int.tdiv_eq_ediv_of_nonneg (by omega), Int.tmod_eq_emod_of_nonneg (by omega)]; omega
end Go.Proofs.Ytadilppdlbhjnaa
namespace Go.Proofs.Ytadilppdlbhjnaa
set_option linter.unusedSimpArgs false
set_option linter.unusedVariables false
def RS (l : List Int) : Prop := l.Pairwise (· < ·)
theorem rs_ext : ∀ {a b : List Int}, RS a → RS b → (∀ x, x ∈ a ↔ x ∈ b) → a = b
 | [], [], _, _, _ => rfl
 | [], y :: b, _, _, h => absurd ((h y).2 (List.mem_cons_self ..)) (by simp)
 | x :: a, [], _, _, h => absurd ((h x).1 (List.mem_cons_self ..)) (by simp)
 | x :: a, y :: b, ha, hb, h => by
  obtain ⟨ha1, ha2⟩ := List.pairwise_cons.1 ha
  obtain ⟨hb1, hb2⟩ := List.pairwise_cons.1 hb
  have hxy : x = y := by
   rcases List.mem_cons.1 ((h x).1 (List.mem_cons_self ..)) with e | e
   · exact e
   · rcases List.mem_cons.1 ((h y).2 (List.mem_cons_self ..)) with e' | e'
     · exact e'.symm
     · have := hb1 x e; have := ha1 y e'; omega
  subst hxy
  rw [rs_ext ha2 hb2 fun z => ⟨fun hz => ?_, fun hz => ?_⟩]
  · rcases List.mem_cons.1 ((h z).1 (List.mem_cons_of_mem _ hz)) with e | e
    · have := ha1 z hz; omega
    · exact e
  · rcases List.mem_cons.1 ((h z).2 (List.mem_cons_of_mem _ hz)) with e | e
    · have := hb1 z hz; omega
    · exact e
theorem compactUpTo_ok (d : Array Int) (hs : ∀ i j, i ≤ j → j < d.size → d[i]! ≤ d[j]!) : ∀ m, m ≤ d.size → RS (Lib.compactUpTo d m) ∧ ∀ x, x ∈ Lib.compactUpTo d m ↔ ∃ j, j < m ∧ d[j]! = x
 | 0, _ => ⟨List.Pairwise.nil, fun x => ⟨fun h => by simp [Lib.compactUpTo] at h, fun ⟨j, h, _⟩ => by omega⟩⟩
 | m + 1, hm => by
  obtain ⟨h1, h2⟩ := compactUpTo_ok d hs m (by omega)
  rw [Lib.compactUpTo_succ]
  by_cases hk : Lib.keeps d m = true
  · rw [if_pos hk]
    have hlt : ∀ x ∈ Lib.compactUpTo d m, x < d[m]! := fun x hx => by
     obtain ⟨j, hj, rfl⟩ := (h2 x).1 hx
     have hne : d[m]! ≠ d[m - 1]! := by
      unfold Lib.keeps at hk
      rcases of_decide_eq_true hk with e | e
      · omega
      · exact e
     have a1 := hs j (m - 1) (by omega) (by omega)
     have a2 := hs (m - 1) m (by omega) (by omega)
     omega
    refine ⟨List.pairwise_append.2 ⟨h1, List.pairwise_singleton _ _, fun x hx y hy => by rw [List.mem_singleton.1 hy]; exact hlt x hx⟩, fun x => ?_⟩
    rw [List.mem_append, h2, List.mem_singleton]
    constructor
    · rintro (⟨j, hj, e⟩ | e)
      · exact ⟨j, by omega, e⟩
      · exact ⟨m, by omega, e.symm⟩
    · rintro ⟨j, hj, e⟩
      by_cases hjm : j = m
      · subst hjm; exact .inr e.symm
      · exact .inl ⟨j, by omega, e⟩
  · rw [if_neg hk, List.append_nil]
    refine ⟨h1, fun x => ?_⟩
    rw [h2]
    constructor
    · rintro ⟨j, hj, e⟩; exact ⟨j, by omega, e⟩
    · rintro ⟨j, hj, e⟩
      by_cases hjm : j = m
      · subst hjm
        have hne : ¬ (j = 0 ∨ d[j]! ≠ d[j - 1]!) := by unfold Lib.keeps at hk; simpa using hk
        exact ⟨j - 1, by omega, by rw [← e]; exact (Classical.byContradiction fun h => hne (.inr fun e' => h e'.symm))⟩
      · exact ⟨j, by omega, e⟩
def nrm (l : List Int) : List Int := Lib.compact (l.mergeSort fun x y => decide (x ≤ y))
theorem nrm_ok (l : List Int) : RS (nrm l) ∧ ∀ x, x ∈ nrm l ↔ x ∈ l := by
 obtain ⟨m, hm⟩ : ∃ m, (l.mergeSort fun x y => decide (x ≤ y)) = m := ⟨_, rfl⟩
 have hp : m.Pairwise (fun x y => decide (x ≤ y) = true) := by
  rw [← hm]; exact List.pairwise_mergeSort (fun a b c h1 h2 => by simp at *; omega) (fun a b => by simp; omega) l
 have hmem : ∀ x, x ∈ m ↔ x ∈ l := fun x => by rw [← hm]; exact List.mem_mergeSort
 have hs : ∀ i j, i ≤ j → j < m.toArray.size → m.toArray[i]! ≤ m.toArray[j]! := fun i j hij hj => by
  have hj' : j < m.length := by simpa using hj
  have hi' : i < m.length := by omega
  rcases Nat.lt_or_eq_of_le hij with h | rfl
  · have := List.pairwise_iff_getElem.1 hp i j hi' hj' h
    simpa [getElem!_pos, hi', hj'] using this
  · exact Int.le_refl _
 obtain ⟨h1, h2⟩ := compactUpTo_ok m.toArray hs m.length (by simp)
 unfold nrm Lib.compact
 rw [hm]
 refine ⟨h1, fun x => ?_⟩
 rw [h2, ← hmem]
 constructor
 · rintro ⟨j, hj, e⟩
   rw [← e]; simp [getElem!_pos, hj]
 · intro h
   obtain ⟨j, hj, e⟩ := List.getElem_of_mem h
   exact ⟨j, hj, by simp [getElem!_pos, hj, e]⟩
theorem nrm_rs (l : List Int) : RS (nrm l) := (nrm_ok l).1
theorem mem_nrm {l : List Int} {x : Int} : x ∈ nrm l ↔ x ∈ l := (nrm_ok l).2 x
theorem rs_tail {x : Int} {l : List Int} (h : RS (x :: l)) : RS l := (List.pairwise_cons.1 h).2
theorem rs_len : ∀ {l : List Int} {lo N : Int}, RS l → (∀ x ∈ l, lo ≤ x ∧ x < N) → l.length ≤ (N - lo).toNat
 | [], _, _, _, _ => Nat.zero_le _
 | x :: m, lo, N, hs, h => by
  have h1 := h x (List.mem_cons_self ..)
  have := rs_len (lo := x + 1) (N := N) (rs_tail hs) fun y hy => ⟨by have := (List.pairwise_cons.1 hs).1 y hy; omega, (h y (List.mem_cons_of_mem _ hy)).2⟩
  simp only [List.length_cons]; omega
theorem rs_nodup {l : List Int} (h : RS l) : l.Nodup := List.Pairwise.imp (fun h => by omega) h
theorem rs_same {a b : List Int} (ha : RS a) (hb : RS b) (h : ∀ x ∈ a, x ∈ b) (hl : b.length ≤ a.length) : a = b := by
 have key : ∀ (a b : List Int), RS a → RS b → (∀ x ∈ a, x ∈ b) → a.length ≤ b.length ∧ (b.length ≤ a.length → ∀ x ∈ b, x ∈ a) := by
  intro a
  induction a with
  | nil => intro b _ _ _; exact ⟨Nat.zero_le _, fun hl x hx => by have := List.length_pos_of_mem hx; simp only [List.length_nil] at hl; omega⟩
  | cons y a ih =>
   intro b ha hb h
   obtain ⟨h1, h2⟩ := List.pairwise_cons.1 ha
   have hf : RS (b.filter fun z => decide (y < z)) := List.Pairwise.filter _ hb
   have hy := h y (List.mem_cons_self ..)
   obtain ⟨i1, i2⟩ := ih (b.filter fun z => decide (y < z)) h2 hf fun x hx => List.mem_filter.2 ⟨h x (List.mem_cons_of_mem _ hx), by simpa using h1 x hx⟩
   have hlt : (b.filter fun z => decide (y < z)).length < b.length := by
    rcases Nat.lt_or_ge (b.filter fun z => decide (y < z)).length b.length with h | h
    · exact h
    · have := List.filter_eq_self.1 ((List.filter_sublist (p := fun z => decide (y < z)) (l := b)).eq_of_length_le h) y hy
      simp at this
   refine ⟨by simp; omega, fun hl x hx => ?_⟩
   simp only [List.length_cons] at hl
   have i3 := i2 (by omega)
   by_cases hxy : y < x
   · exact List.mem_cons_of_mem _ (i3 x (List.mem_filter.2 ⟨hx, by simpa using hxy⟩))
   · by_cases e : x = y
     · rw [e]; exact List.mem_cons_self ..
     · exfalso
       have hxlt : x < y := by omega
       have hsub : (b.filter fun z => decide (y < z)).length + 2 ≤ b.length := by
        have hnd := rs_nodup hb
        have h3 : (x :: y :: (b.filter fun z => decide (y < z))).Nodup := by
         refine List.nodup_cons.2 ⟨?_, List.nodup_cons.2 ⟨?_, rs_nodup hf⟩⟩
         · intro hm
           rcases List.mem_cons.1 hm with e' | hm
           · omega
           · have := (List.mem_filter.1 hm).2; simp at this; omega
         · intro hm; have := (List.mem_filter.1 hm).2; simp at this
        have h4 := h3.length_le_of_subset (l₂ := b) (fun z hz => by
         rcases List.mem_cons.1 hz with e' | hz
         · rw [e']; exact hx
         · rcases List.mem_cons.1 hz with e' | hz
           · rw [e']; exact hy
           · exact (List.mem_filter.1 hz).1)
        simpa using h4
       omega
 exact rs_ext ha hb fun x => ⟨h x, (key a b ha hb h).2 hl x⟩
def rUnion (a b : List Int) : List Int := nrm (a ++ b)
def jrow (n p : Int) (b : List Int) (x : Int) : List Int := ((b.filter fun y => y / p == x % n).map fun y => y % p).map fun y => x / n * p + y
def jouts (n p : Int) (a b : List Int) : List Int := a.flatMap (jrow n p b)
def rJoin (n p : Int) (a b : List Int) : List Int := nrm (jouts n p a b)
theorem mem_union {a b : List Int} {r : Int} : r ∈ rUnion a b ↔ r ∈ a ∨ r ∈ b := by unfold rUnion; rw [mem_nrm, List.mem_append]
theorem mem_join {n p : Int} {a b : List Int} {r : Int} : r ∈ rJoin n p a b ↔ ∃ x ∈ a, ∃ y ∈ b, y / p = x % n ∧ r = x / n * p + y % p := by
 unfold rJoin jouts jrow
 rw [mem_nrm, List.mem_flatMap]
 constructor
 · rintro ⟨x, hx, h⟩
   obtain ⟨z, hz, rfl⟩ := List.mem_map.1 h
   obtain ⟨y, hy, rfl⟩ := List.mem_map.1 hz
   obtain ⟨h1, h2⟩ := List.mem_filter.1 hy
   exact ⟨x, hx, y, h1, by simpa using h2, rfl⟩
 · rintro ⟨x, hx, y, hy, e, rfl⟩
   exact ⟨x, hx, List.mem_map.2 ⟨_, List.mem_map.2 ⟨y, List.mem_filter.2 ⟨hy, by simpa using e⟩, rfl⟩, rfl⟩⟩
def Rk (n : Nat) (l : List Int) : Prop := ∀ r ∈ l, 0 ≤ r ∧ r < ((n * n : Nat) : Int)
theorem Rk.join {n : Nat} {a b : List Int} (ha : Rk n a) (hb : Rk n b) : Rk n (rJoin n n a b) := fun r hr => by
 obtain ⟨x, hx, y, hy, e, rfl⟩ := mem_join.1 hr
 obtain ⟨x0, x1, x2, x3, x4⟩ := rank_lt (ha x hx).1 (ha x hx).2
 obtain ⟨y0, y1, y2, y3, y4⟩ := rank_lt (hb y hy).1 (hb y hy).2
 exact ⟨(pair_lt x0 x1 y2 y3).1, (pair_lt x0 x1 y2 y3).2.1⟩
theorem Rk.union {n : Nat} {a b : List Int} (ha : Rk n a) (hb : Rk n b) : Rk n (rUnion a b) := fun r hr => by
 rcases mem_union.1 hr with h | h
 · exact ha r h
 · exact hb r h
structure IsClo (n : Nat) (a L : List Int) : Prop where
 rs : RS L
 rk : Rk n L
 sub : ∀ r ∈ a, r ∈ L
 cl : ∀ r ∈ rJoin n n L L, r ∈ L
 least : ∀ T : Int → Prop, (∀ r ∈ a, T r) → (∀ x y, T x → T y → y / (n : Int) = x % n → T (x / n * n + y % n)) → ∀ r ∈ L, T r
structure CloI (n : Nat) (a L : List Int) : Prop where
 rs : RS L
 rk : Rk n L
 sub : ∀ r ∈ a, r ∈ L
 least : ∀ T : Int → Prop, (∀ r ∈ a, T r) → (∀ x y, T x → T y → y / (n : Int) = x % n → T (x / n * n + y % n)) → ∀ r ∈ L, T r
theorem CloI.start {n : Nat} {a : List Int} (hs : RS a) (hr : Rk n a) : CloI n a a := ⟨hs, hr, fun _ h => h, fun T h _ => h⟩
theorem CloI.next {n : Nat} {a L : List Int} (h : CloI n a L) : CloI n a (rUnion L (rJoin n n L L)) := by
 refine ⟨nrm_rs _, h.rk.union (h.rk.join h.rk), fun r hr => mem_union.2 (.inl (h.sub r hr)), fun T h1 h2 r hr => ?_⟩
 rcases mem_union.1 hr with hr | hr
 · exact h.least T h1 h2 r hr
 · obtain ⟨x, hx, y, hy, e, rfl⟩ := mem_join.1 hr
   exact h2 x y (h.least T h1 h2 x hx) (h.least T h1 h2 y hy) e
theorem CloI.len {n : Nat} {a L : List Int} (h : CloI n a L) : L.length ≤ n * n := by
 have := rs_len h.rs h.rk; omega
theorem CloI.done {n : Nat} {a L : List Int} (h : CloI n a L) (hl : (rUnion L (rJoin n n L L)).length = L.length) : IsClo n a L := by
 refine ⟨h.rs, h.rk, h.sub, fun r hr => ?_, h.least⟩
 have e := rs_same h.rs (nrm_rs _) (b := rUnion L (rJoin n n L L)) (fun x hx => mem_union.2 (.inl hx)) (by omega)
 rw [e]; exact mem_union.2 (.inr hr)
theorem CloI.more {n : Nat} {a L : List Int} (h : CloI n a L) : L.length ≤ (rUnion L (rJoin n n L L)).length := by
 have := (rs_nodup h.rs).length_le_of_subset (l₂ := rUnion L (rJoin n n L L)) (fun x hx => mem_union.2 (.inl hx))
 exact this
def PairIn (n : Nat) (l : List Int) (x y : Int) : Prop := x * n + y ∈ l
theorem IsClo.path {n : Nat} {a L : List Int} (h : IsClo n a L) (ha : Rk n a) {x y : Int} (hx0 : 0 ≤ x) (hx : x < n) (hy0 : 0 ≤ y) (hy : y < n) : PairIn n L x y ↔ PathN n (PairIn n a) n x y := by
 constructor
 · intro hL
   have key := h.least (fun r => (0 ≤ r ∧ r < ((n * n : Nat) : Int)) ∧ PathN n (PairIn n a) n (r / n) (r % n)) (fun r hr => by
    obtain ⟨x0, x1, x2, x3, x4⟩ := rank_lt (ha r hr).1 (ha r hr).2
    refine ⟨ha r hr, PathN.mono (m := 1) (.inl ?_) (by omega)⟩
    unfold PairIn; rw [x4]; exact hr) (fun u v ⟨⟨u0, u1⟩, hu⟩ ⟨⟨v0, v1⟩, hv⟩ e => by
    obtain ⟨x0, x1, x2, x3, x4⟩ := rank_lt u0 u1
    obtain ⟨y0, y1, y2, y3, y4⟩ := rank_lt v0 v1
    obtain ⟨p0, p1, p2, p3⟩ := pair_lt x0 x1 y2 y3
    refine ⟨⟨p0, p1⟩, ?_⟩
    rw [p2, p3]
    rw [e] at hv
    exact (PathN.cat hu x2 x3 hv).enough y2 y3) _ hL
   obtain ⟨p0, p1, p2, p3⟩ := pair_lt hx0 hx hy0 hy
   have := key.2
   rwa [p2, p3] at this
 · have key : ∀ m (y : Int), 0 ≤ y → y < n → PathN n (PairIn n a) m x y → PairIn n L x y := by
    intro m
    induction m with
    | zero => intro y _ _ h; exact h.elim
    | succ m ih =>
     intro y hy0 hy hp
     rcases hp with hp | ⟨z, z0, z1, z2, z3⟩
     · exact h.sub _ hp
     · have h1 := ih z z0 z1 z2
       have h2 := h.sub _ z3
       refine h.cl _ (mem_join.2 ⟨_, h1, _, h2, ?_, ?_⟩)
       · rw [(pair_lt z0 z1 hy0 hy).2.2.1, (pair_lt hx0 hx z0 z1).2.2.2]
       · rw [(pair_lt hx0 hx z0 z1).2.2.1, (pair_lt z0 z1 hy0 hy).2.2.2]
   exact key n y hy0 hy
theorem value_rs {c : List Gate} {N : Int} {m : List Cell} (V : List Bool) (h : MOk c N m) : RS (mValue c V m) := by
 unfold mValue RS
 rw [List.pairwise_map]
 exact List.Pairwise.filter _ h.sorted
theorem value_rk {c : List Gate} {n : Nat} {m : List Cell} (V : List Bool) (h : MOk c ((n * n : Nat) : Int) m) : Rk n (mValue c V m) := fun r hr => by
 unfold mValue at hr
 obtain ⟨y, hy, rfl⟩ := List.mem_map.1 hr
 exact h.ranks y (List.mem_filter.1 hy).1
theorem pair_value {c : List Gate} {n : Nat} {m : List Cell} {V : List Bool} (hg : Good c) (h : MOk c ((n * n : Nat) : Int) m) : PairIn n (mValue c V m) = RelOf n c V m := by
 funext x y
 exact propext (mem_value hg h _)
theorem denotes {c C : List Gate} {n : Nat} {a M : List Cell} {V : List Bool} {L : List Int} (hg : Good c) (hG : Good C) (ha : MOk c ((n * n : Nat) : Int) a) (hM : MOk C ((n * n : Nat) : Int) M)
 (hp : ∀ x y : Int, 0 ≤ x → x < n → 0 ≤ y → y < n → (RelOf n C V M x y ↔ PathN n (RelOf n c V a) n x y)) (hL : IsClo n (mValue c V a) L) : mValue C V M = L := by
 refine rs_ext (value_rs V hM) hL.rs fun r => ?_
 have key : 0 ≤ r → r < ((n * n : Nat) : Int) → (r ∈ mValue C V M ↔ r ∈ L) := fun h0 h1 => by
  obtain ⟨x0, x1, x2, x3, x4⟩ := rank_lt h0 h1
  have e1 := hp (r / n) (r % n) x0 x1 x2 x3
  have e2 := hL.path (value_rk V ha) x0 x1 x2 x3
  rw [pair_value hg ha, ← e1, ← pair_value hG hM] at e2
  unfold PairIn at e2
  rw [x4] at e2
  exact e2.symm
 exact ⟨fun h => (key (value_rk V hM r h).1 (value_rk V hM r h).2).1 h, fun h => (key (hL.rk r h).1 (hL.rk r h).2).2 h⟩
end Go.Proofs.Ytadilppdlbhjnaa
namespace Go.Proofs.Ytadilppdlbhjnaa
set_option linter.unusedSimpArgs false
set_option linter.unusedVariables false
section
variable {n : Nat} {r t : List Int} (hn : 0 < n) (hr : Rk n r) (hs : RS r) (ht : Rk n t) (hst : RS t) (hp : ∀ x y : Int, 0 ≤ x → x < n → 0 ≤ y → y < n → (PairIn n t x y ↔ PathN n (PairIn n r) n x y))
include hn hr hs ht hst hp
end
end Go.Proofs.Ytadilppdlbhjnaa
namespace Go.Proofs.Ytadilppdlbhjnaa
set_option linter.unusedSimpArgs false
set_option linter.unusedVariables false
end Go.Proofs.Ytadilppdlbhjnaa
