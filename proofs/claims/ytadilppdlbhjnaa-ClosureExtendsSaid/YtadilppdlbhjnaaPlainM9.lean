/- Plain laws of layers 14 and 15: constant matrices append nothing. -/
import Derived.Test.YtadilppdlbhjnaaGB
namespace Go.Proofs.Ytadilppdlbhjnaa
set_option linter.unusedSimpArgs false
set_option linter.unusedVariables false

theorem smaller_min {n : Nat} {a : List Cell} {c : List Gate} : (mSmaller c n a).1.length = min (mSquaring c n a).1.length (mStepwise c n a).1.length := by
  unfold mSmaller; split <;> omega
def K01 (x : Int) : Prop := x = 0 ∨ x = 1
def KM (m : List Cell) : Prop := ∀ x ∈ m, x.ref = 0
theorem k_and {x y : Int} (hx : K01 x) (hy : K01 y) : (cand cnew x y).1 = cnew ∧ K01 (cand cnew x y).2 := by
  rcases hx with rfl | rfl <;> rcases hy with rfl | rfl <;> (unfold K01; decide)
theorem k_or {x y : Int} (hx : K01 x) (hy : K01 y) : (cor cnew x y).1 = cnew ∧ K01 (cor cnew x y).2 := by
  rcases hx with rfl | rfl <;> rcases hy with rfl | rfl <;> (unfold K01; decide)
theorem k_but {x y : Int} (hx : K01 x) (hy : K01 y) : (cbut cnew x y).1 = cnew ∧ K01 (cbut cnew x y).2 := by
  rcases hx with rfl | rfl <;> rcases hy with rfl | rfl <;> (unfold K01; decide)
theorem KM.mat {m : List Cell} (h : KM m) (r : Int) : K01 (mat m r) := by
  rcases mat_cases m r with e | ⟨x, hx, _, e⟩
  · exact .inr e
  · exact .inl (e.trans (h x hx))
theorem KM.put {m : List Cell} (h : KM m) (r : Int) {z : Int} (hz : K01 z) : KM (put m r z) := by
  unfold Proofs.Ytadilppdlbhjnaa.put
  split
  · exact h
  · rename_i hn
    intro x hx
    rcases List.mem_append.1 hx with h1 | h1
    · exact h x h1
    · rw [List.mem_singleton.1 h1]; exact hz.resolve_right hn
theorem k_zrun {op : List Gate → Int → Int → List Gate × Int} (hop : ∀ {x y : Int}, K01 x → K01 y → (op cnew x y).1 = cnew ∧ K01 (op cnew x y).2) : ∀ (T : List Tri) (m : List Cell), KM m → (∀ t ∈ T, K01 t.p ∧ K01 t.q) → (zrun op T (cnew, m)).1 = cnew ∧ KM (zrun op T (cnew, m)).2
  | [], m, hm, _ => ⟨rfl, hm⟩
  | t :: T, m, hm, ht => by
    obtain ⟨h1, h2⟩ := hop (ht t (List.mem_cons_self ..)).1 (ht t (List.mem_cons_self ..)).2
    have e : zrun op (t :: T) (cnew, m) = zrun op T ((op cnew t.p t.q).1, put m t.rank (op cnew t.p t.q).2) := rfl
    rw [e, h1]
    exact k_zrun hop T _ (hm.put _ h2) fun s hs => ht s (List.mem_cons_of_mem _ hs)
theorem k_jrun : ∀ (l : List Tri) (S : Int → Int), (∀ r, K01 (S r)) → (∀ t ∈ l, K01 t.p ∧ K01 t.q) → (jrun l (cnew, S)).1 = cnew ∧ ∀ r, K01 ((jrun l (cnew, S)).2 r)
  | [], S, hS, _ => ⟨rfl, hS⟩
  | t :: l, S, hS, ht => by
    obtain ⟨h1, h2⟩ := k_and (ht t (List.mem_cons_self ..)).1 (ht t (List.mem_cons_self ..)).2
    obtain ⟨h3, h4⟩ := k_or (hS t.rank) h2
    have e : jrun (t :: l) (cnew, S) = jrun l ((jstep (cnew, S) t).1, (jstep (cnew, S) t).2) := rfl
    have e1 : (jstep (cnew, S) t).1 = cnew := by show (cor (cand cnew t.p t.q).1 (S t.rank) (cand cnew t.p t.q).2).1 = cnew; rw [h1]; exact h3
    rw [e, e1]
    refine k_jrun l _ (fun r => ?_) fun s hs => ht s (List.mem_cons_of_mem _ hs)
    show K01 (if r = t.rank then (cor (cand cnew t.p t.q).1 (S t.rank) (cand cnew t.p t.q).2).2 else S r)
    split
    · rw [h1]; exact h4
    · exact hS r
theorem k_gather {ks : List Int} {S : Int → Int} (h : ∀ r, K01 (S r)) : KM (gather ks S) := fun x hx => by
  obtain ⟨_, e, h3⟩ := gather_mem hx
  have := h x.rank
  rw [← e] at this
  exact this.resolve_right h3
theorem k_join {N : Nat} {n p : Int} {a b : List Cell} (ha : KM a) (hb : KM b) : (mJoin cnew N n p a b).1 = cnew ∧ KM (mJoin cnew N n p a b).2 := by
  obtain ⟨h1, h2⟩ := k_jrun (jpairs n p a b) (fun _ => 1) (fun _ => .inr rfl) fun t ht => by
    obtain ⟨x, hx, y, hy, _, rfl⟩ := mem_jpairs.1 ht
    exact ⟨.inl (ha x hx), .inl (hb y hy)⟩
  exact ⟨h1, k_gather h2⟩
theorem k_mzip {a b : List Cell} (sa : Sorted a) (sb : Sorted b) (ha : KM a) (hb : KM b) : ∀ t ∈ mzip a b, K01 t.p ∧ K01 t.q := fun t ht => by
  obtain ⟨h1, h2, _⟩ := (mzip_spec a b sa sb).1 t ht
  rw [h1, h2]; exact ⟨ha.mat _, hb.mat _⟩
theorem k_union {a b : List Cell} (sa : Sorted a) (sb : Sorted b) (ha : KM a) (hb : KM b) : (mUnion cnew a b).1 = cnew ∧ KM (mUnion cnew a b).2 :=
  k_zrun (fun hx hy => k_or hx hy) _ _ (fun x hx => by cases hx) (k_mzip sa sb ha hb)
theorem k_round {n : Nat} {keep left right : List Cell} (sk : Sorted keep) (hk : KM keep) (hl : KM left) (hr : KM right) : (cround n keep left right cnew).1 = cnew ∧ KM (cround n keep left right cnew).2 := by
  obtain ⟨h1, h2⟩ := k_join (N := n * n) (n := n) (p := n) hl hr
  unfold cround
  rw [h1]
  exact k_union sk (gather_sorted (ranksTo_sl _)) hk h2
theorem k_sq {n : Nat} {a : List Cell} (hn : n ≤ 4) (ha : MOk cnew ((n * n : Nat) : Int) a) (hk : KM a) : ∀ k, k ≤ 2 → (sqTo n a cnew k).1 = cnew ∧ KM (sqTo n a cnew k).2
  | 0, _ => ⟨rfl, hk⟩
  | k + 1, h => by
    obtain ⟨h1, h2⟩ := k_sq hn ha hk k (by omega)
    have hs := (sqTo_ok hn good_new ha k (by show 1 + _ ≤ _; omega)).2.sorted
    show (cround n (sqTo n a cnew k).2 (sqTo n a cnew k).2 (sqTo n a cnew k).2 (sqTo n a cnew k).1).1 = cnew ∧ _
    rw [sqTo, h1]
    exact k_round hs h2 h2 h2
theorem k_st {n : Nat} {a : List Cell} (hn : n ≤ 4) (ha : MOk cnew ((n * n : Nat) : Int) a) (hk : KM a) : ∀ k, k ≤ 3 → (stTo n a cnew k).1 = cnew ∧ KM (stTo n a cnew k).2
  | 0, _ => ⟨rfl, hk⟩
  | k + 1, h => by
    obtain ⟨h1, h2⟩ := k_st hn ha hk k (by omega)
    rw [stTo, h1]
    exact k_round ha.sorted hk h2 hk
theorem k_smaller {n : Nat} {a : List Cell} (hn : n ≤ 4) (ha : MOk cnew ((n * n : Nat) : Int) a) (hk : KM a) : (mSmaller cnew n a).1 = cnew ∧ KM (mSmaller cnew n a).2 := by
  have h4 := plog_le4 n hn
  unfold mSmaller
  split
  · exact k_st hn ha hk (n - 1) (by omega)
  · exact k_sq hn ha hk (sqRounds n) h4
theorem k_acTo {n : Nat} {m : List Cell} (hm : KM m) : ∀ k, (acTo n m cnew k).1 = cnew ∧ K01 (acTo n m cnew k).2
  | 0 => ⟨rfl, .inl rfl⟩
  | k + 1 => by
    obtain ⟨h1, h2⟩ := k_acTo hm k
    rw [acTo, h1]
    exact k_but h2 (hm.mat _)
theorem k_acyclic {n : Nat} {a : List Cell} (hn : n ≤ 4) (ha : MOk cnew ((n * n : Nat) : Int) a) (hk : KM a) : (mAcyclic cnew n a).1 = cnew ∧ K01 (mAcyclic cnew n a).2 := by
  obtain ⟨h1, h2⟩ := k_smaller hn ha hk
  unfold mAcyclic
  rw [h1]
  exact k_acTo h2 n
theorem k_const (l : List Int) : KM (mConst l) := fun x hx => by
  obtain ⟨t, _, rfl⟩ := List.mem_map.1 hx; rfl
/-- The constant matrix of a valid matrix's value is valid. -/
theorem const_value_ok {c : List Gate} {N : Int} {m : List Cell} (h : MOk c N m) (V : List Bool) : MOk cnew N (mConst (mValue c V m)) := by
  have hl : (m.filter fun x => ceval c V x.ref).Pairwise (fun x y => x.rank < y.rank) := h.sorted.filter _
  refine ⟨?_, fun x hx => ?_, fun x hx => ?_⟩
  · unfold Sorted mConst mValue
    rw [List.map_map, List.pairwise_map]
    exact hl
  · rw [k_const _ x hx]; decide
  · obtain ⟨t, ht, rfl⟩ := List.mem_map.1 hx
    obtain ⟨y, hy, rfl⟩ := List.mem_map.1 ht
    exact h.ranks y (List.mem_filter.1 hy).1
end Go.Proofs.Ytadilppdlbhjnaa
