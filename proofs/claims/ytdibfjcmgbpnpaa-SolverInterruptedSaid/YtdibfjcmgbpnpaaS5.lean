/- The solver, plainly: what is common to all states of a search; blame; the number of conflicts. -/
import Derived.Test.YtdibfjcmgbpnpaaS4
namespace Go.Proofs.Ytdibfjcmgbpnpaa
set_option linter.unusedSimpArgs false
set_option linter.unusedVariables false

-- --- blame
def bl1 (s : SS) (st : List Bool × List Int) (y : Int) : List Bool × List Int :=
  if ¬ st.1.getD y.natAbs false = true ∨ s.lv y = 0 then st
  else if s.rs y = -1 then (st.1, st.2 ++ [y])
  else ((s.clauses.getD (s.rs y).toNat []).foldl (fun b z => b.set z.natAbs true) st.1, st.2)
def blame (s : SS) (x : Int) : List Int := (s.lits.reverse.foldl (bl1 s) ((List.replicate s.value.length false).set x.natAbs true, [x])).2

theorem fold_true : ∀ (c : List Int) (b : List Bool) (v : Nat), (c.foldl (fun b z => b.set z.natAbs true) b).getD v false = true ↔ b.getD v false = true ∨ (v < b.length ∧ ∃ z ∈ c, z.natAbs = v)
  | [], b, v => by simp
  | z :: c, b, v => by
    rw [List.foldl_cons, fold_true c, getD_set_bool, List.length_set]
    constructor
    · rintro ((⟨h1, h2⟩ | h) | ⟨h1, z', h2, h3⟩)
      · exact .inr ⟨h2, z, by simp, h1⟩
      · exact .inl h
      · exact .inr ⟨h1, z', by simp [h2], h3⟩
    · rintro (h | ⟨h1, z', h2, h3⟩)
      · exact .inl (.inr h)
      · rcases List.mem_cons.1 h2 with e | h2
        · subst e; exact .inl (.inl ⟨h3, h1⟩)
        · exact .inr ⟨h1, z', h2, h3⟩
theorem fold_true_len : ∀ (c : List Int) (b : List Bool), (c.foldl (fun b z => b.set z.natAbs true) b).length = b.length
  | [], b => rfl
  | z :: c, b => by rw [List.foldl_cons, fold_true_len c, List.length_set]

/-- the state of blame before position i: the decisions found are O -/
structure Bl (n : Nat) (D : List (List Int)) (s : SS) (x : Int) (i : Nat) (seen : List Bool) (O : List Int) : Prop where
  sl : seen.length = n + 1
  oo : ∀ y ∈ O, ∃ j, i ≤ j ∧ s.lits[j]? = some y ∧ s.rs y = -1 ∧ 0 < cnt s.marks j
  nd : O.Nodup
  der : ∀ S : Int → Prop, (∀ j z, j < i → s.lits[j]? = some z → seen.getD z.natAbs false = true → UP D S z) → (∀ z ∈ O, S z) → UP D S (-x)
theorem bl1_ok {n : Nat} {D : List (List Int)} {s : SS} (ht : Tr n s) (hr : Rs (U0 D) s) (hg : CGs D s) {x : Int} {i : Nat} {seen : List Bool} {O : List Int} (h : Bl n D s x (i + 1) seen O) {y : Int} (hy : s.lits[i]? = some y) :
    ∃ seen' O', bl1 s (seen, x :: O) y = (seen', x :: O') ∧ Bl n D s x i seen' O' := by
  have hlv := ht.lev i y hy
  have up0 := lv0_up ht hr hg
  unfold bl1
  by_cases h1 : ¬ seen.getD y.natAbs false = true ∨ s.lv y = 0
  · rw [if_pos h1]
    refine ⟨seen, O, rfl, h.sl, fun z hz => by obtain ⟨j, a, b⟩ := h.oo z hz; exact ⟨j, by omega, b⟩, h.nd, fun S hS hO => h.der S ?_ hO⟩
    intro j z a1 a2 a3
    rcases Nat.lt_or_ge j i with q | q
    · exact hS j z q a2 a3
    · have : j = i := by omega
      subst this
      rw [hy] at a2; obtain rfl := Option.some.inj a2
      rcases h1 with h1 | h1
      · exact absurd a3 h1
      · exact (up0 j y hy (by omega)).up S
  rw [if_neg h1]
  have hs : seen.getD y.natAbs false = true := by
    cases e : seen.getD y.natAbs false
    · exact absurd (.inl (by rw [e]; simp)) h1
    · rfl
  have h0 : 0 < cnt s.marks i := by
    rcases Nat.eq_zero_or_pos (cnt s.marks i) with e | e
    · exact absurd (.inr (by omega)) h1
    · exact e
  by_cases h2 : s.rs y = -1
  · rw [if_pos h2]
    refine ⟨seen, O ++ [y], rfl, h.sl, ?_, ?_, ?_⟩
    · intro z hz
      rcases List.mem_append.1 hz with hz | hz
      · obtain ⟨j, a, b⟩ := h.oo z hz; exact ⟨j, by omega, b⟩
      · rw [List.mem_singleton.1 hz]; exact ⟨i, Nat.le_refl _, hy, h2, h0⟩
    · rw [List.nodup_append]
      refine ⟨h.nd, by simp, ?_⟩
      intro a ha b hb e
      rw [List.mem_singleton] at hb
      subst e hb
      obtain ⟨j, a1, a2, -⟩ := h.oo _ ha
      have := ht.pos_uniq a2 hy
      omega
    · intro S hS hO
      refine h.der S ?_ fun z hz => hO z (List.mem_append_left _ hz)
      intro j z a1 a2 a3
      rcases Nat.lt_or_ge j i with q | q
      · exact hS j z q a2 a3
      · have : j = i := by omega
        subst this
        rw [hy] at a2; obtain rfl := Option.some.inj a2
        exact .base (hO y (by simp))
  · rw [if_neg h2]
    rcases hr i y hy with ⟨q, -⟩ | ⟨k, c, b1, b2, b3, b4, b5⟩
    · exact absurd q h2
    have hk : s.clauses.getD (s.rs y).toNat [] = c := by
      rw [b1, show ((k : Int)).toNat = k by omega, List.getD_eq_getElem?_getD, b2]; rfl
    rw [hk]
    refine ⟨_, O, rfl, by rw [fold_true_len]; exact h.sl, fun z hz => by obtain ⟨j, a, b⟩ := h.oo z hz; exact ⟨j, by omega, b⟩, h.nd, fun S hS hO => h.der S ?_ hO⟩
    intro j z a1 a2 a3
    rcases Nat.lt_or_ge j i with q | q
    · exact hS j z q a2 ((fold_true _ _ _).2 (.inl a3))
    · have : j = i := by omega
      subst this
      rw [hy] at a2; obtain rfl := Option.some.inj a2
      refine (hg c (List.mem_of_getElem? b2)).unit b3 fun w hw hwy => ?_
      obtain ⟨j', c1, c2⟩ := b4 w hw hwy
      refine hS j' _ c1 c2 ((fold_true _ _ _).2 (.inr ⟨?_, w, hw, by rw [Int.natAbs_neg]⟩))
      rw [h.sl]; exact (ht.ok _ (List.mem_of_getElem? c2)).lt
theorem bl_fold {n : Nat} {D : List (List Int)} {s : SS} (ht : Tr n s) (hr : Rs (U0 D) s) (hg : CGs D s) {x : Int} : ∀ (i : Nat) {seen : List Bool} {O : List Int}, i ≤ s.lits.length → Bl n D s x i seen O → ∃ seen' O', (s.lits.take i).reverse.foldl (bl1 s) (seen, x :: O) = (seen', x :: O') ∧ Bl n D s x 0 seen' O'
  | 0, seen, O, _, h => ⟨seen, O, by simp, h⟩
  | i + 1, seen, O, hi, h => by
    have hy : s.lits[i]? = some s.lits[i] := List.getElem?_eq_getElem (by omega)
    obtain ⟨s1, O1, e1, h1⟩ := bl1_ok ht hr hg h hy
    obtain ⟨s2, O2, e2, h2⟩ := bl_fold ht hr hg i (by omega) h1
    exact ⟨s2, O2, by rw [List.take_succ_eq_append_getElem (by omega), List.reverse_append, List.reverse_singleton, List.singleton_append, List.foldl_cons, e1, e2], h2⟩
/-- the assumptions that make x false -/
theorem blame_ok {n : Nat} {D : List (List Int)} {s : SS} (ht : Tr n s) (hr : Rs (U0 D) s) (hg : CGs D s) {x : Int} (hx : -x ∈ s.lits) :
    ∃ O, blame s x = x :: O ∧ (∀ y ∈ O, ∃ j, s.lits[j]? = some y ∧ s.rs y = -1 ∧ 0 < cnt s.marks j) ∧ (x :: O).Nodup ∧ Rup D ((x :: O).map fun y => -y) := by
  have hz : ∀ v, (List.replicate s.value.length false).getD v false = false := by
    intro v; rw [List.getD_eq_getElem?_getD, List.getElem?_replicate]; split <;> rfl
  have h0 : Bl n D s x s.lits.length ((List.replicate s.value.length false).set x.natAbs true) [] := by
    refine ⟨by rw [List.length_set, List.length_replicate]; exact ht.vl, fun y hy => by simp at hy, by simp, fun S hS _ => ?_⟩
    obtain ⟨j, hj⟩ := List.mem_iff_getElem?.1 hx
    refine hS j _ (List.getElem?_eq_some_iff.1 hj).1 hj ((getD_set_bool _ _ _).2 (.inl ⟨by rw [Int.natAbs_neg], ?_⟩))
    rw [List.length_replicate, ht.vl]; exact (ht.ok _ hx).lt
  obtain ⟨seen, O, e, h⟩ := bl_fold ht hr hg s.lits.length (Nat.le_refl _) h0
  rw [List.take_length] at e
  refine ⟨O, by unfold blame; rw [e], fun y hy => by obtain ⟨j, -, a⟩ := h.oo y hy; exact ⟨j, a⟩, ?_, ?_⟩
  · rw [List.nodup_cons]
    refine ⟨fun q => ?_, h.nd⟩
    obtain ⟨j, -, a, -⟩ := h.oo x q
    exact ht.anti (List.mem_of_getElem? a) hx
  · -- from the negations of the clause
    let S : Int → Prop := fun z => -z ∈ (x :: O).map fun y => -y
    have hS : ∀ z, z ∈ x :: O → S z := fun z hz => List.mem_map_of_mem hz
    have hd := h.der S (fun j z a => by omega) (fun z hz => hS z (List.mem_cons_of_mem _ hz))
    rcases hd.clash (hS x (List.mem_cons_self ..)) with q | q
    · refine .inl ⟨-x, List.mem_map_of_mem (List.mem_cons_self ..), q⟩
    · exact .inr q

-- --- the number that grows with every conflict
def cod : Nat → List Nat → Nat
  | 0, _ => 0
  | _ + 1, [] => 0
  | n + 1, d :: ds => d * 3 ^ n + cod n ds
theorem cod_lt : ∀ (n : Nat) (ds : List Nat), (∀ d ∈ ds, d ≤ 2) → cod n ds < 3 ^ n
  | 0, _, _ => by simp [cod]
  | n + 1, [], _ => by simp [cod]; exact Nat.pow_pos (by decide)
  | n + 1, d :: ds, h => by
    have ih := cod_lt n ds fun x hx => h x (List.mem_cons_of_mem _ hx)
    have hd := h d (List.mem_cons_self ..)
    have : d * 3 ^ n ≤ 2 * 3 ^ n := Nat.mul_le_mul_right _ hd
    unfold cod
    rw [Nat.pow_succ]; omega
theorem cod_append_le : ∀ (n : Nat) (a b : List Nat), cod n a ≤ cod n (a ++ b)
  | 0, _, _ => by simp [cod]
  | n + 1, [], b => by simp [cod]
  | n + 1, d :: a, b => by
    have := cod_append_le n a b
    simp only [List.cons_append, cod]; omega
/-- a decision that is replaced by a derived literal -/
theorem cod_step : ∀ (n : Nat) (a b c : List Nat), (∀ d ∈ b, d ≤ 2) → a.length < n → cod n (a ++ 1 :: b) < cod n (a ++ 2 :: c)
  | 0, _, _, _, _, h => by omega
  | n + 1, [], b, c, h, _ => by
    have := cod_lt n b h
    simp only [List.nil_append, cod]; omega
  | n + 1, d :: a, b, c, h, hl => by
    have := cod_step n a b c h (by simp at hl; omega)
    simp only [List.cons_append, cod]; omega
/-- the digit of a position: 1 a decision, 2 derived -/
def dgs (marks : List Nat) (n : Nat) : List Nat := (List.range n).map fun i => if i ∈ marks then 1 else 2
theorem dgs_len (marks : List Nat) (n : Nat) : (dgs marks n).length = n := by simp [dgs]
theorem dgs_le {marks : List Nat} {n d : Nat} (h : d ∈ dgs marks n) : d ≤ 2 := by
  obtain ⟨i, -, rfl⟩ := List.mem_map.1 h
  split <;> omega
theorem dgs_split (marks : List Nat) (m n : Nat) : ∃ b, dgs marks (m + (n + 1)) = dgs marks m ++ (if m ∈ marks then 1 else 2) :: b ∧ ∀ d ∈ b, d ≤ 2 := by
  refine ⟨(List.range n).map (fun i => if m + (i + 1) ∈ marks then 1 else 2), ?_, fun d hd => ?_⟩
  · unfold dgs
    rw [List.range_add, List.map_append, List.range_succ_eq_map]
    simp [Function.comp_def]
  · obtain ⟨i, -, rfl⟩ := List.mem_map.1 hd
    split <;> omega
theorem dgs_congr {marks marks' : List Nat} {n : Nat} (h : ∀ i, i < n → (i ∈ marks ↔ i ∈ marks')) : dgs marks n = dgs marks' n := by
  unfold dgs
  refine List.map_congr_left fun i hi => ?_
  have := h i (List.mem_range.1 hi)
  by_cases q : i ∈ marks
  · rw [if_pos q, if_pos (this.1 q)]
  · rw [if_neg q, if_neg (fun w => q (this.2 w))]
theorem dgs_mono (marks : List Nat) {m n : Nat} (h : m ≤ n) : ∃ b, dgs marks n = dgs marks m ++ b := by
  obtain ⟨k, rfl⟩ : ∃ k, n = m + k := ⟨n - m, by omega⟩
  exact ⟨((List.range k).map (m + ·)).map (fun i => if i ∈ marks then 1 else 2), by unfold dgs; rw [List.range_add, List.map_append]⟩
def SS.cod (n : Nat) (s : SS) : Nat := Go.Proofs.Ytdibfjcmgbpnpaa.cod n (dgs s.marks s.lits.length)
theorem cod_top (n : Nat) (s : SS) : s.cod n < 3 ^ n := cod_lt _ _ fun d hd => dgs_le hd
theorem cod_mono {n : Nat} {s s' : SS} (hm : ∀ i, i < s.lits.length → (i ∈ s.marks ↔ i ∈ s'.marks)) (hl : s.lits.length ≤ s'.lits.length) : s.cod n ≤ s'.cod n := by
  unfold SS.cod
  rw [dgs_congr hm]
  obtain ⟨b, e⟩ := dgs_mono s'.marks hl
  rw [e]; exact cod_append_le _ _ _
end Go.Proofs.Ytdibfjcmgbpnpaa
