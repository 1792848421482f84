/- The analysis of a conflict runs to its end: what its walk needs of each turn. -/
import Derived.Test.YtdibfjcmgbpnpaaS8
namespace Go.Proofs.Ytdibfjcmgbpnpaa
set_option linter.unusedSimpArgs false
set_option linter.unusedVariables false

theorem Am.olen {n i op to : Nat} {s : SS} {seen : List Bool} {O : List Int} (h : Am n s i seen O op to) (ht : Tr n s) : O.length ≤ s.value.length := by
  have h1 := h.on
  have h2 : ∀ v ∈ O.map Int.natAbs, v ∈ List.range' 1 n := by
    intro v hv
    obtain ⟨x, hx, rfl⟩ := List.mem_map.1 hv
    obtain ⟨j, hj, -⟩ := h.oo x hx
    have := ht.ok _ (List.mem_of_getElem? hj)
    rw [List.mem_range'_1]
    have h3 := this.1; have h4 := this.2
    rw [Int.natAbs_neg] at h4
    omega
  have h3 := nodup_len h1 h2
  rw [ht.vl]
  simp at h3
  omega
/-- the count and the literals only grow -/
theorem an1_grow (s : SS) (p : Int) (st : List Bool × List Int × Nat × Nat) (x : Int) : st.2.2.1 ≤ (an1 s p st x).2.2.1 ∧ st.2.1.length ≤ (an1 s p st x).2.1.length ∧ (an1 s p st x).1.length = st.1.length := by
  unfold an1
  split
  · exact ⟨Nat.le_refl _, Nat.le_refl _, rfl⟩
  · split
    · exact ⟨by dsimp only; omega, Nat.le_refl _, by simp⟩
    · exact ⟨Nat.le_refl _, by simp, by simp⟩
theorem an_grow (s : SS) (p : Int) : ∀ (l : List Int) (st : List Bool × List Int × Nat × Nat), st.2.2.1 ≤ (l.foldl (an1 s p) st).2.2.1 ∧ st.2.1.length ≤ (l.foldl (an1 s p) st).2.1.length ∧ (l.foldl (an1 s p) st).1.length = st.1.length
  | [], st => ⟨Nat.le_refl _, Nat.le_refl _, rfl⟩
  | x :: l, st => by
    obtain ⟨a1, a2, a3⟩ := an1_grow s p st x
    obtain ⟨b1, b2, b3⟩ := an_grow s p l (an1 s p st x)
    rw [List.foldl_cons]
    exact ⟨by omega, by omega, by omega⟩
/-- each turn finds a seen literal, and its reason is a clause -/
def AnRuns (s : SS) : Nat → Nat → List Bool × List Int × Nat × Nat → Nat → Int → Prop
  | 0, _, _, _, _ => False
  | f + 1, k, st, i, p =>
    k < s.clauses.length ∧ i ≤ s.lits.length ∧ (∃ seen O op to, st = (seen, 0 :: O, op, to)) ∧ (∃ seen O op to, (s.clauses.getD k []).foldl (an1 s p) st = (seen, 0 :: O, op, to) ∧ seen.length = s.value.length ∧ 0 < op ∧ op ≤ s.lits.length ∧ O.length ≤ s.value.length ∧ (∃ j z, j < i ∧ s.lits[j]? = some z ∧ seen.getD z.natAbs false = true)) ∧
    (((s.clauses.getD k []).foldl (an1 s p) st).2.2.1 ≠ 1 → 0 ≤ s.rs (s.lits.getD (backTo s ((s.clauses.getD k []).foldl (an1 s p) st).1 i) 0) ∧
      AnRuns s f (s.rs (s.lits.getD (backTo s ((s.clauses.getD k []).foldl (an1 s p) st).1 i) 0)).toNat (((s.clauses.getD k []).foldl (an1 s p) st).1, ((s.clauses.getD k []).foldl (an1 s p) st).2.1, ((s.clauses.getD k []).foldl (an1 s p) st).2.2.1 - 1, ((s.clauses.getD k []).foldl (an1 s p) st).2.2.2) (backTo s ((s.clauses.getD k []).foldl (an1 s p) st).1 i) (s.lits.getD (backTo s ((s.clauses.getD k []).foldl (an1 s p) st).1 i) 0))
theorem anal_runs {n : Nat} {D : List (List Int)} {s : SS} (ht : Tr n s) (hr : Rs (U0 D) s) (hg : CGs D s) (hL : 0 < s.marks.length) : ∀ (f k : Nat) (seen : List Bool) (O : List Int) (op to i : Nat) (p : Int) (cl : List Int), Am n s i seen O op to → i < f → i ≤ s.lits.length → s.clauses[k]? = some cl →
    (∀ x ∈ cl, x ≠ p → ∃ j, j < i ∧ s.lits[j]? = some (-x)) → (0 < op ∨ ∃ g ∈ cl, g ≠ p ∧ ∃ j, s.lits[j]? = some (-g) ∧ cnt s.marks j = s.marks.length) →
    (∀ S : Int → Prop, (∀ j z, j < i → s.lits[j]? = some z → seen.getD z.natAbs false = true → UP D S z) → (∀ y ∈ cl, y ≠ p → UP D S (-y)) → Cf D S) →
    AnRuns s f k (seen, 0 :: O, op, to) i p
  | 0, _, _, _, _, _, i, _, _, _, hf, _, _, _, _, _ => by omega
  | f + 1, k, seen, O, op, to, i, p, cl, h, hf, hi, hk, hcl, hop, hK => by
    have hgd : s.clauses.getD k [] = cl := by rw [List.getD_eq_getElem?_getD, hk]; rfl
    obtain ⟨s1, O1, op1, to1, e1, h1, m1, l1, k1⟩ := an_fold ht h hcl
    unfold AnRuns
    rw [hgd, e1]
    dsimp only
    have up0 := lv0_up ht hr hg
    -- a seen literal of the last level
    have hop1 : 0 < op1 := by
      rcases hop with q | ⟨g, g1, g2, j, g3, g4⟩
      · omega
      · rw [h1.op]
        unfold num
        rw [List.countP_pos_iff]
        obtain ⟨j', b1, b2⟩ := hcl g g1 g2
        have e := ht.lev j _ g3
        rw [lv_neg] at e
        refine ⟨-g, List.mem_of_getElem? (i := j') (by rw [List.getElem?_take, if_pos b1]; exact b2), ?_⟩
        rw [lv_neg, Int.natAbs_neg]
        rcases k1 g g1 g2 with q | q
        · omega
        · rw [q, e, g4]; simp
    have hex : ∃ j z, j < i ∧ s.lits[j]? = some z ∧ s1.getD z.natAbs false = true ∧ s.lv z = s.marks.length := by
      have := h1.op
      unfold num at this
      have hp : 0 < (s.lits.take i).countP (fun z => Decidable.decide (s.lv z = s.marks.length) && s1.getD z.natAbs false) := by omega
      rw [List.countP_pos_iff] at hp
      obtain ⟨z, hz, hzz⟩ := hp
      rw [Bool.and_eq_true] at hzz
      obtain ⟨j, hj⟩ := List.mem_iff_getElem?.1 hz
      rw [List.getElem?_take] at hj
      split at hj
      · exact ⟨j, z, by assumption, hj, hzz.2, by simpa using hzz.1⟩
      · cases hj
    obtain ⟨j0, z0, hj0, hz0, hs0, hlz0⟩ := hex
    obtain ⟨q, hb1, hb2, hb3, hb4, hb5⟩ := backTo_ok s s1 hi ⟨j0, z0, hj0, hz0, hs0⟩
    generalize ha : backTo s s1 i = a at *
    have hqd : s.lits.getD a 0 = q := by rw [List.getD_eq_getElem?_getD, hb2]; rfl
    rw [hqd]
    have hlq0 := ht.lev a q hb2
    have hlq : s.lv q = s.marks.length := by
      have c1 := ht.lev j0 z0 hz0
      have : j0 ≤ a := by
        rcases Nat.lt_or_ge a j0 with w | w
        · rw [hb4 j0 z0 w hj0 hz0] at hs0; cases hs0
        · exact w
      have c2 := cnt_mono s.marks this
      have c3 := cnt_le s.marks a
      omega
    rw [if_pos hlq] at hb5
    have hopa : op1 = 1 + num s s1 a := by rw [h1.op, hb5]
    -- what stands before i and is seen: q, or before a
    have hK2 : ∀ S : Int → Prop, UP D S q → (∀ j z, j < a → s.lits[j]? = some z → s1.getD z.natAbs false = true → UP D S z) → Cf D S := by
      intro S hq hS
      have hall : ∀ j z, j < i → s.lits[j]? = some z → s1.getD z.natAbs false = true → UP D S z := by
        intro j z b1 b2 b3
        rcases Nat.lt_trichotomy j a with w | w | w
        · exact hS j z w b2 b3
        · subst w; rw [hb2] at b2; rw [← Option.some.inj b2]; exact hq
        · rw [hb4 j z w b1 b2] at b3; cases b3
      refine hK S (fun j z b1 b2 b3 => hall j z b1 b2 (m1 _ b3)) fun y hy hyp => ?_
      obtain ⟨j, b1, b2⟩ := hcl y hy hyp
      rcases k1 y hy hyp with w | w
      · have := ht.lev j _ b2
        rw [lv_neg] at this
        exact (up0 j _ b2 (by omega)).up S
      · exact hall j _ b1 b2 (by rw [Int.natAbs_neg]; exact w)
    have hcq : cnt s.marks a = s.marks.length := by omega
    refine ⟨(List.getElem?_eq_some_iff.1 hk).1, hi, ⟨_, _, _, _, rfl⟩, ⟨s1, O1, op1, to1, rfl, by rw [h1.sl, ht.vl], hop1, by rw [h1.op]; unfold num; exact Nat.le_trans List.countP_le_length (by rw [List.length_take]; omega), h1.olen ht, ⟨j0, z0, hj0, hz0, hs0⟩⟩, fun hone => ?_⟩
    -- another seen literal of the last level lies before q: q is no decision
    have hnm : a ∉ s.marks := by
      intro w
      have h0 : 0 < num s s1 a := by omega
      unfold num at h0
      rw [List.countP_pos_iff] at h0
      obtain ⟨z, hz, hzz⟩ := h0
      rw [Bool.and_eq_true] at hzz
      obtain ⟨j, hj⟩ := List.mem_iff_getElem?.1 hz
      rw [List.getElem?_take] at hj
      split at hj
      · rename_i hja
        have e := ht.lev j z hj
        have e2 : s.lv z = s.marks.length := by simpa using hzz.1
        have := cnt_full (show cnt s.marks j = s.marks.length by omega) a w
        omega
      · cases hj
    rcases hr a q hb2 with ⟨-, ⟨w, -⟩ | w⟩ | ⟨k', c, c1, c2, c3, c4, c5⟩
    · omega
    · exact absurd w hnm
    · rw [c1]
      have hnn : ((k' : Int)).toNat = k' := by omega
      rw [hnn]
      refine ⟨by omega, ?_⟩
      refine anal_runs ht hr hg hL f k' s1 O1 (op1 - 1) to1 a q c ⟨h1.sl, h1.oo, h1.on, h1.ot, h1.tt, h1.so, by omega⟩ (by omega) (by omega) c2 c4 (.inl (by omega)) ?_
      intro S hS hy
      refine hK2 S ?_ hS
      exact (hg c (List.mem_of_getElem? c2)).unit c3 hy
theorem analyze_runs {n : Nat} {D : List (List Int)} {s : SS} (h : In n (U0 D) s) (hg : CGs D s) (hL : 0 < s.marks.length) {k : Nat} {cl : List Int} (hk : s.clauses[k]? = some cl) (hf : ∀ y ∈ cl, -y ∈ s.lits) {g : Int} {i : Nat} (hgc : g ∈ cl) (hgi : s.lits[i]? = some (-g)) (hm : ∀ m ∈ s.marks, m ≤ i) : AnRuns s (s.lits.length + 1) k (List.replicate s.value.length false, [0], 0, 0) s.lits.length 0 := by
  have hz : ∀ v, (List.replicate s.value.length false).getD v false = false := by
    intro v; rw [List.getD_eq_getElem?_getD, List.getElem?_replicate]; split <;> rfl
  have hne : ∀ y ∈ cl, y ≠ 0 := fun y hy => ((h.wa.cl k cl hk).2.2 y hy).1
  refine anal_runs h.tr h.rs hg hL _ k _ [] 0 0 _ 0 cl ⟨by rw [List.length_replicate]; exact h.tr.vl, ?_, by simp, ?_, .inl rfl, ?_, ?_⟩ (by omega) (Nat.le_refl _) hk ?_ (.inr ⟨g, hgc, hne g hgc, i, hgi, cnt_all hm⟩) ?_
  · intro y hy; simp at hy
  · intro y hy; simp at hy
  · intro j z _ q; rw [hz] at q; cases q
  · unfold num
    symm
    rw [List.countP_eq_zero]
    intro z _
    rw [hz]; simp
  · intro x hx _
    obtain ⟨j, hj⟩ := List.mem_iff_getElem?.1 (hf x hx)
    exact ⟨j, (List.getElem?_eq_some_iff.1 hj).1, hj⟩
  · intro S _ hy
    exact (hg cl (List.mem_of_getElem? hk)).cf fun y hyc => hy y hyc (hne y hyc)
end Go.Proofs.Ytdibfjcmgbpnpaa
