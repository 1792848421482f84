/- The solver, plainly: the learned clause of a conflict. -/
import Derived.Test.YtdibfjcmgbpnpaaS3
namespace Go.Proofs.Ytdibfjcmgbpnpaa
set_option linter.unusedSimpArgs false
set_option linter.unusedVariables false

/-- a literal of the clause that is resolved -/
def an1 (s : SS) (p : Int) (st : List Bool × List Int × Nat × Nat) (x : Int) : List Bool × List Int × Nat × Nat :=
  if x = p ∨ st.1.getD x.natAbs false = true ∨ s.lv x = 0 then st
  else if s.lv x = s.marks.length then (st.1.set x.natAbs true, st.2.1, st.2.2.1 + 1, st.2.2.2)
  else (st.1.set x.natAbs true, st.2.1 ++ [x], st.2.2.1, max st.2.2.2 (s.lv x))
/-- the last seen literal of the trail before at -/
def backTo (s : SS) (seen : List Bool) : Nat → Nat
  | 0 => 0
  | a + 1 => if seen.getD (s.lits.getD a 0).natAbs false = true then a else backTo s seen a
def anal (s : SS) : Nat → Nat → List Bool × List Int × Nat × Nat → Nat → Int → List Int × Nat
  | 0, _, st, _, _ => (st.2.1, st.2.2.2)
  | f + 1, k, st, i, p =>
    let st1 := (s.clauses.getD k []).foldl (an1 s p) st
    let a := backTo s st1.1 i
    let q := s.lits.getD a 0
    if st1.2.2.1 = 1 then (st1.2.1.set 0 (-q), st1.2.2.2)
    else anal s f (s.rs q).toNat (st1.1, st1.2.1, st1.2.2.1 - 1, st1.2.2.2) a q
def analyze (s : SS) (k : Nat) : List Int × Nat := anal s (s.lits.length + 1) k (List.replicate s.value.length false, [0], 0, 0) s.lits.length 0

/-- how many seen literals of the last level lie before i -/
def num (s : SS) (seen : List Bool) (i : Nat) : Nat := (s.lits.take i).countP fun z => Decidable.decide (s.lv z = s.marks.length) && seen.getD z.natAbs false
theorem getD_set_bool (l : List Bool) (i j : Nat) : (l.set i true).getD j false = true ↔ (i = j ∧ j < l.length) ∨ l.getD j false = true := by
  rw [getD_set]
  by_cases h : i = j ∧ j < l.length
  · rw [if_pos h]; exact ⟨fun _ => .inl h, fun _ => rfl⟩
  · rw [if_neg h]; exact ⟨.inr, fun q => q.resolve_left h⟩
theorem count_other {l : List Int} {P : Int → Bool} {seen : List Bool} {v : Nat} (h : ∀ y ∈ l, y.natAbs = v → P y = false) : l.countP (fun y => P y && (seen.set v true).getD y.natAbs false) = l.countP (fun y => P y && seen.getD y.natAbs false) := by
  apply List.countP_congr
  intro y hy
  rw [Bool.and_eq_true, Bool.and_eq_true, getD_set_bool]
  constructor
  · rintro ⟨a, b | b⟩
    · rw [h y hy b.1.symm] at a; cases a
    · exact ⟨a, b⟩
  · rintro ⟨a, b⟩; exact ⟨a, .inr b⟩
theorem count_set : ∀ {l : List Int} (hn : (l.map Int.natAbs).Nodup) {z : Int} (hz : z ∈ l) (P : Int → Bool) (hP : P z = true) {seen : List Bool} (hs : seen.getD z.natAbs false = false) (hl : z.natAbs < seen.length),
    l.countP (fun y => P y && (seen.set z.natAbs true).getD y.natAbs false) = l.countP (fun y => P y && seen.getD y.natAbs false) + 1
  | [], _, z, hz, _, _, _, _, _ => by simp at hz
  | y :: l, hn, z, hz, P, hP, seen, hs, hl => by
    rw [List.map_cons, List.nodup_cons] at hn
    rw [List.countP_cons, List.countP_cons]
    rcases List.mem_cons.1 hz with e | hz'
    · subst e
      rw [count_other (fun y' hy' e => absurd (by rw [← e]; exact List.mem_map_of_mem hy') hn.1)]
      have e1 : (seen.set z.natAbs true).getD z.natAbs false = true := (getD_set_bool _ _ _).2 (.inl ⟨rfl, hl⟩)
      rw [e1, hs, hP]; simp
    · have ih := count_set hn.2 hz' P hP hs hl
      rw [ih]
      have hne : z.natAbs ≠ y.natAbs := fun e => hn.1 (by rw [← e]; exact List.mem_map_of_mem hz')
      have e1 : (seen.set z.natAbs true).getD y.natAbs false = seen.getD y.natAbs false := by rw [getD_set, if_neg (fun q => hne q.1)]
      rw [e1]; omega

/-- the state of the analysis -/
structure Am (n : Nat) (s : SS) (i : Nat) (seen : List Bool) (O : List Int) (op to : Nat) : Prop where
  sl : seen.length = n + 1
  oo : ∀ y ∈ O, ∃ j, s.lits[j]? = some (-y) ∧ 0 < cnt s.marks j ∧ cnt s.marks j < s.marks.length ∧ seen.getD y.natAbs false = true
  on : (O.map Int.natAbs).Nodup
  ot : ∀ y ∈ O, s.lv y ≤ to
  tt : to = 0 ∨ ∃ y ∈ O, s.lv y = to
  so : ∀ j z, s.lits[j]? = some z → seen.getD z.natAbs false = true → cnt s.marks j < s.marks.length → -z ∈ O
  op : op = num s seen i
theorem lv_neg (s : SS) (x : Int) : s.lv (-x) = s.lv x := by unfold SS.lv; rw [Int.natAbs_neg]

theorem an1_ok {n : Nat} {s : SS} {i : Nat} {p x : Int} (ht : Tr n s) {seen : List Bool} {O : List Int} {op to : Nat} (h : Am n s i seen O op to) (hx : x ≠ p → ∃ j, j < i ∧ s.lits[j]? = some (-x)) :
    ∃ seen' O' op' to', an1 s p (seen, 0 :: O, op, to) x = (seen', 0 :: O', op', to') ∧ Am n s i seen' O' op' to' ∧ (∀ v, seen.getD v false = true → seen'.getD v false = true) ∧ op ≤ op' ∧ (x ≠ p → s.lv x = 0 ∨ seen'.getD x.natAbs false = true) := by
  unfold an1
  by_cases h1 : x = p ∨ seen.getD x.natAbs false = true ∨ s.lv x = 0
  · rw [if_pos h1]
    refine ⟨seen, O, op, to, rfl, h, fun _ => id, Nat.le_refl _, fun q => ?_⟩
    rcases h1 with h1 | h1 | h1
    · exact absurd h1 q
    · exact .inr h1
    · exact .inl h1
  rw [if_neg h1]
  have hxp : x ≠ p := fun q => h1 (.inl q)
  have hs : seen.getD x.natAbs false = false := by
    cases e : seen.getD x.natAbs false
    · rfl
    · exact absurd (.inr (.inl e)) h1
  have h0 : s.lv x ≠ 0 := fun q => h1 (.inr (.inr q))
  obtain ⟨j, hj, hjx⟩ := hx hxp
  have hok := ht.ok _ (List.mem_of_getElem? hjx)
  have hxl : x.natAbs < seen.length := by rw [h.sl]; have := hok.lt; rw [Int.natAbs_neg] at this; exact this
  have hlv : s.lv x = cnt s.marks j := by rw [← lv_neg]; exact ht.lev j _ hjx
  have hmono : ∀ v, seen.getD v false = true → (seen.set x.natAbs true).getD v false = true := fun v q => (getD_set_bool _ _ _).2 (.inr q)
  have hself : (seen.set x.natAbs true).getD x.natAbs false = true := (getD_set_bool _ _ _).2 (.inl ⟨rfl, hxl⟩)
  -- a seen literal of the trail is old or x's
  have hnew : ∀ {k z}, s.lits[k]? = some z → (seen.set x.natAbs true).getD z.natAbs false = true → seen.getD z.natAbs false = true ∨ (k = j ∧ z = -x) := by
    intro k z hz hq
    rcases (getD_set_bool _ _ _).1 hq with q | q
    · right
      have e : z = -x := nodup_inj ht.nd (List.mem_of_getElem? hz) (List.mem_of_getElem? hjx) (by rw [Int.natAbs_neg]; exact q.1.symm)
      subst e
      exact ⟨ht.pos_uniq hz hjx, rfl⟩
    · exact .inl q
  have hmem : -x ∈ s.lits.take i := by
    refine List.mem_of_getElem? (i := j) ?_
    rw [List.getElem?_take, if_pos hj]; exact hjx
  have hnd : ((s.lits.take i).map Int.natAbs).Nodup := by rw [List.map_take]; exact ht.nd.sublist (List.take_sublist _ _)
  by_cases h2 : s.lv x = s.marks.length
  · rw [if_pos h2]
    refine ⟨_, O, op + 1, to, rfl, ⟨by rw [List.length_set]; exact h.sl, ?_, h.on, h.ot, h.tt, ?_, ?_⟩, hmono, by omega, fun _ => .inr hself⟩
    · intro y hy
      obtain ⟨k, a1, a2, a3, a4⟩ := h.oo y hy
      exact ⟨k, a1, a2, a3, hmono _ a4⟩
    · intro k z hz hq hc
      rcases hnew hz hq with q | ⟨rfl, rfl⟩
      · exact h.so k z hz q hc
      · omega
    · rw [h.op]
      have := count_set hnd hmem (fun z => Decidable.decide (s.lv z = s.marks.length)) (by rw [lv_neg]; simpa using h2) (seen := seen) (by rw [Int.natAbs_neg]; exact hs) (by rw [Int.natAbs_neg]; exact hxl)
      rw [Int.natAbs_neg] at this
      exact this.symm
  · rw [if_neg h2]
    have hc : cnt s.marks j < s.marks.length := by have := cnt_le s.marks j; omega
    refine ⟨_, O ++ [x], op, max to (s.lv x), rfl, ⟨by rw [List.length_set]; exact h.sl, ?_, ?_, ?_, ?_, ?_, ?_⟩, hmono, by omega, fun _ => .inr hself⟩
    · intro y hy
      rcases List.mem_append.1 hy with hy | hy
      · obtain ⟨k, a1, a2, a3, a4⟩ := h.oo y hy
        exact ⟨k, a1, a2, a3, hmono _ a4⟩
      · rw [List.mem_singleton.1 hy]
        exact ⟨j, hjx, by omega, hc, hself⟩
    · rw [List.map_append, List.nodup_append]
      refine ⟨h.on, by simp, ?_⟩
      intro a ha b hb e
      obtain ⟨y, hy, rfl⟩ := List.mem_map.1 ha
      simp at hb
      obtain ⟨k, a1, a2, a3, a4⟩ := h.oo y hy
      rw [e, hb, hs] at a4; cases a4
    · intro y hy
      rcases List.mem_append.1 hy with hy | hy
      · have := h.ot y hy; omega
      · rw [List.mem_singleton.1 hy]; omega
    · right
      rcases Nat.le_total to (s.lv x) with q | q
      · exact ⟨x, by simp, by omega⟩
      · rcases h.tt with e | ⟨y, hy, e⟩
        · exact ⟨x, by simp, by omega⟩
        · exact ⟨y, by simp [hy], by omega⟩
    · intro k z hz hq hc
      rcases hnew hz hq with q | ⟨rfl, rfl⟩
      · exact List.mem_append_left _ (h.so k z hz q hc)
      · rw [Int.neg_neg]; simp
    · rw [h.op]
      refine (count_other (l := s.lits.take i) (P := fun z => Decidable.decide (s.lv z = s.marks.length)) ?_).symm
      intro y hy e
      have : s.lv y = s.lv x := by unfold SS.lv; rw [e]
      simp [this, h2]
theorem an_fold {n : Nat} {s : SS} {i : Nat} {p : Int} (ht : Tr n s) : ∀ {cl : List Int} {seen : List Bool} {O : List Int} {op to : Nat}, Am n s i seen O op to → (∀ x ∈ cl, x ≠ p → ∃ j, j < i ∧ s.lits[j]? = some (-x)) →
    ∃ seen' O' op' to', cl.foldl (an1 s p) (seen, 0 :: O, op, to) = (seen', 0 :: O', op', to') ∧ Am n s i seen' O' op' to' ∧ (∀ v, seen.getD v false = true → seen'.getD v false = true) ∧ op ≤ op' ∧ (∀ x ∈ cl, x ≠ p → s.lv x = 0 ∨ seen'.getD x.natAbs false = true)
  | [], seen, O, op, to, h, _ => ⟨seen, O, op, to, rfl, h, fun _ => id, Nat.le_refl _, fun x hx => by simp at hx⟩
  | x :: cl, seen, O, op, to, h, hcl => by
    obtain ⟨s1, O1, op1, to1, e1, h1, m1, l1, k1⟩ := an1_ok ht h (hcl x (List.mem_cons_self ..))
    obtain ⟨s2, O2, op2, to2, e2, h2, m2, l2, k2⟩ := an_fold ht h1 (fun y hy => hcl y (List.mem_cons_of_mem _ hy))
    refine ⟨s2, O2, op2, to2, by rw [List.foldl_cons, e1, e2], h2, fun v q => m2 v (m1 v q), by omega, fun y hy hyp => ?_⟩
    rcases List.mem_cons.1 hy with e | hy'
    · subst e
      exact (k1 hyp).imp id (m2 _)
    · exact k2 y hy' hyp
theorem backTo_ok (s : SS) (seen : List Bool) : ∀ {i : Nat}, i ≤ s.lits.length → (∃ j z, j < i ∧ s.lits[j]? = some z ∧ seen.getD z.natAbs false = true) →
    ∃ z, backTo s seen i < i ∧ s.lits[backTo s seen i]? = some z ∧ seen.getD z.natAbs false = true ∧ (∀ j y, backTo s seen i < j → j < i → s.lits[j]? = some y → seen.getD y.natAbs false = false) ∧ num s seen i = (if s.lv z = s.marks.length then 1 else 0) + num s seen (backTo s seen i)
  | 0, _, ⟨j, z, hj, _⟩ => by omega
  | i + 1, hi, ⟨j, z, hj, hz, hs⟩ => by
    have hx : s.lits[i]? = some (s.lits.getD i 0) := by rw [List.getD_eq_getElem?_getD, List.getElem?_eq_getElem (by omega)]; rfl
    have htk : s.lits.take (i + 1) = s.lits.take i ++ [s.lits.getD i 0] := by
      rw [List.take_succ_eq_append_getElem (by omega), List.getD_eq_getElem?_getD, List.getElem?_eq_getElem (by omega)]; rfl
    have hnum : num s seen (i + 1) = num s seen i + (if (Decidable.decide (s.lv (s.lits.getD i 0) = s.marks.length) && seen.getD (s.lits.getD i 0).natAbs false) = true then 1 else 0) := by
      unfold num; rw [htk, List.countP_append, List.countP_singleton]
    unfold backTo
    by_cases h1 : seen.getD (s.lits.getD i 0).natAbs false = true
    · rw [if_pos h1]
      refine ⟨_, by omega, hx, h1, fun j y a b => by omega, ?_⟩
      rw [hnum, h1, Bool.and_true, Nat.add_comm]
      simp only [decide_eq_true_eq]
    · rw [if_neg h1]
      have hji : j < i := by
        rcases Nat.lt_or_ge j i with q | q
        · exact q
        · have : j = i := by omega
          subst this
          rw [hz] at hx
          rw [← Option.some.inj hx] at h1
          exact absurd hs h1
      obtain ⟨y, a1, a2, a3, a4, a5⟩ := backTo_ok s seen (by omega) ⟨j, z, hji, hz, hs⟩
      have h1' : seen.getD (s.lits.getD i 0).natAbs false = false := by
        cases e : seen.getD (s.lits.getD i 0).natAbs false
        · rfl
        · exact absurd e h1
      refine ⟨y, by omega, a2, a3, ?_, ?_⟩
      · intro k w b1 b2 b3
        rcases Nat.lt_or_ge k i with q | q
        · exact a4 k w b1 q b3
        · have : k = i := by omega
          subst this
          rw [b3] at hx; rw [Option.some.inj hx]; exact h1'
      · rw [hnum, h1', a5]; simp

/-- what the analysis of a conflict yields -/
structure Learned (D : List (List Int)) (s : SS) (C : List Int) (to : Nat) : Prop where
  shape : ∃ q O, C = -q :: O ∧ (∃ i, s.lits[i]? = some q ∧ cnt s.marks i = s.marks.length) ∧ (∀ y ∈ O, ∃ j, s.lits[j]? = some (-y) ∧ 0 < cnt s.marks j ∧ cnt s.marks j < s.marks.length ∧ cnt s.marks j ≤ to) ∧ ((O = [] ∧ to = 0) ∨ ∃ y ∈ O, s.lv y = to)
  nd : (C.map Int.natAbs).Nodup
  rup : Rup D C
  lt : to < s.marks.length

theorem anal_ok {n : Nat} {D : List (List Int)} {s : SS} (ht : Tr n s) (hr : Rs (U0 D) s) (hg : CGs D s) (hL : 0 < s.marks.length) : ∀ (f k : Nat) (seen : List Bool) (O : List Int) (op to i : Nat) (p : Int) (cl : List Int), Am n s i seen O op to → i < f → i ≤ s.lits.length → s.clauses[k]? = some cl →
    (∀ x ∈ cl, x ≠ p → ∃ j, j < i ∧ s.lits[j]? = some (-x)) → (0 < op ∨ ∃ g ∈ cl, g ≠ p ∧ ∃ j, s.lits[j]? = some (-g) ∧ cnt s.marks j = s.marks.length) →
    (∀ S : Int → Prop, (∀ j z, j < i → s.lits[j]? = some z → seen.getD z.natAbs false = true → UP D S z) → (∀ y ∈ cl, y ≠ p → UP D S (-y)) → Cf D S) →
    Learned D s (anal s f k (seen, 0 :: O, op, to) i p).1 (anal s f k (seen, 0 :: O, op, to) i p).2
  | 0, _, _, _, _, _, i, _, _, _, hf, _, _, _, _, _ => by omega
  | f + 1, k, seen, O, op, to, i, p, cl, h, hf, hi, hk, hcl, hop, hK => by
    have hgd : s.clauses.getD k [] = cl := by rw [List.getD_eq_getElem?_getD, hk]; rfl
    obtain ⟨s1, O1, op1, to1, e1, h1, m1, l1, k1⟩ := an_fold ht h hcl
    unfold anal
    rw [hgd, e1]
    dsimp only
    have up0 := lv0_up ht hr hg
    -- a seen literal of the last level
    have hop1 : 0 < op1 := by
      rcases hop with q | ⟨g, g1, g2, j, g3, g4⟩
      · omega
      · rw [h1.op]
        unfold num
        rw [List.countP_pos_iff]
        obtain ⟨j', b1, b2⟩ := hcl g g1 g2
        have e := ht.lev j _ g3
        rw [lv_neg] at e
        refine ⟨-g, List.mem_of_getElem? (i := j') (by rw [List.getElem?_take, if_pos b1]; exact b2), ?_⟩
        rw [lv_neg, Int.natAbs_neg]
        rcases k1 g g1 g2 with q | q
        · omega
        · rw [q, e, g4]; simp
    have hex : ∃ j z, j < i ∧ s.lits[j]? = some z ∧ s1.getD z.natAbs false = true ∧ s.lv z = s.marks.length := by
      have := h1.op
      unfold num at this
      have hp : 0 < (s.lits.take i).countP (fun z => Decidable.decide (s.lv z = s.marks.length) && s1.getD z.natAbs false) := by omega
      rw [List.countP_pos_iff] at hp
      obtain ⟨z, hz, hzz⟩ := hp
      rw [Bool.and_eq_true] at hzz
      obtain ⟨j, hj⟩ := List.mem_iff_getElem?.1 hz
      rw [List.getElem?_take] at hj
      split at hj
      · exact ⟨j, z, by assumption, hj, hzz.2, by simpa using hzz.1⟩
      · cases hj
    obtain ⟨j0, z0, hj0, hz0, hs0, hlz0⟩ := hex
    obtain ⟨q, hb1, hb2, hb3, hb4, hb5⟩ := backTo_ok s s1 hi ⟨j0, z0, hj0, hz0, hs0⟩
    generalize ha : backTo s s1 i = a at *
    have hqd : s.lits.getD a 0 = q := by rw [List.getD_eq_getElem?_getD, hb2]; rfl
    rw [hqd]
    have hlq0 := ht.lev a q hb2
    have hlq : s.lv q = s.marks.length := by
      have c1 := ht.lev j0 z0 hz0
      have : j0 ≤ a := by
        rcases Nat.lt_or_ge a j0 with w | w
        · rw [hb4 j0 z0 w hj0 hz0] at hs0; cases hs0
        · exact w
      have c2 := cnt_mono s.marks this
      have c3 := cnt_le s.marks a
      omega
    rw [if_pos hlq] at hb5
    have hopa : op1 = 1 + num s s1 a := by rw [h1.op, hb5]
    -- what stands before i and is seen: q, or before a
    have hK2 : ∀ S : Int → Prop, UP D S q → (∀ j z, j < a → s.lits[j]? = some z → s1.getD z.natAbs false = true → UP D S z) → Cf D S := by
      intro S hq hS
      have hall : ∀ j z, j < i → s.lits[j]? = some z → s1.getD z.natAbs false = true → UP D S z := by
        intro j z b1 b2 b3
        rcases Nat.lt_trichotomy j a with w | w | w
        · exact hS j z w b2 b3
        · subst w; rw [hb2] at b2; rw [← Option.some.inj b2]; exact hq
        · rw [hb4 j z w b1 b2] at b3; cases b3
      refine hK S (fun j z b1 b2 b3 => hall j z b1 b2 (m1 _ b3)) fun y hy hyp => ?_
      obtain ⟨j, b1, b2⟩ := hcl y hy hyp
      rcases k1 y hy hyp with w | w
      · have := ht.lev j _ b2
        rw [lv_neg] at this
        exact (up0 j _ b2 (by omega)).up S
      · exact hall j _ b1 b2 (by rw [Int.natAbs_neg]; exact w)
    have hcq : cnt s.marks a = s.marks.length := by omega
    by_cases hone : op1 = 1
    · rw [if_pos hone]
      have hzero : num s s1 a = 0 := by omega
      have hto : to1 < s.marks.length := by
        rcases h1.tt with w | ⟨y, hy, w⟩
        · omega
        · obtain ⟨j, b1, b2, b3, b4⟩ := h1.oo y hy
          have := ht.lev j _ b1; rw [lv_neg] at this; omega
      have hlvO : ∀ y ∈ O1, ∃ j, s.lits[j]? = some (-y) ∧ 0 < cnt s.marks j ∧ cnt s.marks j < s.marks.length ∧ cnt s.marks j ≤ to1 := by
        intro y hy
        obtain ⟨j, b1, b2, b3, b4⟩ := h1.oo y hy
        have c := ht.lev j _ b1; rw [lv_neg] at c
        exact ⟨j, b1, b2, b3, by have := h1.ot y hy; omega⟩
      refine ⟨⟨q, O1, rfl, ⟨a, hb2, hcq⟩, hlvO, ?_⟩, ?_, ?_, hto⟩
      · rcases h1.tt with w | w
        · rcases O1 with _ | ⟨y, O2⟩
          · exact .inl ⟨rfl, w⟩
          · obtain ⟨j, b1, b2, b3, b4⟩ := hlvO y (List.mem_cons_self ..)
            show _ ∨ ∃ y' ∈ y :: O2, s.lv y' = to1
            omega
        · exact .inr w
      · show ((-q :: O1).map Int.natAbs).Nodup
        rw [List.map_cons, List.nodup_cons]
        refine ⟨?_, h1.on⟩
        intro w
        obtain ⟨y, hy, e⟩ := List.mem_map.1 w
        rw [Int.natAbs_neg] at e
        obtain ⟨j, b1, b2, b3, b4⟩ := h1.oo y hy
        have : q = -y := nodup_inj ht.nd (List.mem_of_getElem? hb2) (List.mem_of_getElem? b1) (by rw [Int.natAbs_neg]; exact e.symm)
        subst this
        have := ht.pos_uniq hb2 b1
        subst this; omega
      · refine .inr (hK2 _ (.base ?_) ?_)
        · show -q ∈ -q :: O1; exact List.mem_cons_self ..
        · intro j z b1 b2 b3
          by_cases hc : cnt s.marks j < s.marks.length
          · refine .base ?_
            show -z ∈ -q :: O1
            exact List.mem_cons_of_mem _ (h1.so j z b2 b3 hc)
          · exfalso
            have hc' : cnt s.marks j = s.marks.length := Nat.le_antisymm (cnt_le _ _) (by omega)
            unfold num at hzero
            rw [List.countP_eq_zero] at hzero
            refine hzero z (List.mem_of_getElem? (i := j) (by rw [List.getElem?_take, if_pos b1]; exact b2)) ?_
            have := ht.lev j z b2
            rw [b3, this, hc']; simp
    · rw [if_neg hone]
      -- another seen literal of the last level lies before q: q is no decision
      have hnm : a ∉ s.marks := by
        intro w
        have h0 : 0 < num s s1 a := by omega
        unfold num at h0
        rw [List.countP_pos_iff] at h0
        obtain ⟨z, hz, hzz⟩ := h0
        rw [Bool.and_eq_true] at hzz
        obtain ⟨j, hj⟩ := List.mem_iff_getElem?.1 hz
        rw [List.getElem?_take] at hj
        split at hj
        · rename_i hja
          have e := ht.lev j z hj
          have e2 : s.lv z = s.marks.length := by simpa using hzz.1
          have := cnt_full (show cnt s.marks j = s.marks.length by omega) a w
          omega
        · cases hj
      rcases hr a q hb2 with ⟨-, ⟨w, -⟩ | w⟩ | ⟨k', c, c1, c2, c3, c4, c5⟩
      · omega
      · exact absurd w hnm
      · rw [c1]
        have hnn : ((k' : Int)).toNat = k' := by omega
        rw [hnn]
        refine anal_ok ht hr hg hL f k' s1 O1 (op1 - 1) to1 a q c ⟨h1.sl, h1.oo, h1.on, h1.ot, h1.tt, h1.so, by omega⟩ (by omega) (by omega) c2 c4 (.inl (by omega)) ?_
        intro S hS hy
        refine hK2 S ?_ hS
        exact (hg c (List.mem_of_getElem? c2)).unit c3 hy

/-- a conflict above level 0 -/
theorem analyze_ok {n : Nat} {D : List (List Int)} {s : SS} (h : In n (U0 D) s) (hg : CGs D s) (hL : 0 < s.marks.length) {k : Nat} {cl : List Int} (hk : s.clauses[k]? = some cl) (hf : ∀ y ∈ cl, -y ∈ s.lits) {g : Int} {i : Nat} (hgc : g ∈ cl) (hgi : s.lits[i]? = some (-g)) (hm : ∀ m ∈ s.marks, m ≤ i) : Learned D s (analyze s k).1 (analyze s k).2 := by
  have hz : ∀ v, (List.replicate s.value.length false).getD v false = false := by
    intro v; rw [List.getD_eq_getElem?_getD, List.getElem?_replicate]; split <;> rfl
  have hne : ∀ y ∈ cl, y ≠ 0 := fun y hy => ((h.wa.cl k cl hk).2.2 y hy).1
  unfold analyze
  refine anal_ok h.tr h.rs hg hL _ k _ [] 0 0 _ 0 cl ⟨by rw [List.length_replicate]; exact h.tr.vl, ?_, by simp, ?_, .inl rfl, ?_, ?_⟩ (by omega) (Nat.le_refl _) hk ?_ (.inr ⟨g, hgc, hne g hgc, i, hgi, cnt_all hm⟩) ?_
  · intro y hy; simp at hy
  · intro y hy; simp at hy
  · intro j z _ q; rw [hz] at q; cases q
  · unfold num
    symm
    rw [List.countP_eq_zero]
    intro z _
    rw [hz]; simp
  · intro x hx _
    obtain ⟨j, hj⟩ := List.mem_iff_getElem?.1 (hf x hx)
    exact ⟨j, (List.getElem?_eq_some_iff.1 hj).1, hj⟩
  · intro S _ hy
    exact (hg cl (List.mem_of_getElem? hk)).cf fun y hyc => hy y hyc (hne y hyc)
end Go.Proofs.Ytdibfjcmgbpnpaa
