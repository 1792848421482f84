/- The solver, plainly: unit propagation as a law; going back, deciding, adding clauses. -/
import Derived.Test.YtdibfjcmgbpnpaaS2
namespace Go.Proofs.Ytdibfjcmgbpnpaa
set_option linter.unusedSimpArgs false
set_option linter.unusedVariables false

/-- what follows from the clauses D and the literals S by unit propagation -/
inductive UP (D : List (List Int)) (S : Int → Prop) : Int → Prop
  | base {x : Int} : S x → UP D S x
  | unit {c : List Int} {x : Int} : c ∈ D → x ∈ c → (∀ y ∈ c, y ≠ x → UP D S (-y)) → UP D S x
/-- some clause is falsified -/
def Cf (D : List (List Int)) (S : Int → Prop) : Prop := ∃ c ∈ D, ∀ y ∈ c, UP D S (-y)
/-- the clause c follows from D by unit propagation -/
def Rup (D : List (List Int)) (c : List Int) : Prop := (∃ x ∈ c, -x ∈ c) ∨ Cf D fun x => -x ∈ c
theorem UP.mono {D D' : List (List Int)} {S S' : Int → Prop} (hD : ∀ c ∈ D, c ∈ D') (hS : ∀ x, S x → S' x) {x : Int} (h : UP D S x) : UP D' S' x := by
  induction h with
  | base h => exact .base (hS _ h)
  | unit h1 h2 _ ih => exact .unit (hD _ h1) h2 ih
theorem Cf.mono {D D' : List (List Int)} {S S' : Int → Prop} (hD : ∀ c ∈ D, c ∈ D') (hS : ∀ x, S x → S' x) (h : Cf D S) : Cf D' S' := by
  obtain ⟨c, h1, h2⟩ := h
  exact ⟨c, hD _ h1, fun y hy => (h2 y hy).mono hD hS⟩
theorem Rup.mono {D D' : List (List Int)} (hD : ∀ c ∈ D, c ∈ D') {c : List Int} (h : Rup D c) : Rup D' c :=
  h.elim .inl fun q => .inr (q.mono hD fun _ => id)
def U0 (D : List (List Int)) : Int → Prop := UP D fun _ => False
theorem U0.up {D : List (List Int)} {x : Int} (h : U0 D x) (S : Int → Prop) : UP D S x := h.mono (fun _ => id) fun _ => False.elim
theorem U0.mono {D D' : List (List Int)} (hD : ∀ c ∈ D, c ∈ D') {x : Int} (h : U0 D x) : U0 D' x := UP.mono hD (fun _ => id) h
/-- a clause of the solver: one of D without literals that are false unconditionally -/
def CG (D : List (List Int)) (c : List Int) : Prop := ∃ d ∈ D, (∀ y ∈ d, y ∈ c ∨ U0 D (-y)) ∧ ∀ y ∈ c, y ∈ d
theorem CG.mono {D D' : List (List Int)} (hD : ∀ c ∈ D, c ∈ D') {c : List Int} (h : CG D c) : CG D' c := by
  obtain ⟨d, h1, h2, h3⟩ := h
  exact ⟨d, hD _ h1, fun y hy => (h2 y hy).imp id (·.mono hD), h3⟩
theorem CG.perm {D : List (List Int)} {c c' : List Int} (h : CG D c) (hp : c'.Perm c) : CG D c' := by
  obtain ⟨d, h1, h2, h3⟩ := h
  exact ⟨d, h1, fun y hy => (h2 y hy).imp (hp.mem_iff.2 ·) id, fun y hy => h3 y (hp.mem_iff.1 hy)⟩
theorem CG.unit {D : List (List Int)} {c : List Int} (h : CG D c) {S : Int → Prop} {x : Int} (hx : x ∈ c) (hy : ∀ y ∈ c, y ≠ x → UP D S (-y)) : UP D S x := by
  obtain ⟨d, h1, h2, h3⟩ := h
  refine .unit h1 (h3 x hx) fun y hyd hyx => ?_
  rcases h2 y hyd with q | q
  · exact hy y q hyx
  · exact q.up S
theorem CG.cf {D : List (List Int)} {c : List Int} (h : CG D c) {S : Int → Prop} (hy : ∀ y ∈ c, UP D S (-y)) : Cf D S := by
  obtain ⟨d, h1, h2, h3⟩ := h
  refine ⟨d, h1, fun y hyd => ?_⟩
  rcases h2 y hyd with q | q
  · exact hy y q
  · exact q.up S
/-- a derived literal against an assumed one -/
theorem UP.clash {D : List (List Int)} {S : Int → Prop} {x : Int} (h : UP D S (-x)) (hx : S x) : S (-x) ∨ Cf D S := by
  cases h with
  | base h => exact .inl h
  | @unit c _ h1 h2 h3 =>
    refine .inr ⟨c, h1, fun y hy => ?_⟩
    by_cases e : y = -x
    · rw [e, Int.neg_neg]; exact .base hx
    · exact h3 y hy e
/-- every clause is one of D -/
def CGs (D : List (List Int)) (s : SS) : Prop := ∀ c ∈ s.clauses, CG D c
theorem CGs.cp {D : List (List Int)} {s s' : SS} (h : CGs D s) (hp : CP s s') : CGs D s' := by
  intro c hc
  obtain ⟨k, hk⟩ := List.mem_iff_getElem?.1 hc
  obtain ⟨c0, h1, h2⟩ := hp.2 k c hk
  exact (h c0 (List.mem_of_getElem? h1)).perm h2
/-- a literal that holds at level 0 holds unconditionally -/
theorem lv0_up {n : Nat} {D : List (List Int)} {s : SS} (ht : Tr n s) (hr : Rs (U0 D) s) (hc : CGs D s) : ∀ i x, s.lits[i]? = some x → cnt s.marks i = 0 → U0 D x := by
  intro i
  induction i using Nat.strongRecOn with
  | _ i ih =>
    intro x hx h0
    rcases hr i x hx with ⟨-, ⟨-, q⟩ | q⟩ | ⟨k, c, h1, h2, h3, h4, h5⟩
    · exact q
    · exact absurd (cnt_zero h0 i q) (by omega)
    · refine (hc c (List.mem_of_getElem? h2)).unit h3 fun y hy hyx => ?_
      obtain ⟨j, hj, hjy⟩ := h4 y hy hyx
      exact ih j hj (-y) hjy (by have := cnt_mono s.marks (Nat.le_of_lt hj); omega)

-- --- going back
theorem cnt_back {l : List Nat} (hp : l.Pairwise (· ≤ ·)) {k i : Nat} (h : cnt l i ≤ k) : cnt (l.take k) i = cnt l i := by
  by_cases hk : l.length ≤ k
  · rw [List.take_of_length_le hk]
  · have hm : l[k]? = some (l.getD k 0) := by rw [List.getD_eq_getElem?_getD, List.getElem?_eq_getElem (by omega)]; rfl
    have := cnt_lt (i := i) hp hm
    exact cnt_take hp hm (by omega)
theorem mem_back {l : List Nat} (hp : l.Pairwise (· ≤ ·)) {k i : Nat} (h : cnt l i ≤ k) : i ∈ l.take k ↔ i ∈ l := by
  constructor
  · exact List.mem_of_mem_take
  · intro hi
    obtain ⟨p, hpp⟩ := List.mem_iff_getElem?.1 hi
    have := (cnt_lt (i := i) hp hpp).2 (Nat.le_refl _)
    refine List.mem_of_getElem? (i := p) ?_
    rw [List.getElem?_take, if_pos (by omega)]; exact hpp
theorem Rs.backed {n : Nat} {U : Int → Prop} {s : SS} (h : Rs U s) (ht : Tr n s) (k : Nat) : Rs U (s.back k) := by
  obtain ⟨f1, f2, f3, -⟩ := back_frame s k
  intro i x hi
  obtain ⟨hi, hc⟩ := (ht.back_mem k).1 hi
  have e1 : (s.back k).rs x = s.rs x := by unfold SS.rs; rw [f2]
  have e2 : (s.back k).lv x = s.lv x := by unfold SS.lv; rw [f1]
  rw [e1, e2, f3, back_marks, mem_back ht.srt hc]
  rcases h i x hi with q | ⟨k', c, h1, h2, h3, h4, h5⟩
  · exact .inl q
  · refine .inr ⟨k', c, h1, h2, h3, fun y hy hyx => ?_, h5⟩
    obtain ⟨j, hj, hjy⟩ := h4 y hy hyx
    exact ⟨j, hj, (ht.back_mem k).2 ⟨hjy, by have := cnt_mono s.marks (Nat.le_of_lt hj); omega⟩⟩
theorem In.undone {n : Nat} {U : Int → Prop} {s : SS} (h : In n U s) (k : Nat) : In n U (s.undo k) := by
  obtain ⟨f1, f2, f3, f4, f5, -⟩ := back_frame s k
  have hb := h.tr.backed k
  have hr := h.rs.backed h.tr k
  have ew : (s.undo k).wl = s.wl := by funext x; show (s.back k).watches.getD _ _ = _; rw [f4]; rfl
  refine ⟨⟨hb.1, hb.2, hb.3, hb.4, hb.5, hb.6, hb.7, hb.8, hb.9, hb.10, hb.11, hb.12⟩, hr, ?_, ?_, ?_, ?_⟩
  · rw [ew]
    refine ⟨?_, ?_, h.wa.wn, ?_⟩
    · show (s.back k).watches.length = _; rw [f4]; exact h.wa.wl
    · show ∀ (j : Nat) c, (s.back k).clauses[j]? = some c → _; rw [f3]; exact h.wa.cl
    · show ∀ x, LOk n x → ∀ j : Nat, j ∈ s.wl x ↔ ∃ (c : List Int) (b : Int), (s.back k).clauses[j]? = some c ∧ _; rw [f3]; exact h.wa.wm
  · intro j c a b i h1 h2 h3 h4
    change (s.back k).clauses[j]? = some c at h1
    change (s.back k).lits[i]? = some (-a) at h4
    change i < min s.head (s.back k).lits.length at h3
    rw [f3] at h1
    obtain ⟨h4, hc⟩ := (h.tr.back_mem k).1 h4
    obtain ⟨p, hp, hpc⟩ := h.wi j c a b i h1 h2 (by show i < s.head; omega) h4
    refine ⟨p, (h.tr.back_mem k).2 ⟨hp, by omega⟩, ?_⟩
    show cnt (s.back k).marks p ≤ cnt (s.back k).marks i
    rw [back_marks, cnt_back h.tr.srt (by omega), cnt_back h.tr.srt hc]; exact hpc
  · show min s.head (s.back k).lits.length ≤ (s.back k).lits.length; omega
  · intro m hm
    change m ∈ (s.back k).marks at hm
    have := hb.ml m hm
    rw [back_marks] at hm
    have := h.hm m (List.mem_of_mem_take hm)
    show m ≤ min s.head (s.back k).lits.length; omega
theorem undo_mem {n : Nat} {s : SS} (ht : Tr n s) (k : Nat) {i : Nat} {x : Int} : (s.undo k).lits[i]? = some x ↔ s.lits[i]? = some x ∧ cnt s.marks i ≤ k := ht.back_mem k
theorem undo_marks (s : SS) (k : Nat) : (s.undo k).marks = s.marks.take k := back_marks s k
theorem undo_frame (s : SS) (k : Nat) : (s.undo k).level = s.level ∧ (s.undo k).reason = s.reason ∧ (s.undo k).clauses = s.clauses ∧ (s.undo k).watches = s.watches ∧ (s.undo k).added = s.added ∧ (s.undo k).broken = s.broken ∧ (s.undo k).proof = s.proof ∧ (s.undo k).model = s.model ∧ (s.undo k).core = s.core := by
  obtain ⟨f1, f2, f3, f4, f5, f6, f7, f8, f9, f10⟩ := back_frame s k
  exact ⟨f1, f2, f3, f4, f6, f7, f8, f9, f10⟩

-- --- fields that the invariant does not look at
theorem In.same {n : Nat} {U U' : Int → Prop} {s s' : SS} (h : In n U s) (hU : ∀ x, U x → U' x) (e1 : s'.value = s.value) (e2 : s'.level = s.level) (e3 : s'.reason = s.reason) (e4 : s'.lits = s.lits) (e5 : s'.marks = s.marks) (e6 : s'.clauses = s.clauses) (e7 : s'.watches = s.watches) (e8 : s'.head = s.head) (e9 : s'.low = s.low) : In n U' s' := by
  obtain ⟨v, l, r, li, ma, lo, cl, wa, he, ad, br, pr, mo, co⟩ := s
  obtain ⟨v', l', r', li', ma', lo', cl', wa', he', ad', br', pr', mo', co'⟩ := s'
  dsimp only at e1 e2 e3 e4 e5 e6 e7 e8 e9
  subst e1 e2 e3 e4 e5 e6 e7 e8 e9
  refine ⟨⟨h.tr.1, h.tr.2, h.tr.3, h.tr.4, h.tr.5, h.tr.6, h.tr.7, h.tr.8, h.tr.9, h.tr.10, h.tr.11, h.tr.12⟩, ?_, ⟨h.wa.wl, h.wa.cl, h.wa.wn, h.wa.wm⟩, h.wi, h.hd, h.hm⟩
  intro i x hx
  rcases h.rs i x hx with ⟨q1, ⟨q2, q3⟩ | q2⟩ | q
  · exact .inl ⟨q1, .inl ⟨q2, hU _ q3⟩⟩
  · exact .inl ⟨q1, .inr q2⟩
  · exact .inr q

-- --- a push that is not propagation's
theorem In.pushed {n : Nat} {U : Int → Prop} {s : SS} (h : In n U s) {x r : Int} (hx : LOk n x) (h1 : x ∉ s.lits) (h2 : -x ∉ s.lits)
    (hr : (r = -1 ∧ ((s.marks.length = 0 ∧ U x) ∨ s.lits.length ∈ s.marks)) ∨ ∃ (k : Nat) (c : List Int), r = k ∧ s.clauses[k]? = some c ∧ x ∈ c ∧ (∀ y ∈ c, y ≠ x → -y ∈ s.lits) ∧ s.lits.length ∉ s.marks) : In n U (s.push x r) := by
  refine ⟨h.tr.pushed hx h1 h2, h.rs.pushed h.tr hx h1 h2 hr, ⟨h.wa.wl, h.wa.cl, h.wa.wn, h.wa.wm⟩, ?_, ?_, h.hm⟩
  · intro k c a b i a1 a2 a3 a4
    have hd := h.hd
    change i < s.head at a3
    rcases lits_push.1 a4 with a4 | a4
    · obtain ⟨j, b1, b2⟩ := h.wi k c a b i a1 a2 a3 a4
      exact ⟨j, lits_push.2 (.inl b1), b2⟩
    · omega
  · show s.head ≤ (s.lits ++ [x]).length
    have := h.hd; rw [List.length_append]; omega
/-- a new level; all has been propagated -/
theorem In.marked {n : Nat} {U : Int → Prop} {s : SS} (h : In n U s) (hh : s.head = s.lits.length) : In n U s.mark := by
  have hc : ∀ {i x}, s.lits[i]? = some x → cnt (s.marks ++ [s.lits.length]) i = cnt s.marks i := by
    intro i x hi
    rw [cnt_append]
    obtain ⟨hk, -⟩ := List.getElem?_eq_some_iff.1 hi
    have : cnt [s.lits.length] i = 0 := by unfold cnt; rw [List.countP_eq_zero]; intro m hm; simp at hm ⊢; omega
    omega
  refine ⟨h.tr.marked, ?_, ⟨h.wa.wl, h.wa.cl, h.wa.wn, h.wa.wm⟩, ?_, h.hd, ?_⟩
  · intro i x hi
    rcases h.rs i x hi with ⟨q1, q2 | q2⟩ | ⟨k, c, b1, b2, b3, b4, b5⟩
    · exact .inl ⟨q1, .inl q2⟩
    · exact .inl ⟨q1, .inr (List.mem_append_left _ q2)⟩
    · refine .inr ⟨k, c, b1, b2, b3, b4, fun q => ?_⟩
      rcases List.mem_append.1 q with q | q
      · exact b5 q
      · rw [List.mem_singleton] at q
        have := (List.getElem?_eq_some_iff.1 hi).1
        change i < s.lits.length at this
        omega
  · intro k c a b i a1 a2 a3 a4
    obtain ⟨j, b1, b2⟩ := h.wi k c a b i a1 a2 a3 a4
    refine ⟨j, b1, ?_⟩
    show cnt (s.marks ++ [s.lits.length]) j ≤ cnt (s.marks ++ [s.lits.length]) i
    rw [hc b1, hc a4]; exact b2
  · intro m hm
    rcases List.mem_append.1 hm with q | q
    · exact h.hm m q
    · rw [List.mem_singleton] at q; show m ≤ s.head; omega
theorem In.decided {n : Nat} {U : Int → Prop} {s : SS} (h : In n U s) (hh : s.head = s.lits.length) {x : Int} (hx : x = 0 ∨ (LOk n x ∧ x ∉ s.lits ∧ -x ∉ s.lits)) : In n U (s.decide x) := by
  unfold SS.decide
  split
  · rename_i h0
    obtain ⟨a1, a2, a3⟩ := hx.resolve_left h0
    exact (h.marked hh).pushed a1 a2 a3 (.inl ⟨rfl, .inr (by show s.lits.length ∈ s.marks ++ [s.lits.length]; simp)⟩)
  · exact h.marked hh

-- --- a new clause
def SS.attach (s : SS) (l : List Int) : SS :=
  let w1 := s.watches.set (idx (l.getD 0 0)) (s.wl (l.getD 0 0) ++ [s.clauses.length])
  { s with clauses := s.clauses ++ [l], watches := w1.set (idx (l.getD 1 0)) (w1.getD (idx (l.getD 1 0)) [] ++ [s.clauses.length]) }
theorem attach_wl {n : Nat} {s : SS} {L : Int → List Nat} (hw : Wa n s L) {a b : Int} {t : List Int} (ha : LOk n a) (hb : LOk n b) (hab : a ≠ b) {x : Int} (hx : LOk n x) : (s.attach (a :: b :: t)).wl x = if x = a ∨ x = b then s.wl x ++ [s.clauses.length] else s.wl x := by
  have e : (s.attach (a :: b :: t)).watches = (s.watches.set (idx a) (s.wl a ++ [s.clauses.length])).set (idx b) ((s.watches.set (idx a) (s.wl a ++ [s.clauses.length])).getD (idx b) [] ++ [s.clauses.length]) := rfl
  show (s.attach (a :: b :: t)).watches.getD (idx x) [] = _
  rw [e, getD_set, getD_set, getD_set, List.length_set, hw.wl]
  have hne : idx a ≠ idx b := fun q => hab (idx_inj q ha.1 hb.1)
  rw [if_neg (c := idx a = idx b ∧ _) (fun q => hne q.1)]
  by_cases e1 : x = b
  · subst e1; rw [if_pos ⟨rfl, idx_lt hx⟩, if_pos (.inr rfl)]; rfl
  · rw [if_neg (fun q => e1 (idx_inj q.1 hb.1 hx.1).symm)]
    by_cases e2 : x = a
    · subst e2; rw [if_pos ⟨rfl, idx_lt hx⟩, if_pos (.inl rfl)]
    · rw [if_neg (fun q => e2 (idx_inj q.1 ha.1 hx.1).symm), if_neg (fun q => q.elim e2 e1)]; rfl
theorem getElem?_snoc {α} {l : List α} {a d : α} {k : Nat} : (l ++ [a])[k]? = some d ↔ l[k]? = some d ∨ (k = l.length ∧ d = a) := by
  by_cases hl : k < l.length
  · rw [List.getElem?_append_left hl]
    constructor
    · exact .inl
    · rintro (q | q)
      · exact q
      · omega
  · rw [List.getElem?_append_right (by omega)]
    constructor
    · intro q
      have h0 : k = l.length := by
        obtain ⟨hk, -⟩ := List.getElem?_eq_some_iff.1 q
        simp at hk; omega
      subst h0
      simp at q
      exact .inr ⟨rfl, q.symm⟩
    · rintro (q | ⟨rfl, rfl⟩)
      · exact absurd (List.getElem?_eq_some_iff.1 q).1 hl
      · simp
theorem Wa.attached {n : Nat} {s : SS} (h : Wa n s s.wl) {a b : Int} {t : List Int} (hn : (a :: b :: t).Nodup) (ho : ∀ x ∈ a :: b :: t, LOk n x) : Wa n (s.attach (a :: b :: t)) (s.attach (a :: b :: t)).wl := by
  have ha := ho a (by simp)
  have hb := ho b (by simp)
  have hab : a ≠ b := by rintro rfl; simp at hn
  have hcl : (s.attach (a :: b :: t)).clauses = s.clauses ++ [a :: b :: t] := rfl
  have hfr : ∀ x, LOk n x → s.clauses.length ∉ s.wl x := by
    intro x hx q
    obtain ⟨c, y, h1, -⟩ := (h.wm x hx _).1 q
    exact absurd (List.getElem?_eq_some_iff.1 h1).1 (by omega)
  refine ⟨?_, ?_, ?_, ?_⟩
  · show ((s.watches.set _ _).set _ _).length = _; rw [List.length_set, List.length_set]; exact h.wl
  · intro k c hk
    rw [hcl] at hk
    rcases getElem?_snoc.1 hk with q | ⟨-, rfl⟩
    · exact h.cl k c q
    · exact ⟨by simp, hn, ho⟩
  · intro x hx
    rw [attach_wl h ha hb hab hx]
    split
    · rw [List.nodup_append]
      refine ⟨h.wn x hx, by simp, ?_⟩
      intro p hp q hq e
      rw [List.mem_singleton] at hq
      exact hfr x hx (by rw [← hq, ← e]; exact hp)
    · exact h.wn x hx
  · intro x hx k
    rw [attach_wl h ha hb hab hx, hcl]
    have old := h.wm x hx k
    by_cases hk : k = s.clauses.length
    · subst hk
      constructor
      · intro q
        by_cases e : x = a ∨ x = b
        · rcases e with rfl | rfl
          · exact ⟨_, b, getElem?_snoc.2 (.inr ⟨rfl, rfl⟩), wp_cons.2 (.inl ⟨rfl, rfl⟩)⟩
          · exact ⟨_, a, getElem?_snoc.2 (.inr ⟨rfl, rfl⟩), wp_cons.2 (.inr ⟨rfl, rfl⟩)⟩
        · rw [if_neg e] at q; exact absurd q (hfr x hx)
      · rintro ⟨c, y, h1, h2⟩
        rcases getElem?_snoc.1 h1 with q | ⟨-, rfl⟩
        · exact absurd (List.getElem?_eq_some_iff.1 q).1 (by omega)
        · rw [if_pos]
          · simp
          · rcases wp_cons.1 h2 with ⟨q, -⟩ | ⟨-, q⟩
            · exact .inl q.symm
            · exact .inr q.symm
    · have e : (k ∈ if x = a ∨ x = b then s.wl x ++ [s.clauses.length] else s.wl x) ↔ k ∈ s.wl x := by
        split
        · simp [hk]
        · rfl
      rw [e, old]
      constructor
      · rintro ⟨c, y, h1, h2⟩; exact ⟨c, y, getElem?_snoc.2 (.inl h1), h2⟩
      · rintro ⟨c, y, h1, h2⟩
        rcases getElem?_snoc.1 h1 with q | ⟨q, -⟩
        · exact ⟨c, y, q, h2⟩
        · exact absurd q hk
theorem Rs.attached {U : Int → Prop} {s : SS} (h : Rs U s) (l : List Int) : Rs U (s.attach l) := by
  intro i x hi
  rcases h i x hi with q | ⟨k, c, b1, b2, b3⟩
  · exact .inl q
  · exact .inr ⟨k, c, b1, getElem?_snoc.2 (.inl b2), b3⟩
/-- a clause whose watched literals are unassigned -/
theorem In.attached {n : Nat} {U : Int → Prop} {s : SS} (h : In n U s) {a b : Int} {t : List Int} (hn : (a :: b :: t).Nodup) (ho : ∀ x ∈ a :: b :: t, LOk n x) (h1 : -a ∉ s.lits) (h2 : -b ∉ s.lits) : In n U (s.attach (a :: b :: t)) := by
  refine ⟨⟨h.tr.1, h.tr.2, h.tr.3, h.tr.4, h.tr.5, h.tr.6, h.tr.7, h.tr.8, h.tr.9, h.tr.10, h.tr.11, h.tr.12⟩, h.rs.attached _, h.wa.attached hn ho, ?_, h.hd, h.hm⟩
  intro k c p q i a1 a2 a3 a4
  rcases getElem?_snoc.1 a1 with a1 | ⟨-, rfl⟩
  · exact h.wi k c p q i a1 a2 a3 a4
  · rcases wp_cons.1 a2 with ⟨rfl, -⟩ | ⟨-, rfl⟩
    · exact absurd (List.mem_of_getElem? a4) h1
    · exact absurd (List.mem_of_getElem? a4) h2
/-- a learned clause, whose first literal it makes true -/
theorem In.asserted {n : Nat} {U : Int → Prop} {s : SS} (h : In n U s) {a b : Int} {t : List Int} (hn : (a :: b :: t).Nodup) (ho : ∀ x ∈ a :: b :: t, LOk n x) (h1 : a ∉ s.lits) (h2 : -a ∉ s.lits) (hf : ∀ y ∈ b :: t, -y ∈ s.lits) (hb : ∀ i, s.lits[i]? = some (-b) → s.marks.length ≤ cnt s.marks i) : In n U ((s.attach (a :: b :: t)).push a s.clauses.length) := by
  have ha := ho a (by simp)
  have hnm : s.lits.length ∉ s.marks := by
    intro q
    obtain ⟨i, hi⟩ := List.mem_iff_getElem?.1 (hf b (by simp))
    have h3 := hb i hi
    have h4 := cnt_full (Nat.le_antisymm (cnt_le _ _) h3) _ q
    have := (List.getElem?_eq_some_iff.1 hi).1
    omega
  have htr : Tr n (s.attach (a :: b :: t)) := ⟨h.tr.1, h.tr.2, h.tr.3, h.tr.4, h.tr.5, h.tr.6, h.tr.7, h.tr.8, h.tr.9, h.tr.10, h.tr.11, h.tr.12⟩
  have hwa := h.wa.attached hn ho
  refine ⟨htr.pushed ha h1 h2, (h.rs.attached _).pushed htr ha h1 h2 (.inr ⟨_, a :: b :: t, rfl, getElem?_snoc.2 (.inr ⟨rfl, rfl⟩), by simp, ?_, hnm⟩), ⟨hwa.wl, hwa.cl, hwa.wn, hwa.wm⟩, ?_, ?_, h.hm⟩
  · intro y hy hya
    rcases List.mem_cons.1 hy with q | q
    · exact absurd q hya
    · exact hf y q
  · intro k c p q i a1 a2 a3 a4
    have hd := h.hd
    change i < s.head at a3
    rcases lits_push.1 a4 with a4 | a4
    · rcases getElem?_snoc.1 a1 with a1 | ⟨-, rfl⟩
      · obtain ⟨j, b1, b2⟩ := h.wi k c p q i a1 a2 a3 a4
        exact ⟨j, lits_push.2 (.inl b1), b2⟩
      · rcases wp_cons.1 a2 with ⟨rfl, -⟩ | ⟨rfl, rfl⟩
        · exact absurd (List.mem_of_getElem? a4) h2
        · refine ⟨s.lits.length, lits_push.2 (.inr ⟨rfl, rfl⟩), ?_⟩
          exact Nat.le_trans (cnt_le _ _) (hb i a4)
    · have : i = s.lits.length := a4.1
      omega
  · show s.head ≤ (s.lits ++ [a]).length
    have := h.hd; rw [List.length_append]; omega
end Go.Proofs.Ytdibfjcmgbpnpaa
