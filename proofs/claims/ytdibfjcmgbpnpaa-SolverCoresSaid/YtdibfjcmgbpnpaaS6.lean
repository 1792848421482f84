/- The solver, plainly: adding a clause, learning one, deciding: what all states have in common. -/
import Derived.Test.YtdibfjcmgbpnpaaS5
namespace Go.Proofs.Ytdibfjcmgbpnpaa
set_option linter.unusedSimpArgs false
set_option linter.unusedVariables false

-- --- truth under an assignment
def tru (W : Nat → Bool) (x : Int) : Prop := if x < 0 then W x.natAbs = false else W x.natAbs = true
theorem tru_neg {W : Nat → Bool} {x : Int} (hx : x ≠ 0) : tru W (-x) ↔ ¬ tru W x := by
  unfold tru
  rw [Int.natAbs_neg]
  by_cases h : x < 0
  · rw [if_pos h, if_neg (by omega)]; simp
  · rw [if_neg h, if_pos (by omega)]; simp
def satc (W : Nat → Bool) (c : List Int) : Prop := ∃ x ∈ c, tru W x
theorem UP.sound {D : List (List Int)} {S : Int → Prop} {W : Nat → Bool} (hD : ∀ c ∈ D, satc W c) (h0 : ∀ c ∈ D, ∀ x ∈ c, x ≠ 0) (hS : ∀ x, S x → tru W x) {x : Int} (h : UP D S x) : tru W x := by
  induction h with
  | base h => exact hS _ h
  | @unit c x h1 h2 _ ih =>
    obtain ⟨y, hy, ht⟩ := hD c h1
    by_cases e : y = x
    · rw [← e]; exact ht
    · exact absurd ht ((tru_neg (h0 c h1 y hy)).1 (ih y hy e))
theorem Cf.sound {D : List (List Int)} {S : Int → Prop} {W : Nat → Bool} (hD : ∀ c ∈ D, satc W c) (h0 : ∀ c ∈ D, ∀ x ∈ c, x ≠ 0) (hS : ∀ x, S x → tru W x) (h : Cf D S) : False := by
  obtain ⟨c, h1, h2⟩ := h
  obtain ⟨y, hy, ht⟩ := hD c h1
  exact absurd ht ((tru_neg (h0 c h1 y hy)).1 (UP.sound hD h0 hS (h2 y hy)))
theorem Rup.sound {D : List (List Int)} {W : Nat → Bool} {c : List Int} (hD : ∀ c ∈ D, satc W c) (h0 : ∀ c ∈ D, ∀ x ∈ c, x ≠ 0) (hc : ∀ x ∈ c, x ≠ 0) (h : Rup D c) : satc W c := by
  by_cases hs : satc W c
  · exact hs
  exfalso
  have hn : ∀ x ∈ c, ¬ tru W x := fun x hx ht => hs ⟨x, hx, ht⟩
  rcases h with ⟨x, h1, h2⟩ | h
  · exact hn _ h2 ((tru_neg (hc x h1)).2 (hn x h1))
  · refine h.sound hD h0 fun x hx => ?_
    have hx0 : x ≠ 0 := fun e => hc _ hx (by rw [e]; rfl)
    by_cases ht : tru W x
    · exact ht
    · exact absurd ((tru_neg hx0).2 ht) (hn _ hx)

-- --- all states
/-- a clause is accounted for -/
def Cov (s : SS) (d : List Int) : Prop := (∃ x ∈ d, -x ∈ d) ∨ (∃ y ∈ d, y ∈ s.lits ∧ s.lv y = 0) ∨ ∃ c ∈ s.clauses, ∀ y ∈ c, y ∈ d
structure Sv (n : Nat) (A : List (List Int)) (s : SS) : Prop where
  inv : In n (U0 (A ++ s.proof)) s
  cg : CGs (A ++ s.proof) s
  cov : ∀ d ∈ A, s.broken = true ∨ Cov s d
  pf : ∀ i l, s.proof[i]? = some l → Rup (A ++ s.proof.take i) l ∧ ∀ x ∈ l, LOk n x
  bk : s.broken = true → Cf (A ++ s.proof) fun _ => False
  ok : ∀ d ∈ A, ∀ x ∈ d, LOk n x
/-- every model of A is one of the proof's steps too -/
theorem Sv.entail {n : Nat} {A : List (List Int)} {s : SS} (h : Sv n A s) {W : Nat → Bool} (hA : ∀ c ∈ A, satc W c) : ∀ i, i ≤ s.proof.length → ∀ c ∈ A ++ s.proof.take i, satc W c := by
  intro i
  induction i with
  | zero => intro _ c hc; rw [List.take_zero, List.append_nil] at hc; exact hA c hc
  | succ i ih =>
    intro hi c hc
    rw [List.take_succ_eq_append_getElem (by omega), ← List.append_assoc] at hc
    rcases List.mem_append.1 hc with q | q
    · exact ih (by omega) c q
    · rw [List.mem_singleton] at q
      subst q
      obtain ⟨h1, h2⟩ := h.pf i _ (List.getElem?_eq_getElem (by omega))
      refine h1.sound (ih (by omega)) ?_ fun x hx => (h2 x hx).1
      intro d hd x hx
      rcases List.mem_append.1 hd with q | q
      · exact (h.ok d q x hx).1
      · obtain ⟨j, hj⟩ := List.mem_iff_getElem?.1 (List.mem_of_mem_take q)
        exact ((h.pf j d hj).2 x hx).1
theorem Sv.all {n : Nat} {A : List (List Int)} {s : SS} (h : Sv n A s) {W : Nat → Bool} (hA : ∀ c ∈ A, satc W c) : ∀ c ∈ A ++ s.proof, satc W c := by
  have := h.entail hA s.proof.length (Nat.le_refl _)
  rwa [List.take_length] at this
theorem Sv.nz {n : Nat} {A : List (List Int)} {s : SS} (h : Sv n A s) : ∀ c ∈ A ++ s.proof, ∀ x ∈ c, LOk n x := by
  intro d hd x hx
  rcases List.mem_append.1 hd with q | q
  · exact h.ok d q x hx
  · obtain ⟨j, hj⟩ := List.mem_iff_getElem?.1 q
    exact (h.pf j d hj).2 x hx
theorem Sv.up0 {n : Nat} {A : List (List Int)} {s : SS} (h : Sv n A s) {i : Nat} {x : Int} (hx : s.lits[i]? = some x) (h0 : cnt s.marks i = 0) : U0 (A ++ s.proof) x := lv0_up h.inv.tr h.inv.rs h.cg i x hx h0

-- --- propagation
theorem prop_id {f : Nat} {s : SS} (h : s.head = s.lits.length) : prop f s = (s, none) := by
  cases f with
  | zero => rfl
  | succ f => unfold prop; rw [if_neg (by omega)]
theorem Fr.lv {n : Nat} {s s' : SS} (h : Fr s s') (ht : Tr n s) (ht' : Tr n s') {x : Int} (hx : x ∈ s.lits) : s'.lv x = s.lv x := by
  obtain ⟨i, hi⟩ := List.mem_iff_getElem?.1 hx
  rw [ht.lev i x hi, ht'.lev i x (h.at hi), h.marks]
theorem Sv.prop {n : Nat} {A : List (List Int)} {s : SS} (h : Sv n A s) {f : Nat} (hf : n ≤ s.head + f) : Sv n A (prop f s).1 ∧ Fr s (prop f s).1 := by
  obtain ⟨h1, h2, -, -⟩ := prop_ok h.inv hf
  generalize (Go.Proofs.Ytdibfjcmgbpnpaa.prop f s).1 = s' at h1 h2
  refine ⟨⟨by rw [h1.proof]; exact h2, by rw [h1.proof]; exact h.cg.cp h1.cp, ?_, by rw [h1.proof]; exact h.pf, by rw [h1.broken, h1.proof]; exact h.bk, h.ok⟩, h1⟩
  intro d hd
  rw [h1.broken]
  refine (h.cov d hd).imp id ?_
  rintro (q | ⟨y, a1, a2, a3⟩ | ⟨c, a1, a2⟩)
  · exact .inl q
  · exact .inr (.inl ⟨y, a1, h1.mem a2, by rw [h1.lv h.inv.tr h2.tr a2]; exact a3⟩)
  · obtain ⟨k, hk⟩ := List.mem_iff_getElem?.1 a1
    have hl : k < s'.clauses.length := by rw [h1.cp.1]; exact (List.getElem?_eq_some_iff.1 hk).1
    obtain ⟨c0, b1, b2⟩ := h1.cp.2 k _ (List.getElem?_eq_getElem hl)
    rw [hk] at b1; obtain rfl := Option.some.inj b1
    exact .inr (.inr ⟨_, List.getElem_mem hl, fun y hy => a2 y (b2.mem_iff.1 hy)⟩)

-- --- undo
theorem Sv.undone {n : Nat} {A : List (List Int)} {s : SS} (h : Sv n A s) (k : Nat) : Sv n A (s.undo k) := by
  obtain ⟨f1, f2, f3, f4, f5, f6, f7, f8, f9⟩ := undo_frame s k
  refine ⟨by rw [f7]; exact h.inv.undone k, ?_, ?_, by rw [f7]; exact h.pf, by rw [f6, f7]; exact h.bk, h.ok⟩
  · intro c hc; rw [f3] at hc; rw [f7]; exact h.cg c hc
  · intro d hd
    rw [f6]
    refine (h.cov d hd).imp id ?_
    rintro (q | ⟨y, a1, a2, a3⟩ | ⟨c, a1, a2⟩)
    · exact .inl q
    · obtain ⟨i, hi⟩ := List.mem_iff_getElem?.1 a2
      have := h.inv.tr.lev i y hi
      exact .inr (.inl ⟨y, a1, List.mem_of_getElem? ((undo_mem h.inv.tr k).2 ⟨hi, by omega⟩), by unfold SS.lv; rw [f1]; exact a3⟩)
    · exact .inr (.inr ⟨c, by rw [f3]; exact a1, a2⟩)

-- --- a learned clause
def SS.learn (s : SS) (l : List Int) : SS := { s with proof := s.proof ++ [l] }
def nextIdx (s : SS) (l : List Int) : Nat := (List.range l.length).foldl (fun nx i => if 0 < i ∧ s.lv (l.getD nx 0) < s.lv (l.getD i 0) then i else nx) 1
def swap1 (l : List Int) (k : Nat) : List Int := (l.set 1 (l.getD k 0)).set k (l.getD 1 0)
def SS.assert (s : SS) (l : List Int) : SS :=
  if l.length = 1 then (s.learn l).push (l.getD 0 0) (-1)
  else ((s.learn l).attach (swap1 l (nextIdx (s.learn l) l))).push ((swap1 l (nextIdx (s.learn l) l)).getD 0 0) s.clauses.length
theorem nextIdx_ok (s : SS) (l : List Int) (hl : 2 ≤ l.length) : 1 ≤ nextIdx s l ∧ nextIdx s l < l.length ∧ ∀ i, 1 ≤ i → i < l.length → s.lv (l.getD i 0) ≤ s.lv (l.getD (nextIdx s l) 0) := by
  have key : ∀ m, m ≤ l.length → 1 ≤ (List.range m).foldl (fun nx i => if 0 < i ∧ s.lv (l.getD nx 0) < s.lv (l.getD i 0) then i else nx) 1 ∧ (List.range m).foldl (fun nx i => if 0 < i ∧ s.lv (l.getD nx 0) < s.lv (l.getD i 0) then i else nx) 1 < l.length ∧
      ∀ i, 1 ≤ i → i < m → s.lv (l.getD i 0) ≤ s.lv (l.getD ((List.range m).foldl (fun nx i => if 0 < i ∧ s.lv (l.getD nx 0) < s.lv (l.getD i 0) then i else nx) 1) 0) := by
    intro m
    induction m with
    | zero => intro _; exact ⟨by simp, by simp; omega, fun i a b => by omega⟩
    | succ m ih =>
      intro hm
      obtain ⟨h1, h2, h3⟩ := ih (by omega)
      rw [List.range_succ, List.foldl_append, List.foldl_cons, List.foldl_nil]
      generalize (List.range m).foldl (fun nx i => if 0 < i ∧ s.lv (l.getD nx 0) < s.lv (l.getD i 0) then i else nx) 1 = nx at *
      split
      · rename_i hc
        refine ⟨hc.1, by omega, fun i a b => ?_⟩
        rcases Nat.lt_or_ge i m with q | q
        · have := h3 i a q; omega
        · rw [show i = m by omega]; exact Nat.le_refl _
      · rename_i hc
        refine ⟨h1, h2, fun i a b => ?_⟩
        rcases Nat.lt_or_ge i m with q | q
        · exact h3 i a q
        · have e : i = m := by omega
          subst e
          have : ¬ (s.lv (l.getD nx 0) < s.lv (l.getD i 0)) := fun q => hc ⟨by omega, q⟩
          omega
  exact key l.length (Nat.le_refl _)
theorem swap1_ok (a b : Int) (t : List Int) (k : Nat) (h1 : 1 ≤ k) (h2 : k < (a :: b :: t).length) : ∃ c t', swap1 (a :: b :: t) k = a :: c :: t' ∧ c = (a :: b :: t).getD k 0 ∧ (a :: c :: t').Perm (a :: b :: t) := by
  obtain ⟨j, rfl⟩ : ∃ j, k = j + 1 := ⟨k - 1, by omega⟩
  cases j with
  | zero => exact ⟨b, t, rfl, rfl, List.Perm.refl _⟩
  | succ j =>
    have hj : t[j]? = some (t.getD j 0) := by simp at h2; rw [List.getD_eq_getElem?_getD, List.getElem?_eq_getElem (by omega)]; rfl
    refine ⟨t.getD j 0, t.set j b, ?_, ?_, (set_perm hj).cons a⟩
    · unfold swap1; simp
    · simp
theorem Sv.learned {n : Nat} {A : List (List Int)} {s : SS} (h : Sv n A s) {l : List Int} (hr : Rup (A ++ s.proof) l) (hl : ∀ x ∈ l, LOk n x) : Sv n A (s.learn l) := by
  have hsub : ∀ c ∈ A ++ s.proof, c ∈ A ++ (s.proof ++ [l]) := fun c hc => by
    rcases List.mem_append.1 hc with q | q
    · exact List.mem_append_left _ q
    · exact List.mem_append_right _ (List.mem_append_left _ q)
  refine ⟨h.inv.same (fun x hx => U0.mono hsub hx) rfl rfl rfl rfl rfl rfl rfl rfl rfl, fun c hc => (h.cg c hc).mono hsub, h.cov, ?_, fun q => (h.bk q).mono hsub (fun _ => id), h.ok⟩
  intro i d hd
  rcases getElem?_snoc.1 hd with q | ⟨rfl, rfl⟩
  · have hi := (List.getElem?_eq_some_iff.1 q).1
    have e : (s.learn l).proof.take i = s.proof.take i := List.take_append_of_le_length (by omega)
    rw [e]; exact h.pf i d q
  · have e : (s.learn d).proof.take s.proof.length = s.proof := by show (s.proof ++ [d]).take _ = _; rw [List.take_left]
    rw [e]; exact ⟨hr, hl⟩

/-- behind a conflict: the clause is learned -/
theorem Sv.conflict {n : Nat} {A : List (List Int)} {s : SS} (h : Sv n A s) {C : List Int} {to : Nat} (hC : Learned (A ++ s.proof) s C to) :
    Sv n A ((s.undo to).assert C) ∧ ((s.undo to).assert C).proof = s.proof ++ [C] ∧ ((s.undo to).assert C).marks = s.marks.take to ∧ (∃ q, ((s.undo to).assert C).lits = (s.undo to).lits ++ [q]) ∧
      ((s.undo to).assert C).broken = s.broken ∧ ((s.undo to).assert C).core = s.core ∧ ((s.undo to).assert C).model = s.model ∧ ((s.undo to).assert C).added = s.added ∧ (s.undo to).lits.length ∉ s.marks.take to ∧ (s.undo to).lits.length ∈ s.marks ∧ (s.undo to).lits.length < s.lits.length ∧
      ∀ y ∈ (s.undo to).lits, ((s.undo to).assert C).lv y = s.lv y := by
  obtain ⟨q, O, rfl, ⟨iq, hiq, hcq⟩, hO, hsh⟩ := hC.shape
  have ht := h.inv.tr
  have hto := hC.lt
  obtain ⟨f1, f2, f3, f4, f5, f6, f7, f8, f9⟩ := undo_frame s to
  have hU := h.undone to
  have hqok := ht.ok q (List.mem_of_getElem? hiq)
  have hok : ∀ x ∈ -q :: O, LOk n x := by
    intro x hx
    rcases List.mem_cons.1 hx with e | hx
    · rw [e]; exact hqok.neg
    · obtain ⟨j, hj, -⟩ := hO x hx
      have := (ht.ok _ (List.mem_of_getElem? hj)).neg
      simpa using this
  have hL : Sv n A ((s.undo to).learn (-q :: O)) := hU.learned (by rw [f7]; exact hC.rup) hok
  -- the first literal is unassigned
  have hq1 : -q ∉ (s.undo to).lits := by
    intro w
    obtain ⟨j, hj⟩ := List.mem_iff_getElem?.1 w
    exact ht.anti (List.mem_of_getElem? hiq) (List.mem_of_getElem? ((undo_mem ht to).1 hj).1)
  have hq2 : - -q ∉ (s.undo to).lits := by
    rw [Int.neg_neg]
    intro w
    obtain ⟨j, hj⟩ := List.mem_iff_getElem?.1 w
    obtain ⟨a1, a2⟩ := (undo_mem ht to).1 hj
    have := ht.pos_uniq a1 hiq
    subst this; omega
  have hmk : s.marks[to]? = some (s.marks.getD to 0) := by rw [List.getD_eq_getElem?_getD, List.getElem?_eq_getElem hto]; rfl
  have hul : (s.undo to).lits = s.lits.take (s.marks.getD to 0) := by
    show (s.back to).lits = _; rw [back_lits, if_neg (by omega)]
  have hmi : s.marks.getD to 0 ≤ iq := (cnt_lt ht.srt hmk).1 (by omega)
  have hiql := (List.getElem?_eq_some_iff.1 hiq).1
  have hlen : (s.undo to).lits.length = s.marks.getD to 0 := by rw [hul, List.length_take]; omega
  have hmem : (s.undo to).lits.length ∈ s.marks := by rw [hlen]; exact List.mem_of_getElem? hmk
  have hfalse : ∀ y ∈ O, -y ∈ (s.undo to).lits := fun y hy => by
    obtain ⟨j, a1, a2, a3, a4⟩ := hO y hy
    exact List.mem_of_getElem? ((undo_mem ht to).2 ⟨a1, a4⟩)
  have hnd : (-q :: O).Nodup := by
    have := hC.nd
    exact List.Pairwise.of_map Int.natAbs (fun a b h e => h (by rw [e])) this
  have hnot : (s.undo to).lits.length ∉ s.marks.take to := by
    intro w
    obtain ⟨p, hp⟩ := List.mem_iff_getElem?.1 w
    have hpt : p < to := by
      have := (List.getElem?_eq_some_iff.1 hp).1; rw [List.length_take] at this; omega
    rcases hsh with ⟨-, e⟩ | ⟨y, hy, e⟩
    · omega
    · obtain ⟨j, a1, a2, a3, a4⟩ := hO y hy
      have hl := ht.lev j _ a1
      rw [lv_neg] at hl
      have hj := (List.getElem?_eq_some_iff.1 ((undo_mem ht to).2 ⟨a1, a4⟩)).1
      rw [List.getElem?_take, if_pos hpt] at hp
      have := (cnt_lt (i := j) ht.srt hp).1 (by omega)
      omega
  have hlvf : ∀ {r : SS} {x rr : Int}, r.level = (s.undo to).level → Tr n (r.push x rr) → r.lits = (s.undo to).lits → (∀ y ∈ (s.undo to).lits, y.natAbs ≠ x.natAbs) → ∀ y ∈ (s.undo to).lits, (r.push x rr).lv y = s.lv y := by
    intro r x rr e1 _ _ hne y hy
    show (r.level.set x.natAbs _).getD y.natAbs 0 = _
    rw [getD_set, if_neg (fun w => hne y hy w.1.symm), e1, f1]; rfl
  have hne : ∀ y ∈ (s.undo to).lits, y.natAbs ≠ (-q).natAbs := fun y hy => hU.inv.tr.abs hq1 hq2 hy
  by_cases hOe : O = []
  · subst hOe
    have hto0 : to = 0 := by
      rcases hsh with ⟨-, e⟩ | ⟨y, hy, -⟩
      · exact e
      · simp at hy
    have e : (s.undo to).assert [-q] = ((s.undo to).learn [-q]).push (-q) (-1) := rfl
    have hm0 : ((s.undo to).learn [-q]).marks = [] := by show (s.undo to).marks = []; rw [undo_marks, hto0]; rfl
    rw [e]
    have hu : U0 (A ++ ((s.undo to).learn [-q]).proof) (-q) := by
      refine .unit (c := [-q]) (List.mem_append_right _ (by show [-q] ∈ (s.undo to).proof ++ [[-q]]; simp)) (by simp) fun y hy hyn => ?_
      exact absurd (by simpa using hy) hyn
    have hp := hL.inv.pushed (x := -q) (r := -1) hqok.neg hq1 hq2 (.inl ⟨rfl, .inl ⟨by rw [hm0]; rfl, hu⟩⟩)
    refine ⟨⟨hp, hL.cg, ?_, hL.pf, hL.bk, h.ok⟩, ?_, ?_, ⟨-q, rfl⟩, f6, f9, f8, f5, hnot, hmem, by omega, hlvf rfl hp.tr rfl hne⟩
    · intro d hd
      refine (hL.cov d hd).imp id ?_
      rintro (w | ⟨y, a1, a2, a3⟩ | w)
      · exact .inl w
      · exact .inr (.inl ⟨y, a1, List.mem_append_left _ a2, by rw [hlvf (r := (s.undo to).learn [-q]) rfl hp.tr rfl hne y a2]; have : (s.undo to).lv y = 0 := a3; unfold SS.lv at this; rw [f1] at this; exact this⟩)
      · exact .inr (.inr w)
    · show (s.undo to).proof ++ [[-q]] = _; rw [f7]
    · show (s.undo to).marks = _; exact undo_marks s to
  · obtain ⟨b, t, rfl⟩ : ∃ b t, O = b :: t := by
      match O, hOe with
      | b :: t, _ => exact ⟨b, t, rfl⟩
    obtain ⟨i1, i2, i3⟩ := nextIdx_ok ((s.undo to).learn (-q :: b :: t)) (-q :: b :: t) (by simp)
    obtain ⟨c, t', hsw, hcb, hp⟩ := swap1_ok (-q) b t _ i1 i2
    have e : (s.undo to).assert (-q :: b :: t) = (((s.undo to).learn (-q :: b :: t)).attach (-q :: c :: t')).push (-q) (s.undo to).clauses.length := by
      unfold SS.assert
      rw [if_neg (by simp), hsw]; rfl
    rw [e]
    have hmemO : ∀ y, y ∈ c :: t' ↔ y ∈ b :: t := fun y => (List.perm_cons _).1 hp |>.mem_iff
    have hlvc : s.lv c = to := by
      obtain ⟨jc, c1, c2, c3, c4⟩ := hO c ((hmemO c).1 (List.mem_cons_self ..))
      have hcl := ht.lev jc _ c1
      rw [lv_neg] at hcl
      rcases hsh with ⟨w, -⟩ | ⟨y, hy, w⟩
      · simp at w
      · obtain ⟨k, hk⟩ := List.mem_iff_getElem?.1 hy
        have hk' : (-q :: b :: t)[k + 1]? = some y := by simpa using hk
        have hkl := (List.getElem?_eq_some_iff.1 hk').1
        have := i3 (k + 1) (by omega) hkl
        have e1 : (-q :: b :: t).getD (k + 1) 0 = y := by rw [List.getD_eq_getElem?_getD, hk']; rfl
        rw [e1, ← hcb] at this
        have e2 : ∀ z, ((s.undo to).learn (-q :: b :: t)).lv z = s.lv z := fun z => by show (s.undo to).level.getD _ _ = _; rw [f1]; rfl
        rw [e2, e2] at this
        omega
    have has := hL.inv.asserted (a := -q) (b := c) (t := t') (hp.nodup_iff.2 hnd) (fun x hx => hok x (hp.mem_iff.1 hx)) hq1 hq2 (fun y hy => hfalse y ((hmemO y).1 hy)) ?_
    · refine ⟨⟨has, ?_, ?_, hL.pf, hL.bk, h.ok⟩, ?_, ?_, ⟨-q, rfl⟩, f6, f9, f8, f5, hnot, hmem, by omega, hlvf rfl has.tr rfl hne⟩
      · intro d hd
        have hd' : d ∈ (s.undo to).clauses ++ [-q :: c :: t'] := hd
        rcases List.mem_append.1 hd' with w | w
        · exact hL.cg d w
        · rw [List.mem_singleton.1 w]
          refine ⟨-q :: b :: t, List.mem_append_right _ (by show _ ∈ (s.undo to).proof ++ [-q :: b :: t]; simp), fun y hy => .inl (hp.mem_iff.2 hy), fun y hy => hp.mem_iff.1 hy⟩
      · intro d hd
        refine (hL.cov d hd).imp id ?_
        rintro (w | ⟨y, a1, a2, a3⟩ | ⟨c', a1, a2⟩)
        · exact .inl w
        · exact .inr (.inl ⟨y, a1, List.mem_append_left _ a2, by refine (hlvf (r := ((s.undo to).learn (-q :: b :: t)).attach (-q :: c :: t')) (x := -q) (rr := s.clauses.length) rfl (by rw [← f3]; exact has.tr) rfl hne y a2).trans ?_; have : (s.undo to).lv y = 0 := a3; unfold SS.lv at this; rw [f1] at this; exact this⟩)
        · exact .inr (.inr ⟨c', List.mem_append_left _ a1, a2⟩)
      · show (s.undo to).proof ++ [-q :: b :: t] = _; rw [f7]
      · show (s.undo to).marks = _; exact undo_marks s to
    · intro i hi
      change (s.undo to).lits[i]? = some (-c) at hi
      show (s.undo to).marks.length ≤ cnt (s.undo to).marks i
      obtain ⟨a1, a2⟩ := (undo_mem ht to).1 hi
      have := ht.lev i _ a1
      rw [lv_neg, hlvc] at this
      rw [undo_marks, cnt_back ht.srt a2, List.length_take]; omega

-- --- a clause is added
def addScan (s : SS) (all : List Int) : List Int → List Int → Option (List Int)
  | [], l => some l
  | x :: xs, l => if -x ∈ all ∨ 0 < s.of x then none else if s.of x = 0 ∧ x ∉ l then addScan s all xs (l ++ [x]) else addScan s all xs l
def SS.add (s : SS) (lits : List Int) : SS :=
  match addScan s lits lits [] with
  | none => { s with added := s.added + 1 }
  | some [] => { s with added := s.added + 1, broken := true }
  | some [x] => SS.push { s with added := s.added + 1 } x (-1)
  | some l => SS.attach { s with added := s.added + 1 } l
theorem addScan_ok {s : SS} {all : List Int} : ∀ {xs l : List Int}, l.Nodup → (∀ x ∈ xs, x ∈ all) → (∀ x ∈ l, x ∈ all ∧ s.of x = 0) → (∀ x ∈ all, x ∈ xs ∨ x ∈ l ∨ s.of x < 0) →
    (addScan s all xs l = none ∧ ((∃ x ∈ all, -x ∈ all) ∨ ∃ x ∈ all, 0 < s.of x)) ∨ ∃ r, addScan s all xs l = some r ∧ r.Nodup ∧ (∀ x ∈ r, x ∈ all ∧ s.of x = 0) ∧ ∀ x ∈ all, x ∈ r ∨ s.of x < 0
  | [], l, hn, _, hl, ha => .inr ⟨l, rfl, hn, hl, fun x hx => (ha x hx).elim (fun q => by simp at q) id⟩
  | x :: xs, l, hn, hx, hl, ha => by
    have hxa := hx x (List.mem_cons_self ..)
    have hxs : ∀ y ∈ xs, y ∈ all := fun y hy => hx y (List.mem_cons_of_mem _ hy)
    unfold addScan
    by_cases h1 : -x ∈ all ∨ 0 < s.of x
    · rw [if_pos h1]
      exact .inl ⟨rfl, h1.imp (fun q => ⟨x, hxa, q⟩) fun q => ⟨x, hxa, q⟩⟩
    rw [if_neg h1]
    by_cases h2 : s.of x = 0 ∧ x ∉ l
    · rw [if_pos h2]
      refine addScan_ok ?_ hxs ?_ ?_
      · rw [List.nodup_append]
        refine ⟨hn, by simp, fun a ha b hb e => ?_⟩
        rw [List.mem_singleton] at hb
        exact h2.2 (by rw [← hb, ← e]; exact ha)
      · intro y hy
        rcases List.mem_append.1 hy with q | q
        · exact hl y q
        · rw [List.mem_singleton.1 q]; exact ⟨hxa, h2.1⟩
      · intro y hy
        rcases ha y hy with q | q | q
        · rcases List.mem_cons.1 q with e | q
          · exact .inr (.inl (by rw [e]; simp))
          · exact .inl q
        · exact .inr (.inl (List.mem_append_left _ q))
        · exact .inr (.inr q)
    · rw [if_neg h2]
      refine addScan_ok hn hxs hl ?_
      intro y hy
      rcases ha y hy with q | q | q
      · rcases List.mem_cons.1 q with e | q
        · subst e
          by_cases h3 : s.of y = 0
          · refine .inr (.inl ?_)
            by_cases h4 : y ∈ l
            · exact h4
            · exact absurd ⟨h3, h4⟩ h2
          · refine .inr (.inr ?_)
            have : ¬ 0 < s.of y := fun w => h1 (.inr w)
            omega
        · exact .inl q
      · exact .inr (.inl q)
      · exact .inr (.inr q)
theorem Sv.added {n : Nat} {A : List (List Int)} {s : SS} (h : Sv n A s) (hm : s.marks = []) {l : List Int} (hl : ∀ x ∈ l, LOk n x) : Sv n (A ++ [l]) (s.add l) ∧ (s.add l).marks = [] ∧ (s.add l).proof = s.proof ∧ (s.add l).core = s.core ∧ (s.add l).model = s.model ∧ (s.add l).added = s.added + 1 := by
  have ht := h.inv.tr
  have hsub : ∀ c ∈ A ++ s.proof, c ∈ (A ++ [l]) ++ s.proof := fun c hc => by
    rcases List.mem_append.1 hc with q | q
    · exact List.mem_append_left _ (List.mem_append_left _ q)
    · exact List.mem_append_right _ q
  have hlD : l ∈ (A ++ [l]) ++ s.proof := List.mem_append_left _ (by simp)
  have hlv0 : ∀ y ∈ s.lits, s.lv y = 0 := fun y hy => by
    have := ht.lv_le hy; rw [hm] at this; simpa using this
  have hu0 : ∀ y ∈ s.lits, U0 ((A ++ [l]) ++ s.proof) y := fun y hy => by
    obtain ⟨i, hi⟩ := List.mem_iff_getElem?.1 hy
    exact (h.up0 hi (by rw [hm]; rfl)).mono hsub
  have hI : ∀ s' : SS, s'.value = s.value → s'.level = s.level → s'.reason = s.reason → s'.lits = s.lits → s'.marks = s.marks → s'.clauses = s.clauses → s'.watches = s.watches → s'.head = s.head → s'.low = s.low → In n (U0 ((A ++ [l]) ++ s.proof)) s' :=
    fun s' e1 e2 e3 e4 e5 e6 e7 e8 e9 => h.inv.same (fun x hx => U0.mono hsub hx) e1 e2 e3 e4 e5 e6 e7 e8 e9
  have hok : ∀ d ∈ A ++ [l], ∀ x ∈ d, LOk n x := fun d hd => by
    rcases List.mem_append.1 hd with q | q
    · exact h.ok d q
    · rw [List.mem_singleton.1 q]; exact hl
  have hpf : ∀ i d, s.proof[i]? = some d → Rup ((A ++ [l]) ++ s.proof.take i) d ∧ ∀ x ∈ d, LOk n x := fun i d hd => by
    obtain ⟨a1, a2⟩ := h.pf i d hd
    refine ⟨a1.mono fun c hc => ?_, a2⟩
    rcases List.mem_append.1 hc with q | q
    · exact List.mem_append_left _ (List.mem_append_left _ q)
    · exact List.mem_append_right _ q
  have hneg : ∀ x ∈ l, s.of x < 0 → U0 ((A ++ [l]) ++ s.proof) (-x) := fun x hx hn => hu0 _ ((ht.neg (hl x hx)).1 hn)
  unfold SS.add
  rcases addScan_ok (s := s) (all := l) (xs := l) (l := []) (by simp) (fun x hx => hx) (fun x hx => by simp at hx) (fun x hx => .inl hx) with ⟨e, hc⟩ | ⟨r, e, hn, hr, hc⟩
  · rw [e]
    refine ⟨⟨hI _ rfl rfl rfl rfl rfl rfl rfl rfl rfl, fun c hcc => (h.cg c hcc).mono hsub, ?_, hpf, fun q => (h.bk q).mono hsub fun _ => id, hok⟩, hm, rfl, rfl, rfl, rfl⟩
    intro d hd
    rcases List.mem_append.1 hd with q | q
    · exact h.cov d q
    · rw [List.mem_singleton.1 q]
      rcases hc with q | ⟨x, hx, hp⟩
      · exact .inr (.inl q)
      · have := (ht.pos (hl x hx)).1 hp
        exact .inr (.inr (.inl ⟨x, hx, this, hlv0 x this⟩))
  · rw [e]
    match r, hn, hr, hc with
    | [], hn, hr, hc =>
      refine ⟨⟨hI _ rfl rfl rfl rfl rfl rfl rfl rfl rfl, fun c hcc => (h.cg c hcc).mono hsub, fun d _ => .inl rfl, hpf, fun _ => ⟨l, hlD, fun y hy => ?_⟩, hok⟩, hm, rfl, rfl, rfl, rfl⟩
      rcases hc y hy with q | q
      · simp at q
      · exact hneg y hy q
    | [x], hn, hr, hc =>
      obtain ⟨hx, hx0⟩ := hr x (by simp)
      obtain ⟨z1, z2⟩ := (ht.zero (hl x hx)).1 hx0
      have hu : U0 ((A ++ [l]) ++ s.proof) x := by
        refine .unit hlD hx fun y hy hyx => ?_
        rcases hc y hy with q | q
        · exact absurd (by simpa using q) hyx
        · exact hneg y hy q
      have hp := (hI { s with added := s.added + 1 } rfl rfl rfl rfl rfl rfl rfl rfl rfl).pushed (x := x) (r := -1) (hl x hx) z1 z2 (.inl ⟨rfl, .inl ⟨by show s.marks.length = 0; rw [hm]; rfl, hu⟩⟩)
      have hlvx : ∀ y ∈ s.lits ++ [x], (SS.push { s with added := s.added + 1 } x (-1)).lv y = 0 := fun y hy => by
        have := hp.tr.lv_le hy
        have e : (SS.push { s with added := s.added + 1 } x (-1)).marks = [] := hm
        rw [e] at this; simpa using this
      refine ⟨⟨hp, fun c hcc => (h.cg c hcc).mono hsub, ?_, hpf, fun q => (h.bk q).mono hsub fun _ => id, hok⟩, hm, rfl, rfl, rfl, rfl⟩
      intro d hd
      rcases List.mem_append.1 hd with q | q
      · refine (h.cov d q).imp id ?_
        rintro (w | ⟨y, a1, a2, a3⟩ | w)
        · exact .inl w
        · exact .inr (.inl ⟨y, a1, List.mem_append_left _ a2, hlvx y (List.mem_append_left _ a2)⟩)
        · exact .inr (.inr w)
      · rw [List.mem_singleton.1 q]
        exact .inr (.inr (.inl ⟨x, hx, List.mem_append_right _ (by simp), hlvx x (List.mem_append_right _ (by simp))⟩))
    | a :: b :: t, hn, hr, hc =>
      have hok' : ∀ x ∈ a :: b :: t, LOk n x := fun x hx => hl x (hr x hx).1
      have n1 : -a ∉ s.lits := by obtain ⟨h1, h2⟩ := hr a (by simp); exact ((ht.zero (hl a h1)).1 h2).2
      have n2 : -b ∉ s.lits := by obtain ⟨h1, h2⟩ := hr b (by simp); exact ((ht.zero (hl b h1)).1 h2).2
      have hp := (hI { s with added := s.added + 1 } rfl rfl rfl rfl rfl rfl rfl rfl rfl).attached hn hok' n1 n2
      refine ⟨⟨hp, ?_, ?_, hpf, fun q => (h.bk q).mono hsub fun _ => id, hok⟩, hm, rfl, rfl, rfl, rfl⟩
      · intro c hcc
        have hcc' : c ∈ s.clauses ++ [a :: b :: t] := hcc
        rcases List.mem_append.1 hcc' with q | q
        · exact (h.cg c q).mono hsub
        · rw [List.mem_singleton.1 q]
          refine ⟨l, hlD, fun y hy => ?_, fun y hy => (hr y hy).1⟩
          rcases hc y hy with w | w
          · exact .inl w
          · exact .inr (hneg y hy w)
      · intro d hd
        rcases List.mem_append.1 hd with q | q
        · refine (h.cov d q).imp id ?_
          rintro (w | w | ⟨c, a1, a2⟩)
          · exact .inl w
          · exact .inr (.inl w)
          · exact .inr (.inr ⟨c, List.mem_append_left _ a1, a2⟩)
        · rw [List.mem_singleton.1 q]
          exact .inr (.inr (.inr ⟨a :: b :: t, List.mem_append_right _ (by simp), fun y hy => (hr y hy).1⟩))
end Go.Proofs.Ytdibfjcmgbpnpaa
