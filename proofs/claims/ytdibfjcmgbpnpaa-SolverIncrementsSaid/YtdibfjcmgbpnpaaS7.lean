/- The solver, plainly: the search. -/
import Derived.Test.YtdibfjcmgbpnpaaS6
namespace Go.Proofs.Ytdibfjcmgbpnpaa
set_option linter.unusedSimpArgs false
set_option linter.unusedVariables false

def SS.fin (s : SS) (core : List Int) : SS := SS.learn { s with core := core } (core.map fun y => -y)
/-- one round of the search: the next state, or the end -/
def sround (assume : List Int) (fuel : Int) (s : SS) (met : Nat) : (SS × Nat) ⊕ (SS × Int) :=
  if 20000 ≤ s.proof.length then .inr (s.undo 0, 0) else
  if (prop s.value.length s).1.broken = true ∨ ((prop s.value.length s).2 ≠ none ∧ (prop s.value.length s).1.marks.length = 0) then
    .inr (SS.fin { (prop s.value.length s).1 with broken := true } [], 2)
  else match (prop s.value.length s).2 with
  | some k =>
    if fuel ≤ ((met + 1 : Nat) : Int) then .inr ((((prop s.value.length s).1.undo (analyze (prop s.value.length s).1 k).2).assert (analyze (prop s.value.length s).1 k).1).undo 0, 0)
    else .inl (((prop s.value.length s).1.undo (analyze (prop s.value.length s).1 k).2).assert (analyze (prop s.value.length s).1 k).1, met + 1)
  | none =>
    if (prop s.value.length s).1.marks.length < assume.length then
      if (prop s.value.length s).1.of (assume.getD (prop s.value.length s).1.marks.length 0) = -1 then
        .inr (SS.fin ((prop s.value.length s).1.undo 0) (blame (prop s.value.length s).1 (assume.getD (prop s.value.length s).1.marks.length 0)), 2)
      else if (prop s.value.length s).1.of (assume.getD (prop s.value.length s).1.marks.length 0) = 1 then .inl ((prop s.value.length s).1.decide 0, met)
      else .inl ((prop s.value.length s).1.decide (assume.getD (prop s.value.length s).1.marks.length 0), met)
    else if (prop s.value.length s).1.free = 0 then .inr (SS.undo { (prop s.value.length s).1.advance with model := (prop s.value.length s).1.value } 0, 1)
    else .inl ((prop s.value.length s).1.advance.decide (-(prop s.value.length s).1.free), met)
def srun (assume : List Int) (fuel : Int) : Nat → SS → Nat → SS × Int
  | 0, s, _ => (s, 0)
  | f + 1, s, met =>
    match sround assume fuel s met with
    | .inl (s', met') => srun assume fuel f s' met'
    | .inr r => r
/-- how many rounds suffice -/
def smeas (n : Nat) (assume : List Int) (s : SS) : Nat := (3 ^ n - s.cod n) * (assume.length + n + 1) + ((assume.length - s.marks.length) + (n - s.lits.length))
def SS.validl (s : SS) (l : List Int) : Bool := l.all fun x => !(x == 0 || Decidable.decide ((s.value.length : Int) - 1 < x) || Decidable.decide (x < -((s.value.length : Int) - 1)))
def solve (s : SS) (assume : List Int) (fuel : Int) : SS × Int :=
  if s.validl assume = true ∧ 0 < fuel then
    srun assume fuel (smeas (s.value.length - 1) assume (SS.undo { s with core := [], model := [] } 0) + 1) (SS.undo { s with core := [], model := [] } 0) 0
  else ({ s with core := [], model := [] }, 0)

/-- within a search -/
structure Se (n : Nat) (A : List (List Int)) (assume : List Int) (s : SS) : Prop where
  sv : Sv n A s
  core : s.core = []
  model : s.model = []
  nb : s.broken = true → s.marks = []
  asm : ∀ d x, assume[d]? = some x → d < s.marks.length → ∃ i, s.lits[i]? = some x ∧ cnt s.marks i ≤ d + 1
  dec : ∀ i z, s.lits[i]? = some z → i ∈ s.marks → (∃ d, s.lv z = d + 1 ∧ assume[d]? = some z) ∨ (assume.length < s.lv z ∧ z < 0 ∧ ∀ u : Nat, 1 ≤ u → u < z.natAbs → ∃ j, j < i ∧ (s.lits[j]? = some (u : Int) ∨ s.lits[j]? = some (-(u : Int))))
/-- the values satisfy clauses and assumptions, and no smaller ones do -/
structure Best (n : Nat) (A : List (List Int)) (assume m : List Int) : Prop where
  len : m.length = n + 1
  sat : ∀ d ∈ A, satc (fun v => Decidable.decide (0 < m.getD v 0)) d
  asm : ∀ x ∈ assume, tru (fun v => Decidable.decide (0 < m.getD v 0)) x
  least : ∀ W : Nat → Bool, (∀ d ∈ A, satc W d) → (∀ x ∈ assume, tru W x) → ∀ v, 1 ≤ v → v ≤ n → 0 < m.getD v 0 → (∀ u, 1 ≤ u → u < v → W u = Decidable.decide (0 < m.getD u 0)) → W v = true
/-- what a search yields -/
structure Done (n : Nat) (A : List (List Int)) (assume : List Int) (p : List (List Int)) (r : SS × Int) : Prop where
  sv : Sv n A r.1
  nomk : r.1.marks = []
  ext : ∃ more, r.1.proof = p ++ more ∧ (r.2 = 2 → more.getLast? = some (r.1.core.map fun y => -y))
  oc : r.2 = 0 ∨ r.2 = 1 ∨ r.2 = 2
  unk : r.2 = 0 → r.1.core = [] ∧ r.1.model = []
  yes : r.2 = 1 → r.1.core = [] ∧ Best n A assume r.1.model
  no : r.2 = 2 → r.1.model = [] ∧ r.1.core.Nodup ∧ (∀ x ∈ r.1.core, x ∈ assume)

theorem Tr.sub {n : Nat} {s s' : SS} (h : Tr n s) (e1 : s'.value = s.value) (e2 : s'.level = s.level) (e3 : s'.reason = s.reason) (e4 : s'.lits = s.lits) (e5 : s'.marks = s.marks) (e6 : s'.low = s.low) : Tr n s' := by
  obtain ⟨v, l, r, li, ma, lo, cl, wa, he, ad, br, pr, mo, co⟩ := s
  obtain ⟨v', l', r', li', ma', lo', cl', wa', he', ad', br', pr', mo', co'⟩ := s'
  dsimp only at e1 e2 e3 e4 e5 e6
  subst e1 e2 e3 e4 e5 e6
  exact ⟨h.1, h.2, h.3, h.4, h.5, h.6, h.7, h.8, h.9, h.10, h.11, h.12⟩
/-- fields that matter for no law of the search -/
theorem Sv.same {n : Nat} {A : List (List Int)} {s s' : SS} (h : Sv n A s) (e1 : s'.value = s.value) (e2 : s'.level = s.level) (e3 : s'.reason = s.reason) (e4 : s'.lits = s.lits) (e5 : s'.marks = s.marks) (e6 : s'.clauses = s.clauses) (e7 : s'.watches = s.watches) (e8 : s'.head = s.head) (e9 : s'.low = s.low) (e10 : s'.proof = s.proof) (e11 : s'.broken = s.broken) : Sv n A s' := by
  refine ⟨h.inv.same (fun x hx => by rw [e10]; exact hx) e1 e2 e3 e4 e5 e6 e7 e8 e9, ?_, ?_, by rw [e10]; exact h.pf, by rw [e10, e11]; exact h.bk, h.ok⟩
  · intro c hc; rw [e6] at hc; rw [e10]; exact h.cg c hc
  · intro d hd
    rw [e11]
    refine (h.cov d hd).imp id ?_
    unfold Cov SS.lv
    rw [e2, e4, e6]; exact id

theorem Se.prop {n : Nat} {A : List (List Int)} {assume : List Int} {s : SS} (h : Se n A assume s) {f : Nat} (hf : n ≤ s.head + f) : Se n A assume (prop f s).1 ∧ Fr s (prop f s).1 ∧ s.cod n ≤ (prop f s).1.cod n := by
  obtain ⟨h1, hfr⟩ := h.sv.prop hf
  by_cases hh : s.head = s.lits.length
  · rw [prop_id hh] at h1 hfr ⊢
    exact ⟨h, hfr, Nat.le_refl _⟩
  have hhd : s.head < s.lits.length := by have := h.sv.inv.hd; omega
  generalize (Go.Proofs.Ytdibfjcmgbpnpaa.prop f s).1 = s' at h1 hfr
  have hmem : ∀ i, i ∈ s.marks → i < s.lits.length := fun i hi => by have := h.sv.inv.hm i hi; omega
  have hat : ∀ {i z}, i < s.lits.length → s'.lits[i]? = some z → s.lits[i]? = some z := by
    intro i z hi hz
    obtain ⟨e, he⟩ := hfr.ext
    rw [he, List.getElem?_append_left hi] at hz; exact hz
  refine ⟨⟨h1, by rw [hfr.core]; exact h.core, by rw [hfr.model]; exact h.model, by rw [hfr.broken, hfr.marks]; exact h.nb, ?_, ?_⟩, hfr, ?_⟩
  · intro d x hd hl
    rw [hfr.marks] at hl ⊢
    obtain ⟨i, a1, a2⟩ := h.asm d x hd hl
    exact ⟨i, hfr.at a1, a2⟩
  · intro i z hz hi
    rw [hfr.marks] at hi
    have hz' := hat (hmem i hi) hz
    rw [hfr.lv h.sv.inv.tr h1.inv.tr (List.mem_of_getElem? hz')]
    refine (h.dec i z hz' hi).imp id ?_
    rintro ⟨a1, a2, a3⟩
    refine ⟨a1, a2, fun u b1 b2 => ?_⟩
    obtain ⟨j, c1, c2⟩ := a3 u b1 b2
    exact ⟨j, c1, c2.imp hfr.at hfr.at⟩
  · refine cod_mono (fun i _ => by rw [hfr.marks]) ?_
    obtain ⟨e, he⟩ := hfr.ext
    rw [he, List.length_append]; omega

/-- behind a conflict -/
theorem Se.conflict {n : Nat} {A : List (List Int)} {assume : List Int} {s : SS} (h : Se n A assume s) (hb : s.broken ≠ true) {C : List Int} {to : Nat} (hC : Learned (A ++ s.proof) s C to) :
    Se n A assume ((s.undo to).assert C) ∧ ((s.undo to).assert C).proof = s.proof ++ [C] ∧ s.cod n < ((s.undo to).assert C).cod n := by
  obtain ⟨c1, c2, c3, ⟨q, c4⟩, c5, c6, c7, c8, c9, c10, c11, c12⟩ := h.sv.conflict hC
  have ht := h.sv.inv.tr
  generalize hs' : (s.undo to).assert C = s' at *
  have hold : ∀ {i z}, s'.lits[i]? = some z → i ∈ s.marks.take to → (s.undo to).lits[i]? = some z := by
    intro i z hz hi
    rw [c4] at hz
    rcases getElem?_snoc.1 hz with w | ⟨w, -⟩
    · exact w
    · rw [w] at hi; exact absurd hi c9
  have hnew : ∀ {i z}, (s.undo to).lits[i]? = some z → s'.lits[i]? = some z := fun hz => by rw [c4]; exact getElem?_snoc.2 (.inl hz)
  refine ⟨⟨c1, by rw [c6]; exact h.core, by rw [c7]; exact h.model, fun w => absurd (by rw [← c5]; exact w) hb, ?_, ?_⟩, c2, ?_⟩
  · intro d x hd hl
    rw [c3, List.length_take] at hl
    obtain ⟨i, a1, a2⟩ := h.asm d x hd (by omega)
    refine ⟨i, hnew ((undo_mem ht to).2 ⟨a1, by omega⟩), ?_⟩
    rw [c3, cnt_back ht.srt (by omega)]; exact a2
  · intro i z hz hi
    rw [c3] at hi
    have hz' := hold hz hi
    rw [c12 z (List.mem_of_getElem? hz')]
    obtain ⟨a1, a2⟩ := (undo_mem ht to).1 hz'
    refine (h.dec i z a1 (List.mem_of_mem_take hi)).imp id ?_
    rintro ⟨b1, b2, b3⟩
    refine ⟨b1, b2, fun u d1 d2 => ?_⟩
    obtain ⟨j, e1, e2⟩ := b3 u d1 d2
    have := cnt_mono s.marks (Nat.le_of_lt e1)
    exact ⟨j, e1, e2.imp (fun w => hnew ((undo_mem ht to).2 ⟨w, by omega⟩)) (fun w => hnew ((undo_mem ht to).2 ⟨w, by omega⟩))⟩
  · -- the number grows
    generalize hm : (s.undo to).lits.length = m at *
    obtain ⟨k, hk⟩ : ∃ k, s.lits.length = m + (k + 1) := ⟨s.lits.length - m - 1, by omega⟩
    obtain ⟨b, e1, e2⟩ := dgs_split s.marks m k
    unfold SS.cod
    have hl' : s'.lits.length = m + (0 + 1) := by rw [c4, List.length_append, hm]; simp
    obtain ⟨b', e3, -⟩ := dgs_split s'.marks m 0
    have hnm : m ∉ s'.marks := by rw [c3]; exact c9
    rw [hk, e1, if_pos c10, hl', e3, if_neg hnm]
    have hc : dgs s.marks m = dgs s'.marks m := by
      refine dgs_congr fun i hi => ?_
      rw [c3]
      have hx : (s.undo to).lits[i]? = some ((s.undo to).lits[i]'(by omega)) := List.getElem?_eq_getElem (by omega)
      exact (mem_back ht.srt ((undo_mem ht to).1 hx).2).symm
    rw [hc]
    refine cod_step n _ _ _ e2 ?_
    rw [dgs_len]
    have := ht.len
    omega

/-- a decision -/
theorem Se.decided {n : Nat} {A : List (List Int)} {assume : List Int} {s : SS} (h : Se n A assume s) (hb : s.broken ≠ true) (hh : s.head = s.lits.length) {x : Int} (hx : x = 0 ∨ (LOk n x ∧ x ∉ s.lits ∧ -x ∉ s.lits))
    (ha : ∀ y, assume[s.marks.length]? = some y → y = x ∨ y ∈ s.lits) (hd : x ≠ 0 → assume[s.marks.length]? = some x ∨ (assume.length ≤ s.marks.length ∧ x < 0 ∧ ∀ u : Nat, 1 ≤ u → u < x.natAbs → (u : Int) ∈ s.lits ∨ -(u : Int) ∈ s.lits)) (hal : ∀ y ∈ assume, y ≠ 0) :
    Se n A assume (s.decide x) ∧ (s.decide x).proof = s.proof ∧ s.cod n ≤ (s.decide x).cod n ∧ (s.decide x).marks.length = s.marks.length + 1 ∧ (s.decide x).lits.length = s.lits.length + (if x ≠ 0 then 1 else 0) := by
  have ht := h.sv.inv.tr
  have hin := h.sv.inv.decided hh hx
  have hmk : (s.decide x).marks = s.marks ++ [s.lits.length] := by unfold SS.decide; split <;> rfl
  have hli : (s.decide x).lits = s.lits ++ (if x ≠ 0 then [x] else []) := by
    unfold SS.decide; split
    · rfl
    · exact (List.append_nil _).symm
  have hpr : (s.decide x).proof = s.proof := by unfold SS.decide; split <;> rfl
  have hcl : (s.decide x).clauses = s.clauses := by unfold SS.decide; split <;> rfl
  have hbr : (s.decide x).broken = s.broken := by unfold SS.decide; split <;> rfl
  have hco : (s.decide x).core = s.core := by unfold SS.decide; split <;> rfl
  have hmo : (s.decide x).model = s.model := by unfold SS.decide; split <;> rfl
  have hold : ∀ {i z}, s.lits[i]? = some z → (s.decide x).lits[i]? = some z := fun {i z} hz => by
    rw [hli, List.getElem?_append_left (List.getElem?_eq_some_iff.1 hz).1]; exact hz
  have hcnt : ∀ {i z}, s.lits[i]? = some z → cnt (s.decide x).marks i = cnt s.marks i := by
    intro i z hi
    rw [hmk, cnt_append]
    obtain ⟨hk, -⟩ := List.getElem?_eq_some_iff.1 hi
    have : cnt [s.lits.length] i = 0 := by unfold cnt; rw [List.countP_eq_zero]; intro m hm; simp at hm ⊢; omega
    omega
  have hlv : ∀ z ∈ s.lits, (s.decide x).lv z = s.lv z := by
    intro z hz
    obtain ⟨i, hi⟩ := List.mem_iff_getElem?.1 hz
    rw [ht.lev i z hi, hin.tr.lev i z (hold hi), hcnt hi]
  have hpos : ∀ {i z}, (s.decide x).lits[i]? = some z → s.lits[i]? = some z ∨ (x ≠ 0 ∧ i = s.lits.length ∧ z = x) := by
    intro i z hz
    rw [hli] at hz
    by_cases h0 : x ≠ 0
    · rw [if_pos h0] at hz
      exact (getElem?_snoc.1 hz).imp id fun q => ⟨h0, q⟩
    · rw [if_neg h0, List.append_nil] at hz; exact .inl hz
  refine ⟨⟨⟨by rw [hpr]; exact hin, ?_, ?_, by rw [hpr]; exact h.sv.pf, by rw [hbr, hpr]; exact h.sv.bk, h.sv.ok⟩, by rw [hco]; exact h.core, by rw [hmo]; exact h.model, fun w => absurd (by rw [← hbr]; exact w) hb, ?_, ?_⟩, hpr, ?_, by rw [hmk]; simp, by rw [hli, List.length_append]; split <;> simp⟩
  · intro c hc; rw [hcl] at hc; rw [hpr]; exact h.sv.cg c hc
  · intro d hdd
    rw [hbr]
    refine (h.sv.cov d hdd).imp id ?_
    rintro (w | ⟨y, a1, a2, a3⟩ | ⟨c, a1, a2⟩)
    · exact .inl w
    · exact .inr (.inl ⟨y, a1, by rw [hli]; exact List.mem_append_left _ a2, by rw [hlv y a2]; exact a3⟩)
    · exact .inr (.inr ⟨c, by rw [hcl]; exact a1, a2⟩)
  · intro d y hdy hl
    rw [hmk, List.length_append, List.length_singleton] at hl
    rcases Nat.lt_or_ge d s.marks.length with q | q
    · obtain ⟨i, a1, a2⟩ := h.asm d y hdy q
      exact ⟨i, hold a1, by rw [hcnt a1]; exact a2⟩
    · have e : d = s.marks.length := by omega
      subst e
      have hle : ∀ i, cnt (s.decide x).marks i ≤ s.marks.length + 1 := fun i => by
        have := cnt_le (s.decide x).marks i; rw [hmk] at this ⊢; simpa using this
      rcases ha y hdy with w | w
      · have h0 : x ≠ 0 := by rw [← w]; exact hal y (List.mem_of_getElem? hdy)
        refine ⟨s.lits.length, ?_, hle _⟩
        rw [hli, if_pos h0]; exact getElem?_snoc.2 (.inr ⟨rfl, w⟩)
      · obtain ⟨i, hi⟩ := List.mem_iff_getElem?.1 w
        exact ⟨i, hold hi, hle _⟩
  · intro i z hz hi
    rw [hmk] at hi
    rcases hpos hz with hz | ⟨h0, rfl, rfl⟩
    · have hil := (List.getElem?_eq_some_iff.1 hz).1
      have hi' : i ∈ s.marks := by
        rcases List.mem_append.1 hi with w | w
        · exact w
        · rw [List.mem_singleton] at w; omega
      rw [hlv z (List.mem_of_getElem? hz)]
      refine (h.dec i z hz hi').imp id ?_
      rintro ⟨b1, b2, b3⟩
      refine ⟨b1, b2, fun u d1 d2 => ?_⟩
      obtain ⟨j, e1, e2⟩ := b3 u d1 d2
      exact ⟨j, e1, e2.imp hold hold⟩
    · have hl : (s.decide z).lv z = s.marks.length + 1 := by
        rw [hin.tr.lev _ z hz, hmk, cnt_append]
        have h1 : cnt s.marks s.lits.length = s.marks.length := ht.top
        have h2 : cnt [s.lits.length] s.lits.length = 1 := by unfold cnt; simp
        omega
      rcases hd h0 with w | ⟨w1, w2, w3⟩
      · exact .inl ⟨_, hl, w⟩
      · right
        refine ⟨by omega, w2, fun u d1 d2 => ?_⟩
        rcases w3 u d1 d2 with q | q
        · obtain ⟨j, hj⟩ := List.mem_iff_getElem?.1 q
          exact ⟨j, (List.getElem?_eq_some_iff.1 hj).1, .inl (hold hj)⟩
        · obtain ⟨j, hj⟩ := List.mem_iff_getElem?.1 q
          exact ⟨j, (List.getElem?_eq_some_iff.1 hj).1, .inr (hold hj)⟩
  · refine cod_mono (fun i hi => ?_) (by rw [hli, List.length_append]; omega)
    rw [hmk, List.mem_append, List.mem_singleton]
    constructor
    · exact .inl
    · rintro (w | w)
      · exact w
      · omega
end Go.Proofs.Ytdibfjcmgbpnpaa
