/- The solver, plainly: clauses, watches, reasons; propagation. -/
import Derived.Test.YtdibfjcmgbpnpaaS1
namespace Go.Proofs.Ytdibfjcmgbpnpaa
set_option linter.unusedSimpArgs false
set_option linter.unusedVariables false

def idx (x : Int) : Nat := if x < 0 then 2 * x.natAbs + 1 else 2 * x.natAbs
theorem idx_inj {x y : Int} (h : idx x = idx y) (hx : x ≠ 0) (hy : y ≠ 0) : x = y := by
  unfold idx at h; split at h <;> split at h <;> omega
theorem idx_lt {n : Nat} {x : Int} (h : LOk n x) : idx x < 2 * n + 2 := by
  have := h.2; unfold idx; split <;> omega
def SS.wl (s : SS) (x : Int) : List Nat := s.watches.getD (idx x) []
/-- the pair of watched literals -/
def Wp (c : List Int) (a b : Int) : Prop := (c[0]? = some a ∧ c[1]? = some b) ∨ (c[0]? = some b ∧ c[1]? = some a)
theorem Wp.symm {c : List Int} {a b : Int} (h : Wp c a b) : Wp c b a := h.elim (fun q => .inr q) fun q => .inl q
theorem wp_cons {p q : Int} {t : List Int} {a b : Int} : Wp (p :: q :: t) a b ↔ (p = a ∧ q = b) ∨ (p = b ∧ q = a) := by unfold Wp; simp

/-- one clause k is visited when the literal g has become false: the state, whether g still watches the clause, and a conflict -/
def visit (g : Int) (s : SS) (k : Nat) : SS × Bool × Option Nat :=
  match s.clauses.getD k [] with
  | a :: b :: t =>
    let o := if a = g then b else a
    let s' := { s with clauses := s.clauses.set k (o :: g :: t) }
    if 0 < s.of o then (s', true, none)
    else
      let j := t.findIdx fun y => Decidable.decide (0 ≤ s.of y)
      if j < t.length then ({ s with clauses := s.clauses.set k (o :: t.getD j 0 :: t.set j g), watches := s.watches.set (idx (t.getD j 0)) (s.wl (t.getD j 0) ++ [k]) }, false, none)
      else if s.of o < 0 then (s', true, some k)
      else (s'.push o k, true, none)
  | _ => (s, true, none)
def scan (g : Int) : List Nat → SS → List Nat → SS × List Nat × Option Nat
  | [], s, kept => (s, kept, none)
  | k :: rest, s, kept =>
    match visit g s k with
    | (s', true, none) => scan g rest s' (kept ++ [k])
    | (s', false, none) => scan g rest s' kept
    | (s', _, some c) => (s', kept ++ [k] ++ rest, some c)
def setW (s : SS) (g : Int) (l : List Nat) : SS := { s with watches := s.watches.set (idx g) l }
def pstep (s : SS) : SS × Option Nat :=
  match scan (-(s.lits.getD s.head 0)) (s.wl (-(s.lits.getD s.head 0))) s [] with
  | (s1, kept, none) => ({ setW s1 (-(s.lits.getD s.head 0)) kept with head := s.head + 1 }, none)
  | (s1, kept, some c) => (setW s1 (-(s.lits.getD s.head 0)) kept, some c)
def prop : Nat → SS → SS × Option Nat
  | 0, s => (s, none)
  | f + 1, s => if s.head < s.lits.length then
      match pstep s with
      | (s', some c) => (s', some c)
      | (s', none) => prop f s'
    else (s, none)

/-- clauses and who watches them: the list of x is L x -/
structure Wa (n : Nat) (s : SS) (L : Int → List Nat) : Prop where
  wl : s.watches.length = 2 * n + 2
  cl : ∀ (k : Nat) (c : List Int), s.clauses[k]? = some c → 2 ≤ c.length ∧ c.Nodup ∧ ∀ x ∈ c, LOk n x
  wn : ∀ x, LOk n x → (L x).Nodup
  wm : ∀ x, LOk n x → ∀ k : Nat, k ∈ L x ↔ ∃ (c : List Int) (b : Int), s.clauses[k]? = some c ∧ Wp c x b
/-- every literal of the trail has its reason; U: what holds unconditionally -/
def Rs (U : Int → Prop) (s : SS) : Prop :=
  ∀ i x, s.lits[i]? = some x → (s.rs x = -1 ∧ ((s.lv x = 0 ∧ U x) ∨ i ∈ s.marks)) ∨ ∃ (k : Nat) (c : List Int), s.rs x = k ∧ s.clauses[k]? = some c ∧ x ∈ c ∧ (∀ y ∈ c, y ≠ x → ∃ j, j < i ∧ s.lits[j]? = some (-y)) ∧ i ∉ s.marks
/-- the watched literals: for a false one that counts as processed the other one is true, no later -/
def WI (s : SS) (P : Nat → Nat → Prop) : Prop :=
  ∀ (k : Nat) (c : List Int) (a b : Int) (i : Nat), s.clauses[k]? = some c → Wp c a b → P k i → s.lits[i]? = some (-a) → ∃ j, s.lits[j]? = some b ∧ cnt s.marks j ≤ cnt s.marks i
/-- the clauses are the same but for the order of their literals -/
def CP (s s' : SS) : Prop := s'.clauses.length = s.clauses.length ∧ ∀ (k : Nat) c', s'.clauses[k]? = some c' → ∃ c, s.clauses[k]? = some c ∧ c'.Perm c
theorem CP.refl (s : SS) : CP s s := ⟨rfl, fun k c h => ⟨c, h, List.Perm.refl _⟩⟩
theorem CP.trans {a b c : SS} (h : CP a b) (h2 : CP b c) : CP a c :=
  ⟨h2.1.trans h.1, fun k x hx => by obtain ⟨y, hy, p⟩ := h2.2 k x hx; obtain ⟨z, hz, q⟩ := h.2 k y hy; exact ⟨z, hz, p.trans q⟩⟩
/-- what propagation leaves alone -/
structure Fr (s s' : SS) : Prop where
  marks : s'.marks = s.marks
  low : s'.low = s.low
  added : s'.added = s.added
  broken : s'.broken = s.broken
  proof : s'.proof = s.proof
  model : s'.model = s.model
  core : s'.core = s.core
  ext : ∃ e, s'.lits = s.lits ++ e
  cp : CP s s'
theorem Fr.refl (s : SS) : Fr s s := ⟨rfl, rfl, rfl, rfl, rfl, rfl, rfl, ⟨[], by simp⟩, CP.refl s⟩
theorem Fr.trans {a b c : SS} (h : Fr a b) (h2 : Fr b c) : Fr a c :=
  ⟨h2.marks.trans h.marks, h2.low.trans h.low, h2.added.trans h.added, h2.broken.trans h.broken, h2.proof.trans h.proof, h2.model.trans h.model, h2.core.trans h.core,
   by obtain ⟨e, he⟩ := h.ext; obtain ⟨f, hf⟩ := h2.ext; exact ⟨e ++ f, by rw [hf, he, List.append_assoc]⟩, h.cp.trans h2.cp⟩
theorem Fr.at {s s' : SS} (h : Fr s s') {i : Nat} {x : Int} (hx : s.lits[i]? = some x) : s'.lits[i]? = some x := by
  obtain ⟨e, he⟩ := h.ext
  rw [he, List.getElem?_append_left (List.getElem?_eq_some_iff.1 hx).1]; exact hx
theorem Fr.mem {s s' : SS} (h : Fr s s') {x : Int} (hx : x ∈ s.lits) : x ∈ s'.lits := by
  obtain ⟨e, he⟩ := h.ext
  rw [he]; exact List.mem_append_left _ hx

/-- while the list of g is scanned: M: its list, kept: what has been visited -/
structure Sc (n : Nat) (U : Int → Prop) (s : SS) (g : Int) (M kept : List Nat) : Prop where
  tr : Tr n s
  rs : Rs U s
  wa : Wa n s fun x => if x = g then M else s.wl x
  wi : WI s fun k i => i < s.head ∨ (i = s.head ∧ k ∈ kept)
  hg : s.lits[s.head]? = some (-g)
  hm : ∀ m ∈ s.marks, m ≤ s.head

theorem Rs.reclause {U : Int → Prop} {s : SS} (h : Rs U s) {k : Nat} {c c' : List Int} (hk : s.clauses[k]? = some c) (hp : c'.Perm c) (w : List (List Nat)) : Rs U { s with clauses := s.clauses.set k c', watches := w } := by
  intro i x hi
  rcases h i x hi with q | ⟨k', d, h1, h2, h3, h4, h5⟩
  · exact .inl q
  · right
    by_cases e : k = k'
    · subst e
      rw [hk] at h2; obtain rfl := Option.some.inj h2
      refine ⟨k, c', h1, ?_, hp.mem_iff.2 h3, fun y hy hyx => h4 y (hp.mem_iff.1 hy) hyx, h5⟩
      show (s.clauses.set k c')[k]? = some c'
      rw [List.getElem?_set, if_pos rfl, if_pos (List.getElem?_eq_some_iff.1 hk).1]
    · refine ⟨k', d, h1, ?_, h3, h4, h5⟩
      show (s.clauses.set k c')[k']? = some d
      rw [List.getElem?_set, if_neg e]; exact h2
theorem set_some {α} {l : List α} {k k' : Nat} {c c' d : α} (hk : l[k]? = some c) (h : (l.set k c')[k']? = some d) : (k = k' ∧ d = c') ∨ (k ≠ k' ∧ l[k']? = some d) := by
  rw [List.getElem?_set] at h
  by_cases e : k = k'
  · subst e
    rw [if_pos rfl, if_pos (List.getElem?_eq_some_iff.1 hk).1] at h
    exact .inl ⟨rfl, (Option.some.inj h).symm⟩
  · rw [if_neg e] at h; exact .inr ⟨e, h⟩
theorem set_self {α} {l : List α} {k : Nat} {c c' : α} (hk : l[k]? = some c) : (l.set k c')[k]? = some c' := by
  rw [List.getElem?_set, if_pos rfl, if_pos (List.getElem?_eq_some_iff.1 hk).1]
theorem set_other {α} {l : List α} {k k' : Nat} {c' : α} (h : k ≠ k') : (l.set k c')[k']? = l[k']? := by
  rw [List.getElem?_set, if_neg h]
theorem CP.reclause {s : SS} {k : Nat} {c c' : List Int} (hk : s.clauses[k]? = some c) (hp : c'.Perm c) (w : List (List Nat)) : CP s { s with clauses := s.clauses.set k c', watches := w } := by
  refine ⟨List.length_set, fun k' d hd => ?_⟩
  rcases set_some hk hd with ⟨rfl, rfl⟩ | ⟨-, h⟩
  · exact ⟨c, hk, hp⟩
  · exact ⟨d, h, List.Perm.refl _⟩
theorem set_perm : ∀ {t : List Int} {j : Nat} {y b : Int}, t[j]? = some y → (y :: t.set j b).Perm (b :: t)
  | [], j, y, b, h => by simp at h
  | z :: t, 0, y, b, h => by simp at h; subst h; exact List.Perm.swap _ _ _
  | z :: t, j + 1, y, b, h => by
    have ih := set_perm (b := b) (show t[j]? = some y by simpa using h)
    show (y :: z :: t.set j b).Perm _
    exact (List.Perm.swap _ _ _).trans ((ih.cons z).trans (List.Perm.swap _ _ _))

/-- putting g in the second place -/
theorem Sc.swap {n : Nat} {U : Int → Prop} {s : SS} {g : Int} {M kept : List Nat} (h : Sc n U s g M kept) {k : Nat} {a b : Int} {t : List Int} (hk : s.clauses[k]? = some (a :: b :: t)) (hg : a = g ∨ b = g) :
    Sc n U { s with clauses := s.clauses.set k ((if a = g then b else a) :: g :: t) } g M kept ∧ ((if a = g then b else a) :: g :: t).Perm (a :: b :: t) := by
  have hp : ((if a = g then b else a) :: g :: t).Perm (a :: b :: t) := by
    by_cases e : a = g
    · rw [if_pos e, e]; exact List.Perm.swap _ _ _
    · rw [if_neg e, hg.resolve_left e]
  have hw : ∀ p q, Wp ((if a = g then b else a) :: g :: t) p q ↔ Wp (a :: b :: t) p q := by
    intro p q
    rw [wp_cons, wp_cons]
    by_cases e : a = g
    · rw [if_pos e]; subst e; constructor <;> (rintro (⟨rfl, rfl⟩ | ⟨rfl, rfl⟩) <;> simp)
    · rw [if_neg e, hg.resolve_left e]
  refine ⟨⟨⟨h.tr.1, h.tr.2, h.tr.3, h.tr.4, h.tr.5, h.tr.6, h.tr.7, h.tr.8, h.tr.9, h.tr.10, h.tr.11, h.tr.12⟩, h.rs.reclause hk hp s.watches, ⟨h.wa.wl, ?_, h.wa.wn, ?_⟩, ?_, h.hg, h.hm⟩, hp⟩
  · intro k' d hd
    rcases set_some hk hd with ⟨rfl, rfl⟩ | ⟨-, h2⟩
    · obtain ⟨q1, q2, q3⟩ := h.wa.cl _ _ hk
      exact ⟨by simp, hp.nodup_iff.2 q2, fun x hx => q3 x (hp.mem_iff.1 hx)⟩
    · exact h.wa.cl _ _ h2
  · intro x hx k'
    have := h.wa.wm x hx k'
    rw [show (k' ∈ (if x = g then M else SS.wl { s with clauses := s.clauses.set k ((if a = g then b else a) :: g :: t) } x)) ↔ (k' ∈ if x = g then M else s.wl x) from Iff.rfl, this]
    constructor
    · rintro ⟨c, y, h1, h2⟩
      by_cases e : k = k'
      · subst e
        rw [hk] at h1; obtain rfl := Option.some.inj h1
        exact ⟨_, y, set_self hk, (hw _ _).2 h2⟩
      · exact ⟨c, y, by show (s.clauses.set _ _)[k']? = _; rw [set_other e]; exact h1, h2⟩
    · rintro ⟨c, y, h1, h2⟩
      rcases set_some hk h1 with ⟨rfl, rfl⟩ | ⟨-, h3⟩
      · exact ⟨_, y, hk, (hw _ _).1 h2⟩
      · exact ⟨c, y, h3, h2⟩
  · intro k' c p q i h1 h2 h3 h4
    rcases set_some hk h1 with ⟨rfl, rfl⟩ | ⟨-, h5⟩
    · exact h.wi _ _ p q i hk ((hw _ _).1 h2) h3 h4
    · exact h.wi _ _ p q i h5 h2 h3 h4

theorem Sc.len {n : Nat} {U : Int → Prop} {s : SS} {g : Int} {M kept : List Nat} (h : Sc n U s g M kept) : s.head < s.lits.length := (List.getElem?_eq_some_iff.1 h.hg).1
theorem Sc.top {n : Nat} {U : Int → Prop} {s : SS} {g : Int} {M kept : List Nat} (h : Sc n U s g M kept) (j : Nat) : cnt s.marks j ≤ cnt s.marks s.head := by rw [cnt_all h.hm]; exact cnt_le _ _
theorem Sc.gok {n : Nat} {U : Int → Prop} {s : SS} {g : Int} {M kept : List Nat} (h : Sc n U s g M kept) : LOk n g := by have := (h.tr.ok _ (List.mem_of_getElem? h.hg)).neg; simpa using this
theorem Sc.gf {n : Nat} {U : Int → Prop} {s : SS} {g : Int} {M kept : List Nat} (h : Sc n U s g M kept) : -g ∈ s.lits := List.mem_of_getElem? h.hg
theorem Sc.gn {n : Nat} {U : Int → Prop} {s : SS} {g : Int} {M kept : List Nat} (h : Sc n U s g M kept) : g ∉ s.lits := fun q => h.tr.anti q h.gf

/-- clause k stays with g, its other watched literal being true -/
theorem Sc.keep {n : Nat} {U : Int → Prop} {s : SS} {g : Int} {k : Nat} {kept rest : List Nat} (h : Sc n U s g (kept ++ k :: rest) kept) {o : Int} {t : List Int} (hk : s.clauses[k]? = some (o :: g :: t)) (ho : o ∈ s.lits) :
    Sc n U s g ((kept ++ [k]) ++ rest) (kept ++ [k]) := by
  refine ⟨h.tr, h.rs, ?_, ?_, h.hg, h.hm⟩
  · have := h.wa; rw [List.append_assoc]; exact this
  · intro k' c p q i h1 h2 h3 h4
    rcases h3 with h3 | ⟨h3, h5⟩
    · exact h.wi k' c p q i h1 h2 (.inl h3) h4
    · rcases List.mem_append.1 h5 with h5 | h5
      · exact h.wi k' c p q i h1 h2 (.inr ⟨h3, h5⟩) h4
      · rw [List.mem_singleton] at h5
        subst h5 h3
        rw [hk] at h1; obtain rfl := Option.some.inj h1
        have hpg : p = g := by
          have := h.hg; rw [h4] at this; have := Option.some.inj this; omega
        have hog : o ≠ g := fun e => h.gn (e ▸ ho)
        have hqo : q = o := by
          rcases wp_cons.1 h2 with ⟨a1, a2⟩ | ⟨a1, a2⟩
          · exact absurd (a1.trans hpg) hog
          · exact a1.symm
        subst hqo
        obtain ⟨j, hj⟩ := List.mem_iff_getElem?.1 ho
        exact ⟨j, hj, h.top j⟩

theorem lits_push {s : SS} {x r : Int} {i : Nat} {y : Int} : (s.push x r).lits[i]? = some y ↔ s.lits[i]? = some y ∨ (i = s.lits.length ∧ y = x) := by
  show (s.lits ++ [x])[i]? = some y ↔ _
  by_cases hl : i < s.lits.length
  · rw [List.getElem?_append_left hl]
    constructor
    · exact .inl
    · rintro (q | q)
      · exact q
      · omega
  · rw [List.getElem?_append_right (by omega)]
    constructor
    · intro q
      have h0 : i = s.lits.length := by
        obtain ⟨hk, -⟩ := List.getElem?_eq_some_iff.1 q
        simp at hk; omega
      subst h0
      simp at q
      exact .inr ⟨rfl, q.symm⟩
    · rintro (q | ⟨rfl, rfl⟩)
      · exact absurd (List.getElem?_eq_some_iff.1 q).1 hl
      · simp
theorem rs_push {n : Nat} {s : SS} (ht : Tr n s) {x r : Int} (h1 : x ∉ s.lits) (h2 : -x ∉ s.lits) {y : Int} (hy : y ∈ s.lits) : (s.push x r).rs y = s.rs y := by
  show (s.reason.set x.natAbs r).getD y.natAbs 0 = _
  rw [getD_set, if_neg]; · rfl
  rintro ⟨q, -⟩; exact ht.abs h1 h2 hy q.symm
theorem rs_push_self {n : Nat} {s : SS} (ht : Tr n s) {x r : Int} (hx : LOk n x) : (s.push x r).rs x = r := by
  show (s.reason.set x.natAbs r).getD x.natAbs 0 = _
  rw [getD_set, if_pos ⟨rfl, by rw [ht.rl]; exact hx.lt⟩]
theorem lv_push {n : Nat} {s : SS} (ht : Tr n s) {x r : Int} (h1 : x ∉ s.lits) (h2 : -x ∉ s.lits) {y : Int} (hy : y ∈ s.lits) : (s.push x r).lv y = s.lv y := by
  show (s.level.set x.natAbs _).getD y.natAbs 0 = _
  rw [getD_set, if_neg]; · rfl
  rintro ⟨q, -⟩; exact ht.abs h1 h2 hy q.symm
theorem lv_push_self {n : Nat} {s : SS} (ht : Tr n s) {x r : Int} (hx : LOk n x) : (s.push x r).lv x = s.marks.length := by
  show (s.level.set x.natAbs _).getD x.natAbs 0 = _
  rw [getD_set, if_pos ⟨rfl, by rw [ht.ll]; exact hx.lt⟩]
/-- reasons over a push: the new literal's own reason is given -/
theorem Rs.pushed {n : Nat} {U : Int → Prop} {s : SS} (h : Rs U s) (ht : Tr n s) {x r : Int} (hx : LOk n x) (h1 : x ∉ s.lits) (h2 : -x ∉ s.lits)
    (hr : (r = -1 ∧ ((s.marks.length = 0 ∧ U x) ∨ s.lits.length ∈ s.marks)) ∨ ∃ (k : Nat) (c : List Int), r = k ∧ s.clauses[k]? = some c ∧ x ∈ c ∧ (∀ y ∈ c, y ≠ x → -y ∈ s.lits) ∧ s.lits.length ∉ s.marks) : Rs U (s.push x r) := by
  intro i y hi
  rcases lits_push.1 hi with q | ⟨rfl, rfl⟩
  · have hy := List.mem_of_getElem? q
    rw [rs_push ht h1 h2 hy, lv_push ht h1 h2 hy]
    rcases h i y q with a | ⟨k, c, b1, b2, b3, b4, b5⟩
    · exact .inl a
    · refine .inr ⟨k, c, b1, b2, b3, fun z hz hzy => ?_, b5⟩
      obtain ⟨j, hj, hjz⟩ := b4 z hz hzy
      exact ⟨j, hj, lits_push.2 (.inl hjz)⟩
  · rw [rs_push_self ht hx, lv_push_self ht hx]
    rcases hr with a | ⟨k, c, b1, b2, b3, b4, b5⟩
    · exact .inl a
    · refine .inr ⟨k, c, b1, b2, b3, fun z hz hzy => ?_, b5⟩
      obtain ⟨j, hj⟩ := List.mem_iff_getElem?.1 (b4 z hz hzy)
      exact ⟨j, (List.getElem?_eq_some_iff.1 hj).1, lits_push.2 (.inl hj)⟩
theorem Fr.pushed (s : SS) (x r : Int) : Fr s (s.push x r) := ⟨rfl, rfl, rfl, rfl, rfl, rfl, rfl, ⟨[x], rfl⟩, CP.refl s⟩

theorem Sc.pushed {n : Nat} {U : Int → Prop} {s : SS} {g : Int} {k : Nat} {M kept : List Nat} (h : Sc n U s g M kept) {o : Int} {t : List Int} (hk : s.clauses[k]? = some (o :: g :: t)) (hoo : LOk n o) (h1 : o ∉ s.lits) (h2 : -o ∉ s.lits) (ht : ∀ y ∈ t, -y ∈ s.lits) :
    Sc n U (s.push o k) g M kept := by
  refine ⟨h.tr.pushed hoo h1 h2, h.rs.pushed h.tr hoo h1 h2 (.inr ⟨k, _, rfl, hk, by simp, ?_, fun q => by have := h.hm _ q; have := h.len; omega⟩), ⟨h.wa.wl, h.wa.cl, h.wa.wn, h.wa.wm⟩, ?_, lits_push.2 (.inl h.hg), h.hm⟩
  · intro y hy hyo
    rcases List.mem_cons.1 hy with q | hy
    · exact absurd q hyo
    · rcases List.mem_cons.1 hy with q | hy
      · rw [q]; exact h.gf
      · exact ht y hy
  · intro k' c p q i a1 a2 a3 a4
    have hl := h.len
    have hi : i < s.lits.length := by rcases a3 with a3 | a3; exact Nat.lt_trans a3 hl; exact (by rw [a3.1]; exact hl)
    rcases lits_push.1 a4 with a4 | a4
    · obtain ⟨j, b1, b2⟩ := h.wi k' c p q i a1 a2 a3 a4
      exact ⟨j, lits_push.2 (.inl b1), b2⟩
    · omega

theorem wl_set {n : Nat} {s : SS} {L : Int → List Nat} (hw : Wa n s L) {y : Int} (hy : LOk n y) (l : List Nat) {x : Int} (hx : LOk n x) (c : List (List Int)) : SS.wl { s with clauses := c, watches := s.watches.set (idx y) l } x = if x = y then l else s.wl x := by
  show (s.watches.set (idx y) l).getD (idx x) [] = _
  rw [getD_set]
  by_cases e : x = y
  · subst e; rw [if_pos ⟨rfl, by rw [hw.wl]; exact idx_lt hx⟩, if_pos rfl]
  · rw [if_neg (fun q => e (idx_inj q.1 hy.1 hx.1).symm), if_neg e]; rfl

/-- clause k moves from g to y -/
theorem Sc.move {n : Nat} {U : Int → Prop} {s : SS} {g : Int} {k : Nat} {kept rest : List Nat} (h : Sc n U s g (kept ++ k :: rest) kept) {o : Int} {t : List Int} (hk : s.clauses[k]? = some (o :: g :: t)) {j : Nat} {y : Int} (hj : t[j]? = some y) (hyn : -y ∉ s.lits) :
    Sc n U { s with clauses := s.clauses.set k (o :: y :: t.set j g), watches := s.watches.set (idx y) (s.wl y ++ [k]) } g (kept ++ rest) kept ∧ (o :: y :: t.set j g).Perm (o :: g :: t) := by
  have hp : (o :: y :: t.set j g).Perm (o :: g :: t) := (set_perm hj).cons o
  obtain ⟨hc2, hcn, hcl⟩ := h.wa.cl _ _ hk
  have hyt : y ∈ t := List.mem_of_getElem? hj
  have hyok := hcl y (by simp [hyt])
  have hook := hcl o (by simp)
  have hgk := h.gok
  have hog : o ≠ g := by intro e; rw [e] at hcn; simp at hcn
  have hyg : y ≠ g := by rintro rfl; simp at hcn; exact hcn.2.1 hyt
  have hyo : y ≠ o := by rintro rfl; simp at hcn; exact hcn.1.2 hyt
  have hnd : (kept ++ k :: rest).Nodup := by have := h.wa.wn g hgk; simpa using this
  have hkk : k ∉ kept ∧ k ∉ rest := by
    rw [List.nodup_append] at hnd
    exact ⟨fun q => hnd.2.2 k q k (by simp) rfl, (List.nodup_cons.1 hnd.2.1).1⟩
  have hky : k ∉ s.wl y := by
    intro q
    obtain ⟨c, b, h1, h2⟩ := (h.wa.wm y hyok k).1 (by rw [if_neg hyg]; exact q)
    rw [hk] at h1; obtain rfl := Option.some.inj h1
    rcases wp_cons.1 h2 with ⟨a1, -⟩ | ⟨-, a1⟩
    · exact hyo a1.symm
    · exact hyg a1.symm
  have hL : ∀ x, LOk n x → (if x = g then kept ++ rest else SS.wl { s with clauses := s.clauses.set k (o :: y :: t.set j g), watches := s.watches.set (idx y) (s.wl y ++ [k]) } x) = if x = g then kept ++ rest else if x = y then s.wl y ++ [k] else s.wl x := by
    intro x hx; rw [wl_set h.wa hyok _ hx]
  refine ⟨⟨⟨h.tr.1, h.tr.2, h.tr.3, h.tr.4, h.tr.5, h.tr.6, h.tr.7, h.tr.8, h.tr.9, h.tr.10, h.tr.11, h.tr.12⟩, h.rs.reclause hk hp _, ⟨?_, ?_, ?_, ?_⟩, ?_, h.hg, h.hm⟩, hp⟩
  · show (s.watches.set _ _).length = _; rw [List.length_set]; exact h.wa.wl
  · intro k' d hd
    rcases set_some hk hd with ⟨rfl, rfl⟩ | ⟨-, h2⟩
    · exact ⟨by simp, hp.nodup_iff.2 hcn, fun x hx => hcl x (hp.mem_iff.1 hx)⟩
    · exact h.wa.cl _ _ h2
  · intro x hx
    rw [hL x hx]
    by_cases e1 : x = g
    · rw [if_pos e1]
      exact hnd.sublist (List.Sublist.append_left (List.sublist_cons_self k rest) kept)
    · rw [if_neg e1]
      by_cases e2 : x = y
      · rw [if_pos e2, List.nodup_append]
        refine ⟨by have := h.wa.wn y hyok; rwa [if_neg hyg] at this, by simp, ?_⟩
        intro a ha b hb e
        rw [List.mem_singleton] at hb
        exact hky (by rw [← hb, ← e]; exact ha)
      · rw [if_neg e2]; have := h.wa.wn x hx; rwa [if_neg e1] at this
  · intro x hx k'
    rw [hL x hx]
    have old := h.wa.wm x hx k'
    by_cases ek : k = k'
    · subst ek
      constructor
      · intro q
        refine ⟨_, if x = o then y else o, set_self hk, ?_⟩
        by_cases e1 : x = g
        · rw [if_pos e1] at q
          exact absurd (List.mem_append.1 q) (by rintro (q | q); exact hkk.1 q; exact hkk.2 q)
        · rw [if_neg e1] at q
          by_cases e2 : x = y
          · subst e2; rw [if_neg hyo]; rw [wp_cons]; exact .inr ⟨rfl, rfl⟩
          · rw [if_neg e2] at q
            obtain ⟨c, b, h1, h2⟩ := old.1 (by rw [if_neg e1]; exact q)
            rw [hk] at h1; obtain rfl := Option.some.inj h1
            rcases wp_cons.1 h2 with ⟨a1, -⟩ | ⟨-, a1⟩
            · subst a1; rw [if_pos rfl, wp_cons]; exact .inl ⟨rfl, rfl⟩
            · exact absurd a1.symm e1
      · rintro ⟨c, b, h1, h2⟩
        rcases set_some hk h1 with ⟨-, rfl⟩ | ⟨q, -⟩
        · rcases wp_cons.1 h2 with ⟨rfl, -⟩ | ⟨-, rfl⟩
          · rw [if_neg hog, if_neg (Ne.symm hyo)]
            have := old.2 ⟨_, g, hk, wp_cons.2 (.inl ⟨rfl, rfl⟩)⟩
            rwa [if_neg hog] at this
          · rw [if_neg hyg, if_pos rfl]; simp
        · exact absurd rfl q
    · have e1 : (k' ∈ if x = g then kept ++ rest else if x = y then s.wl y ++ [k] else s.wl x) ↔ (k' ∈ if x = g then kept ++ k :: rest else s.wl x) := by
        by_cases e1 : x = g
        · rw [if_pos e1, if_pos e1]; simp [Ne.symm ek]
        · rw [if_neg e1, if_neg e1]
          by_cases e2 : x = y
          · rw [if_pos e2, e2]; simp [Ne.symm ek]
          · rw [if_neg e2]
      rw [e1, old]
      show _ ↔ ∃ c b, (s.clauses.set k (o :: y :: t.set j g))[k']? = some c ∧ Wp c x b
      rw [set_other ek]
  · intro k' c p q i h1 h2 h3 h4
    rcases set_some hk h1 with ⟨rfl, rfl⟩ | ⟨-, h5⟩
    · rcases h3 with h3 | ⟨-, h3⟩
      · change s.lits[i]? = some (-p) at h4
        rcases wp_cons.1 h2 with ⟨rfl, rfl⟩ | ⟨rfl, rfl⟩
        · obtain ⟨j', hj', -⟩ := h.wi _ _ o g i hk (wp_cons.2 (.inl ⟨rfl, rfl⟩)) (.inl h3) h4
          exact absurd (List.mem_of_getElem? hj') h.gn
        · exact absurd (List.mem_of_getElem? h4) hyn
      · exact absurd h3 hkk.1
    · exact h.wi k' c p q i h5 h2 h3 h4

/-- what a visit yields -/
structure Vis (n : Nat) (U : Int → Prop) (s : SS) (g : Int) (k : Nat) (kept rest : List Nat) (r : SS × Bool × Option Nat) : Prop where
  fr : Fr s r.1
  head : r.1.head = s.head
  go : r.2.2 = none → Sc n U r.1 g ((if r.2.1 then kept ++ [k] else kept) ++ rest) (if r.2.1 then kept ++ [k] else kept)
  hit : ∀ c, r.2.2 = some c → c = k ∧ r.2.1 = true ∧ Sc n U r.1 g (kept ++ k :: rest) kept ∧ ∃ cl, r.1.clauses[k]? = some cl ∧ g ∈ cl ∧ ∀ y ∈ cl, -y ∈ r.1.lits

theorem findIdx_none {t : List Int} {p : Int → Bool} (h : ¬ t.findIdx p < t.length) : ∀ y ∈ t, p y = false := by
  have : t.findIdx p = t.length := Nat.le_antisymm List.findIdx_le_length (by omega)
  intro y hy
  rw [List.findIdx_eq_length] at this
  exact this y hy

theorem visit_ok {n : Nat} {U : Int → Prop} {s : SS} {g : Int} {k : Nat} {kept rest : List Nat} (h : Sc n U s g (kept ++ k :: rest) kept) : Vis n U s g k kept rest (visit g s k) := by
  have hgk := h.gok
  obtain ⟨c, b0, hk, hwp⟩ := (h.wa.wm g hgk k).1 (by simp)
  obtain ⟨hc2, hcn, hcl⟩ := h.wa.cl k c hk
  obtain ⟨a, b, t, rfl⟩ : ∃ a b t, c = a :: b :: t := by
    match c, hc2 with
    | a :: b :: t, _ => exact ⟨a, b, t, rfl⟩
  have hgd : s.clauses.getD k [] = a :: b :: t := by rw [List.getD_eq_getElem?_getD, hk]; rfl
  have hg2 : a = g ∨ b = g := by rcases wp_cons.1 hwp with q | q; exact .inl q.1; exact .inr q.2
  obtain ⟨hsw, hp⟩ := h.swap hk hg2
  unfold visit
  rw [hgd]
  dsimp only
  obtain ⟨o, ho⟩ : ∃ o, (if a = g then b else a) = o := ⟨_, rfl⟩
  rw [ho] at hsw hp ⊢
  have hcp := CP.reclause (s := s) hk hp s.watches
  have hon : (o :: g :: t).Nodup := hp.nodup_iff.2 hcn
  have hok : ∀ x ∈ o :: g :: t, LOk n x := fun x hx => hcl x (hp.mem_iff.1 hx)
  have hoo := hok o (by simp)
  have htr := h.tr
  have hk2 : ({ s with clauses := s.clauses.set k (o :: g :: t) } : SS).clauses[k]? = some (o :: g :: t) := set_self hk
  have fr1 : Fr s { s with clauses := s.clauses.set k (o :: g :: t) } := ⟨rfl, rfl, rfl, rfl, rfl, rfl, rfl, ⟨[], by simp⟩, hcp⟩
  by_cases h1 : 0 < s.of o
  · rw [if_pos h1]
    exact ⟨fr1, rfl, fun _ => hsw.keep hk2 ((htr.pos hoo).1 h1), fun c q => by cases q⟩
  rw [if_neg h1]
  by_cases h2 : t.findIdx (fun y => Decidable.decide (0 ≤ s.of y)) < t.length
  · rw [if_pos h2]
    obtain ⟨y, hy⟩ : ∃ y, t[t.findIdx (fun y => Decidable.decide (0 ≤ s.of y))]? = some y := ⟨_, List.getElem?_eq_getElem h2⟩
    have hgy : t.getD (t.findIdx (fun y => Decidable.decide (0 ≤ s.of y))) 0 = y := by rw [List.getD_eq_getElem?_getD, hy]; rfl
    rw [hgy]
    have hy0 : 0 ≤ s.of y := by
      have := List.findIdx_getElem (w := h2)
      rw [List.getElem?_eq_getElem h2] at hy
      rw [Option.some.inj hy] at this
      simpa using this
    have hyok := hok y (by simp [List.mem_of_getElem? hy])
    have hyn : -y ∉ s.lits := fun q => by have := (htr.neg hyok).2 q; omega
    obtain ⟨m1, m2⟩ := hsw.move hk2 hy hyn
    have e : ({ s with clauses := (s.clauses.set k (o :: g :: t)).set k (o :: y :: t.set (t.findIdx (fun y => Decidable.decide (0 ≤ s.of y))) g), watches := s.watches.set (idx y) (s.wl y ++ [k]) } : SS) = { s with clauses := s.clauses.set k (o :: y :: t.set (t.findIdx (fun y => Decidable.decide (0 ≤ s.of y))) g), watches := s.watches.set (idx y) (s.wl y ++ [k]) } := by
      rw [List.set_set]
    have m1' : Sc n U { s with clauses := (s.clauses.set k (o :: g :: t)).set k (o :: y :: t.set (t.findIdx (fun y => Decidable.decide (0 ≤ s.of y))) g), watches := s.watches.set (idx y) (s.wl y ++ [k]) } g (kept ++ rest) kept := m1
    rw [e] at m1'
    exact ⟨⟨rfl, rfl, rfl, rfl, rfl, rfl, rfl, ⟨[], by simp⟩, CP.reclause hk (m2.trans hp) _⟩, rfl, fun _ => m1', fun c q => by cases q⟩
  rw [if_neg h2]
  have ht : ∀ y ∈ t, -y ∈ s.lits := by
    intro y hy
    have := findIdx_none h2 y hy
    have h0 : s.of y < 0 := by simpa using this
    exact (htr.neg (hok y (by simp [hy]))).1 h0
  by_cases h3 : s.of o < 0
  · rw [if_pos h3]
    refine ⟨fr1, rfl, fun q => (by cases q), fun c q => ⟨(Option.some.inj q).symm, rfl, hsw, _, hk2, by simp, ?_⟩⟩
    intro y hy
    rcases List.mem_cons.1 hy with q | hy
    · rw [q]; exact (htr.neg hoo).1 h3
    · rcases List.mem_cons.1 hy with q | hy
      · rw [q]; exact h.gf
      · exact ht y hy
  · rw [if_neg h3]
    obtain ⟨z1, z2⟩ := (htr.zero hoo).1 (by omega)
    have hpu := hsw.pushed hk2 hoo z1 z2 ht
    have hk3 : (SS.push { s with clauses := s.clauses.set k (o :: g :: t) } o k).clauses[k]? = some (o :: g :: t) := hk2
    exact ⟨fr1.trans (Fr.pushed _ _ _), rfl, fun _ => hpu.keep hk3 (by show o ∈ s.lits ++ [o]; simp), fun c q => by cases q⟩

structure Scn (n : Nat) (U : Int → Prop) (s : SS) (g : Int) (r : SS × List Nat × Option Nat) : Prop where
  fr : Fr s r.1
  head : r.1.head = s.head
  go : r.2.2 = none → Sc n U r.1 g r.2.1 r.2.1
  hit : ∀ c, r.2.2 = some c → (∃ kept, Sc n U r.1 g r.2.1 kept) ∧ ∃ cl, r.1.clauses[c]? = some cl ∧ g ∈ cl ∧ ∀ y ∈ cl, -y ∈ r.1.lits
theorem scan_ok {n : Nat} {U : Int → Prop} {g : Int} : ∀ {rest : List Nat} {s : SS} {kept : List Nat}, Sc n U s g (kept ++ rest) kept → Scn n U s g (scan g rest s kept)
  | [], s, kept, h => by
    unfold scan
    rw [List.append_nil] at h
    exact ⟨Fr.refl s, rfl, fun _ => h, fun c q => by cases q⟩
  | k :: rest, s, kept, h => by
    have hv := visit_ok h
    unfold scan
    match hvis : visit g s k with
    | (s', true, none) =>
      rw [hvis] at hv
      have := scan_ok (hv.go rfl)
      exact ⟨hv.fr.trans this.fr, this.head.trans hv.head, this.go, this.hit⟩
    | (s', false, none) =>
      rw [hvis] at hv
      have := scan_ok (hv.go rfl)
      exact ⟨hv.fr.trans this.fr, this.head.trans hv.head, this.go, this.hit⟩
    | (s', true, some c) =>
      rw [hvis] at hv
      obtain ⟨rfl, -, h2, h3⟩ := hv.hit c rfl
      refine ⟨hv.fr, hv.head, fun q => (by cases q), fun c' q => ?_⟩
      obtain rfl := Option.some.inj q
      exact ⟨⟨kept, by simpa using h2⟩, h3⟩
    | (s', false, some c) =>
      rw [hvis] at hv
      obtain ⟨-, h1, -⟩ := hv.hit c rfl
      cases h1

/-- the solver between two propagations -/
structure In (n : Nat) (U : Int → Prop) (s : SS) : Prop where
  tr : Tr n s
  rs : Rs U s
  wa : Wa n s s.wl
  wi : WI s fun _ i => i < s.head
  hd : s.head ≤ s.lits.length
  hm : ∀ m ∈ s.marks, m ≤ s.head

theorem In.sc {n : Nat} {U : Int → Prop} {s : SS} (h : In n U s) (hl : s.head < s.lits.length) : Sc n U s (-(s.lits.getD s.head 0)) ([] ++ s.wl (-(s.lits.getD s.head 0))) [] := by
  have hx : s.lits[s.head]? = some (s.lits.getD s.head 0) := by rw [List.getD_eq_getElem?_getD, List.getElem?_eq_getElem hl]; rfl
  refine ⟨h.tr, h.rs, ?_, ?_, ?_, h.hm⟩
  · rw [List.nil_append]
    have : (fun x => if x = -(s.lits.getD s.head 0) then s.wl (-(s.lits.getD s.head 0)) else s.wl x) = s.wl := by
      funext x; split
      · rename_i e; rw [e]
      · rfl
    rw [this]; exact h.wa
  · intro k c a b i h1 h2 h3 h4
    rcases h3 with h3 | ⟨-, h3⟩
    · exact h.wi k c a b i h1 h2 h3 h4
    · simp at h3
  · rw [Int.neg_neg]; exact hx
theorem Sc.setW {n : Nat} {U : Int → Prop} {s : SS} {g : Int} {M kept : List Nat} (h : Sc n U s g M kept) : Wa n (setW s g M) (setW s g M).wl := by
  have hg := h.gok
  have hL : ∀ x, LOk n x → (Go.Proofs.Ytdibfjcmgbpnpaa.setW s g M).wl x = if x = g then M else s.wl x := by
    intro x hx; exact wl_set h.wa hg M hx s.clauses
  refine ⟨?_, h.wa.cl, ?_, ?_⟩
  · show (s.watches.set _ _).length = _; rw [List.length_set]; exact h.wa.wl
  · intro x hx; rw [hL x hx]; exact h.wa.wn x hx
  · intro x hx k; rw [hL x hx]; exact h.wa.wm x hx k
/-- a literal has been propagated -/
theorem pstep_ok {n : Nat} {U : Int → Prop} {s : SS} (h : In n U s) (hl : s.head < s.lits.length) :
    Fr s (pstep s).1 ∧ In n U (pstep s).1 ∧ ((pstep s).2 = none → (pstep s).1.head = s.head + 1) ∧ ∀ c, (pstep s).2 = some c → ∃ cl g, (pstep s).1.clauses[c]? = some cl ∧ (∀ y ∈ cl, -y ∈ (pstep s).1.lits) ∧ g ∈ cl ∧ (pstep s).1.lits[s.head]? = some (-g) := by
  have h0 := scan_ok (h.sc hl)
  unfold pstep
  generalize hg : -(s.lits.getD s.head 0) = g at h0 ⊢
  match hs : scan g (s.wl g) s [] with
  | (s1, kept, none) =>
    rw [hs] at h0
    have hgo := h0.go rfl
    have hhd := h0.head
    dsimp only at hhd hgo
    have hfr := h0.fr
    refine ⟨⟨hfr.marks, hfr.low, hfr.added, hfr.broken, hfr.proof, hfr.model, hfr.core, hfr.ext, hfr.cp⟩, ?_, fun _ => rfl, fun c q => by cases q⟩
    have hw := hgo.setW
    refine ⟨⟨hgo.tr.1, hgo.tr.2, hgo.tr.3, hgo.tr.4, hgo.tr.5, hgo.tr.6, hgo.tr.7, hgo.tr.8, hgo.tr.9, hgo.tr.10, hgo.tr.11, hgo.tr.12⟩, hgo.rs, ⟨hw.wl, hw.cl, hw.wn, hw.wm⟩, ?_, ?_, ?_⟩
    · intro k c a b i a1 a2 a3 a4
      change i < s.head + 1 at a3
      rcases Nat.lt_or_ge i s1.head with q | q
      · exact hgo.wi k c a b i a1 a2 (.inl q) a4
      · have hi : i = s1.head := by omega
        refine hgo.wi k c a b i a1 a2 (.inr ⟨hi, ?_⟩) a4
        have hag : a = g := by
          have := hgo.hg; subst hi; change s1.lits[s1.head]? = some (-a) at a4; rw [a4] at this
          have := Option.some.inj this; omega
        subst hag
        have := (hgo.wa.wm a hgo.gok k).2 ⟨c, b, a1, a2⟩
        simpa using this
    · show s.head + 1 ≤ s1.lits.length
      have := hgo.len; omega
    · intro m hm
      have := hgo.hm m hm
      show m ≤ s.head + 1; omega
  | (s1, kept, some c) =>
    rw [hs] at h0
    obtain ⟨⟨kp, hsc⟩, cl, c1, c2, c3⟩ := h0.hit c rfl
    have hhd := h0.head
    dsimp only at hhd hsc c1 c3
    have hfr := h0.fr
    have hw := hsc.setW
    refine ⟨⟨hfr.marks, hfr.low, hfr.added, hfr.broken, hfr.proof, hfr.model, hfr.core, hfr.ext, hfr.cp⟩, ?_, fun q => (by cases q), ?_⟩
    · refine ⟨⟨hsc.tr.1, hsc.tr.2, hsc.tr.3, hsc.tr.4, hsc.tr.5, hsc.tr.6, hsc.tr.7, hsc.tr.8, hsc.tr.9, hsc.tr.10, hsc.tr.11, hsc.tr.12⟩, hsc.rs, ⟨hw.wl, hw.cl, hw.wn, hw.wm⟩, ?_, ?_, hsc.hm⟩
      · intro k c a b i a1 a2 a3 a4
        exact hsc.wi k c a b i a1 a2 (.inl a3) a4
      · exact Nat.le_of_lt hsc.len
    · intro c' q
      obtain rfl := Option.some.inj q
      refine ⟨cl, g, c1, c3, c2, ?_⟩
      have := hsc.hg; rw [hhd] at this; exact this

theorem prop_ok {n : Nat} {U : Int → Prop} : ∀ {f : Nat} {s : SS}, In n U s → n ≤ s.head + f → 
    Fr s (prop f s).1 ∧ In n U (prop f s).1 ∧ ((prop f s).2 = none → (prop f s).1.head = (prop f s).1.lits.length) ∧ ∀ c, (prop f s).2 = some c → ∃ cl g i, (prop f s).1.clauses[c]? = some cl ∧ (∀ y ∈ cl, -y ∈ (prop f s).1.lits) ∧ g ∈ cl ∧ (prop f s).1.lits[i]? = some (-g) ∧ ∀ m ∈ s.marks, m ≤ i
  | 0, s, h, hf => by
    unfold prop
    have := h.tr.len; have := h.hd
    exact ⟨Fr.refl s, h, fun _ => by show s.head = s.lits.length; omega, fun c q => by cases q⟩
  | f + 1, s, h, hf => by
    unfold prop
    by_cases hl : s.head < s.lits.length
    · rw [if_pos hl]
      have h0 := pstep_ok h hl
      match hs : pstep s with
      | (s', some c) =>
        rw [hs] at h0
        obtain ⟨h1, h2, h3, h4⟩ := h0
        refine ⟨h1, h2, fun q => (by cases q), fun c' q => ?_⟩
        obtain rfl := Option.some.inj q
        obtain ⟨cl, g, a1, a2, a3, a4⟩ := h4 c rfl
        exact ⟨cl, g, s.head, a1, a2, a3, a4, h.hm⟩
      | (s', none) =>
        rw [hs] at h0
        obtain ⟨h1, h2, h3, h4⟩ := h0
        have hh := h3 rfl
        dsimp only at hh h1 h2
        have ih := prop_ok (f := f) h2 (by omega)
        dsimp only
        obtain ⟨i1, i2, i3, i4⟩ := ih
        refine ⟨h1.trans i1, i2, i3, fun c q => ?_⟩
        obtain ⟨cl, g, i, a1, a2, a3, a4, a5⟩ := i4 c q
        exact ⟨cl, g, i, a1, a2, a3, a4, by rw [h1.marks] at a5; exact a5⟩
    · rw [if_neg hl]
      have := h.hd
      exact ⟨Fr.refl s, h, fun _ => by show s.head = s.lits.length; omega, fun c q => by cases q⟩
end Go.Proofs.Ytdibfjcmgbpnpaa
