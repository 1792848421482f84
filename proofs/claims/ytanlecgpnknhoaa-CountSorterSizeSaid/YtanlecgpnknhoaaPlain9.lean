/- Plain laws: circuits made by sequences of And and Or; a program of that kind runs on references and on truth values alike. -/
import Derived.Test.YtanlecgpnknhoaaPlain7
namespace Go.Proofs.Ytanlecgpnknhoaa
set_option linter.unusedSimpArgs false
set_option linter.unusedVariables false

inductive CM (ρ α : Type) where
  | ret (x : α) : CM ρ α
  | and (a b : ρ) (k : ρ → CM ρ α) : CM ρ α
  | or (a b : ρ) (k : ρ → CM ρ α) : CM ρ α

def CM.bind {ρ α β : Type} : CM ρ α → (α → CM ρ β) → CM ρ β
  | .ret x, f => f x
  | .and a b k, f => .and a b fun r => (k r).bind f
  | .or a b k, f => .or a b fun r => (k r).bind f

/-- on circuits -/
def CM.run {α : Type} : CM Int α → List Gate → List Gate × α
  | .ret x, c => (c, x)
  | .and a b k, c => (k (cand c a b).2).run (cand c a b).1
  | .or a b k, c => (k (cor c a b).2).run (cor c a b).1
/-- on truth values -/
def CM.tv {α : Type} : CM Bool α → α
  | .ret x => x
  | .and a b k => (k (a && b)).tv
  | .or a b k => (k (a || b)).tv

theorem CM.run_bind {α β : Type} (p : CM Int α) (f : α → CM Int β) : ∀ c, (p.bind f).run c = (f (p.run c).2).run (p.run c).1 := by
  induction p with
  | ret x => intro c; rfl
  | and a b k ih => intro c; exact ih _ _
  | or a b k ih => intro c; exact ih _ _
theorem CM.tv_bind {α β : Type} (p : CM Bool α) (f : α → CM Bool β) : (p.bind f).tv = (f p.tv).tv := by
  induction p with
  | ret x => rfl
  | and a b k ih => exact ih _
  | or a b k ih => exact ih _

/-- Two programs do alike on alike references; at most n operations. -/
inductive Rel {ρ σ α β : Type} : Nat → (ρ → σ → Prop) → ((ρ → σ → Prop) → α → β → Prop) → CM ρ α → CM σ β → Prop
  | ret {n : Nat} {V : ρ → σ → Prop} {R : (ρ → σ → Prop) → α → β → Prop} {x : α} {y : β} : R V x y → Rel n V R (.ret x) (.ret y)
  | and {n : Nat} {V : ρ → σ → Prop} {R : (ρ → σ → Prop) → α → β → Prop} {a b : ρ} {a' b' : σ} {k : ρ → CM ρ α} {k' : σ → CM σ β} : V a a' → V b b' →
      (∀ V' : ρ → σ → Prop, (∀ r s, V r s → V' r s) → ∀ r s, V' r s → Rel n V' R (k r) (k' s)) → Rel (n + 1) V R (.and a b k) (.and a' b' k')
  | or {n : Nat} {V : ρ → σ → Prop} {R : (ρ → σ → Prop) → α → β → Prop} {a b : ρ} {a' b' : σ} {k : ρ → CM ρ α} {k' : σ → CM σ β} : V a a' → V b b' →
      (∀ V' : ρ → σ → Prop, (∀ r s, V r s → V' r s) → ∀ r s, V' r s → Rel n V' R (k r) (k' s)) → Rel (n + 1) V R (.or a b k) (.or a' b' k')

theorem Rel.more {ρ σ α β : Type} {n : Nat} {V : ρ → σ → Prop} {R : (ρ → σ → Prop) → α → β → Prop} {p : CM ρ α} {q : CM σ β} (h : Rel n V R p q) : ∀ m, n ≤ m → Rel m V R p q := by
  induction h with
  | ret h => intro m _; exact .ret h
  | and h1 h2 h3 ih => intro m hm; obtain ⟨m, rfl⟩ : ∃ x, m = x + 1 := ⟨m - 1, by omega⟩; exact .and h1 h2 fun V' hV r s hr => ih V' hV r s hr m (by omega)
  | or h1 h2 h3 ih => intro m hm; obtain ⟨m, rfl⟩ : ∃ x, m = x + 1 := ⟨m - 1, by omega⟩; exact .or h1 h2 fun V' hV r s hr => ih V' hV r s hr m (by omega)

theorem Rel.bind {ρ σ α β γ δ : Type} {n m : Nat} {V : ρ → σ → Prop} {R : (ρ → σ → Prop) → α → β → Prop} {T : (ρ → σ → Prop) → γ → δ → Prop} {p : CM ρ α} {q : CM σ β} {f : α → CM ρ γ} {g : β → CM σ δ}
    (h : Rel n V R p q) (hf : ∀ V' : ρ → σ → Prop, (∀ r s, V r s → V' r s) → ∀ x y, R V' x y → Rel m V' T (f x) (g y)) : Rel (n + m) V T (p.bind f) (q.bind g) := by
  induction h with
  | ret h => exact (hf _ (fun _ _ h => h) _ _ h).more _ (by omega)
  | @and n V R a b a' b' k k' h1 h2 h3 ih =>
    rw [show n + 1 + m = n + m + 1 by omega]
    exact .and h1 h2 fun V' hV r s hr => ih V' hV r s hr fun V'' hV' x y hxy => hf V'' (fun r s h => hV' r s (hV r s h)) x y hxy
  | @or n V R a b a' b' k k' h1 h2 h3 ih =>
    rw [show n + 1 + m = n + m + 1 by omega]
    exact .or h1 h2 fun V' hV r s hr => ih V' hV r s hr fun V'' hV' x y hxy => hf V'' (fun r s h => hV' r s (hV r s h)) x y hxy

/-- A relation on results that is kept when more references are alike. -/
def Mono {ρ σ α β : Type} (R : (ρ → σ → Prop) → α → β → Prop) : Prop := ∀ (V V' : ρ → σ → Prop), (∀ r s, V r s → V' r s) → ∀ x y, R V x y → R V' x y

/- Lists of references -/
def AllV {ρ σ : Type} (V : ρ → σ → Prop) (l : List ρ) (l' : List σ) : Prop := l.length = l'.length ∧ ∀ (i : Nat) (r : ρ) (s : σ), l[i]? = some r → l'[i]? = some s → V r s
theorem AllV.nil {ρ σ : Type} {V : ρ → σ → Prop} : AllV V [] [] := ⟨rfl, fun i r s h => by simp at h⟩
theorem AllV.mono {ρ σ : Type} {V V' : ρ → σ → Prop} (hV : ∀ r s, V r s → V' r s) {l : List ρ} {l' : List σ} (h : AllV V l l') : AllV V' l l' := ⟨h.1, fun i r s h1 h2 => hV _ _ (h.2 i r s h1 h2)⟩
theorem AllV.snoc {ρ σ : Type} {V : ρ → σ → Prop} {l : List ρ} {l' : List σ} {r : ρ} {s : σ} (h : AllV V l l') (hr : V r s) : AllV V (l ++ [r]) (l' ++ [s]) := by
  refine ⟨by simp [h.1], fun i a b ha hb => ?_⟩
  by_cases hi : i < l.length
  · rw [List.getElem?_append_left hi] at ha; rw [List.getElem?_append_left (by rw [← h.1]; exact hi)] at hb; exact h.2 i a b ha hb
  · rw [List.getElem?_append_right (by omega)] at ha; rw [List.getElem?_append_right (by rw [← h.1]; omega), ← h.1] at hb
    cases hh : i - l.length with
    | zero => rw [hh] at ha hb; simp at ha hb; rw [← ha, ← hb]; exact hr
    | succ n => rw [hh] at ha; simp at ha
theorem AllV.getD {ρ σ : Type} {V : ρ → σ → Prop} {l : List ρ} {l' : List σ} {r : ρ} {s : σ} (h : AllV V l l') (hr : V r s) (i : Nat) : V (l.getD i r) (l'.getD i s) := by
  rw [List.getD_eq_getElem?_getD, List.getD_eq_getElem?_getD]
  by_cases hi : i < l.length
  · have hi' : i < l'.length := by rw [← h.1]; exact hi
    rw [List.getElem?_eq_getElem hi, List.getElem?_eq_getElem hi']
    exact h.2 i _ _ (List.getElem?_eq_getElem hi) (List.getElem?_eq_getElem hi')
  · rw [List.getElem?_eq_none (Nat.le_of_not_lt hi), List.getElem?_eq_none (by rw [← h.1]; exact Nat.le_of_not_lt hi)]; exact hr
theorem AllV.set {ρ σ : Type} {V : ρ → σ → Prop} {l : List ρ} {l' : List σ} {r : ρ} {s : σ} (h : AllV V l l') (hr : V r s) (i : Nat) : AllV V (l.set i r) (l'.set i s) := by
  refine ⟨by simp [h.1], fun j a b ha hb => ?_⟩
  rw [List.getElem?_set] at ha hb
  by_cases hij : i = j
  · rw [if_pos hij] at ha hb
    split at ha
    · split at hb
      · simp at ha hb; rw [← ha, ← hb]; exact hr
      · cases hb
    · cases ha
  · rw [if_neg hij] at ha hb; exact h.2 j a b ha hb
theorem AllV.take {ρ σ : Type} {V : ρ → σ → Prop} {l : List ρ} {l' : List σ} (h : AllV V l l') (n : Nat) : AllV V (l.take n) (l'.take n) := by
  refine ⟨by simp [h.1], fun i a b ha hb => ?_⟩
  rw [List.getElem?_take] at ha hb
  by_cases hi : i < n
  · rw [if_pos hi] at ha hb; exact h.2 i a b ha hb
  · rw [if_neg hi] at ha; cases ha
theorem AllV.drop {ρ σ : Type} {V : ρ → σ → Prop} {l : List ρ} {l' : List σ} (h : AllV V l l') (n : Nat) : AllV V (l.drop n) (l'.drop n) := by
  refine ⟨by simp [h.1], fun i a b ha hb => ?_⟩
  rw [List.getElem?_drop] at ha hb; exact h.2 _ a b ha hb

/- What the relation gives: references of a circuit, and their values. -/
def VOf (c : List Gate) (vals : List Bool) (r : Int) (b : Bool) : Prop := 0 ≤ r ∧ r < 2 * (c.length : Int) ∧ cv c vals r = b
theorem VOf.ext {c d : List Gate} {vals : List Bool} (h : c <+: d) (r : Int) (b : Bool) (hr : VOf c vals r b) : VOf d vals r b :=
  ⟨hr.1, by have := h.length_le; have := hr.2.1; omega, by rw [cv_ext h hr.1 hr.2.1]; exact hr.2.2⟩

/-- THE LAW OF VALUES: the run keeps the circuit, appends at most n gates, and the results are alike. -/
theorem Rel.vals {α β : Type} {R : (Int → Bool → Prop) → α → β → Prop} (vals : List Bool) {n : Nat} {V : Int → Bool → Prop} {p : CM Int α} {q : CM Bool β} (h : Rel n V R p q) :
    ∀ c, V = VOf c vals → Good c → c.length + n ≤ 20000 → Good (p.run c).1 ∧ c <+: (p.run c).1 ∧ (p.run c).1.length ≤ c.length + n ∧ R (VOf (p.run c).1 vals) (p.run c).2 q.tv := by
  induction h with
  | ret h => intro c hV hg hl; exact ⟨hg, List.prefix_refl _, by simp [CM.run], by rw [hV] at h; exact h⟩
  | @and n V R a b a' b' k k' h1 h2 h3 ih =>
    intro c hV hg hl
    subst hV
    have hk := keeps_and hg (by omega) h1.1 h1.2.1 h2.1 h2.2.1
    have hl1 := hk.len
    have hr : VOf (cand c a b).1 vals (cand c a b).2 (a' && b') := ⟨hk.low, hk.high, by rw [and_val vals hg (by omega) h1.1 h1.2.1 h2.1 h2.2.1, h1.2.2, h2.2.2]⟩
    obtain ⟨g1, g2, g3, g4⟩ := ih (VOf (cand c a b).1 vals) (fun r s h => VOf.ext hk.ext r s h) _ _ hr _ rfl hk.good (by omega)
    exact ⟨g1, hk.ext.trans g2, by show ((k (cand c a b).2).run (cand c a b).1).1.length ≤ _; omega, g4⟩
  | @or n V R a b a' b' k k' h1 h2 h3 ih =>
    intro c hV hg hl
    subst hV
    have hk := keeps_or hg (by omega) h1.1 h1.2.1 h2.1 h2.2.1
    have hl1 := hk.len
    have hr : VOf (cor c a b).1 vals (cor c a b).2 (a' || b') := ⟨hk.low, hk.high, by rw [or_val vals hg (by omega) h1.1 h1.2.1 h2.1 h2.2.1, h1.2.2, h2.2.2]⟩
    obtain ⟨g1, g2, g3, g4⟩ := ih (VOf (cor c a b).1 vals) (fun r s h => VOf.ext hk.ext r s h) _ _ hr _ rfl hk.good (by omega)
    exact ⟨g1, hk.ext.trans g2, by show ((k (cor c a b).2).run (cor c a b).1).1.length ≤ _; omega, g4⟩

/-- Equal references of a circuit. -/
def EOf (c : List Gate) (r s : Int) : Prop := 0 ≤ r ∧ r < 2 * (c.length : Int) ∧ r = s
theorem EOf.ext {c d : List Gate} (h : c <+: d) (r s : Int) (hr : EOf c r s) : EOf d r s := ⟨hr.1, by have := h.length_le; have := hr.2.1; omega, hr.2.2⟩
/-- THE LAW OF SHARING: on an extended circuit the same program appends nothing and returns the same. -/
theorem Rel.again {α : Type} {R : (Int → Int → Prop) → α → α → Prop} {n : Nat} {V : Int → Int → Prop} {p q : CM Int α} (h : Rel n V R p q) :
    ∀ c, V = EOf c → Good c → c.length + n ≤ 20000 → c <+: (p.run c).1 ∧ ∀ f, (p.run c).1 <+: f → (q.run f).1 = f ∧ R (EOf (p.run c).1) (p.run c).2 (q.run f).2 := by
  induction h with
  | ret h => intro c hV hg hl; exact ⟨List.prefix_refl _, fun f _ => ⟨rfl, by rw [hV] at h; exact h⟩⟩
  | @and n V R a b a' b' k k' h1 h2 h3 ih =>
    intro c hV hg hl
    subst hV
    obtain ⟨a1, a2, rfl⟩ := h1
    obtain ⟨b1, b2, rfl⟩ := h2
    have hk := keeps_and hg (by omega) a1 a2 b1 b2
    have hl1 := hk.len
    obtain ⟨g1, g2⟩ := ih (EOf (cand c a b).1) (fun r s h => EOf.ext hk.ext r s h) (cand c a b).2 (cand c a b).2 ⟨hk.low, hk.high, rfl⟩ _ rfl hk.good (by omega)
    refine ⟨hk.ext.trans g1, fun f hf => ?_⟩
    have e := cand_again (f := f) (by omega) a1 a2 b1 b2 (g1.trans hf) (hk.ext.trans (g1.trans hf)).length_le
    have := g2 f hf
    show ((k' (cand f a b).2).run (cand f a b).1).1 = f ∧ R _ _ ((k' (cand f a b).2).run (cand f a b).1).2
    rw [e]; exact this
  | @or n V R a b a' b' k k' h1 h2 h3 ih =>
    intro c hV hg hl
    subst hV
    obtain ⟨a1, a2, rfl⟩ := h1
    obtain ⟨b1, b2, rfl⟩ := h2
    have hk := keeps_or hg (by omega) a1 a2 b1 b2
    have na := cnot_bounds a1 a2
    have nb := cnot_bounds b1 b2
    have hl1 := hk.len
    obtain ⟨g1, g2⟩ := ih (EOf (cor c a b).1) (fun r s h => EOf.ext hk.ext r s h) (cor c a b).2 (cor c a b).2 ⟨hk.low, hk.high, rfl⟩ _ rfl hk.good (by omega)
    refine ⟨hk.ext.trans g1, fun f hf => ?_⟩
    have e : cor f a b = (f, (cor c a b).2) := by
      have e1 := cand_again (f := f) (by omega) na.1 na.2 nb.1 nb.2 (g1.trans hf) (hk.ext.trans (g1.trans hf)).length_le
      show ((cand f (cnot a) (cnot b)).1, cnot (cand f (cnot a) (cnot b)).2) = _
      rw [e1]; rfl
    have := g2 f hf
    show ((k' (cor f a b).2).run (cor f a b).1).1 = f ∧ R _ _ ((k' (cor f a b).2).run (cor f a b).1).2
    rw [e]; exact this

/-- Constants. -/
def KOf (r s : Int) : Prop := (r = 0 ∨ r = 1) ∧ r = s
theorem and_const {c : List Gate} (hc : 0 < c.length) {a b : Int} (ha : a = 0 ∨ a = 1) (hb : b = 0 ∨ b = 1) : (cand c a b).1 = c ∧ ((cand c a b).2 = 0 ∨ (cand c a b).2 = 1) := by
  have h0 : refOk 0 c.length = true := by simp only [refOk, decide_eq_true_eq]; omega
  have h1 : refOk 1 c.length = true := by simp only [refOk, decide_eq_true_eq]; omega
  rcases ha with rfl | rfl <;> rcases hb with rfl | rfl <;> simp [cand, h0, h1, cnot]
theorem cnot_const {a : Int} (ha : a = 0 ∨ a = 1) : cnot a = 0 ∨ cnot a = 1 := by rcases ha with rfl | rfl <;> simp [cnot]
theorem or_const {c : List Gate} (hc : 0 < c.length) {a b : Int} (ha : a = 0 ∨ a = 1) (hb : b = 0 ∨ b = 1) : (cor c a b).1 = c ∧ ((cor c a b).2 = 0 ∨ (cor c a b).2 = 1) := by
  have h := and_const hc (cnot_const ha) (cnot_const hb)
  exact ⟨h.1, cnot_const h.2⟩
/-- THE LAW OF CONSTANTS. -/
theorem Rel.const {α : Type} {R : (Int → Int → Prop) → α → α → Prop} {n : Nat} {V : Int → Int → Prop} {p q : CM Int α} (h : Rel n V R p q) :
    ∀ c, V = KOf → 0 < c.length → (p.run c).1 = c ∧ R KOf (p.run c).2 (q.run c).2 := by
  induction h with
  | ret h => intro c hV _; exact ⟨rfl, by rw [hV] at h; exact h⟩
  | @and n V R a b a' b' k k' h1 h2 h3 ih =>
    intro c hV hc
    subst hV
    obtain ⟨a1, rfl⟩ := h1
    obtain ⟨b1, rfl⟩ := h2
    obtain ⟨e1, e2⟩ := and_const hc a1 b1
    have := ih KOf (fun _ _ h => h) (cand c a b).2 (cand c a b).2 ⟨e2, rfl⟩ c rfl hc
    show ((k (cand c a b).2).run (cand c a b).1).1 = c ∧ R _ ((k (cand c a b).2).run (cand c a b).1).2 ((k' (cand c a b).2).run (cand c a b).1).2
    rw [e1]; exact this
  | @or n V R a b a' b' k k' h1 h2 h3 ih =>
    intro c hV hc
    subst hV
    obtain ⟨a1, rfl⟩ := h1
    obtain ⟨b1, rfl⟩ := h2
    obtain ⟨e1, e2⟩ := or_const hc a1 b1
    have := ih KOf (fun _ _ h => h) (cor c a b).2 (cor c a b).2 ⟨e2, rfl⟩ c rfl hc
    show ((k (cor c a b).2).run (cor c a b).1).1 = c ∧ R _ ((k (cor c a b).2).run (cor c a b).1).2 ((k' (cor c a b).2).run (cor c a b).1).2
    rw [e1]; exact this
end Go.Proofs.Ytanlecgpnknhoaa
