/- Plain laws: what constructions keep. -/
import Derived.Test.YtanlecgpnknhoaaPlain3
namespace Go.Proofs.Ytanlecgpnknhoaa
set_option linter.unusedSimpArgs false
set_option linter.unusedVariables false

/-- A well-formed circuit, of any length. -/
structure Good (c : List Gate) : Prop where
  head : c[0]? = some ⟨0, 0, 0⟩
  formed : ∀ (i : Nat) (g : Gate), 0 < i → c[i]? = some g → formedB g.k g.a g.b i = true
  nodup : ∀ (i j : Nat) (g : Gate), c[i]? = some g → c[j]? = some g → i = j

theorem formedB_inv {k a b i : Int} (h : formedB k a b i = true) : (k = 1 ∧ 1 ≤ a ∧ a ≤ 20000 ∧ b = 0) ∨ (k = 2 ∧ 2 ≤ a ∧ a < b ∧ b < 2 * i ∧ a / 2 ≠ b / 2) := by
  unfold formedB at h
  split at h
  · exact .inl ⟨by assumption, by simpa using h⟩
  · exact .inr (by simpa using h)

theorem Good.wf {c : List Gate} (h : Good c) : WfC c := by
  intro i g hg
  cases i with
  | zero =>
    have := h.head; rw [hg] at this
    obtain rfl : g = ⟨0, 0, 0⟩ := by simpa using this
    exact ⟨fun e => absurd e (by simp), fun e => absurd e (by simp)⟩
  | succ i =>
    have hf := h.formed (i + 1) g (by omega) hg
    rcases formedB_inv hf with ⟨h1, h2, _, _⟩ | ⟨h1, h2, h3, h4, h5⟩
    · exact ⟨fun _ => h2, fun e => absurd (h1.symm.trans e) (by simp)⟩
    · exact ⟨fun e => absurd (h1.symm.trans e) (by simp), fun _ => ⟨by omega, by omega, by omega, by omega⟩⟩

theorem Good.ne {c : List Gate} (h : Good c) : 0 < c.length := by
  have := h.head; cases c <;> simp at *

theorem Good.validFrom {c : List Gate} (h : Good c) (k : Nat) (hk : 0 < k) : cvalidFrom (c.take k) (c.drop k) = true := by
  by_cases hlt : k < c.length
  · obtain ⟨g, hg⟩ : ∃ g, c[k]? = some g := ⟨_, List.getElem?_eq_getElem hlt⟩
    rw [cvalidFrom_step hg, h.formed k g hk hg, Good.validFrom h (k + 1) (by omega)]
    have : (c.take k).contains g = false := by
      cases hc : (c.take k).contains g with
      | false => rfl
      | true =>
        rw [take_contains hg] at hc
        unfold findI at hc
        cases hf : cfind c g with
        | none => exact absurd (List.mem_of_getElem? hg) (cfind_none.1 hf)
        | some i =>
          rw [hf] at hc
          have hc : (i : Int) < k := hc
          have := h.nodup i k g (cfind_some hf).1 hg
          omega
    rw [this]; rfl
  · exact cvalidFrom_end (by omega)
termination_by c.length - k

theorem Good.valid {c : List Gate} (h : Good c) (hl : c.length ≤ 20000) : cvalid c = true := by
  rw [cvalid_start h.head rfl (by omega)]; exact h.validFrom 1 (by omega)

theorem good_new : Good cnew := by
  refine ⟨rfl, fun i g hi hg => ?_, fun i j g h1 h2 => ?_⟩
  · cases i with
    | zero => omega
    | succ i => simp [cnew] at hg
  · cases i <;> cases j <;> simp [cnew] at *

theorem Good.snoc {c : List Gate} {g : Gate} (h : Good c) (hf : formedB g.k g.a g.b c.length = true) (hn : g ∉ c) : Good (c ++ [g]) := by
  have hl := h.ne
  refine ⟨by rw [List.getElem?_append_left hl]; exact h.head, fun i x hi hx => ?_, fun i j x h1 h2 => ?_⟩
  · by_cases hc : i < c.length
    · rw [List.getElem?_append_left hc] at hx; exact h.formed i x hi hx
    · rw [List.getElem?_append_right (by omega)] at hx
      have : i - c.length = 0 := by
        cases hh : i - c.length with
        | zero => rfl
        | succ n => rw [hh] at hx; simp at hx
      rw [this] at hx
      obtain rfl : g = x := by simpa using hx
      have : i = c.length := by omega
      rw [this]; exact hf
  · have key : ∀ i, (c ++ [g])[i]? = some x → (i < c.length ∧ c[i]? = some x) ∨ (i = c.length ∧ x = g) := by
      intro i hi
      by_cases hc : i < c.length
      · rw [List.getElem?_append_left hc] at hi; exact .inl ⟨hc, hi⟩
      · rw [List.getElem?_append_right (by omega)] at hi
        cases hh : i - c.length with
        | zero => rw [hh] at hi; exact .inr ⟨by omega, by simpa using hi.symm⟩
        | succ n => rw [hh] at hi; simp at hi
    rcases key i h1 with ⟨a1, a2⟩ | ⟨a1, a2⟩ <;> rcases key j h2 with ⟨b1, b2⟩ | ⟨b1, b2⟩
    · exact h.nodup i j x a2 b2
    · exact absurd (List.mem_of_getElem? a2) (b2 ▸ hn)
    · exact absurd (List.mem_of_getElem? b2) (a2 ▸ hn)
    · omega

theorem cshare_cases (c : List Gate) (g : Gate) (hl : c.length < 20000) :
    (∃ i, i < c.length ∧ c[i]? = some g ∧ cshare c g = (c, 2 * (i : Int))) ∨ (g ∉ c ∧ cshare c g = (c ++ [g], 2 * (c.length : Int))) := by
  cases hf : cfind c g with
  | some i =>
    have h := (cfind_some hf).1
    exact .inl ⟨i, (List.getElem?_eq_some_iff.1 h).1, h, cshare_some hf⟩
  | none => exact .inr ⟨cfind_none.1 hf, cshare_new hf (by omega)⟩

/-- What a step of a construction keeps. -/
structure Keeps (c : List Gate) (r : List Gate × Int) (k : Nat) : Prop where
  good : Good r.1
  ext : c <+: r.1
  len : r.1.length ≤ c.length + k
  low : 0 ≤ r.2
  high : r.2 < 2 * (r.1.length : Int)

theorem Keeps.le {c : List Gate} {r : List Gate × Int} {k : Nat} (h : Keeps c r k) : c.length ≤ r.1.length := h.ext.length_le
theorem Keeps.up {c : List Gate} {r : List Gate × Int} {k m : Nat} (h : Keeps c r k) (hm : k ≤ m) : Keeps c r m := ⟨h.good, h.ext, by have := h.len; omega, h.low, h.high⟩
theorem Keeps.of_self {c : List Gate} {r : Int} (h : Good c) (h1 : 0 ≤ r) (h2 : r < 2 * (c.length : Int)) (k : Nat) : Keeps c (c, r) k :=
  ⟨h, List.prefix_refl _, by simp, h1, h2⟩

theorem keeps_share {c : List Gate} {g : Gate} (h : Good c) (hl : c.length < 20000) (hf : formedB g.k g.a g.b c.length = true) : Keeps c (cshare c g) 1 := by
  rcases cshare_cases c g hl with ⟨i, hi, _, e⟩ | ⟨hn, e⟩
  · rw [e]; exact Keeps.of_self h (by omega) (by omega) 1
  · rw [e]
    refine ⟨h.snoc hf hn, List.prefix_append _ _, by simp, ?_, ?_⟩
    · show (0 : Int) ≤ 2 * (c.length : Int); omega
    · show 2 * (c.length : Int) < 2 * ((c ++ [g]).length : Int); simp; omega

theorem keeps_input {c : List Gate} {v : Int} (h : Good c) (hl : c.length < 20000) (h1 : 1 ≤ v) (h2 : v ≤ 20000) : Keeps c (cinput c v) 1 := by
  unfold cinput
  rw [if_neg (by omega)]
  exact keeps_share h hl (by simp [formedB, gInput]; omega)

theorem cnot_bounds {r : Int} {n : Nat} (h1 : 0 ≤ r) (h2 : r < 2 * (n : Int)) : 0 ≤ cnot r ∧ cnot r < 2 * (n : Int) := by
  rw [cnot_pos h1]; split <;> omega
theorem cnot_half {r : Int} (h : 0 ≤ r) : cnot r / 2 = r / 2 := by rw [cnot_pos h]; split <;> omega
theorem cnot_mod {r : Int} (h : 0 ≤ r) : cnot r % 2 = 1 - r % 2 := by rw [cnot_pos h]; split <;> omega
theorem cnot_invol {r : Int} (h : 0 ≤ r) : cnot (cnot r) = r := by
  have h2 : 0 ≤ cnot r := by rw [cnot_pos h]; split <;> omega
  rw [cnot_pos h2, cnot_pos h]; split <;> split <;> omega

theorem cand_cases {c : List Gate} {a b : Int} (ha1 : 0 ≤ a) (ha2 : a < 2 * (c.length : Int)) (hb1 : 0 ≤ b) (hb2 : b < 2 * (c.length : Int)) :
    ((a = 1 ∨ b = 1 ∨ a = cnot b) ∧ cand c a b = (c, 1)) ∨ (a = 0 ∧ cand c a b = (c, b)) ∨ ((b = 0 ∨ a = b) ∧ cand c a b = (c, a)) ∨
    (2 ≤ a ∧ 2 ≤ b ∧ a / 2 ≠ b / 2 ∧ cand c a b = cshare c (gAnd a b)) := by
  have r1 : ¬ (refOk a c.length = false ∨ refOk b c.length = false) := by simp [refOk]; omega
  unfold cand
  rw [if_neg r1]
  by_cases h1 : a = 1 ∨ b = 1 ∨ a = cnot b
  · rw [if_pos h1]; exact .inl ⟨h1, rfl⟩
  · rw [if_neg h1]
    by_cases h2 : a = 0
    · rw [if_pos h2]; exact .inr (.inl ⟨h2, rfl⟩)
    · rw [if_neg h2]
      by_cases h3 : b = 0 ∨ a = b
      · rw [if_pos h3]; exact .inr (.inr (.inl ⟨h3, rfl⟩))
      · rw [if_neg h3]
        refine .inr (.inr (.inr ⟨by omega, by omega, ?_, rfl⟩))
        rw [cnot_pos hb1] at h1
        split at h1 <;> omega

theorem keeps_and {c : List Gate} {a b : Int} (h : Good c) (hl : c.length < 20000) (ha1 : 0 ≤ a) (ha2 : a < 2 * (c.length : Int)) (hb1 : 0 ≤ b) (hb2 : b < 2 * (c.length : Int)) : Keeps c (cand c a b) 1 := by
  have := h.ne
  rcases cand_cases ha1 ha2 hb1 hb2 with ⟨_, e⟩ | ⟨_, e⟩ | ⟨_, e⟩ | ⟨h1, h2, h3, e⟩ <;> rw [e]
  · exact Keeps.of_self h (by omega) (by omega) 1
  · exact Keeps.of_self h hb1 hb2 1
  · exact Keeps.of_self h ha1 ha2 1
  · refine keeps_share h hl ?_
    simp only [formedB, gAnd]
    rw [if_neg (by omega)]
    have hne : a ≠ b := fun e => h3 (by rw [e])
    rcases Int.le_total a b with h | h
    · rw [Int.min_eq_left h, Int.max_eq_right h]; rw [decide_eq_true_eq]; refine ⟨trivial, ?_, ?_, ?_, ?_⟩ <;> omega
    · rw [Int.min_eq_right h, Int.max_eq_left h]; rw [decide_eq_true_eq]; refine ⟨trivial, ?_, ?_, ?_, ?_⟩ <;> omega

theorem Keeps.refs {c : List Gate} {r : List Gate × Int} {k : Nat} (h : Keeps c r k) {x : Int} (h2 : x < 2 * (c.length : Int)) : x < 2 * (r.1.length : Int) := by
  have := h.le; omega

theorem keeps_or {c : List Gate} {a b : Int} (h : Good c) (hl : c.length < 20000) (ha1 : 0 ≤ a) (ha2 : a < 2 * (c.length : Int)) (hb1 : 0 ≤ b) (hb2 : b < 2 * (c.length : Int)) : Keeps c (cor c a b) 1 := by
  have na := cnot_bounds ha1 ha2
  have nb := cnot_bounds hb1 hb2
  have k := keeps_and h hl na.1 na.2 nb.1 nb.2
  have nk := cnot_bounds k.low k.high
  exact ⟨k.good, k.ext, k.len, nk.1, nk.2⟩

theorem keeps_iff {c : List Gate} {a b : Int} (h : Good c) (hl : c.length + 3 ≤ 20000) (ha1 : 0 ≤ a) (ha2 : a < 2 * (c.length : Int)) (hb1 : 0 ≤ b) (hb2 : b < 2 * (c.length : Int)) : Keeps c (ciff c a b) 3 := by
  have na := cnot_bounds ha1 ha2
  have nb := cnot_bounds hb1 hb2
  have k1 := keeps_and h (by omega) ha1 ha2 nb.1 nb.2
  have l1 := k1.len
  have k2 := keeps_and k1.good (by omega) na.1 (k1.refs na.2) hb1 (k1.refs hb2)
  have l2 := k2.len
  have nx := cnot_bounds k1.low k1.high
  have ny := cnot_bounds k2.low k2.high
  have k3 := keeps_and k2.good (by omega) nx.1 (k2.refs nx.2) ny.1 ny.2
  have l3 := k3.len
  refine ⟨k3.good, k1.ext.trans (k2.ext.trans k3.ext), ?_, k3.low, k3.high⟩
  show (cand _ _ _).1.length ≤ _
  omega

/-- References of a circuit with n gates. -/
def RefsIn (refs : List Int) (n : Nat) : Prop := ∀ r ∈ refs, 0 ≤ r ∧ r < 2 * (n : Int)
theorem RefsIn.up {refs : List Int} {n m : Nat} (h : RefsIn refs n) (hm : n ≤ m) : RefsIn refs m := fun r hr => ⟨(h r hr).1, by have := (h r hr).2; omega⟩

theorem cpick_in {refs : List Int} {n : Nat} (h : RefsIn refs n) (hn : 0 < n) (k : Nat) : 0 ≤ cpick refs k ∧ cpick refs k < 2 * (n : Int) := by
  have hR : 0 ≤ cpickR refs k ∧ cpickR refs k < 2 * (n : Int) := by
    unfold cpickR
    split
    · rename_i hk
      have hlt : k / 2 % (refs.length + 1) < refs.length + 1 := Nat.mod_lt _ (by omega)
      have : k / 2 % (refs.length + 1) - 1 < refs.length := by omega
      rw [List.getD_eq_getElem?_getD, List.getElem?_eq_getElem this]
      exact h _ (List.getElem_mem this)
    · omega
  unfold cpick
  split
  · exact cnot_bounds hR.1 hR.2
  · exact hR

theorem keeps_do {c : List Gate} {refs : List Int} {s : Step} (h : Good c) (hl : c.length + 3 ≤ 20000) (hr : RefsIn refs c.length) : Keeps c (cdo c refs s) 3 := by
  have ha := cpick_in hr h.ne s.a
  have hb := cpick_in hr h.ne s.b
  unfold cdo
  split
  · exact (keeps_input h (by omega) (by omega) (by omega)).up (by omega)
  · split
    · exact (keeps_and h (by omega) ha.1 ha.2 hb.1 hb.2).up (by omega)
    · split
      · exact (keeps_or h (by omega) ha.1 ha.2 hb.1 hb.2).up (by omega)
      · exact keeps_iff h (by omega) ha.1 ha.2 hb.1 hb.2

structure Built (x : List Gate × List Int) (n : Nat) : Prop where
  good : Good x.1
  len : x.1.length ≤ 1 + 3 * n
  refs : RefsIn x.2 x.1.length
  cnt : x.2.length = n

theorem built_step {x : List Gate × List Int} {n : Nat} {s : Step} (h : Built x n) (hn : n ≤ 1000) : Built (cstep x s) (n + 1) := by
  have hl := h.len
  have k := keeps_do (s := s) h.good (by omega) h.refs
  have := k.len
  refine ⟨k.good, by show (cdo _ _ _).1.length ≤ _; omega, ?_, by simp [cstep, h.cnt]⟩
  intro r hr
  rcases List.mem_append.1 hr with h' | h'
  · exact h.refs.up k.le r h'
  · rw [List.mem_singleton.1 h']; exact ⟨k.low, k.high⟩

theorem built (l : List Step) (hl : l.length ≤ 1000) : Built (cbuild l) l.length := by
  have key : ∀ (t : List Step) (x : List Gate × List Int) (n : Nat), Built x n → n + t.length ≤ 1000 → Built (t.foldl cstep x) (n + t.length) := by
    intro t
    induction t with
    | nil => intro x n h _; exact h
    | cons s t ih =>
      intro x n h hn
      simp only [List.length_cons] at hn
      have := ih (cstep x s) (n + 1) (built_step h (by omega)) (by omega)
      simp only [List.foldl_cons, List.length_cons]
      rw [show n + (t.length + 1) = n + 1 + t.length by omega]; exact this
  have := key l (cnew, []) 0 ⟨good_new, by decide, fun r hr => (by cases hr), rfl⟩ (by omega)
  rw [Nat.zero_add] at this; exact this
end Go.Proofs.Ytanlecgpnknhoaa
