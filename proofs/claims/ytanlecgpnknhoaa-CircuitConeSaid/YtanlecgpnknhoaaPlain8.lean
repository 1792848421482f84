/- Plain laws: the cone of a reference. -/
import Derived.Test.YtanlecgpnknhoaaPlain6
namespace Go.Proofs.Ytanlecgpnknhoaa
set_option linter.unusedSimpArgs false
set_option linter.unusedVariables false

def rtest (g : Gate) (i : Nat) : Bool := decide (g.k = 2 ∧ 0 ≤ g.a ∧ 0 ≤ g.b ∧ g.a / 2 < i ∧ g.b / 2 < i)
def rstep (c : List Gate) (i : Nat) (m : List Bool) : List Bool :=
  match c[i]? with
  | some g => if (m.getD i false && rtest g i) = true then (m.set (g.a / 2).toNat true).set (g.b / 2).toNat true else m
  | none => m
/-- marks after the gates with an index of at least i, of n in all -/
def rdown (c : List Gate) : Nat → List Bool → List Bool
  | 0, m => m
  | i + 1, m => rdown c i (rstep c i m)
def rstart (n : Nat) (r : Int) : List Bool := (List.replicate n false).set (r / 2).toNat true
def creach (c : List Gate) (r : Int) : List Bool := if r < 0 ∨ (c.length : Int) ≤ r / 2 then List.replicate c.length false else rdown c c.length (rstart c.length r)

theorem rstep_length (c : List Gate) (i : Nat) (m : List Bool) : (rstep c i m).length = m.length := by
  unfold rstep
  split
  · split <;> simp
  · rfl
theorem rdown_length (c : List Gate) : ∀ (i : Nat) (m : List Bool), (rdown c i m).length = m.length
  | 0, m => rfl
  | i + 1, m => by rw [rdown, rdown_length c i, rstep_length]
theorem creach_length (c : List Gate) (r : Int) : (creach c r).length = c.length := by
  unfold creach
  split
  · simp
  · rw [rdown_length]; simp [rstart]

def On (m : List Bool) (i : Nat) : Prop := m.getD i false = true
theorem on_set {m : List Bool} {i j : Nat} (h : On m i) : On (m.set j true) i := by
  unfold On at *
  rw [List.getD_eq_getElem?_getD] at *
  rw [List.getElem?_set]
  split
  · split
    · rfl
    · rename_i h1 h2
      rw [List.getElem?_eq_none (by omega)] at h; cases h
  · exact h
theorem on_set_self {m : List Bool} {i : Nat} (h : i < m.length) : On (m.set i true) i := by
  unfold On
  rw [List.getD_eq_getElem?_getD, List.getElem?_set, if_pos rfl, if_pos h]; rfl
theorem on_set_ne {m : List Bool} {i j : Nat} (hne : j ≠ i) (h : On (m.set j true) i) : On m i := by
  unfold On at *
  rw [List.getD_eq_getElem?_getD] at *
  rwa [List.getElem?_set_ne hne] at h

theorem on_rstep {c : List Gate} {i j : Nat} {m : List Bool} (h : On m j) : On (rstep c i m) j := by
  unfold rstep
  split
  · split
    · exact on_set (on_set h)
    · exact h
  · exact h
theorem on_rdown {c : List Gate} : ∀ (i : Nat) {j : Nat} {m : List Bool}, On m j → On (rdown c i m) j
  | 0, _, _, h => h
  | i + 1, _, _, h => on_rdown i (on_rstep h)

def ClosedAt (c : List Gate) (m : List Bool) (j : Nat) : Prop := On m j → ∀ g, c[j]? = some g → g.k = 2 → On m (g.a / 2).toNat ∧ On m (g.b / 2).toNat

theorem rtest_inv {g : Gate} {i : Nat} (h : rtest g i = true) : g.k = 2 ∧ 0 ≤ g.a ∧ 0 ≤ g.b ∧ g.a / 2 < i ∧ g.b / 2 < i := by simpa [rtest] using h

theorem on_rstep_inv {c : List Gate} {i j : Nat} {m : List Bool} (hj : i ≤ j) (h : On (rstep c i m) j) : On m j := by
  unfold rstep at h
  split at h
  · rename_i g hg
    split at h
    · rename_i ht
      rw [Bool.and_eq_true] at ht
      have := rtest_inv ht.2
      exact on_set_ne (by omega) (on_set_ne (by omega) h)
    · exact h
  · exact h

theorem closed_step {c : List Gate} (hw : WfC c) {i : Nat} {m : List Bool} (hl : m.length = c.length) (h : ∀ j, i + 1 ≤ j → ClosedAt c m j) : ∀ j, i ≤ j → ClosedAt c (rstep c i m) j := by
  intro j hj hon g hg hk
  have hm := on_rstep_inv hj hon
  by_cases hji : j = i
  · subst hji
    have hwf := (hw j g hg).2 hk
    have hjl := (List.getElem?_eq_some_iff.1 hg).1
    have ht : rtest g j = true := by simp only [rtest, decide_eq_true_eq]; omega
    unfold rstep
    rw [hg]
    have hm' : m.getD j false = true := hm
    simp only [hm', ht, Bool.and_self, if_true]
    refine ⟨on_set (on_set_self (by omega)), on_set_self (by simp; omega)⟩
  · have := h j (by omega) hm g hg hk
    exact ⟨on_rstep this.1, on_rstep this.2⟩

theorem closed_down {c : List Gate} (hw : WfC c) : ∀ (i : Nat) (m : List Bool), m.length = c.length → (∀ j, i ≤ j → ClosedAt c m j) → ∀ j, ClosedAt c (rdown c i m) j
  | 0, m, _, h => fun j => h j (by omega)
  | i + 1, m, hl, h => closed_down hw i (rstep c i m) (by rw [rstep_length]; exact hl) (closed_step hw hl h)

theorem creach_closed {c : List Gate} (hw : WfC c) {r : Int} (h1 : 0 ≤ r) (h2 : r < 2 * (c.length : Int)) : On (creach c r) (r / 2).toNat ∧ ∀ j, ClosedAt c (creach c r) j := by
  have e : creach c r = rdown c c.length (rstart c.length r) := by unfold creach; rw [if_neg (by omega)]
  rw [e]
  refine ⟨on_rdown _ (on_set_self (by simp; omega)), closed_down hw _ _ (by simp [rstart]) fun j hj _ g hg _ => ?_⟩
  rw [List.getElem?_eq_none hj] at hg; cases hg

/-- The value of a variable. -/
def aval (vals : List Bool) (a : Int) : Bool := decide (a ≤ vals.length) && vals.getD (a - 1).toNat false
def mtest (m : List Bool) (on : Bool) (g : Gate) : Bool := on && decide (g.k = 1 ∧ 1 ≤ g.a ∧ g.a ≤ m.length)
def mstep (vals : List Bool) (c : List Gate) (on : List Bool) (i : Nat) (m : List Bool) : List Bool :=
  match c[i]? with
  | some g => if mtest m (on.getD i false) g = true then m.set (g.a - 1).toNat (aval vals g.a) else m
  | none => m
def mixTo (vals : List Bool) (c : List Gate) (on : List Bool) (m0 : List Bool) : Nat → List Bool
  | 0 => m0
  | i + 1 => mstep vals c on i (mixTo vals c on m0 i)
def padded (other : List Bool) : List Bool := other ++ List.replicate (8 - other.length) false
def cmix (vals other : List Bool) (c : List Gate) (r : Int) : List Bool := mixTo vals c (creach c r) (padded other) c.length

theorem mstep_length (vals : List Bool) (c : List Gate) (on : List Bool) (i : Nat) (m : List Bool) : (mstep vals c on i m).length = m.length := by
  unfold mstep
  split
  · split <;> simp
  · rfl
theorem mixTo_length (vals : List Bool) (c : List Gate) (on m0 : List Bool) : ∀ i, (mixTo vals c on m0 i).length = m0.length
  | 0 => rfl
  | i + 1 => by rw [mixTo, mstep_length, mixTo_length vals c on m0 i]
theorem padded_length (other : List Bool) : 8 ≤ (padded other).length ∧ other.length ≤ (padded other).length := by simp [padded]; omega
theorem cmix_length (vals other : List Bool) (c : List Gate) (r : Int) : (cmix vals other c r).length = (padded other).length := mixTo_length ..

/-- all variables of inputs are at most 8 -/
def LowVars (c : List Gate) : Prop := ∀ g ∈ c, g.k = 1 → 1 ≤ g.a ∧ g.a ≤ 8

theorem mix_get {vals : List Bool} {c : List Gate} {on m0 : List Bool} (hlow : LowVars c) (hm0 : 8 ≤ m0.length) : ∀ (n i : Nat) (g : Gate), i < n → c[i]? = some g → On on i → g.k = 1 → (mixTo vals c on m0 n).getD (g.a - 1).toNat false = aval vals g.a
  | 0, i, _, h, _, _, _ => by omega
  | n + 1, i, g, h, hg, hon, hk => by
    have hlen := mixTo_length vals c on m0 n
    have hg8 := hlow g (List.mem_of_getElem? hg) hk
    rw [mixTo]
    by_cases hin : i = n
    · subst hin
      unfold mstep
      rw [hg]
      have hon' : on.getD i false = true := hon
      have ht : mtest (mixTo vals c on m0 i) (on.getD i false) g = true := by unfold mtest; rw [hon']; simp only [Bool.true_and, decide_eq_true_eq]; omega
      simp only [ht, if_true]
      rw [List.getD_eq_getElem?_getD, List.getElem?_set, if_pos rfl, if_pos (by omega)]; rfl
    · have ih := mix_get (vals := vals) hlow hm0 n i g (by omega) hg hon hk
      unfold mstep
      split
      · rename_i x hx
        split
        · by_cases he : (x.a - 1).toNat = (g.a - 1).toNat
          · rename_i ht
            have hx2 : 1 ≤ x.a := by
              unfold mtest at ht
              rw [Bool.and_eq_true, decide_eq_true_eq] at ht
              exact ht.2.2.1
            have : x.a = g.a := by omega
            rw [List.getD_eq_getElem?_getD, List.getElem?_set, if_pos he, if_pos (by omega), this]; rfl
          · rw [List.getD_eq_getElem?_getD, List.getElem?_set_ne he, ← List.getD_eq_getElem?_getD]; exact ih
        · exact ih
      · exact ih

theorem cone_gates {c : List Gate} (hw : WfC c) (hlow : LowVars c) {vals mix on : List Bool} (hm8 : 8 ≤ mix.length) (hcl : ∀ j, ClosedAt c on j)
    (hmix : ∀ (i : Nat) (g : Gate), c[i]? = some g → On on i → g.k = 1 → mix.getD (g.a - 1).toNat false = aval vals g.a) :
    ∀ i, On on i → (evalG vals c).getD i false = (evalG mix c).getD i false := by
  intro i
  induction i using Nat.strongRecOn with
  | ind i ih =>
    intro hon
    by_cases hi : i < c.length
    · obtain ⟨g, hg⟩ : ∃ g, c[i]? = some g := ⟨_, List.getElem?_eq_getElem hi⟩
      rw [List.getD_eq_getElem?_getD, List.getD_eq_getElem?_getD, evalG_get hg, evalG_get hg]
      show gval vals _ g = gval mix _ g
      unfold gval
      by_cases h1 : g.k = 1
      · rw [if_pos h1, if_pos h1]
        have := hmix i g hg hon h1
        have h8 := hlow g (List.mem_of_getElem? hg) h1
        rw [this]
        have : decide (g.a ≤ (mix.length : Int)) = true := by rw [decide_eq_true_eq]; omega
        rw [this, Bool.true_and]; rfl
      · rw [if_neg h1, if_neg h1]
        by_cases h2 : g.k = 2
        · rw [if_pos h2, if_pos h2]
          have hwf := (hw i g hg).2 h2
          have hc := hcl i hon g hg h2
          have key : ∀ r : Int, 0 ≤ r → r / 2 < i → On on (r / 2).toNat → refv (evalG vals (c.take i)) r = refv (evalG mix (c.take i)) r := by
            intro r hr1 hr2 hr3
            have e := ih (r / 2).toNat (by omega) hr3
            have l1 : (r / 2).toNat < (evalG vals (c.take i)).length := by rw [evalG_length, List.length_take]; omega
            have l2 : (r / 2).toNat < (evalG mix (c.take i)).length := by rw [evalG_length, List.length_take]; omega
            rw [refv_mono (evalG_prefix (List.take_prefix i c) vals) l1, refv_mono (evalG_prefix (List.take_prefix i c) mix) l2]
            unfold refv
            rw [e]
          rw [key g.a hwf.1 hwf.2.1 hc.1, key g.b hwf.2.2.1 hwf.2.2.2 hc.2]
        · rw [if_neg h2, if_neg h2]
    · rw [List.getD_eq_getElem?_getD, List.getD_eq_getElem?_getD, List.getElem?_eq_none (by rw [evalG_length]; omega), List.getElem?_eq_none (by rw [evalG_length]; omega)]

theorem cone {c : List Gate} (h : Good c) (hlow : LowVars c) (vals other : List Bool) {r : Int} (h1 : 0 ≤ r) (h2 : r < 2 * (c.length : Int)) : ceval c (cmix vals other c r) r = ceval c vals r := by
  obtain ⟨c1, c2⟩ := creach_closed h.wf h1 h2
  rw [ceval_cv h1 h2, ceval_cv h1 h2]
  unfold cv refv
  rw [cone_gates h.wf hlow (vals := vals) (mix := cmix vals other c r) (on := creach c r) ?_ c2 ?_ _ c1]
  · rw [cmix_length]; exact (padded_length other).1
  · intro i g hg hon hk
    exact mix_get hlow (padded_length other).1 c.length i g (List.getElem?_eq_some_iff.1 hg).1 hg hon hk

/- Constructions use the variables 1 to 8. -/
theorem low_share {c : List Gate} {g : Gate} (h : LowVars c) (hg : g.k = 1 → 1 ≤ g.a ∧ g.a ≤ 8) : LowVars (cshare c g).1 := by
  unfold cshare
  split
  · exact h
  · split
    · exact h
    · intro x hx
      rcases List.mem_append.1 hx with hx | hx
      · exact h x hx
      · rw [List.mem_singleton.1 hx]; exact hg
theorem low_and {c : List Gate} {a b : Int} (h : LowVars c) : LowVars (cand c a b).1 := by
  unfold cand
  split
  · exact h
  · split
    · exact h
    · split
      · exact h
      · split
        · exact h
        · exact low_share h (fun e => by simp [gAnd] at e)
theorem low_do {c : List Gate} {refs : List Int} {s : Step} (h : LowVars c) : LowVars (cdo c refs s).1 := by
  unfold cdo
  split
  · unfold cinput
    split
    · exact h
    · exact low_share h (fun _ => by simp only [gInput]; omega)
  · split
    · exact low_and h
    · split
      · exact low_and h
      · exact low_and (low_and (low_and h))
theorem low_build (l : List Step) : LowVars (cbuild l).1 := by
  have key : ∀ (t : List Step) (x : List Gate × List Int), LowVars x.1 → LowVars (t.foldl cstep x).1 := by
    intro t
    induction t with
    | nil => intro x h; exact h
    | cons s t ih => intro x h; exact ih _ (low_do h)
  exact key l (cnew, []) (fun g hg hk => by simp [cnew] at hg; subst hg; cases hk)
end Go.Proofs.Ytanlecgpnknhoaa
