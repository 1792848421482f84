/- Plain laws: validity and values of circuits. -/
import Derived.Test.YtanlecgpnknhoaaPlain
namespace Go.Proofs.Ytanlecgpnknhoaa
set_option linter.unusedSimpArgs false
set_option linter.unusedVariables false

/-- what 'formed' asks -/
def formedB (k a b : Int) (i : Int) : Bool :=
  if k = 1 then decide (1 ≤ a ∧ a ≤ 20000 ∧ b = 0) else decide (k = 2 ∧ 2 ≤ a ∧ a < b ∧ b < 2 * i ∧ a / 2 ≠ b / 2)

def cvalidFrom (pre : List Gate) : List Gate → Bool
  | [] => true
  | g :: t => formedB g.k g.a g.b pre.length && !(pre.contains g) && cvalidFrom (pre ++ [g]) t
def cvalid : List Gate → Bool
  | [] => false
  | g :: t => decide (t.length + 1 ≤ 20000) && (decide (g = ⟨0, 0, 0⟩) && cvalidFrom [g] t)

theorem cvalid_nil : cvalid [] = false := rfl
theorem cvalid_long {c : List Gate} (h : 20000 < c.length) : cvalid c = false := by
  cases c with
  | nil => rfl
  | cons g t =>
    have : ¬ t.length + 1 ≤ 20000 := by simp at h; omega
    simp [cvalid, this]
theorem cvalid_head {c : List Gate} {g : Gate} (h : c[0]? = some g) (hg : g ≠ ⟨0, 0, 0⟩) : cvalid c = false := by
  cases c with
  | nil => rfl
  | cons x t =>
    obtain rfl : x = g := by simpa using h
    simp [cvalid, hg]
theorem cvalid_start {c : List Gate} {g : Gate} (h : c[0]? = some g) (hg : g = ⟨0, 0, 0⟩) (hl : ¬ 20000 < c.length) : cvalid c = cvalidFrom (c.take 1) (c.drop 1) := by
  cases c with
  | nil => simp at h
  | cons x t =>
    obtain rfl : x = g := by simpa using h
    have : t.length + 1 ≤ 20000 := by simp at hl; omega
    subst hg
    simp [cvalid, this]
theorem cvalidFrom_end {c : List Gate} {k : Nat} (h : c.length ≤ k) : cvalidFrom (c.take k) (c.drop k) = true := by
  rw [List.drop_eq_nil_of_le h]; rfl
theorem cvalidFrom_step {c : List Gate} {k : Nat} {g : Gate} (h : c[k]? = some g) :
    cvalidFrom (c.take k) (c.drop k) = (formedB g.k g.a g.b k && !((c.take k).contains g) && cvalidFrom (c.take (k + 1)) (c.drop (k + 1))) := by
  obtain ⟨hk, he⟩ := List.getElem?_eq_some_iff.1 h
  rw [List.drop_eq_getElem_cons hk, he]
  have e : c.take (k + 1) = c.take k ++ [g] := by rw [List.take_succ_eq_append_getElem hk, he]
  rw [e]
  show (formedB g.k g.a g.b ((c.take k).length : Nat) && _ && _) = _
  rw [List.length_take, Nat.min_eq_left (by omega)]
theorem take_contains {c : List Gate} {k : Nat} {g : Gate} (h : c[k]? = some g) : ((c.take k).contains g = true ↔ findI c g < k) := by
  unfold findI
  cases hf : cfind c g with
  | none =>
    exact absurd (List.mem_of_getElem? h) (cfind_none.1 hf)
  | some i =>
    obtain ⟨h1, h2⟩ := cfind_some hf
    simp only [List.contains_iff_mem]
    constructor
    · intro hm
      obtain ⟨j, hj⟩ := List.getElem?_of_mem hm
      rw [List.getElem?_take] at hj
      split at hj
      · rename_i hjk
        show (i : Int) < k
        have : ¬ j < i := fun hji => h2 j hji hj
        omega
      · simp at hj
    · intro hlt
      have hlt : (i : Int) < k := hlt
      have : (c.take k)[i]? = some g := by rw [List.getElem?_take, if_pos (by omega)]; exact h1
      exact List.mem_of_getElem? this

/-- A reference's value, given the values of the gates so far. -/
def refv (done : List Bool) (r : Int) : Bool := (done.getD (r / 2).toNat false) != decide (r % 2 = 1)
def gval (vals done : List Bool) (g : Gate) : Bool :=
  if g.k = 1 then decide (g.a ≤ vals.length) && vals.getD (g.a - 1).toNat false
  else if g.k = 2 then refv done g.a && refv done g.b else true
def evalG (vals : List Bool) (c : List Gate) : List Bool := c.foldl (fun done g => done ++ [gval vals done g]) []
def ceval (c : List Gate) (vals : List Bool) (r : Int) : Bool := refOk r c.length && refv (evalG vals (c.take ((r / 2).toNat + 1))) r

theorem evalG_nil (vals : List Bool) : evalG vals [] = [] := rfl
theorem evalG_snoc (vals : List Bool) (c : List Gate) (g : Gate) : evalG vals (c ++ [g]) = evalG vals c ++ [gval vals (evalG vals c) g] := by
  simp [evalG, List.foldl_append]
theorem evalG_length (vals : List Bool) (c : List Gate) : (evalG vals c).length = c.length := by
  suffices h : ∀ d : List Bool, (c.foldl (fun done g => done ++ [gval vals done g]) d).length = d.length + c.length by simpa [evalG] using h []
  induction c with
  | nil => simp
  | cons g t ih => intro d; simp only [List.foldl_cons]; rw [ih]; simp; omega

theorem ceval_bad {c : List Gate} {vals : List Bool} {r : Int} (h : ¬ (0 ≤ r ∧ r < 2 * (c.length : Int))) : ceval c vals r = false := by
  have : refOk r c.length = false := by simp only [refOk, decide_eq_false_iff_not]; exact h
  simp [ceval, this]
theorem ceval_nat {c : List Gate} {vals : List Bool} {R : Nat} (h : (R : Int) < 2 * (c.length : Int)) : ceval c vals R = refv (evalG vals (c.take (R / 2 + 1))) R := by
  have h1 : refOk (R : Int) c.length = true := by simp only [refOk, decide_eq_true_eq]; omega
  have h2 : ((R : Int) / 2).toNat = R / 2 := by omega
  simp only [ceval, h1, h2, Bool.true_and]
/-- What a circuit must be for its evaluation not to fall. -/
def WfC (c : List Gate) : Prop := ∀ (i : Nat) (g : Gate), c[i]? = some g → (g.k = 1 → 1 ≤ g.a) ∧ (g.k = 2 → 0 ≤ g.a ∧ g.a / 2 < i ∧ 0 ≤ g.b ∧ g.b / 2 < i)
end Go.Proofs.Ytanlecgpnknhoaa
