/- Plain laws on circuits: no program in sight. -/
namespace Go.Proofs.Ytanlecgpnknhoaa
set_option linter.unusedSimpArgs false
set_option linter.unusedVariables false

/-- A gate: kind, A, B. -/
structure Gate where
  k : Int
  a : Int
  b : Int
deriving DecidableEq

/-- are two gates equal: a Bool that the walk does not lay open -/
def gEq (a b c x y z : Int) : Bool := decide (a = x ∧ b = y ∧ c = z)
theorem gEq_true {g h : Gate} (e : g = h) : gEq g.k g.a g.b h.k h.a h.b = true := by subst e; simp [gEq]
theorem gEq_false {g h : Gate} (e : g ≠ h) : gEq g.k g.a g.b h.k h.a h.b = false := by
  cases g; cases h; simp [gEq] at *; intro h1 h2; exact e h1 h2

def gInput (v : Int) : Gate := ⟨1, v, 0⟩
def gAnd (a b : Int) : Gate := ⟨2, min a b, max a b⟩

def cnot (r : Int) : Int := if r < 0 then -1 else if r % 2 = 0 then r + 1 else r - 1

theorem cnot_neg {r : Int} (h : r < 0) : cnot r = -1 := by simp [cnot, h]
theorem cnot_pos {r : Int} (h : 0 ≤ r) : cnot r = if r % 2 = 0 then r + 1 else r - 1 := by simp [cnot, show ¬ r < 0 by omega]
theorem cnot_even {r : Int} (h : 0 ≤ r) (h2 : r % 2 = 0) : cnot r = r + 1 := by simp [cnot_pos h, h2]
theorem cnot_odd {r : Int} (h : 0 ≤ r) (h2 : ¬ r % 2 = 0) : cnot r = r - 1 := by simp [cnot_pos h, h2]

/-- index of the first gate equal to g, from n on -/
def findFrom (g : Gate) : List Gate → Nat → Option Nat
  | [], _ => none
  | h :: t, n => if h = g then some n else findFrom g t (n + 1)
def cfind (c : List Gate) (g : Gate) : Option Nat := findFrom g c 0
def findI (c : List Gate) (g : Gate) : Int := match cfind c g with | some i => i | none => -1

theorem findFrom_shift (g : Gate) (l : List Gate) (n : Nat) : findFrom g l n = (findFrom g l 0).map (· + n) := by
  induction l generalizing n with
  | nil => rfl
  | cons h t ih =>
    unfold findFrom
    split
    · simp
    · rw [ih (n + 1), ih (0 + 1)]
      cases findFrom g t 0 <;> simp; omega

theorem cfind_some {c : List Gate} {g : Gate} {i : Nat} (h : cfind c g = some i) : c[i]? = some g ∧ ∀ j, j < i → c[j]? ≠ some g := by
  unfold cfind at h
  induction c generalizing i with
  | nil => simp [findFrom] at h
  | cons x t ih =>
    unfold findFrom at h
    split at h
    · rename_i hx
      simp at h
      subst h hx
      simp
    · rename_i hx
      rw [findFrom_shift] at h
      cases hf : findFrom g t 0 with
      | none => simp [hf] at h
      | some k =>
        simp [hf] at h
        subst h
        obtain ⟨h1, h2⟩ := ih hf
        refine ⟨by simpa using h1, fun j hj => ?_⟩
        cases j with
        | zero => simpa using hx
        | succ j => simpa using h2 j (by omega)

theorem cfind_none {c : List Gate} {g : Gate} : cfind c g = none ↔ g ∉ c := by
  unfold cfind
  induction c with
  | nil => simp [findFrom]
  | cons x t ih =>
    unfold findFrom
    by_cases hx : x = g
    · simp [hx]
    · simp only [hx, if_false]
      rw [findFrom_shift]
      simp only [Option.map_eq_none_iff, ih, List.mem_cons, not_or]
      exact ⟨fun h => ⟨fun e => hx e.symm, h⟩, fun h => h.2⟩

theorem cfind_of {c : List Gate} {g : Gate} {i : Nat} (h : c[i]? = some g) (hj : ∀ j, j < i → c[j]? ≠ some g) : cfind c g = some i := by
  cases hc : cfind c g with
  | none =>
    rw [cfind_none] at hc
    exact absurd (List.mem_of_getElem? h) hc
  | some k =>
    obtain ⟨h1, h2⟩ := cfind_some hc
    have : ¬ k < i := fun hk => hj k hk h1
    have : ¬ i < k := fun hk => h2 i hk h
    congr 1; omega

def maxGates : Nat := 20000
def cshare (c : List Gate) (g : Gate) : List Gate × Int :=
  match cfind c g with
  | some i => (c, 2 * (i : Int))
  | none => if 20000 ≤ c.length then (c, -1) else (c ++ [g], 2 * (c.length : Int))
theorem cshare_some {c : List Gate} {g : Gate} {i : Nat} (h : cfind c g = some i) : cshare c g = (c, 2 * (i : Int)) := by simp [cshare, h]
theorem cshare_full {c : List Gate} {g : Gate} (h : cfind c g = none) (hl : 20000 ≤ c.length) : cshare c g = (c, -1) := by simp [cshare, h, hl]
theorem cshare_new {c : List Gate} {g : Gate} (h : cfind c g = none) (hl : ¬ 20000 ≤ c.length) : cshare c g = (c ++ [g], 2 * (c.length : Int)) := by simp [cshare, h, hl]
theorem findI_some {c : List Gate} {g : Gate} {i : Nat} (h : cfind c g = some i) : findI c g = i := by simp [findI, h]
theorem findI_none' {c : List Gate} {g : Gate} (h : cfind c g = none) : findI c g = -1 := by simp [findI, h]

def refOk (r : Int) (n : Nat) : Bool := decide (0 ≤ r ∧ r < 2 * (n : Int))
def cand (c : List Gate) (a b : Int) : List Gate × Int :=
  if refOk a c.length = false ∨ refOk b c.length = false then (c, -1)
  else if a = 1 ∨ b = 1 ∨ a = cnot b then (c, 1)
  else if a = 0 then (c, b)
  else if b = 0 ∨ a = b then (c, a)
  else cshare c (gAnd a b)
def cinput (c : List Gate) (v : Int) : List Gate × Int := if v < 1 ∨ 20000 < v then (c, -1) else cshare c (gInput v)
def cor (c : List Gate) (a b : Int) : List Gate × Int := ((cand c (cnot a) (cnot b)).1, cnot (cand c (cnot a) (cnot b)).2)
def ciff (c : List Gate) (a b : Int) : List Gate × Int :=
  let x := cand c a (cnot b)
  let y := cand x.1 (cnot a) b
  cand y.1 (cnot x.2) (cnot y.2)
theorem refOk_true {r : Int} {n : Nat} (h : refOk r n = true) : 0 ≤ r ∧ r < 2 * (n : Int) := by simpa [refOk] using h
theorem refOk_false {r : Int} {n : Nat} (h : refOk r n = false) : ¬ (0 ≤ r ∧ r < 2 * (n : Int)) := by simpa [refOk] using h
theorem cnot_cnot {a b : Int} (ha : 0 ≤ a) (hb : 0 ≤ b) : a = cnot b ↔ b = cnot a := by
  rw [cnot_pos ha, cnot_pos hb]; split <;> split <;> omega

theorem nat_xor_one (n : Nat) : n ^^^ 1 = if n % 2 = 0 then n + 1 else n - 1 := by
  have h1 : (n ^^^ 1) / 2 = n / 2 := by rw [Nat.xor_div_two]; simp
  have h2 := Nat.testBit_xor n 1 0
  simp only [Nat.testBit_zero] at h2
  rcases Nat.mod_two_eq_zero_or_one n with h | h <;> rcases Nat.mod_two_eq_zero_or_one (n ^^^ 1) with h' | h' <;> rw [h, h'] at h2 <;> first | (exact absurd h2 (by decide)) | (rw [h]; simp; omega)

end Go.Proofs.Ytanlecgpnknhoaa
