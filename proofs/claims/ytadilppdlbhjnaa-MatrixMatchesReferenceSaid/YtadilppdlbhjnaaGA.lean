namespace Go.Proofs.Ytadilppdlbhjnaa
set_option linter.unusedSimpArgs false
set_option linter.unusedVariables false
structure Gate where
 k : Int
 a : Int
 b : Int
deriving DecidableEq
def gEq (a b c x y z : Int) : Bool := decide (a = x ∧ b = y ∧ c = z)
theorem gEq_true {g h : Gate} (e : g = h) : gEq g.k g.a g.b h.k h.a h.b = true := by subst e; simp [gEq]
theorem gEq_false {g h : Gate} (e : g ≠ h) : gEq g.k g.a g.b h.k h.a h.b = false := by
 cases g; cases h; simp [gEq] at *; intro h1 h2; exact e h1 h2
def gInput (v : Int) : Gate := ⟨1, v, 0⟩
def gAnd (a b : Int) : Gate := ⟨2, min a b, max a b⟩
def cnot (r : Int) : Int := if r < 0 then -1 else if r % 2 = 0 then r + 1 else r - 1
theorem cnot_neg {r : Int} (h : r < 0) : cnot r = -1 := by simp [cnot, h]
theorem cnot_pos {r : Int} (h : 0 ≤ r) : cnot r = if r % 2 = 0 then r + 1 else r - 1 := by simp [cnot, show ¬ r < 0 by omega]
theorem cnot_even {r : Int} (h : 0 ≤ r) (h2 : r % 2 = 0) : cnot r = r + 1 := by simp [cnot_pos h, h2]
theorem cnot_odd {r : Int} (h : 0 ≤ r) (h2 : ¬ r % 2 = 0) : cnot r = r - 1 := by simp [cnot_pos h, h2]
def findFrom (g : Gate) : List Gate → Nat → Option Nat
 | [], _ => none
 | h :: t, n => if h = g then some n else findFrom g t (n + 1)
def cfind (c : List Gate) (g : Gate) : Option Nat := findFrom g c 0
def findI (c : List Gate) (g : Gate) : Int := match cfind c g with | some i => i | none => -1
theorem findFrom_shift (g : Gate) (l : List Gate) (n : Nat) : findFrom g l n = (findFrom g l 0).map (· + n) := by
 induction l generalizing n with
 | nil => rfl
 | cons h t ih =>
  unfold findFrom
  split
  · simp
  · rw [ih (n + 1), ih (0 + 1)]
    cases findFrom g t 0 <;> simp; omega
theorem cfind_some {c : List Gate} {g : Gate} {i : Nat} (h : cfind c g = some i) : c[i]? = some g ∧ ∀ j, j < i → c[j]? ≠ some g := by
 unfold cfind at h
 induction c generalizing i with
 | nil => simp [findFrom] at h
 | cons x t ih =>
  unfold findFrom at h
  split at h
  · rename_i hx
    simp at h
    subst h hx
    simp
  · rename_i hx
    rw [findFrom_shift] at h
    cases hf : findFrom g t 0 with
    | none => simp [hf] at h
    | some k =>
     simp [hf] at h
     subst h
     obtain ⟨h1, h2⟩ := ih hf
     refine ⟨by simpa using h1, fun j hj => ?_⟩
     cases j with
     | zero => simpa using hx
     | succ j => simpa using h2 j (by omega)
theorem cfind_none {c : List Gate} {g : Gate} : cfind c g = none ↔ g ∉ c := by
 unfold cfind
 induction c with
 | nil => simp [findFrom]
 | cons x t ih =>
  unfold findFrom
  by_cases hx : x = g
  · simp [hx]
  · simp only [hx, if_false]
    rw [findFrom_shift]
    simp only [Option.map_eq_none_iff, ih, List.mem_cons, not_or]
    exact ⟨fun h => ⟨fun e => hx e.symm, h⟩, fun h => h.2⟩
theorem cfind_of {c : List Gate} {g : Gate} {i : Nat} (h : c[i]? = some g) (hj : ∀ j, j < i → c[j]? ≠ some g) : cfind c g = some i := by
 cases hc : cfind c g with
 | none =>
  rw [cfind_none] at hc
  exact absurd (List.mem_of_getElem? h) hc
 | some k =>
  obtain ⟨h1, h2⟩ := cfind_some hc
  have : ¬ k < i := fun hk => hj k hk h1
  have : ¬ i < k := fun hk => h2 i hk h
  congr 1; omega
def cshare (c : List Gate) (g : Gate) : List Gate × Int :=
 match cfind c g with
 | some i => (c, 2 * (i : Int))
 | none => if 20000 ≤ c.length then (c, -1) else (c ++ [g], 2 * (c.length : Int))
theorem cshare_some {c : List Gate} {g : Gate} {i : Nat} (h : cfind c g = some i) : cshare c g = (c, 2 * (i : Int)) := by simp [cshare, h]
theorem cshare_full {c : List Gate} {g : Gate} (h : cfind c g = none) (hl : 20000 ≤ c.length) : cshare c g = (c, -1) := by simp [cshare, h, hl]
theorem cshare_new {c : List Gate} {g : Gate} (h : cfind c g = none) (hl : ¬ 20000 ≤ c.length) : cshare c g = (c ++ [g], 2 * (c.length : Int)) := by simp [cshare, h, hl]
theorem findI_some {c : List Gate} {g : Gate} {i : Nat} (h : cfind c g = some i) : findI c g = i := by simp [findI, h]
theorem findI_none' {c : List Gate} {g : Gate} (h : cfind c g = none) : findI c g = -1 := by simp [findI, h]
def refOk (r : Int) (n : Nat) : Bool := decide (0 ≤ r ∧ r < 2 * (n : Int))
def cand (c : List Gate) (a b : Int) : List Gate × Int :=
 if refOk a c.length = false ∨ refOk b c.length = false then (c, -1)
 else if a = 1 ∨ b = 1 ∨ a = cnot b then (c, 1)
 else if a = 0 then (c, b)
 else if b = 0 ∨ a = b then (c, a)
 else cshare c (gAnd a b)
def cinput (c : List Gate) (v : Int) : List Gate × Int := if v < 1 ∨ 20000 < v then (c, -1) else cshare c (gInput v)
def cor (c : List Gate) (a b : Int) : List Gate × Int := ((cand c (cnot a) (cnot b)).1, cnot (cand c (cnot a) (cnot b)).2)
def ciff (c : List Gate) (a b : Int) : List Gate × Int :=
 let x := cand c a (cnot b)
 let y := cand x.1 (cnot a) b
 cand y.1 (cnot x.2) (cnot y.2)
theorem refOk_true {r : Int} {n : Nat} (h : refOk r n = true) : 0 ≤ r ∧ r < 2 * (n : Int) := by simpa [refOk] using h
theorem cnot_cnot {a b : Int} (ha : 0 ≤ a) (hb : 0 ≤ b) : a = cnot b ↔ b = cnot a := by
 rw [cnot_pos ha, cnot_pos hb]; split <;> split <;> omega
theorem nat_xor_one (n : Nat) : n ^^^ 1 = if n % 2 = 0 then n + 1 else n - 1 := by
 have h1 : (n ^^^ 1) / 2 = n / 2 := by rw [Nat.xor_div_two]; simp
 have h2 := Nat.testBit_xor n 1 0
 simp only [Nat.testBit_zero] at h2
 rcases Nat.mod_two_eq_zero_or_one n with h | h <;> rcases Nat.mod_two_eq_zero_or_one (n ^^^ 1) with h' | h' <;> rw [h, h'] at h2 <;> first | (exact absurd h2 (by decide)) | (rw [h]; simp; omega)
end Go.Proofs.Ytadilppdlbhjnaa
namespace Go.Proofs.Ytadilppdlbhjnaa
set_option linter.unusedSimpArgs false
set_option linter.unusedVariables false
def formedB (k a b : Int) (i : Int) : Bool :=
 if k = 1 then decide (1 ≤ a ∧ a ≤ 20000 ∧ b = 0) else decide (k = 2 ∧ 2 ≤ a ∧ a < b ∧ b < 2 * i ∧ a / 2 ≠ b / 2)
def cvalidFrom (pre : List Gate) : List Gate → Bool
 | [] => true
 | g :: t => formedB g.k g.a g.b pre.length && !(pre.contains g) && cvalidFrom (pre ++ [g]) t
def cvalid : List Gate → Bool
 | [] => false
 | g :: t => decide (t.length + 1 ≤ 20000) && (decide (g = ⟨0, 0, 0⟩) && cvalidFrom [g] t)
theorem cvalid_start {c : List Gate} {g : Gate} (h : c[0]? = some g) (hg : g = ⟨0, 0, 0⟩) (hl : ¬ 20000 < c.length) : cvalid c = cvalidFrom (c.take 1) (c.drop 1) := by
 cases c with
 | nil => simp at h
 | cons x t =>
  obtain rfl : x = g := by simpa using h
  have : t.length + 1 ≤ 20000 := by simp at hl; omega
  subst hg
  simp [cvalid, this]
theorem cvalidFrom_end {c : List Gate} {k : Nat} (h : c.length ≤ k) : cvalidFrom (c.take k) (c.drop k) = true := by
 rw [List.drop_eq_nil_of_le h]; rfl
theorem cvalidFrom_step {c : List Gate} {k : Nat} {g : Gate} (h : c[k]? = some g) :
 cvalidFrom (c.take k) (c.drop k) = (formedB g.k g.a g.b k && !((c.take k).contains g) && cvalidFrom (c.take (k + 1)) (c.drop (k + 1))) := by
 obtain ⟨hk, he⟩ := List.getElem?_eq_some_iff.1 h
 rw [List.drop_eq_getElem_cons hk, he]
 have e : c.take (k + 1) = c.take k ++ [g] := by rw [List.take_succ_eq_append_getElem hk, he]
 rw [e]
 show (formedB g.k g.a g.b ((c.take k).length : Nat) && _ && _) = _
 rw [List.length_take, Nat.min_eq_left (by omega)]
theorem take_contains {c : List Gate} {k : Nat} {g : Gate} (h : c[k]? = some g) : ((c.take k).contains g = true ↔ findI c g < k) := by
 unfold findI
 cases hf : cfind c g with
 | none =>
  exact absurd (List.mem_of_getElem? h) (cfind_none.1 hf)
 | some i =>
  obtain ⟨h1, h2⟩ := cfind_some hf
  simp only [List.contains_iff_mem]
  constructor
  · intro hm
    obtain ⟨j, hj⟩ := List.getElem?_of_mem hm
    rw [List.getElem?_take] at hj
    split at hj
    · rename_i hjk
      show (i : Int) < k
      have : ¬ j < i := fun hji => h2 j hji hj
      omega
    · simp at hj
  · intro hlt
    have hlt : (i : Int) < k := hlt
    have : (c.take k)[i]? = some g := by rw [List.getElem?_take, if_pos (by omega)]; exact h1
    exact List.mem_of_getElem? this
def refv (done : List Bool) (r : Int) : Bool := (done.getD (r / 2).toNat false) != decide (r % 2 = 1)
def gval (vals done : List Bool) (g : Gate) : Bool :=
 if g.k = 1 then decide (g.a ≤ vals.length) && vals.getD (g.a - 1).toNat false
 else if g.k = 2 then refv done g.a && refv done g.b else true
def evalG (vals : List Bool) (c : List Gate) : List Bool := c.foldl (fun done g => done ++ [gval vals done g]) []
def ceval (c : List Gate) (vals : List Bool) (r : Int) : Bool := refOk r c.length && refv (evalG vals (c.take ((r / 2).toNat + 1))) r
theorem evalG_snoc (vals : List Bool) (c : List Gate) (g : Gate) : evalG vals (c ++ [g]) = evalG vals c ++ [gval vals (evalG vals c) g] := by
 simp [evalG, List.foldl_append]
theorem evalG_length (vals : List Bool) (c : List Gate) : (evalG vals c).length = c.length := by
 suffices h : ∀ d : List Bool, (c.foldl (fun done g => done ++ [gval vals done g]) d).length = d.length + c.length by simpa [evalG] using h []
 induction c with
 | nil => simp
 | cons g t ih => intro d; simp only [List.foldl_cons]; rw [ih]; simp; omega
theorem ceval_bad {c : List Gate} {vals : List Bool} {r : Int} (h : ¬ (0 ≤ r ∧ r < 2 * (c.length : Int))) : ceval c vals r = false := by
 have : refOk r c.length = false := by simp only [refOk, decide_eq_false_iff_not]; exact h
 simp [ceval, this]
theorem ceval_nat {c : List Gate} {vals : List Bool} {R : Nat} (h : (R : Int) < 2 * (c.length : Int)) : ceval c vals R = refv (evalG vals (c.take (R / 2 + 1))) R := by
 have h1 : refOk (R : Int) c.length = true := by simp only [refOk, decide_eq_true_eq]; omega
 have h2 : ((R : Int) / 2).toNat = R / 2 := by omega
 simp only [ceval, h1, h2, Bool.true_and]
def WfC (c : List Gate) : Prop := ∀ (i : Nat) (g : Gate), c[i]? = some g → (g.k = 1 → 1 ≤ g.a) ∧ (g.k = 2 → 0 ≤ g.a ∧ g.a / 2 < i ∧ 0 ≤ g.b ∧ g.b / 2 < i)
end Go.Proofs.Ytadilppdlbhjnaa
namespace Go.Proofs.Ytadilppdlbhjnaa
set_option linter.unusedSimpArgs false
set_option linter.unusedVariables false
structure Step where
 k : Nat
 a : Nat
 b : Nat
def cpickR (refs : List Int) (n : Nat) : Int := if 0 < n / 2 % (refs.length + 1) then refs.getD (n / 2 % (refs.length + 1) - 1) 0 else 0
def cpick (refs : List Int) (n : Nat) : Int := if n % 2 = 1 then cnot (cpickR refs n) else cpickR refs n
def cdo (c : List Gate) (refs : List Int) (s : Step) : List Gate × Int :=
 if s.k % 4 = 0 then cinput c ((s.a : Int) % 8 + 1)
 else if s.k % 4 = 1 then cand c (cpick refs s.a) (cpick refs s.b)
 else if s.k % 4 = 2 then cor c (cpick refs s.a) (cpick refs s.b)
 else ciff c (cpick refs s.a) (cpick refs s.b)
def cnew : List Gate := [⟨0, 0, 0⟩]
def cstep (x : List Gate × List Int) (s : Step) : List Gate × List Int := ((cdo x.1 x.2 s).1, x.2 ++ [(cdo x.1 x.2 s).2])
def cbuild (l : List Step) : List Gate × List Int := l.foldl cstep (cnew, [])
theorem cbuild_snoc (l : List Step) (s : Step) : cbuild (l ++ [s]) = cstep (cbuild l) s := by simp [cbuild, List.foldl_append]
end Go.Proofs.Ytadilppdlbhjnaa
namespace Go.Proofs.Ytadilppdlbhjnaa
set_option linter.unusedSimpArgs false
set_option linter.unusedVariables false
structure Good (c : List Gate) : Prop where
 head : c[0]? = some ⟨0, 0, 0⟩
 formed : ∀ (i : Nat) (g : Gate), 0 < i → c[i]? = some g → formedB g.k g.a g.b i = true
 nodup : ∀ (i j : Nat) (g : Gate), c[i]? = some g → c[j]? = some g → i = j
theorem formedB_inv {k a b i : Int} (h : formedB k a b i = true) : (k = 1 ∧ 1 ≤ a ∧ a ≤ 20000 ∧ b = 0) ∨ (k = 2 ∧ 2 ≤ a ∧ a < b ∧ b < 2 * i ∧ a / 2 ≠ b / 2) := by
 unfold formedB at h
 split at h
 · exact .inl ⟨by assumption, by simpa using h⟩
 · exact .inr (by simpa using h)
theorem Good.wf {c : List Gate} (h : Good c) : WfC c := by
 intro i g hg
 cases i with
 | zero =>
  have := h.head; rw [hg] at this
  obtain rfl : g = ⟨0, 0, 0⟩ := by simpa using this
  exact ⟨fun e => absurd e (by simp), fun e => absurd e (by simp)⟩
 | succ i =>
  have hf := h.formed (i + 1) g (by omega) hg
  rcases formedB_inv hf with ⟨h1, h2, _, _⟩ | ⟨h1, h2, h3, h4, h5⟩
  · exact ⟨fun _ => h2, fun e => absurd (h1.symm.trans e) (by simp)⟩
  · exact ⟨fun e => absurd (h1.symm.trans e) (by simp), fun _ => ⟨by omega, by omega, by omega, by omega⟩⟩
theorem Good.ne {c : List Gate} (h : Good c) : 0 < c.length := by
 have := h.head; cases c <;> simp at *
theorem Good.validFrom {c : List Gate} (h : Good c) (k : Nat) (hk : 0 < k) : cvalidFrom (c.take k) (c.drop k) = true := by
 by_cases hlt : k < c.length
 · obtain ⟨g, hg⟩ : ∃ g, c[k]? = some g := ⟨_, List.getElem?_eq_getElem hlt⟩
   rw [cvalidFrom_step hg, h.formed k g hk hg, Good.validFrom h (k + 1) (by omega)]
   have : (c.take k).contains g = false := by
    cases hc : (c.take k).contains g with
    | false => rfl
    | true =>
     rw [take_contains hg] at hc
     unfold findI at hc
     cases hf : cfind c g with
     | none => exact absurd (List.mem_of_getElem? hg) (cfind_none.1 hf)
     | some i =>
      rw [hf] at hc
      have hc : (i : Int) < k := hc
      have := h.nodup i k g (cfind_some hf).1 hg
      omega
   rw [this]; rfl
 · exact cvalidFrom_end (by omega)
termination_by c.length - k
theorem Good.valid {c : List Gate} (h : Good c) (hl : c.length ≤ 20000) : cvalid c = true := by
 rw [cvalid_start h.head rfl (by omega)]; exact h.validFrom 1 (by omega)
theorem good_new : Good cnew := by
 refine ⟨rfl, fun i g hi hg => ?_, fun i j g h1 h2 => ?_⟩
 · cases i with
   | zero => omega
   | succ i => simp [cnew] at hg
 · cases i <;> cases j <;> simp [cnew] at *
theorem Good.snoc {c : List Gate} {g : Gate} (h : Good c) (hf : formedB g.k g.a g.b c.length = true) (hn : g ∉ c) : Good (c ++ [g]) := by
 have hl := h.ne
 refine ⟨by rw [List.getElem?_append_left hl]; exact h.head, fun i x hi hx => ?_, fun i j x h1 h2 => ?_⟩
 · by_cases hc : i < c.length
   · rw [List.getElem?_append_left hc] at hx; exact h.formed i x hi hx
   · rw [List.getElem?_append_right (by omega)] at hx
     have : i - c.length = 0 := by
      cases hh : i - c.length with
      | zero => rfl
      | succ n => rw [hh] at hx; simp at hx
     rw [this] at hx
     obtain rfl : g = x := by simpa using hx
     have : i = c.length := by omega
     rw [this]; exact hf
 · have key : ∀ i, (c ++ [g])[i]? = some x → (i < c.length ∧ c[i]? = some x) ∨ (i = c.length ∧ x = g) := by
    intro i hi
    by_cases hc : i < c.length
    · rw [List.getElem?_append_left hc] at hi; exact .inl ⟨hc, hi⟩
    · rw [List.getElem?_append_right (by omega)] at hi
      cases hh : i - c.length with
      | zero => rw [hh] at hi; exact .inr ⟨by omega, by simpa using hi.symm⟩
      | succ n => rw [hh] at hi; simp at hi
   rcases key i h1 with ⟨a1, a2⟩ | ⟨a1, a2⟩ <;> rcases key j h2 with ⟨b1, b2⟩ | ⟨b1, b2⟩
   · exact h.nodup i j x a2 b2
   · exact absurd (List.mem_of_getElem? a2) (b2 ▸ hn)
   · exact absurd (List.mem_of_getElem? b2) (a2 ▸ hn)
   · omega
theorem cshare_cases (c : List Gate) (g : Gate) (hl : c.length < 20000) :
 (∃ i, i < c.length ∧ c[i]? = some g ∧ cshare c g = (c, 2 * (i : Int))) ∨ (g ∉ c ∧ cshare c g = (c ++ [g], 2 * (c.length : Int))) := by
 cases hf : cfind c g with
 | some i =>
  have h := (cfind_some hf).1
  exact .inl ⟨i, (List.getElem?_eq_some_iff.1 h).1, h, cshare_some hf⟩
 | none => exact .inr ⟨cfind_none.1 hf, cshare_new hf (by omega)⟩
structure Keeps (c : List Gate) (r : List Gate × Int) (k : Nat) : Prop where
 good : Good r.1
 ext : c <+: r.1
 len : r.1.length ≤ c.length + k
 low : 0 ≤ r.2
 high : r.2 < 2 * (r.1.length : Int)
theorem Keeps.le {c : List Gate} {r : List Gate × Int} {k : Nat} (h : Keeps c r k) : c.length ≤ r.1.length := h.ext.length_le
theorem Keeps.up {c : List Gate} {r : List Gate × Int} {k m : Nat} (h : Keeps c r k) (hm : k ≤ m) : Keeps c r m := ⟨h.good, h.ext, by have := h.len; omega, h.low, h.high⟩
theorem Keeps.of_self {c : List Gate} {r : Int} (h : Good c) (h1 : 0 ≤ r) (h2 : r < 2 * (c.length : Int)) (k : Nat) : Keeps c (c, r) k :=
 ⟨h, List.prefix_refl _, by simp, h1, h2⟩
theorem keeps_share {c : List Gate} {g : Gate} (h : Good c) (hl : c.length < 20000) (hf : formedB g.k g.a g.b c.length = true) : Keeps c (cshare c g) 1 := by
 rcases cshare_cases c g hl with ⟨i, hi, _, e⟩ | ⟨hn, e⟩
 · rw [e]; exact Keeps.of_self h (by omega) (by omega) 1
 · rw [e]
   refine ⟨h.snoc hf hn, List.prefix_append _ _, by simp, ?_, ?_⟩
   · show (0 : Int) ≤ 2 * (c.length : Int); omega
   · show 2 * (c.length : Int) < 2 * ((c ++ [g]).length : Int); simp; omega
theorem keeps_input {c : List Gate} {v : Int} (h : Good c) (hl : c.length < 20000) (h1 : 1 ≤ v) (h2 : v ≤ 20000) : Keeps c (cinput c v) 1 := by
 unfold cinput
 rw [if_neg (by omega)]
 exact keeps_share h hl (by simp [formedB, gInput]; omega)
theorem cnot_bounds {r : Int} {n : Nat} (h1 : 0 ≤ r) (h2 : r < 2 * (n : Int)) : 0 ≤ cnot r ∧ cnot r < 2 * (n : Int) := by
 rw [cnot_pos h1]; split <;> omega
theorem cnot_half {r : Int} (h : 0 ≤ r) : cnot r / 2 = r / 2 := by rw [cnot_pos h]; split <;> omega
theorem cnot_mod {r : Int} (h : 0 ≤ r) : cnot r % 2 = 1 - r % 2 := by rw [cnot_pos h]; split <;> omega
theorem cand_cases {c : List Gate} {a b : Int} (ha1 : 0 ≤ a) (ha2 : a < 2 * (c.length : Int)) (hb1 : 0 ≤ b) (hb2 : b < 2 * (c.length : Int)) :
 ((a = 1 ∨ b = 1 ∨ a = cnot b) ∧ cand c a b = (c, 1)) ∨ (a = 0 ∧ cand c a b = (c, b)) ∨ ((b = 0 ∨ a = b) ∧ cand c a b = (c, a)) ∨
 (2 ≤ a ∧ 2 ≤ b ∧ a / 2 ≠ b / 2 ∧ cand c a b = cshare c (gAnd a b)) := by
 have r1 : ¬ (refOk a c.length = false ∨ refOk b c.length = false) := by simp [refOk]; omega
 unfold cand
 rw [if_neg r1]
 by_cases h1 : a = 1 ∨ b = 1 ∨ a = cnot b
 · rw [if_pos h1]; exact .inl ⟨h1, rfl⟩
 · rw [if_neg h1]
   by_cases h2 : a = 0
   · rw [if_pos h2]; exact .inr (.inl ⟨h2, rfl⟩)
   · rw [if_neg h2]
     by_cases h3 : b = 0 ∨ a = b
     · rw [if_pos h3]; exact .inr (.inr (.inl ⟨h3, rfl⟩))
     · rw [if_neg h3]
       refine .inr (.inr (.inr ⟨by omega, by omega, ?_, rfl⟩))
       rw [cnot_pos hb1] at h1
       split at h1 <;> omega
theorem keeps_and {c : List Gate} {a b : Int} (h : Good c) (hl : c.length < 20000) (ha1 : 0 ≤ a) (ha2 : a < 2 * (c.length : Int)) (hb1 : 0 ≤ b) (hb2 : b < 2 * (c.length : Int)) : Keeps c (cand c a b) 1 := by
 have := h.ne
 rcases cand_cases ha1 ha2 hb1 hb2 with ⟨_, e⟩ | ⟨_, e⟩ | ⟨_, e⟩ | ⟨h1, h2, h3, e⟩ <;> rw [e]
 · exact Keeps.of_self h (by omega) (by omega) 1
 · exact Keeps.of_self h hb1 hb2 1
 · exact Keeps.of_self h ha1 ha2 1
 · refine keeps_share h hl ?_
   simp only [formedB, gAnd]
   rw [if_neg (by omega)]
   have hne : a ≠ b := fun e => h3 (by rw [e])
   rcases Int.le_total a b with h | h
   · rw [Int.min_eq_left h, Int.max_eq_right h]; rw [decide_eq_true_eq]; refine ⟨trivial, ?_, ?_, ?_, ?_⟩ <;> omega
   · rw [Int.min_eq_right h, Int.max_eq_left h]; rw [decide_eq_true_eq]; refine ⟨trivial, ?_, ?_, ?_, ?_⟩ <;> omega
theorem Keeps.refs {c : List Gate} {r : List Gate × Int} {k : Nat} (h : Keeps c r k) {x : Int} (h2 : x < 2 * (c.length : Int)) : x < 2 * (r.1.length : Int) := by
 have := h.le; omega
theorem keeps_or {c : List Gate} {a b : Int} (h : Good c) (hl : c.length < 20000) (ha1 : 0 ≤ a) (ha2 : a < 2 * (c.length : Int)) (hb1 : 0 ≤ b) (hb2 : b < 2 * (c.length : Int)) : Keeps c (cor c a b) 1 := by
 have na := cnot_bounds ha1 ha2
 have nb := cnot_bounds hb1 hb2
 have k := keeps_and h hl na.1 na.2 nb.1 nb.2
 have nk := cnot_bounds k.low k.high
 exact ⟨k.good, k.ext, k.len, nk.1, nk.2⟩
theorem keeps_iff {c : List Gate} {a b : Int} (h : Good c) (hl : c.length + 3 ≤ 20000) (ha1 : 0 ≤ a) (ha2 : a < 2 * (c.length : Int)) (hb1 : 0 ≤ b) (hb2 : b < 2 * (c.length : Int)) : Keeps c (ciff c a b) 3 := by
 have na := cnot_bounds ha1 ha2
 have nb := cnot_bounds hb1 hb2
 have k1 := keeps_and h (by omega) ha1 ha2 nb.1 nb.2
 have l1 := k1.len
 have k2 := keeps_and k1.good (by omega) na.1 (k1.refs na.2) hb1 (k1.refs hb2)
 have l2 := k2.len
 have nx := cnot_bounds k1.low k1.high
 have ny := cnot_bounds k2.low k2.high
 have k3 := keeps_and k2.good (by omega) nx.1 (k2.refs nx.2) ny.1 ny.2
 have l3 := k3.len
 refine ⟨k3.good, k1.ext.trans (k2.ext.trans k3.ext), ?_, k3.low, k3.high⟩
 show (cand _ _ _).1.length ≤ _
 omega
def RefsIn (refs : List Int) (n : Nat) : Prop := ∀ r ∈ refs, 0 ≤ r ∧ r < 2 * (n : Int)
theorem RefsIn.up {refs : List Int} {n m : Nat} (h : RefsIn refs n) (hm : n ≤ m) : RefsIn refs m := fun r hr => ⟨(h r hr).1, by have := (h r hr).2; omega⟩
theorem cpick_in {refs : List Int} {n : Nat} (h : RefsIn refs n) (hn : 0 < n) (k : Nat) : 0 ≤ cpick refs k ∧ cpick refs k < 2 * (n : Int) := by
 have hR : 0 ≤ cpickR refs k ∧ cpickR refs k < 2 * (n : Int) := by
  unfold cpickR
  split
  · rename_i hk
    have hlt : k / 2 % (refs.length + 1) < refs.length + 1 := Nat.mod_lt _ (by omega)
    have : k / 2 % (refs.length + 1) - 1 < refs.length := by omega
    rw [List.getD_eq_getElem?_getD, List.getElem?_eq_getElem this]
    exact h _ (List.getElem_mem this)
  · omega
 unfold cpick
 split
 · exact cnot_bounds hR.1 hR.2
 · exact hR
theorem keeps_do {c : List Gate} {refs : List Int} {s : Step} (h : Good c) (hl : c.length + 3 ≤ 20000) (hr : RefsIn refs c.length) : Keeps c (cdo c refs s) 3 := by
 have ha := cpick_in hr h.ne s.a
 have hb := cpick_in hr h.ne s.b
 unfold cdo
 split
 · exact (keeps_input h (by omega) (by omega) (by omega)).up (by omega)
 · split
   · exact (keeps_and h (by omega) ha.1 ha.2 hb.1 hb.2).up (by omega)
   · split
     · exact (keeps_or h (by omega) ha.1 ha.2 hb.1 hb.2).up (by omega)
     · exact keeps_iff h (by omega) ha.1 ha.2 hb.1 hb.2
structure Built (x : List Gate × List Int) (n : Nat) : Prop where
 good : Good x.1
 len : x.1.length ≤ 1 + 3 * n
 refs : RefsIn x.2 x.1.length
 cnt : x.2.length = n
theorem built_step {x : List Gate × List Int} {n : Nat} {s : Step} (h : Built x n) (hn : n ≤ 1000) : Built (cstep x s) (n + 1) := by
 have hl := h.len
 have k := keeps_do (s := s) h.good (by omega) h.refs
 have := k.len
 refine ⟨k.good, by show (cdo _ _ _).1.length ≤ _; omega, ?_, by simp [cstep, h.cnt]⟩
 intro r hr
 rcases List.mem_append.1 hr with h' | h'
 · exact h.refs.up k.le r h'
 · rw [List.mem_singleton.1 h']; exact ⟨k.low, k.high⟩
theorem built (l : List Step) (hl : l.length ≤ 1000) : Built (cbuild l) l.length := by
 have key : ∀ (t : List Step) (x : List Gate × List Int) (n : Nat), Built x n → n + t.length ≤ 1000 → Built (t.foldl cstep x) (n + t.length) := by
  intro t
  induction t with
  | nil => intro x n h _; exact h
  | cons s t ih =>
   intro x n h hn
   simp only [List.length_cons] at hn
   have := ih (cstep x s) (n + 1) (built_step h (by omega)) (by omega)
   simp only [List.foldl_cons, List.length_cons]
   rw [show n + (t.length + 1) = n + 1 + t.length by omega]; exact this
 have := key l (cnew, []) 0 ⟨good_new, by decide, fun r hr => (by cases hr), rfl⟩ (by omega)
 rw [Nat.zero_add] at this; exact this
end Go.Proofs.Ytadilppdlbhjnaa
namespace Go.Proofs.Ytadilppdlbhjnaa
set_option linter.unusedSimpArgs false
set_option linter.unusedVariables false
section
variable {c : List Gate} {x : Int} (h1 : 0 ≤ x) (h2 : x < 2 * (c.length : Int)) (hc : 0 < c.length)
include h1 h2 hc
theorem refOks : refOk x c.length = true ∧ refOk 0 c.length = true ∧ refOk 1 c.length = true ∧ refOk (cnot x) c.length = true := by
 have := cnot_bounds h1 h2
 refine ⟨?_, ?_, ?_, ?_⟩ <;> (simp only [refOk, decide_eq_true_eq]; omega)
theorem and_1 : cand c 1 x = (c, 1) := by
 obtain ⟨a, b, d, e⟩ := refOks h1 h2 hc
 unfold cand
 simp [a, d]
end
end Go.Proofs.Ytadilppdlbhjnaa
namespace Go.Proofs.Ytadilppdlbhjnaa
set_option linter.unusedSimpArgs false
set_option linter.unusedVariables false
def estep (vals : List Bool) (done : List Bool) (g : Gate) : List Bool := done ++ [gval vals done g]
theorem evalG_append (vals : List Bool) (c t : List Gate) : evalG vals (c ++ t) = t.foldl (estep vals) (evalG vals c) := by
 show (c ++ t).foldl (estep vals) [] = _
 rw [List.foldl_append]; rfl
theorem fold_prefix (vals : List Bool) (t : List Gate) : ∀ d : List Bool, d <+: t.foldl (estep vals) d := by
 induction t with
 | nil => intro d; exact List.prefix_refl _
 | cons g t ih => intro d; exact (List.prefix_append d [gval vals d g]).trans (ih _)
theorem evalG_prefix {c d : List Gate} (h : c <+: d) (vals : List Bool) : evalG vals c <+: evalG vals d := by
 obtain ⟨t, rfl⟩ := h
 rw [evalG_append]; exact fold_prefix _ _ _
theorem prefix_get {α : Type} {c d : List α} (h : c <+: d) {i : Nat} {x : α} (hx : c[i]? = some x) : d[i]? = some x := by
 obtain ⟨t, rfl⟩ := h
 rw [List.getElem?_append_left (List.getElem?_eq_some_iff.1 hx).1]; exact hx
theorem prefix_get' {α : Type} {c d : List α} (h : c <+: d) {i : Nat} (hi : i < c.length) : d[i]? = c[i]? := by
 obtain ⟨t, rfl⟩ := h
 rw [List.getElem?_append_left hi]
theorem evalG_get {vals : List Bool} {c : List Gate} {i : Nat} {g : Gate} (h : c[i]? = some g) : (evalG vals c)[i]? = some (gval vals (evalG vals (c.take i)) g) := by
 obtain ⟨hi, he⟩ := List.getElem?_eq_some_iff.1 h
 have h1 : evalG vals (c.take (i + 1)) = evalG vals (c.take i) ++ [gval vals (evalG vals (c.take i)) g] := by
  rw [List.take_succ_eq_append_getElem hi, he, evalG_snoc]
 have h2 := evalG_prefix (List.take_prefix (i + 1) c) vals
 refine prefix_get h2 ?_
 rw [h1]
 have : (evalG vals (c.take i)).length = i := by rw [evalG_length, List.length_take]; omega
 rw [List.getElem?_append_right (by omega), this]
 simp
theorem refv_mono {d1 d2 : List Bool} (h : d1 <+: d2) {r : Int} (hr : (r / 2).toNat < d1.length) : refv d1 r = refv d2 r := by
 unfold refv
 rw [List.getD_eq_getElem?_getD, List.getD_eq_getElem?_getD, prefix_get' h hr]
def cv (c : List Gate) (vals : List Bool) (r : Int) : Bool := refv (evalG vals c) r
theorem ceval_cv {c : List Gate} {vals : List Bool} {r : Int} (h1 : 0 ≤ r) (h2 : r < 2 * (c.length : Int)) : ceval c vals r = cv c vals r := by
 have : refOk r c.length = true := by simp only [refOk, decide_eq_true_eq]; omega
 unfold ceval cv
 rw [this, Bool.true_and]
 refine refv_mono (evalG_prefix (List.take_prefix _ _) _) ?_
 rw [evalG_length, List.length_take]; omega
theorem cv_ext {c d : List Gate} (h : c <+: d) {vals : List Bool} {r : Int} (h1 : 0 ≤ r) (h2 : r < 2 * (c.length : Int)) : cv d vals r = cv c vals r := by
 unfold cv
 refine (refv_mono (evalG_prefix h _) ?_).symm
 rw [evalG_length]; omega
theorem cv_not {c : List Gate} {vals : List Bool} {r : Int} (h : 0 ≤ r) : cv c vals (cnot r) = !cv c vals r := by
 unfold cv refv
 rw [cnot_half h, cnot_mod h]
 rcases Int.emod_two_eq r with e | e <;> rw [e] <;> cases (evalG vals c).getD (r / 2).toNat false <;> rfl
theorem cv_0 {c : List Gate} (h : Good c) (vals : List Bool) : cv c vals 0 = true := by
 have := evalG_get (vals := vals) h.head
 unfold cv refv
 rw [List.getD_eq_getElem?_getD, show ((0 : Int) / 2).toNat = 0 from rfl, this]
 rfl
theorem cv_1 {c : List Gate} (h : Good c) (vals : List Bool) : cv c vals 1 = false := by
 have := cv_not (c := c) (vals := vals) (r := 0) (by omega)
 rw [cv_0 h] at this; exact this
theorem cv_gate {c : List Gate} {vals : List Bool} {i : Nat} {g : Gate} (h : c[i]? = some g) : cv c vals (2 * (i : Int)) = gval vals (evalG vals (c.take i)) g := by
 unfold cv refv
 have e1 : (2 * (i : Int) / 2).toNat = i := by omega
 have e2 : (2 * (i : Int)) % 2 = 0 := by omega
 rw [e1, e2, List.getD_eq_getElem?_getD, evalG_get h]
 simp
theorem cshare_at (c : List Gate) (g : Gate) (hl : c.length < 20000) : ∃ i : Nat, (cshare c g).2 = 2 * (i : Int) ∧ (cshare c g).1[i]? = some g := by
 rcases cshare_cases c g hl with ⟨i, _, h, e⟩ | ⟨_, e⟩
 · exact ⟨i, by rw [e], by rw [e]; exact h⟩
 · exact ⟨c.length, by rw [e], by rw [e]; simp⟩
theorem and_gate_val {c : List Gate} (h : Good c) {vals : List Bool} {i : Nat} {a b : Int} (hi : c[i]? = some (gAnd a b)) : cv c vals (2 * (i : Int)) = (cv c vals a && cv c vals b) := by
 have hw := (h.wf i _ hi).2 rfl
 have hil := (List.getElem?_eq_some_iff.1 hi).1
 rw [cv_gate hi]
 have hp : evalG vals (c.take i) <+: evalG vals c := evalG_prefix (List.take_prefix _ _) _
 have hlen : (evalG vals (c.take i)).length = i := by rw [evalG_length, List.length_take]; omega
 have e1 : refv (evalG vals (c.take i)) (gAnd a b).a = cv c vals (gAnd a b).a := refv_mono hp (by rw [hlen]; omega)
 have e2 : refv (evalG vals (c.take i)) (gAnd a b).b = cv c vals (gAnd a b).b := refv_mono hp (by rw [hlen]; omega)
 unfold gval
 rw [if_neg (by simp [gAnd]), if_pos (by simp [gAnd]), e1, e2]
 show (cv c vals (min a b) && cv c vals (max a b)) = _
 rcases Int.le_total a b with h | h
 · rw [Int.min_eq_left h, Int.max_eq_right h]
 · rw [Int.min_eq_right h, Int.max_eq_left h, Bool.and_comm]
theorem and_val {c : List Gate} {a b : Int} (vals : List Bool) (h : Good c) (hl : c.length < 20000) (ha1 : 0 ≤ a) (ha2 : a < 2 * (c.length : Int)) (hb1 : 0 ≤ b) (hb2 : b < 2 * (c.length : Int)) :
 cv (cand c a b).1 vals (cand c a b).2 = (cv c vals a && cv c vals b) := by
 have hk := keeps_and h hl ha1 ha2 hb1 hb2
 rcases cand_cases ha1 ha2 hb1 hb2 with ⟨h1, e⟩ | ⟨h1, e⟩ | ⟨h1, e⟩ | ⟨_, _, _, e⟩
 · rw [e]
   show cv c vals 1 = _
   rw [cv_1 h]
   rcases h1 with rfl | rfl | rfl
   · rw [cv_1 h]; rfl
   · rw [cv_1 h, Bool.and_false]
   · rw [cv_not hb1]; cases cv c vals b <;> rfl
 · rw [e, h1, cv_0 h]; rfl
 · rw [e]
   show cv c vals a = _
   rcases h1 with rfl | rfl
   · rw [cv_0 h, Bool.and_true]
   · rw [Bool.and_self]
 · rw [e] at hk ⊢
   obtain ⟨i, e1, e2⟩ := cshare_at c (gAnd a b) hl
   rw [e1, and_gate_val hk.good e2, cv_ext hk.ext ha1 ha2, cv_ext hk.ext hb1 hb2]
theorem or_val {c : List Gate} {a b : Int} (vals : List Bool) (h : Good c) (hl : c.length < 20000) (ha1 : 0 ≤ a) (ha2 : a < 2 * (c.length : Int)) (hb1 : 0 ≤ b) (hb2 : b < 2 * (c.length : Int)) :
 cv (cor c a b).1 vals (cor c a b).2 = (cv c vals a || cv c vals b) := by
 have na := cnot_bounds ha1 ha2
 have nb := cnot_bounds hb1 hb2
 have hk := keeps_and h hl na.1 na.2 nb.1 nb.2
 show cv (cand c (cnot a) (cnot b)).1 vals (cnot (cand c (cnot a) (cnot b)).2) = _
 rw [cv_not hk.low, and_val vals h hl na.1 na.2 nb.1 nb.2, cv_not ha1, cv_not hb1]
 cases cv c vals a <;> cases cv c vals b <;> rfl
theorem Keeps.ceval {c : List Gate} {x : List Gate × Int} {k : Nat} (h : Keeps c x k) (vals : List Bool) : Go.Proofs.Ytadilppdlbhjnaa.ceval x.1 vals x.2 = cv x.1 vals x.2 := ceval_cv h.low h.high
theorem Keeps.old {c : List Gate} {x : List Gate × Int} {k : Nat} (h : Keeps c x k) (vals : List Bool) {r : Int} (h1 : 0 ≤ r) (h2 : r < 2 * (c.length : Int)) : Go.Proofs.Ytadilppdlbhjnaa.ceval x.1 vals r = Go.Proofs.Ytadilppdlbhjnaa.ceval c vals r := by
 rw [ceval_cv h1 h2, ceval_cv h1 (h.refs h2), cv_ext h.ext h1 h2]
section
variable {c : List Gate} {a b : Int} (vals : List Bool) (ha1 : 0 ≤ a) (ha2 : a < 2 * (c.length : Int))
include ha1 ha2
variable (h : Good c) (hl : c.length + 3 ≤ 20000) (hb1 : 0 ≤ b) (hb2 : b < 2 * (c.length : Int))
include h hl hb1 hb2
end
end Go.Proofs.Ytadilppdlbhjnaa
namespace Go.Proofs.Ytadilppdlbhjnaa
set_option linter.unusedSimpArgs false
set_option linter.unusedVariables false
section
variable {c f : List Gate} {a b : Int} (h : Good c) (hl : c.length + 3 ≤ 20000) (ha1 : 0 ≤ a) (ha2 : a < 2 * (c.length : Int)) (hb1 : 0 ≤ b) (hb2 : b < 2 * (c.length : Int))
include h hl ha1 ha2 hb1 hb2
end
end Go.Proofs.Ytadilppdlbhjnaa
namespace Go.Proofs.Ytadilppdlbhjnaa
set_option linter.unusedSimpArgs false
set_option linter.unusedVariables false
inductive CM (ρ α : Type) where
 | ret (x : α) : CM ρ α
 | and (a b : ρ) (k : ρ → CM ρ α) : CM ρ α
 | or (a b : ρ) (k : ρ → CM ρ α) : CM ρ α
def CM.bind {ρ α β : Type} : CM ρ α → (α → CM ρ β) → CM ρ β
 | .ret x, f => f x
 | .and a b k, f => .and a b fun r => (k r).bind f
 | .or a b k, f => .or a b fun r => (k r).bind f
def CM.run {α : Type} : CM Int α → List Gate → List Gate × α
 | .ret x, c => (c, x)
 | .and a b k, c => (k (cand c a b).2).run (cand c a b).1
 | .or a b k, c => (k (cor c a b).2).run (cor c a b).1
def CM.tv {α : Type} : CM Bool α → α
 | .ret x => x
 | .and a b k => (k (a && b)).tv
 | .or a b k => (k (a || b)).tv
theorem CM.run_bind {α β : Type} (p : CM Int α) (f : α → CM Int β) : ∀ c, (p.bind f).run c = (f (p.run c).2).run (p.run c).1 := by
 induction p with
 | ret x => intro c; rfl
 | and a b k ih => intro c; exact ih _ _
 | or a b k ih => intro c; exact ih _ _
inductive Rel {ρ σ α β : Type} : Nat → (ρ → σ → Prop) → ((ρ → σ → Prop) → α → β → Prop) → CM ρ α → CM σ β → Prop
 | ret {n : Nat} {V : ρ → σ → Prop} {R : (ρ → σ → Prop) → α → β → Prop} {x : α} {y : β} : R V x y → Rel n V R (.ret x) (.ret y)
 | and {n : Nat} {V : ρ → σ → Prop} {R : (ρ → σ → Prop) → α → β → Prop} {a b : ρ} {a' b' : σ} {k : ρ → CM ρ α} {k' : σ → CM σ β} : V a a' → V b b' →
  (∀ V' : ρ → σ → Prop, (∀ r s, V r s → V' r s) → ∀ r s, V' r s → Rel n V' R (k r) (k' s)) → Rel (n + 1) V R (.and a b k) (.and a' b' k')
 | or {n : Nat} {V : ρ → σ → Prop} {R : (ρ → σ → Prop) → α → β → Prop} {a b : ρ} {a' b' : σ} {k : ρ → CM ρ α} {k' : σ → CM σ β} : V a a' → V b b' →
  (∀ V' : ρ → σ → Prop, (∀ r s, V r s → V' r s) → ∀ r s, V' r s → Rel n V' R (k r) (k' s)) → Rel (n + 1) V R (.or a b k) (.or a' b' k')
theorem Rel.more {ρ σ α β : Type} {n : Nat} {V : ρ → σ → Prop} {R : (ρ → σ → Prop) → α → β → Prop} {p : CM ρ α} {q : CM σ β} (h : Rel n V R p q) : ∀ m, n ≤ m → Rel m V R p q := by
 induction h with
 | ret h => intro m _; exact .ret h
 | and h1 h2 h3 ih => intro m hm; obtain ⟨m, rfl⟩ : ∃ x, m = x + 1 := ⟨m - 1, by omega⟩; exact .and h1 h2 fun V' hV r s hr => ih V' hV r s hr m (by omega)
 | or h1 h2 h3 ih => intro m hm; obtain ⟨m, rfl⟩ : ∃ x, m = x + 1 := ⟨m - 1, by omega⟩; exact .or h1 h2 fun V' hV r s hr => ih V' hV r s hr m (by omega)
theorem Rel.bind {ρ σ α β γ δ : Type} {n m : Nat} {V : ρ → σ → Prop} {R : (ρ → σ → Prop) → α → β → Prop} {T : (ρ → σ → Prop) → γ → δ → Prop} {p : CM ρ α} {q : CM σ β} {f : α → CM ρ γ} {g : β → CM σ δ}
 (h : Rel n V R p q) (hf : ∀ V' : ρ → σ → Prop, (∀ r s, V r s → V' r s) → ∀ x y, R V' x y → Rel m V' T (f x) (g y)) : Rel (n + m) V T (p.bind f) (q.bind g) := by
 induction h with
 | ret h => exact (hf _ (fun _ _ h => h) _ _ h).more _ (by omega)
 | @and n V R a b a' b' k k' h1 h2 h3 ih =>
  rw [show n + 1 + m = n + m + 1 by omega]
  exact .and h1 h2 fun V' hV r s hr => ih V' hV r s hr fun V'' hV' x y hxy => hf V'' (fun r s h => hV' r s (hV r s h)) x y hxy
 | @or n V R a b a' b' k k' h1 h2 h3 ih =>
  rw [show n + 1 + m = n + m + 1 by omega]
  exact .or h1 h2 fun V' hV r s hr => ih V' hV r s hr fun V'' hV' x y hxy => hf V'' (fun r s h => hV' r s (hV r s h)) x y hxy
def AllV {ρ σ : Type} (V : ρ → σ → Prop) (l : List ρ) (l' : List σ) : Prop := l.length = l'.length ∧ ∀ (i : Nat) (r : ρ) (s : σ), l[i]? = some r → l'[i]? = some s → V r s
theorem AllV.nil {ρ σ : Type} {V : ρ → σ → Prop} : AllV V [] [] := ⟨rfl, fun i r s h => by simp at h⟩
theorem AllV.mono {ρ σ : Type} {V V' : ρ → σ → Prop} (hV : ∀ r s, V r s → V' r s) {l : List ρ} {l' : List σ} (h : AllV V l l') : AllV V' l l' := ⟨h.1, fun i r s h1 h2 => hV _ _ (h.2 i r s h1 h2)⟩
theorem AllV.snoc {ρ σ : Type} {V : ρ → σ → Prop} {l : List ρ} {l' : List σ} {r : ρ} {s : σ} (h : AllV V l l') (hr : V r s) : AllV V (l ++ [r]) (l' ++ [s]) := by
 refine ⟨by simp [h.1], fun i a b ha hb => ?_⟩
 by_cases hi : i < l.length
 · rw [List.getElem?_append_left hi] at ha; rw [List.getElem?_append_left (by rw [← h.1]; exact hi)] at hb; exact h.2 i a b ha hb
 · rw [List.getElem?_append_right (by omega)] at ha; rw [List.getElem?_append_right (by rw [← h.1]; omega), ← h.1] at hb
   cases hh : i - l.length with
   | zero => rw [hh] at ha hb; simp at ha hb; rw [← ha, ← hb]; exact hr
   | succ n => rw [hh] at ha; simp at ha
theorem AllV.getD {ρ σ : Type} {V : ρ → σ → Prop} {l : List ρ} {l' : List σ} {r : ρ} {s : σ} (h : AllV V l l') (hr : V r s) (i : Nat) : V (l.getD i r) (l'.getD i s) := by
 rw [List.getD_eq_getElem?_getD, List.getD_eq_getElem?_getD]
 by_cases hi : i < l.length
 · have hi' : i < l'.length := by rw [← h.1]; exact hi
   rw [List.getElem?_eq_getElem hi, List.getElem?_eq_getElem hi']
   exact h.2 i _ _ (List.getElem?_eq_getElem hi) (List.getElem?_eq_getElem hi')
 · rw [List.getElem?_eq_none (Nat.le_of_not_lt hi), List.getElem?_eq_none (by rw [← h.1]; exact Nat.le_of_not_lt hi)]; exact hr
theorem AllV.set {ρ σ : Type} {V : ρ → σ → Prop} {l : List ρ} {l' : List σ} {r : ρ} {s : σ} (h : AllV V l l') (hr : V r s) (i : Nat) : AllV V (l.set i r) (l'.set i s) := by
 refine ⟨by simp [h.1], fun j a b ha hb => ?_⟩
 rw [List.getElem?_set] at ha hb
 by_cases hij : i = j
 · rw [if_pos hij] at ha hb
   split at ha
   · split at hb
     · simp at ha hb; rw [← ha, ← hb]; exact hr
     · cases hb
   · cases ha
 · rw [if_neg hij] at ha hb; exact h.2 j a b ha hb
theorem AllV.take {ρ σ : Type} {V : ρ → σ → Prop} {l : List ρ} {l' : List σ} (h : AllV V l l') (n : Nat) : AllV V (l.take n) (l'.take n) := by
 refine ⟨by simp [h.1], fun i a b ha hb => ?_⟩
 rw [List.getElem?_take] at ha hb
 by_cases hi : i < n
 · rw [if_pos hi] at ha hb; exact h.2 i a b ha hb
 · rw [if_neg hi] at ha; cases ha
theorem AllV.drop {ρ σ : Type} {V : ρ → σ → Prop} {l : List ρ} {l' : List σ} (h : AllV V l l') (n : Nat) : AllV V (l.drop n) (l'.drop n) := by
 refine ⟨by simp [h.1], fun i a b ha hb => ?_⟩
 rw [List.getElem?_drop] at ha hb; exact h.2 _ a b ha hb
def VOf (c : List Gate) (vals : List Bool) (r : Int) (b : Bool) : Prop := 0 ≤ r ∧ r < 2 * (c.length : Int) ∧ cv c vals r = b
theorem VOf.ext {c d : List Gate} {vals : List Bool} (h : c <+: d) (r : Int) (b : Bool) (hr : VOf c vals r b) : VOf d vals r b :=
 ⟨hr.1, by have := h.length_le; have := hr.2.1; omega, by rw [cv_ext h hr.1 hr.2.1]; exact hr.2.2⟩
theorem Rel.vals {α β : Type} {R : (Int → Bool → Prop) → α → β → Prop} (vals : List Bool) {n : Nat} {V : Int → Bool → Prop} {p : CM Int α} {q : CM Bool β} (h : Rel n V R p q) :
 ∀ c, V = VOf c vals → Good c → c.length + n ≤ 20000 → Good (p.run c).1 ∧ c <+: (p.run c).1 ∧ (p.run c).1.length ≤ c.length + n ∧ R (VOf (p.run c).1 vals) (p.run c).2 q.tv := by
 induction h with
 | ret h => intro c hV hg hl; exact ⟨hg, List.prefix_refl _, by simp [CM.run], by rw [hV] at h; exact h⟩
 | @and n V R a b a' b' k k' h1 h2 h3 ih =>
  intro c hV hg hl
  subst hV
  have hk := keeps_and hg (by omega) h1.1 h1.2.1 h2.1 h2.2.1
  have hl1 := hk.len
  have hr : VOf (cand c a b).1 vals (cand c a b).2 (a' && b') := ⟨hk.low, hk.high, by rw [and_val vals hg (by omega) h1.1 h1.2.1 h2.1 h2.2.1, h1.2.2, h2.2.2]⟩
  obtain ⟨g1, g2, g3, g4⟩ := ih (VOf (cand c a b).1 vals) (fun r s h => VOf.ext hk.ext r s h) _ _ hr _ rfl hk.good (by omega)
  exact ⟨g1, hk.ext.trans g2, by show ((k (cand c a b).2).run (cand c a b).1).1.length ≤ _; omega, g4⟩
 | @or n V R a b a' b' k k' h1 h2 h3 ih =>
  intro c hV hg hl
  subst hV
  have hk := keeps_or hg (by omega) h1.1 h1.2.1 h2.1 h2.2.1
  have hl1 := hk.len
  have hr : VOf (cor c a b).1 vals (cor c a b).2 (a' || b') := ⟨hk.low, hk.high, by rw [or_val vals hg (by omega) h1.1 h1.2.1 h2.1 h2.2.1, h1.2.2, h2.2.2]⟩
  obtain ⟨g1, g2, g3, g4⟩ := ih (VOf (cor c a b).1 vals) (fun r s h => VOf.ext hk.ext r s h) _ _ hr _ rfl hk.good (by omega)
  exact ⟨g1, hk.ext.trans g2, by show ((k (cor c a b).2).run (cor c a b).1).1.length ≤ _; omega, g4⟩
def EOf (c : List Gate) (r s : Int) : Prop := 0 ≤ r ∧ r < 2 * (c.length : Int) ∧ r = s
theorem EOf.ext {c d : List Gate} (h : c <+: d) (r s : Int) (hr : EOf c r s) : EOf d r s := ⟨hr.1, by have := h.length_le; have := hr.2.1; omega, hr.2.2⟩
end Go.Proofs.Ytadilppdlbhjnaa
namespace Go.Proofs.Ytadilppdlbhjnaa
set_option linter.unusedSimpArgs false
set_option linter.unusedVariables false
section
variable {ρ : Type} (z o : ρ)
end
section
variable {ρ σ : Type} {z o : ρ} {z' o' : σ}
theorem AllV.append {V : ρ → σ → Prop} {l m : List ρ} {l' m' : List σ} (h : AllV V l l') (k : AllV V m m') : AllV V (l ++ m) (l' ++ m') := by
 refine ⟨by simp [h.1, k.1], fun i a b ha hb => ?_⟩
 by_cases hi : i < l.length
 · rw [List.getElem?_append_left hi] at ha; rw [List.getElem?_append_left (by rw [← h.1]; exact hi)] at hb; exact h.2 i a b ha hb
 · rw [List.getElem?_append_right (by omega)] at ha; rw [List.getElem?_append_right (by rw [← h.1]; omega), ← h.1] at hb
   exact k.2 _ a b ha hb
end
end Go.Proofs.Ytadilppdlbhjnaa
namespace Go.Proofs.Ytadilppdlbhjnaa
set_option linter.unusedSimpArgs false
set_option linter.unusedVariables false
def Un (l : List Bool) (t : Nat) : Prop := t ≤ l.length ∧ ∀ i, i < l.length → l.getD i false = decide (i < t)
theorem Un.get {l : List Bool} {t : Nat} (h : Un l t) (i : Nat) : l.getD i false = decide (i < t) := by
 by_cases hi : i < l.length
 · exact h.2 i hi
 · rw [List.getD_eq_getElem?_getD, List.getElem?_eq_none (Nat.le_of_not_lt hi)]
   have := h.1
   exact (decide_eq_false (by omega)).symm
def cnt (l : List Bool) : Nat := l.count true
end Go.Proofs.Ytadilppdlbhjnaa
namespace Go.Proofs.Ytadilppdlbhjnaa
set_option linter.unusedSimpArgs false
set_option linter.unusedVariables false
structure Grow (c d : List Gate) (k : Nat) : Prop where
 good : Good d
 pre : c <+: d
 len : d.length ≤ c.length + k
theorem Grow.trans {c d e : List Gate} {k m : Nat} (h : Grow c d k) (g : Grow d e m) : Grow c e (k + m) := ⟨g.good, h.pre.trans g.pre, by have := h.len; have := g.len; omega⟩
theorem Grow.ge {c d : List Gate} {k : Nat} (h : Grow c d k) : c.length ≤ d.length := h.pre.length_le
structure Num (d : List Gate) (s : List Int) (n : Nat) (N : List Bool → Nat) : Prop where
 len : s.length = n
 refs : RefsIn s d.length
 un : ∀ vals, Un (s.map (cv d vals)) (N vals)
structure Rf (d : List Gate) (r : Int) (V : List Bool → Bool) : Prop where
 lo : 0 ≤ r
 hi : r < 2 * (d.length : Int)
 val : ∀ vals, cv d vals r = V vals
theorem map_cv_up {c d : List Gate} {l : List Int} (hp : c <+: d) (hr : RefsIn l c.length) (vals : List Bool) : l.map (cv d vals) = l.map (cv c vals) :=
 List.map_congr_left fun r h => cv_ext hp (hr r h).1 (hr r h).2
theorem Num.up {d e : List Gate} {s : List Int} {n k : Nat} {N : List Bool → Nat} (h : Num d s n N) (g : Grow d e k) : Num e s n N :=
 ⟨h.len, h.refs.up g.ge, fun vals => by rw [map_cv_up g.pre h.refs]; exact h.un vals⟩
theorem Rf.up {d e : List Gate} {r : Int} {k : Nat} {V : List Bool → Bool} (h : Rf d r V) (g : Grow d e k) : Rf e r V :=
 ⟨h.lo, by have := h.hi; have := g.ge; omega, fun vals => by rw [cv_ext g.pre h.lo h.hi]; exact h.val vals⟩
theorem Rf.ceval {d : List Gate} {r : Int} {V : List Bool → Bool} (h : Rf d r V) (vals : List Bool) : Go.Proofs.Ytadilppdlbhjnaa.ceval d vals r = V vals := by rw [ceval_cv h.lo h.hi]; exact h.val vals
theorem map_ceval {d : List Gate} {s : List Int} (h : RefsIn s d.length) (vals : List Bool) : s.map (ceval d vals) = s.map (cv d vals) :=
 List.map_congr_left fun r hr => ceval_cv (h r hr).1 (h r hr).2
theorem Num.unary {d : List Gate} {s : List Int} {n : Nat} {N : List Bool → Nat} (h : Num d s n N) (vals : List Bool) : N vals ≤ n ∧ ∀ (i : Nat) (r : Int), s[i]? = some r → ceval d vals r = decide ((i : Int) < (N vals : Int)) := by
 obtain ⟨h1, h2⟩ := h.un vals
 rw [List.length_map, h.len] at h1
 refine ⟨h1, fun i r hr => ?_⟩
 obtain ⟨hi, he⟩ := List.getElem?_eq_some_iff.1 hr
 have hm := h.refs r (List.mem_of_getElem? hr)
 have := h2 i (by simpa using hi)
 rw [List.getD_eq_getElem?_getD, List.getElem?_map, hr] at this
 rw [ceval_cv hm.1 hm.2]
 simp at this ⊢
 rw [this]
theorem un_count {l : List Bool} {t : Nat} (h : Un l t) : cnt l = t := by
 induction l generalizing t with
 | nil => obtain ⟨h1, _⟩ := h; simp at h1; subst h1; rfl
 | cons b l ih =>
  obtain ⟨h1, h2⟩ := h
  have hb := h2 0 (by simp)
  simp at hb
  cases t with
  | zero =>
   simp at hb
   subst hb
   have : Un l 0 := ⟨Nat.zero_le _, fun i hi => by have := h2 (i + 1) (by simpa using hi); simpa using this⟩
   have := ih this
   simp [cnt] at this ⊢; exact this
  | succ t =>
   simp at hb
   subst hb
   have : Un l t := ⟨by simpa using h1, fun i hi => by have := h2 (i + 1) (by simpa using hi); simpa using this⟩
   have := ih this
   simp [cnt] at this ⊢; exact this
theorem Num.count {d : List Gate} {s : List Int} {n : Nat} {N : List Bool → Nat} (h : Num d s n N) (vals : List Bool) : cnt (s.map (ceval d vals)) = N vals := by
 rw [map_ceval h.refs]; exact un_count (h.un vals)
section
variable {c : List Gate} {vals : List Bool}
end
section
variable {c d : List Gate} {l s x y : List Int} {n nx ny : Nat} {N M : List Bool → Nat} {r k b : Int} (hg : Good c)
include hg
end
section
variable {c d : List Gate} {l s x y : List Int} {n nx ny : Nat} {N M : List Bool → Nat} {r k b : Int} (hg : Good c)
include hg
end
section
variable {c d : List Gate} {l s x y : List Int} {n nx ny : Nat} {r k b : Int} (hg : Good c)
include hg
end
def Bits (l : List Int) : Prop := ∀ r ∈ l, r = 0 ∨ r = 1
section
variable {c d : List Gate} {l s x y : List Int} {n nx ny : Nat} {r k b : Int} (hc : 0 < c.length)
include hc
end
end Go.Proofs.Ytadilppdlbhjnaa
