/- The solver's laws, plainly: new solvers, operations, the reference's search for the least assignment. -/
import Derived.Test.YtdibfjcmgbpnpaaS8
namespace Go.Proofs.Ytdibfjcmgbpnpaa
set_option linter.unusedSimpArgs false
set_option linter.unusedVariables false

def snew (n : Nat) : SS := ⟨List.replicate (n + 1) 0, List.replicate (n + 1) 0, List.replicate (n + 1) 0, [], [], 1, [], List.replicate (2 * n + 2) [], 0, 0, false, [], [], []⟩
theorem snew_ok (n : Nat) : Sv n [] (snew n) := by
  refine ⟨⟨⟨by simp [snew], by simp [snew], by simp [snew], ?_, by simp [snew], ?_, by simp [snew], ?_, ?_, by simp [snew], by simp [snew], ?_⟩, ?_, ⟨by simp [snew], ?_, ?_, ?_⟩, ?_, by simp [snew], ?_⟩, ?_, ?_, ?_, ?_, ?_⟩
  · intro x hx; simp [snew] at hx
  · intro x hx
    have h0 : (List.replicate (n + 1) (0 : Int)).getD x.natAbs 0 = 0 := by rw [List.getD_eq_getElem?_getD, List.getElem?_replicate]; split <;> rfl
    show (if x < 0 then -((List.replicate (n + 1) (0 : Int)).getD x.natAbs 0) else (List.replicate (n + 1) (0 : Int)).getD x.natAbs 0) = _
    rw [h0]; simp [snew]
  · intro m hm; simp [snew] at hm
  · intro i x hx; simp [snew] at hx
  · intro v a b; simp [snew] at b; omega
  · intro i x hx; simp [snew] at hx
  · intro k c hk; simp [snew] at hk
  · intro x hx
    have : (snew n).wl x = [] := by show (List.replicate _ []).getD _ [] = []; rw [List.getD_eq_getElem?_getD, List.getElem?_replicate]; split <;> rfl
    rw [this]; simp
  · intro x hx k
    have : (snew n).wl x = [] := by show (List.replicate _ []).getD _ [] = []; rw [List.getD_eq_getElem?_getD, List.getElem?_replicate]; split <;> rfl
    rw [this]
    constructor
    · intro q; simp at q
    · rintro ⟨c, b, q, -⟩; simp [snew] at q
  · intro k c a b i q; simp [snew] at q
  · intro m hm; simp [snew] at hm
  · intro c hc; simp [snew] at hc
  · intro d hd; simp at hd
  · intro i l q; simp [snew] at q
  · intro q; simp [snew] at q
  · intro d hd; simp at hd

-- --- the number of clauses added
theorem decide_added (s : SS) (x : Int) : (s.decide x).added = s.added := by unfold SS.decide; split <;> rfl
theorem undo_added (s : SS) (k : Nat) : (s.undo k).added = s.added := (undo_frame s k).2.2.2.2.1
theorem sround_added {n : Nat} {A : List (List Int)} {assume : List Int} {fuel : Int} {s : SS} {met : Nat} (h : Se n A assume s) : match sround assume fuel s met with | .inl (s', _) => s'.added = s.added | .inr r => r.1.added = s.added := by
  have hvl := h.sv.inv.tr.vl
  unfold sround
  by_cases c1 : 20000 ≤ s.proof.length
  · rw [if_pos c1]; exact undo_added s 0
  rw [if_neg c1]
  obtain ⟨h1, hfr, hcd⟩ := h.prop (f := s.value.length) (by omega)
  obtain ⟨-, -, hnone, hsome⟩ := prop_ok (f := s.value.length) h.sv.inv (by omega)
  generalize prop s.value.length s = r at *
  obtain ⟨s1, conf⟩ := r
  dsimp only at h1 hfr hnone hsome ⊢
  have ha := hfr.added
  by_cases c2 : s1.broken = true ∨ (conf ≠ none ∧ s1.marks.length = 0)
  · rw [if_pos c2]; exact ha
  rw [if_neg c2]
  cases conf with
  | some k =>
    dsimp only
    have hL : 0 < s1.marks.length := by
      rcases Nat.eq_zero_or_pos s1.marks.length with q | q
      · exact absurd (.inr ⟨by simp, q⟩) c2
      · exact q
    obtain ⟨cl, g, i, a1, a2, a3, a4, a5⟩ := hsome k rfl
    have hln := analyze_ok h1.sv.inv h1.sv.cg hL a1 a2 a3 a4 (by rw [hfr.marks]; exact a5)
    obtain ⟨-, -, -, -, -, -, -, e8, -⟩ := h1.sv.conflict hln
    split
    · rename_i heq
      split at heq
      · cases heq
      · cases heq; exact e8.trans ha
    · rename_i heq
      split at heq
      · cases heq; exact (undo_added _ 0).trans (e8.trans ha)
      · cases heq
  | none =>
    dsimp only
    split
    · rename_i heq
      split at heq
      · split at heq
        · cases heq
        · split at heq
          · cases heq; exact (decide_added _ _).trans ha
          · cases heq; exact (decide_added _ _).trans ha
      · split at heq
        · cases heq
        · cases heq; exact (decide_added _ _).trans ha
    · rename_i heq
      split at heq
      · split at heq
        · cases heq; exact (undo_added _ 0).trans ha
        · split at heq
          · cases heq
          · cases heq
      · split at heq
        · cases heq; exact (undo_added _ 0).trans ha
        · cases heq
theorem srun_added {n : Nat} {A : List (List Int)} {assume : List Int} {fuel : Int} {p : List (List Int)} (hv : ∀ x ∈ assume, LOk n x) : ∀ (f : Nat) {s : SS} {met : Nat}, smeas n assume s < f → Se n A assume s → met ≤ s.cod n → (∃ more, s.proof = p ++ more ∧ more.length = met) → (srun assume fuel f s met).1.added = s.added
  | 0, s, met, h, _, _, _ => by omega
  | f + 1, s, met, h, hs, hm, hp => by
    have hr := sround_ok (fuel := fuel) hs hv hm hp
    have ha := sround_added (fuel := fuel) (met := met) hs
    unfold srun
    match he : sround assume fuel s met with
    | .inl (s', met') =>
      rw [he] at hr ha
      obtain ⟨h1, h2, h3, h4⟩ := hr
      exact (srun_added hv f (by omega) h1 h2 h3).trans ha
    | .inr r => rw [he] at ha; exact ha
theorem solve_added {n : Nat} {A : List (List Int)} {assume : List Int} {fuel : Int} {s : SS} (h : Sv n A s) (hk : s.marks = []) : (solve s assume fuel).1.added = s.added := by
  have hvl := h.inv.tr.vl
  by_cases hc : s.validl assume = true ∧ 0 < fuel
  · have hv := (validl_iff hvl).1 hc.1
    unfold solve
    rw [if_pos hc, hvl, Nat.add_sub_cancel]
    have h0 : Sv n A { s with core := [], model := [] } := h.same rfl rfl rfl rfl rfl rfl rfl rfl rfl rfl rfl
    obtain ⟨f1, f2, f3, f4, f5, f6, f7, f8, f9⟩ := undo_frame { s with core := [], model := [] } 0
    have hm : (SS.undo { s with core := [], model := [] } 0).marks = [] := by rw [undo_marks]; rfl
    refine (srun_added (p := s.proof) (fuel := fuel) hv _ (Nat.lt_succ_self _) ⟨h0.undone 0, by rw [f9], by rw [f8], fun _ => hm, ?_, ?_⟩ (Nat.zero_le _) ⟨[], by rw [f7]; simp, rfl⟩).trans f5
    · intro d x _ hl; rw [hm] at hl; simp at hl
    · intro i z _ hi; rw [hm] at hi; simp at hi
  · unfold solve; rw [if_neg hc]

-- --- sequences of operations
structure SAct where
  solve : Bool
  lits : List Int
  fuel : Nat
def vlit (n : Nat) (l : List Int) : Bool := l.all fun x => !(x == 0 || Decidable.decide ((n : Int) < x) || Decidable.decide (x < -(n : Int)))
theorem vlit_iff {n : Nat} {l : List Int} : vlit n l = true ↔ ∀ x ∈ l, LOk n x := by
  unfold vlit LOk
  rw [List.all_eq_true]
  constructor
  · intro h x hx
    have := h x hx
    simp at this
    obtain ⟨⟨a, b⟩, c⟩ := this
    exact ⟨a, by omega⟩
  · intro h x hx
    obtain ⟨a, b⟩ := h x hx
    simp
    exact ⟨⟨a, by omega⟩, by omega⟩
def sact (n : Nat) (f : SAct → Int) (s : SS) (a : SAct) : SS := if a.solve then (solve s a.lits (f a)).1 else if vlit n a.lits = true then s.add a.lits else s
def rcl (n : Nat) (l : List SAct) : List (List Int) := (l.filter fun a => !a.solve && vlit n a.lits).map SAct.lits
/-- a solver behind some operations -/
structure Gd (n : Nat) (A : List (List Int)) (s : SS) : Prop where
  sv : Sv n A s
  nomk : s.marks = []
  added : s.added = A.length
theorem Gd.new (n : Nat) : Gd n [] (snew n) := ⟨snew_ok n, rfl, rfl⟩
theorem Gd.solve {n : Nat} {A : List (List Int)} {s : SS} (h : Gd n A s) (l : List Int) (f : Int) : Gd n A (solve s l f).1 := by
  refine ⟨?_, ?_, (solve_added h.sv h.nomk).trans h.added⟩
  · by_cases hc : (∀ x ∈ l, LOk n x) ∧ 0 < f
    · exact (solve_ok h.sv h.nomk hc.1 hc.2).1.sv
    · exact (solve_bad h.sv h.nomk hc).1.sv
  · by_cases hc : (∀ x ∈ l, LOk n x) ∧ 0 < f
    · exact (solve_ok h.sv h.nomk hc.1 hc.2).1.nomk
    · exact (solve_bad h.sv h.nomk hc).1.nomk
theorem Gd.add {n : Nat} {A : List (List Int)} {s : SS} (h : Gd n A s) {l : List Int} (hl : ∀ x ∈ l, LOk n x) : Gd n (A ++ [l]) (s.add l) := by
  obtain ⟨a1, a2, a3, a4, a5, a6⟩ := h.sv.added h.nomk hl
  exact ⟨a1, a2, by rw [a6, h.added]; simp⟩
theorem rcl_snoc (n : Nat) (l : List SAct) (a : SAct) : rcl n (l ++ [a]) = rcl n l ++ (if (!a.solve && vlit n a.lits) = true then [a.lits] else []) := by
  unfold rcl
  rw [List.filter_append, List.map_append]
  congr 1
  by_cases h : (!a.solve && vlit n a.lits) = true
  · rw [if_pos h, List.filter_cons_of_pos (by exact h)]; rfl
  · rw [if_neg h, List.filter_cons_of_neg (by exact h)]; rfl
theorem Gd.act {n : Nat} {l : List SAct} {s : SS} (h : Gd n (rcl n l) s) (f : SAct → Int) (a : SAct) : Gd n (rcl n (l ++ [a])) (sact n f s a) := by
  rw [rcl_snoc]
  unfold sact
  cases hs : a.solve with
  | true => simp; exact h.solve _ _
  | false =>
    cases hv : vlit n a.lits with
    | true => simp; exact h.add (vlit_iff.1 hv)
    | false => simp; exact h
def smade (n : Nat) (l : List SAct) : SS := l.foldl (sact n fun a => 1 + (a.fuel : Int) % 4) (snew n)
theorem made_gd (n : Nat) (f : SAct → Int) (l : List SAct) : Gd n (rcl n l) (l.foldl (sact n f) (snew n)) := by
  have key : ∀ (l k : List SAct) (s : SS), Gd n (rcl n k) s → Gd n (rcl n (k ++ l)) (l.foldl (sact n f) s) := by
    intro l
    induction l with
    | nil => intro k s h; rw [List.append_nil]; exact h
    | cons a l ih => intro k s h; have := ih (k ++ [a]) _ (h.act f a); rw [List.append_assoc] at this; exact this
  exact key l [] (snew n) (Gd.new n)
theorem rcl_le (n : Nat) (l : List SAct) : (rcl n l).length ≤ l.length := by unfold rcl; rw [List.length_map]; exact List.length_filter_le _ _

-- --- the reference's search
def bits : Nat → Nat → List Bool
  | 0, _ => []
  | k + 1, r => Decidable.decide (2 ^ k ≤ r) :: bits k (if 2 ^ k ≤ r then r - 2 ^ k else r)
theorem bits_len : ∀ (k r : Nat), (bits k r).length = k
  | 0, _ => rfl
  | k + 1, r => by unfold bits; rw [List.length_cons, bits_len k]
def bnum : List Bool → Nat
  | [] => 0
  | b :: l => (if b then 2 ^ l.length else 0) + bnum l
theorem bnum_lt : ∀ l : List Bool, bnum l < 2 ^ l.length
  | [] => by simp [bnum]
  | b :: l => by
    have := bnum_lt l
    unfold bnum
    rw [List.length_cons, Nat.pow_succ]
    split <;> omega
theorem bits_bnum : ∀ l : List Bool, bits l.length (bnum l) = l
  | [] => rfl
  | b :: l => by
    have h := bnum_lt l
    have ih := bits_bnum l
    rw [List.length_cons]
    unfold bits bnum
    cases b with
    | true =>
      have h2 : 2 ^ l.length ≤ (if true = true then 2 ^ l.length else 0) + bnum l := by simp
      rw [if_pos h2, decide_eq_true h2]
      simp only [if_true, Nat.add_sub_cancel_left, ih]
    | false =>
      have h2 : ¬ 2 ^ l.length ≤ (if false = true then 2 ^ l.length else 0) + bnum l := by simp; exact h
      rw [if_neg h2, decide_eq_false h2]
      simp [ih]
/-- of two numbers the smaller one is first different by a 0 -/
theorem bits_lex : ∀ (l : List Bool) (k : Nat), k < bnum l → ∃ i, i < l.length ∧ (bits l.length k).getD i false = false ∧ l.getD i false = true ∧ ∀ j, j < i → (bits l.length k).getD j false = l.getD j false
  | [], k, h => by simp [bnum] at h
  | b :: l, k, h => by
    unfold bnum at h
    rw [List.length_cons]
    unfold bits
    by_cases hk : 2 ^ l.length ≤ k
    · rw [if_pos hk, decide_eq_true hk]
      cases b with
      | true =>
        simp at h
        obtain ⟨i, a1, a2, a3, a4⟩ := bits_lex l (k - 2 ^ l.length) (by omega)
        refine ⟨i + 1, by omega, by simpa using a2, by simpa using a3, fun j hj => ?_⟩
        cases j with
        | zero => rfl
        | succ j => simpa using a4 j (by omega)
      | false =>
        have := bnum_lt l
        simp at h
        omega
    · rw [if_neg hk, decide_eq_false hk]
      cases b with
      | true => exact ⟨0, by omega, rfl, rfl, fun j hj => by omega⟩
      | false =>
        simp at h
        obtain ⟨i, a1, a2, a3, a4⟩ := bits_lex l k h
        refine ⟨i + 1, by omega, by simpa using a2, by simpa using a3, fun j hj => ?_⟩
        cases j with
        | zero => rfl
        | succ j => simpa using a4 j (by omega)
def rtru (vs : List Bool) (x : Int) : Bool := if 0 < x then vs.getD (x - 1).toNat false else !(vs.getD (-x - 1).toNat false)
def rsat (vs : List Bool) (A : List (List Int)) (assume : List Int) : Bool := assume.all (rtru vs) && A.all fun c => c.any (rtru vs)
def vw (vs : List Bool) (v : Nat) : Bool := vs.getD (v - 1) false
theorem rtru_iff {vs : List Bool} {x : Int} (hx : x ≠ 0) : rtru vs x = true ↔ tru (vw vs) x := by
  unfold rtru tru vw
  by_cases h : 0 < x
  · rw [if_pos h, if_neg (by omega), show (x - 1).toNat = x.natAbs - 1 by omega]
  · rw [if_neg h, if_pos (by omega), show (-x - 1).toNat = x.natAbs - 1 by omega]; simp
theorem rsat_iff {vs : List Bool} {A : List (List Int)} {assume : List Int} (hA : ∀ c ∈ A, ∀ x ∈ c, x ≠ 0) (ha : ∀ x ∈ assume, x ≠ 0) : rsat vs A assume = true ↔ (∀ c ∈ A, satc (vw vs) c) ∧ ∀ x ∈ assume, tru (vw vs) x := by
  unfold rsat satc
  rw [Bool.and_eq_true, List.all_eq_true, List.all_eq_true]
  constructor
  · rintro ⟨h1, h2⟩
    refine ⟨fun c hc => ?_, fun x hx => (rtru_iff (ha x hx)).1 (h1 x hx)⟩
    obtain ⟨x, hx, ht⟩ := List.any_eq_true.1 (h2 c hc)
    exact ⟨x, hx, (rtru_iff (hA c hc x hx)).1 ht⟩
  · rintro ⟨h1, h2⟩
    refine ⟨fun x hx => (rtru_iff (ha x hx)).2 (h2 x hx), fun c hc => ?_⟩
    obtain ⟨x, hx, ht⟩ := h1 c hc
    exact List.any_eq_true.2 ⟨x, hx, (rtru_iff (hA c hc x hx)).2 ht⟩
def rfirst (P : Nat → Bool) : Nat → Nat → Option Nat
  | 0, _ => none
  | f + 1, k => if P k = true then some k else rfirst P f (k + 1)
theorem rfirst_none {P : Nat → Bool} : ∀ {f k : Nat}, (∀ j, k ≤ j → j < k + f → P j = false) → rfirst P f k = none
  | 0, k, _ => rfl
  | f + 1, k, h => by
    unfold rfirst
    rw [if_neg (by rw [h k (Nat.le_refl _) (by omega)]; simp)]
    exact rfirst_none fun j a b => h j (by omega) (by omega)
theorem rfirst_some {P : Nat → Bool} : ∀ {f k m : Nat}, k ≤ m → m < k + f → P m = true → (∀ j, k ≤ j → j < m → P j = false) → rfirst P f k = some m
  | 0, k, m, a, b, _, _ => by omega
  | f + 1, k, m, a, b, hm, h => by
    unfold rfirst
    by_cases e : k = m
    · subst e; rw [if_pos hm]
    · rw [if_neg (by rw [h k (Nat.le_refl _) (by omega)]; simp)]
      exact rfirst_some (by omega) (by omega) hm fun j a b => h j (by omega) b
def rleast (n : Nat) (A : List (List Int)) (assume : List Int) : Option (List Bool) := (rfirst (fun k => rsat (bits n k) A assume) (2 ^ n) 0).map (bits n)
/-- the values of a model -/
def mvals (n : Nat) (m : List Int) : List Bool := (List.range n).map fun i => Decidable.decide (0 < m.getD (i + 1) 0)
theorem mvals_len (n : Nat) (m : List Int) : (mvals n m).length = n := by simp [mvals]
theorem mvals_get {n i : Nat} {m : List Int} (h : i < n) : (mvals n m).getD i false = Decidable.decide (0 < m.getD (i + 1) 0) := by
  unfold mvals; rw [List.getD_eq_getElem?_getD]; simp [h]
theorem tru_mvals {n : Nat} {m : List Int} {x : Int} (hx : LOk n x) : tru (vw (mvals n m)) x ↔ tru (fun v => Decidable.decide (0 < m.getD v 0)) x := by
  have h0 := hx.1; have h1 := hx.2
  unfold tru vw
  rw [mvals_get (by omega), show x.natAbs - 1 + 1 = x.natAbs by omega]
theorem Best.rsat {n : Nat} {A : List (List Int)} {assume m : List Int} (h : Best n A assume m) (hA : ∀ c ∈ A, ∀ x ∈ c, LOk n x) (ha : ∀ x ∈ assume, LOk n x) : rsat (mvals n m) A assume = true := by
  rw [rsat_iff (fun c hc x hx => (hA c hc x hx).1) (fun x hx => (ha x hx).1)]
  refine ⟨fun c hc => ?_, fun x hx => (tru_mvals (ha x hx)).2 (h.asm x hx)⟩
  obtain ⟨x, hx, ht⟩ := h.sat c hc
  exact ⟨x, hx, (tru_mvals (hA c hc x hx)).2 ht⟩
theorem Best.rleast {n : Nat} {A : List (List Int)} {assume m : List Int} (h : Best n A assume m) (hA : ∀ c ∈ A, ∀ x ∈ c, LOk n x) (ha : ∀ x ∈ assume, LOk n x) : rleast n A assume = some (mvals n m) := by
  have hl := mvals_len n m
  have hb := bits_bnum (mvals n m)
  rw [hl] at hb
  have hlt := bnum_lt (mvals n m)
  rw [hl] at hlt
  unfold Go.Proofs.Ytdibfjcmgbpnpaa.rleast
  rw [rfirst_some (m := bnum (mvals n m)) (Nat.zero_le _) (by omega)]
  · rw [Option.map_some, hb]
  · rw [hb]; exact h.rsat hA ha
  · intro j _ hj
    obtain ⟨i, a1, a2, a3, a4⟩ := bits_lex (mvals n m) j hj
    rw [hl] at a1 a2 a4
    cases hr : Go.Proofs.Ytdibfjcmgbpnpaa.rsat (bits n j) A assume with
    | false => rfl
    | true =>
      exfalso
      obtain ⟨b1, b2⟩ := (rsat_iff (fun c hc x hx => (hA c hc x hx).1) (fun x hx => (ha x hx).1)).1 hr
      rw [mvals_get a1] at a3
      have := h.least (vw (bits n j)) b1 b2 (i + 1) (by omega) (by omega) (by simpa using a3) (fun u u1 u2 => by
        have := a4 (u - 1) (by omega)
        rw [mvals_get (by omega), show u - 1 + 1 = u by omega] at this
        exact this)
      unfold vw at this
      rw [Nat.add_sub_cancel, a2] at this
      cases this
/-- no assignment satisfies clauses and assumptions -/
def Unsat (A : List (List Int)) (assume : List Int) : Prop := ∀ W : Nat → Bool, (∀ c ∈ A, satc W c) → (∀ x ∈ assume, tru W x) → False
theorem Unsat.rleast {n : Nat} {A : List (List Int)} {assume : List Int} (h : Unsat A assume) (hA : ∀ c ∈ A, ∀ x ∈ c, x ≠ 0) (ha : ∀ x ∈ assume, x ≠ 0) : rleast n A assume = none := by
  unfold Go.Proofs.Ytdibfjcmgbpnpaa.rleast
  rw [rfirst_none]
  · rfl
  · intro j _ _
    cases hr : rsat (bits n j) A assume with
    | false => rfl
    | true =>
      obtain ⟨b1, b2⟩ := (rsat_iff hA ha).1 hr
      exact (h _ b1 b2).elim
/-- an Unsat's core cannot be satisfied -/
theorem Done.unsat {n : Nat} {A : List (List Int)} {assume : List Int} {p : List (List Int)} {r : SS × Int} (h : Done n A assume p r) (hr : r.2 = 2) (hv : ∀ x ∈ assume, LOk n x) : Unsat A r.1.core := by
  intro W hA hc
  obtain ⟨more, e1, e2⟩ := h.ext
  have hlast := e2 hr
  have hall := h.sv.all hA
  have hm : (r.1.core.map fun y => -y) ∈ A ++ r.1.proof := by
    rw [e1]
    exact List.mem_append_right _ (List.mem_append_right _ (List.mem_of_getLast? hlast))
  obtain ⟨x, hx, ht⟩ := hall _ hm
  obtain ⟨y, hy, rfl⟩ := List.mem_map.1 hx
  have hy0 := (hv y ((h.no hr).2.2 y hy)).1
  exact (tru_neg hy0).1 ht (hc y hy)
theorem Unsat.mono {A A' : List (List Int)} {a a' : List Int} (h : Unsat A a) (hA : ∀ c ∈ A, c ∈ A') (ha : ∀ x ∈ a, x ∈ a') : Unsat A' a' :=
  fun W h1 h2 => h W (fun c hc => h1 c (hA c hc)) fun x hx => h2 x (ha x hx)
theorem Best.not_unsat {n : Nat} {A : List (List Int)} {assume m : List Int} (h : Best n A assume m) : ¬ Unsat A assume := fun q => q _ h.sat h.asm
end Go.Proofs.Ytdibfjcmgbpnpaa
