/- Plain laws: the values of what And, Or, Iff, Not and Input give; extensions keep values. -/
import Derived.Test.YtanlecgpnknhoaaPlain5
namespace Go.Proofs.Ytanlecgpnknhoaa
set_option linter.unusedSimpArgs false
set_option linter.unusedVariables false

def estep (vals : List Bool) (done : List Bool) (g : Gate) : List Bool := done ++ [gval vals done g]
theorem evalG_append (vals : List Bool) (c t : List Gate) : evalG vals (c ++ t) = t.foldl (estep vals) (evalG vals c) := by
  show (c ++ t).foldl (estep vals) [] = _
  rw [List.foldl_append]; rfl
theorem fold_prefix (vals : List Bool) (t : List Gate) : ∀ d : List Bool, d <+: t.foldl (estep vals) d := by
  induction t with
  | nil => intro d; exact List.prefix_refl _
  | cons g t ih => intro d; exact (List.prefix_append d [gval vals d g]).trans (ih _)
theorem evalG_prefix {c d : List Gate} (h : c <+: d) (vals : List Bool) : evalG vals c <+: evalG vals d := by
  obtain ⟨t, rfl⟩ := h
  rw [evalG_append]; exact fold_prefix _ _ _

theorem prefix_get {α : Type} {c d : List α} (h : c <+: d) {i : Nat} {x : α} (hx : c[i]? = some x) : d[i]? = some x := by
  obtain ⟨t, rfl⟩ := h
  rw [List.getElem?_append_left (List.getElem?_eq_some_iff.1 hx).1]; exact hx
theorem prefix_get' {α : Type} {c d : List α} (h : c <+: d) {i : Nat} (hi : i < c.length) : d[i]? = c[i]? := by
  obtain ⟨t, rfl⟩ := h
  rw [List.getElem?_append_left hi]

theorem evalG_get {vals : List Bool} {c : List Gate} {i : Nat} {g : Gate} (h : c[i]? = some g) : (evalG vals c)[i]? = some (gval vals (evalG vals (c.take i)) g) := by
  obtain ⟨hi, he⟩ := List.getElem?_eq_some_iff.1 h
  have h1 : evalG vals (c.take (i + 1)) = evalG vals (c.take i) ++ [gval vals (evalG vals (c.take i)) g] := by
    rw [List.take_succ_eq_append_getElem hi, he, evalG_snoc]
  have h2 := evalG_prefix (List.take_prefix (i + 1) c) vals
  refine prefix_get h2 ?_
  rw [h1]
  have : (evalG vals (c.take i)).length = i := by rw [evalG_length, List.length_take]; omega
  rw [List.getElem?_append_right (by omega), this]
  simp

theorem refv_mono {d1 d2 : List Bool} (h : d1 <+: d2) {r : Int} (hr : (r / 2).toNat < d1.length) : refv d1 r = refv d2 r := by
  unfold refv
  rw [List.getD_eq_getElem?_getD, List.getD_eq_getElem?_getD, prefix_get' h hr]

/-- The value of a reference, whatever it is. -/
def cv (c : List Gate) (vals : List Bool) (r : Int) : Bool := refv (evalG vals c) r

theorem ceval_cv {c : List Gate} {vals : List Bool} {r : Int} (h1 : 0 ≤ r) (h2 : r < 2 * (c.length : Int)) : ceval c vals r = cv c vals r := by
  have : refOk r c.length = true := by simp only [refOk, decide_eq_true_eq]; omega
  unfold ceval cv
  rw [this, Bool.true_and]
  refine refv_mono (evalG_prefix (List.take_prefix _ _) _) ?_
  rw [evalG_length, List.length_take]; omega

theorem cv_ext {c d : List Gate} (h : c <+: d) {vals : List Bool} {r : Int} (h1 : 0 ≤ r) (h2 : r < 2 * (c.length : Int)) : cv d vals r = cv c vals r := by
  unfold cv
  refine (refv_mono (evalG_prefix h _) ?_).symm
  rw [evalG_length]; omega

theorem cv_not {c : List Gate} {vals : List Bool} {r : Int} (h : 0 ≤ r) : cv c vals (cnot r) = !cv c vals r := by
  unfold cv refv
  rw [cnot_half h, cnot_mod h]
  rcases Int.emod_two_eq r with e | e <;> rw [e] <;> cases (evalG vals c).getD (r / 2).toNat false <;> rfl

theorem cv_0 {c : List Gate} (h : Good c) (vals : List Bool) : cv c vals 0 = true := by
  have := evalG_get (vals := vals) h.head
  unfold cv refv
  rw [List.getD_eq_getElem?_getD, show ((0 : Int) / 2).toNat = 0 from rfl, this]
  rfl
theorem cv_1 {c : List Gate} (h : Good c) (vals : List Bool) : cv c vals 1 = false := by
  have := cv_not (c := c) (vals := vals) (r := 0) (by omega)
  rw [cv_0 h] at this; exact this

theorem cv_gate {c : List Gate} {vals : List Bool} {i : Nat} {g : Gate} (h : c[i]? = some g) : cv c vals (2 * (i : Int)) = gval vals (evalG vals (c.take i)) g := by
  unfold cv refv
  have e1 : (2 * (i : Int) / 2).toNat = i := by omega
  have e2 : (2 * (i : Int)) % 2 = 0 := by omega
  rw [e1, e2, List.getD_eq_getElem?_getD, evalG_get h]
  simp

theorem cshare_at (c : List Gate) (g : Gate) (hl : c.length < 20000) : ∃ i : Nat, (cshare c g).2 = 2 * (i : Int) ∧ (cshare c g).1[i]? = some g := by
  rcases cshare_cases c g hl with ⟨i, _, h, e⟩ | ⟨_, e⟩
  · exact ⟨i, by rw [e], by rw [e]; exact h⟩
  · exact ⟨c.length, by rw [e], by rw [e]; simp⟩

theorem and_gate_val {c : List Gate} (h : Good c) {vals : List Bool} {i : Nat} {a b : Int} (hi : c[i]? = some (gAnd a b)) : cv c vals (2 * (i : Int)) = (cv c vals a && cv c vals b) := by
  have hw := (h.wf i _ hi).2 rfl
  have hil := (List.getElem?_eq_some_iff.1 hi).1
  rw [cv_gate hi]
  have hp : evalG vals (c.take i) <+: evalG vals c := evalG_prefix (List.take_prefix _ _) _
  have hlen : (evalG vals (c.take i)).length = i := by rw [evalG_length, List.length_take]; omega
  have e1 : refv (evalG vals (c.take i)) (gAnd a b).a = cv c vals (gAnd a b).a := refv_mono hp (by rw [hlen]; omega)
  have e2 : refv (evalG vals (c.take i)) (gAnd a b).b = cv c vals (gAnd a b).b := refv_mono hp (by rw [hlen]; omega)
  unfold gval
  rw [if_neg (by simp [gAnd]), if_pos (by simp [gAnd]), e1, e2]
  show (cv c vals (min a b) && cv c vals (max a b)) = _
  rcases Int.le_total a b with h | h
  · rw [Int.min_eq_left h, Int.max_eq_right h]
  · rw [Int.min_eq_right h, Int.max_eq_left h, Bool.and_comm]

theorem input_gate_val {c : List Gate} {vals : List Bool} {i : Nat} {v : Int} (hi : c[i]? = some (gInput v)) : cv c vals (2 * (i : Int)) = (decide (v ≤ vals.length) && vals.getD (v - 1).toNat false) := by
  rw [cv_gate hi]
  unfold gval
  rw [if_pos (by simp [gInput])]
  rfl

theorem and_val {c : List Gate} {a b : Int} (vals : List Bool) (h : Good c) (hl : c.length < 20000) (ha1 : 0 ≤ a) (ha2 : a < 2 * (c.length : Int)) (hb1 : 0 ≤ b) (hb2 : b < 2 * (c.length : Int)) :
    cv (cand c a b).1 vals (cand c a b).2 = (cv c vals a && cv c vals b) := by
  have hk := keeps_and h hl ha1 ha2 hb1 hb2
  rcases cand_cases ha1 ha2 hb1 hb2 with ⟨h1, e⟩ | ⟨h1, e⟩ | ⟨h1, e⟩ | ⟨_, _, _, e⟩
  · rw [e]
    show cv c vals 1 = _
    rw [cv_1 h]
    rcases h1 with rfl | rfl | rfl
    · rw [cv_1 h]; rfl
    · rw [cv_1 h, Bool.and_false]
    · rw [cv_not hb1]; cases cv c vals b <;> rfl
  · rw [e, h1, cv_0 h]; rfl
  · rw [e]
    show cv c vals a = _
    rcases h1 with rfl | rfl
    · rw [cv_0 h, Bool.and_true]
    · rw [Bool.and_self]
  · rw [e] at hk ⊢
    obtain ⟨i, e1, e2⟩ := cshare_at c (gAnd a b) hl
    rw [e1, and_gate_val hk.good e2, cv_ext hk.ext ha1 ha2, cv_ext hk.ext hb1 hb2]

theorem input_val {c : List Gate} {v : Int} (vals : List Bool) (hl : c.length < 20000) (h1 : 1 ≤ v) (h2 : v ≤ 20000) :
    cv (cinput c v).1 vals (cinput c v).2 = (decide (v ≤ vals.length) && vals.getD (v - 1).toNat false) := by
  unfold cinput
  rw [if_neg (by omega)]
  obtain ⟨i, e1, e2⟩ := cshare_at c (gInput v) hl
  rw [e1, input_gate_val e2]

theorem or_val {c : List Gate} {a b : Int} (vals : List Bool) (h : Good c) (hl : c.length < 20000) (ha1 : 0 ≤ a) (ha2 : a < 2 * (c.length : Int)) (hb1 : 0 ≤ b) (hb2 : b < 2 * (c.length : Int)) :
    cv (cor c a b).1 vals (cor c a b).2 = (cv c vals a || cv c vals b) := by
  have na := cnot_bounds ha1 ha2
  have nb := cnot_bounds hb1 hb2
  have hk := keeps_and h hl na.1 na.2 nb.1 nb.2
  show cv (cand c (cnot a) (cnot b)).1 vals (cnot (cand c (cnot a) (cnot b)).2) = _
  rw [cv_not hk.low, and_val vals h hl na.1 na.2 nb.1 nb.2, cv_not ha1, cv_not hb1]
  cases cv c vals a <;> cases cv c vals b <;> rfl

theorem iff_val {c : List Gate} {a b : Int} (vals : List Bool) (h : Good c) (hl : c.length + 3 ≤ 20000) (ha1 : 0 ≤ a) (ha2 : a < 2 * (c.length : Int)) (hb1 : 0 ≤ b) (hb2 : b < 2 * (c.length : Int)) :
    cv (ciff c a b).1 vals (ciff c a b).2 = (cv c vals a == cv c vals b) := by
  have na := cnot_bounds ha1 ha2
  have nb := cnot_bounds hb1 hb2
  have k1 := keeps_and h (by omega) ha1 ha2 nb.1 nb.2
  have l1 := k1.len
  have k2 := keeps_and k1.good (by omega) na.1 (k1.refs na.2) hb1 (k1.refs hb2)
  have l2 := k2.len
  have nx := cnot_bounds k1.low k1.high
  have ny := cnot_bounds k2.low k2.high
  show cv (cand _ _ _).1 vals (cand _ _ _).2 = _
  rw [and_val vals k2.good (by omega) nx.1 (k2.refs nx.2) ny.1 ny.2, cv_not k1.low, cv_not k2.low, cv_ext k2.ext k1.low k1.high,
    and_val vals k1.good (by omega) na.1 (k1.refs na.2) hb1 (k1.refs hb2), cv_ext k1.ext na.1 na.2, cv_ext k1.ext hb1 hb2,
    and_val vals h (by omega) ha1 ha2 nb.1 nb.2, cv_not ha1, cv_not hb1]
  cases cv c vals a <;> cases cv c vals b <;> rfl

/- The same in the words of the program. -/
theorem Keeps.ceval {c : List Gate} {x : List Gate × Int} {k : Nat} (h : Keeps c x k) (vals : List Bool) : Go.Proofs.Ytanlecgpnknhoaa.ceval x.1 vals x.2 = cv x.1 vals x.2 := ceval_cv h.low h.high
theorem Keeps.old {c : List Gate} {x : List Gate × Int} {k : Nat} (h : Keeps c x k) (vals : List Bool) {r : Int} (h1 : 0 ≤ r) (h2 : r < 2 * (c.length : Int)) : Go.Proofs.Ytanlecgpnknhoaa.ceval x.1 vals r = Go.Proofs.Ytanlecgpnknhoaa.ceval c vals r := by
  rw [ceval_cv h1 h2, ceval_cv h1 (h.refs h2), cv_ext h.ext h1 h2]

section
variable {c : List Gate} {a b : Int} (vals : List Bool) (ha1 : 0 ≤ a) (ha2 : a < 2 * (c.length : Int))
include ha1 ha2
theorem sem_not : ceval c vals (cnot a) = !ceval c vals a := by
  have na := cnot_bounds ha1 ha2
  rw [ceval_cv na.1 na.2, ceval_cv ha1 ha2, cv_not ha1]
variable (h : Good c) (hl : c.length + 3 ≤ 20000) (hb1 : 0 ≤ b) (hb2 : b < 2 * (c.length : Int))
include h hl hb1 hb2
theorem sem_and : ceval (cand c a b).1 vals (cand c a b).2 = (ceval c vals a && ceval c vals b) := by
  rw [(keeps_and h (by omega) ha1 ha2 hb1 hb2).ceval, and_val vals h (by omega) ha1 ha2 hb1 hb2, ceval_cv ha1 ha2, ceval_cv hb1 hb2]
theorem sem_or : ceval (cor c a b).1 vals (cor c a b).2 = (ceval c vals a || ceval c vals b) := by
  rw [(keeps_or h (by omega) ha1 ha2 hb1 hb2).ceval, or_val vals h (by omega) ha1 ha2 hb1 hb2, ceval_cv ha1 ha2, ceval_cv hb1 hb2]
theorem sem_iff : ceval (ciff c a b).1 vals (ciff c a b).2 = (ceval c vals a == ceval c vals b) := by
  rw [(keeps_iff h (by omega) ha1 ha2 hb1 hb2).ceval, iff_val vals h (by omega) ha1 ha2 hb1 hb2, ceval_cv ha1 ha2, ceval_cv hb1 hb2]
end
theorem sem_input {c : List Gate} {v : Int} (vals : List Bool) (h : Good c) (hl : c.length + 3 ≤ 20000) (h1 : 1 ≤ v) (h2 : v ≤ 20000) :
    ceval (cinput c v).1 vals (cinput c v).2 = (decide (v ≤ vals.length) && vals.getD (v - 1).toNat false) := by
  rw [(keeps_input h (by omega) h1 h2).ceval, input_val vals (by omega) h1 h2]
theorem sem_true {c : List Gate} (vals : List Bool) (h : Good c) : ceval c vals 0 = true := by
  have := h.ne
  rw [ceval_cv (by omega) (by omega), cv_0 h]
end Go.Proofs.Ytanlecgpnknhoaa
