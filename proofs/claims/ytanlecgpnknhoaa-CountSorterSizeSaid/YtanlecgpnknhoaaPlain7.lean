/- Plain laws: a repeated call on an extended circuit appends nothing. -/
import Derived.Test.YtanlecgpnknhoaaPlain6
namespace Go.Proofs.Ytanlecgpnknhoaa
set_option linter.unusedSimpArgs false
set_option linter.unusedVariables false

theorem gAnd_comm (a b : Int) : gAnd a b = gAnd b a := by simp [gAnd, Int.min_comm, Int.max_comm]

theorem cand_comm (c : List Gate) (a b : Int) : cand c a b = cand c b a := by
  unfold cand
  by_cases h : refOk a c.length = false ∨ refOk b c.length = false
  · rw [if_pos h, if_pos (Or.comm.1 h)]
  · rw [if_neg h, if_neg (fun h' => h (Or.comm.1 h'))]
    have ha : refOk a c.length = true := by cases hh : refOk a c.length with | true => rfl | false => exact absurd (.inl hh) h
    have hb : refOk b c.length = true := by cases hh : refOk b c.length with | true => rfl | false => exact absurd (.inr hh) h
    have a1 := (refOk_true ha).1
    have b1 := (refOk_true hb).1
    have e : (a = 1 ∨ b = 1 ∨ a = cnot b) ↔ (b = 1 ∨ a = 1 ∨ b = cnot a) := by
      rw [cnot_cnot a1 b1]; exact ⟨fun h => by rcases h with h | h | h <;> simp [h], fun h => by rcases h with h | h | h <;> simp [h]⟩
    by_cases h1 : a = 1 ∨ b = 1 ∨ a = cnot b
    · rw [if_pos h1, if_pos (e.1 h1)]
    · rw [if_neg h1, if_neg (fun h => h1 (e.2 h))]
      by_cases ha0 : a = 0
      · subst ha0
        by_cases hb0 : b = 0
        · subst hb0; rfl
        · rw [if_pos rfl, if_neg hb0, if_pos (.inl rfl)]
      · rw [if_neg ha0]
        by_cases hb0 : b = 0
        · subst hb0; rw [if_pos (.inl rfl), if_pos rfl]
        · rw [if_neg hb0]
          by_cases hab : a = b
          · subst hab; rfl
          · rw [if_neg (by simp [hb0, hab]), if_neg (by simp [ha0, Ne.symm hab]), gAnd_comm]
theorem cor_comm (c : List Gate) (a b : Int) : cor c a b = cor c b a := by unfold cor; rw [cand_comm]

theorem cfind_ext {c f : List Gate} {g : Gate} {i : Nat} (hp : c <+: f) (h : cfind c g = some i) : cfind f g = some i := by
  obtain ⟨h1, h2⟩ := cfind_some h
  have hi := (List.getElem?_eq_some_iff.1 h1).1
  exact cfind_of (prefix_get hp h1) fun j hj => by rw [prefix_get' hp (by omega)]; exact h2 j hj

theorem cshare_again {c f : List Gate} {g : Gate} (hl : c.length < 20000) (hp : (cshare c g).1 <+: f) : cshare f g = (f, (cshare c g).2) := by
  cases hf : cfind c g with
  | some i => rw [cshare_some hf] at hp ⊢; rw [cshare_some (cfind_ext hp hf)]
  | none =>
    rw [cshare_new hf (by omega)] at hp ⊢
    refine cshare_some (cfind_ext hp (cfind_of (i := c.length) (by simp) fun j hj hx => ?_))
    rw [List.getElem?_append_left hj] at hx
    exact cfind_none.1 hf (List.mem_of_getElem? hx)

theorem cand_again {c f : List Gate} {a b : Int} (hl : c.length < 20000) (ha1 : 0 ≤ a) (ha2 : a < 2 * (c.length : Int)) (hb1 : 0 ≤ b) (hb2 : b < 2 * (c.length : Int)) (hp : (cand c a b).1 <+: f) (hc : c.length ≤ f.length) :
    cand f a b = (f, (cand c a b).2) := by
  have r1 : ¬ (refOk a c.length = false ∨ refOk b c.length = false) := by simp [refOk]; omega
  have r2 : ¬ (refOk a f.length = false ∨ refOk b f.length = false) := by simp [refOk]; omega
  unfold cand at hp ⊢
  rw [if_neg r1] at hp ⊢
  rw [if_neg r2]
  by_cases h1 : a = 1 ∨ b = 1 ∨ a = cnot b
  · rw [if_pos h1, if_pos h1]
  · rw [if_neg h1] at hp ⊢
    rw [if_neg h1]
    by_cases h2 : a = 0
    · rw [if_pos h2, if_pos h2]
    · rw [if_neg h2] at hp ⊢
      rw [if_neg h2]
      by_cases h3 : b = 0 ∨ a = b
      · rw [if_pos h3, if_pos h3]
      · rw [if_neg h3] at hp ⊢
        rw [if_neg h3]
        exact cshare_again hl hp

theorem input_again {c f : List Gate} {v : Int} (hl : c.length < 20000) (h1 : 1 ≤ v) (h2 : v ≤ 20000) (hp : (cinput c v).1 <+: f) : cinput f v = (f, (cinput c v).2) := by
  unfold cinput at hp ⊢
  rw [if_neg (by omega)] at hp ⊢
  rw [if_neg (by omega)]
  exact cshare_again hl hp

section
variable {c f : List Gate} {a b : Int} (h : Good c) (hl : c.length + 3 ≤ 20000) (ha1 : 0 ≤ a) (ha2 : a < 2 * (c.length : Int)) (hb1 : 0 ≤ b) (hb2 : b < 2 * (c.length : Int))
include h hl ha1 ha2 hb1 hb2
theorem or_again (hp : (cor c a b).1 <+: f) : cor f a b = (f, (cor c a b).2) := by
  have na := cnot_bounds ha1 ha2
  have nb := cnot_bounds hb1 hb2
  have k := keeps_or h (by omega) ha1 ha2 hb1 hb2
  have e := cand_again (by omega) na.1 na.2 nb.1 nb.2 (f := f) hp (Nat.le_trans k.le hp.length_le)
  show ((cand f (cnot a) (cnot b)).1, cnot (cand f (cnot a) (cnot b)).2) = _
  rw [e]; rfl
theorem iff_again (hp : (ciff c a b).1 <+: f) : ciff f a b = (f, (ciff c a b).2) ∧ ciff f b a = (f, (ciff c a b).2) := by
  have na := cnot_bounds ha1 ha2
  have nb := cnot_bounds hb1 hb2
  have k1 := keeps_and h (by omega) ha1 ha2 nb.1 nb.2
  have l1 := k1.len
  have k2 := keeps_and k1.good (by omega) na.1 (k1.refs na.2) hb1 (k1.refs hb2)
  have l2 := k2.len
  have nx := cnot_bounds k1.low k1.high
  have ny := cnot_bounds k2.low k2.high
  have k3 := keeps_and k2.good (by omega) nx.1 (k2.refs nx.2) ny.1 ny.2
  have p3 : (cand (cand (cand c a (cnot b)).1 (cnot a) b).1 (cnot (cand c a (cnot b)).2) (cnot (cand (cand c a (cnot b)).1 (cnot a) b).2)).1 <+: f := hp
  have p2 := k3.ext.trans p3
  have p1 := k2.ext.trans p2
  have p0 := k1.ext.trans p1
  have e1 := cand_again (by omega) ha1 ha2 nb.1 nb.2 p1 p0.length_le
  have e2 := cand_again (by omega) na.1 (k1.refs na.2) hb1 (k1.refs hb2) p2 p1.length_le
  have e3 := cand_again (by omega) nx.1 (k2.refs nx.2) ny.1 ny.2 p3 p2.length_le
  constructor
  · show cand (cand (cand f a (cnot b)).1 (cnot a) b).1 (cnot (cand f a (cnot b)).2) (cnot (cand (cand f a (cnot b)).1 (cnot a) b).2) = _
    rw [e1]; dsimp only
    rw [e2]; dsimp only
    rw [e3]; rfl
  · show cand (cand (cand f b (cnot a)).1 (cnot b) a).1 (cnot (cand f b (cnot a)).2) (cnot (cand (cand f b (cnot a)).1 (cnot b) a).2) = _
    rw [cand_comm f b (cnot a), e2]; dsimp only
    rw [cand_comm f (cnot b) a, e1]; dsimp only
    rw [cand_comm f _ _, e3]; rfl
theorem shares_and : cand (cand c a b).1 a b = cand c a b ∧ cand (cand c a b).1 b a = cand c a b := by
  have k := keeps_and h (by omega) ha1 ha2 hb1 hb2
  have e := cand_again (f := (cand c a b).1) (by omega) ha1 ha2 hb1 hb2 (List.prefix_refl _) k.le
  exact ⟨e, by rw [cand_comm]; exact e⟩
theorem shares_or : cor (cor c a b).1 b a = cor c a b := by
  rw [cor_comm]; exact or_again h hl ha1 ha2 hb1 hb2 (List.prefix_refl _)
theorem shares_iff : ciff (ciff c a b).1 b a = ciff c a b := (iff_again h hl ha1 ha2 hb1 hb2 (List.prefix_refl _)).2
end
theorem shares_input {c : List Gate} {v : Int} (hl : c.length + 3 ≤ 20000) (h1 : 1 ≤ v) (h2 : v ≤ 20000) : cinput (cinput c v).1 v = cinput c v := input_again (by omega) h1 h2 (List.prefix_refl _)

/- Steps keep. -/
theorem do_old {c : List Gate} {refs : List Int} {s : Step} (h : Good c) (hl : c.length + 3 ≤ 20000) (hr : RefsIn refs c.length) (vals : List Bool) {r : Int} (h1 : 0 ≤ r) (h2 : r < 2 * (c.length : Int)) : ceval (cdo c refs s).1 vals r = ceval c vals r :=
  (keeps_do h hl hr).old vals h1 h2
end Go.Proofs.Ytanlecgpnknhoaa
