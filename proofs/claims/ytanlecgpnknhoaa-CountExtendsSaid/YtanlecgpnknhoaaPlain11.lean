/- Plain laws: what the functions of layer 16 compute on truth values. -/
import Derived.Test.YtanlecgpnknhoaaPlain10
namespace Go.Proofs.Ytanlecgpnknhoaa
set_option linter.unusedSimpArgs false
set_option linter.unusedVariables false

/-- the unary number t -/
def Un (l : List Bool) (t : Nat) : Prop := t ≤ l.length ∧ ∀ i, i < l.length → l.getD i false = decide (i < t)
theorem Un.get {l : List Bool} {t : Nat} (h : Un l t) (i : Nat) : l.getD i false = decide (i < t) := by
  by_cases hi : i < l.length
  · exact h.2 i hi
  · rw [List.getD_eq_getElem?_getD, List.getElem?_eq_none (Nat.le_of_not_lt hi)]
    have := h.1
    exact (decide_eq_false (by omega)).symm
theorem getD_any {α : Type} (l : List α) (i : Nat) (h : i < l.length) (a b : α) : l.getD i a = l.getD i b := by
  rw [List.getD_eq_getElem?_getD, List.getD_eq_getElem?_getD, List.getElem?_eq_getElem h]; rfl
theorem reach_un {l : List Bool} {t : Nat} (h : Un l t) (k : Int) : ureach true false l k = decide (k ≤ t) := by
  have := h.1
  unfold ureach
  split
  · exact (decide_eq_true (by omega)).symm
  · split
    · exact (decide_eq_false (by omega)).symm
    · rw [getD_any l _ (by omega) true false, h.get]
      rw [decide_eq_decide]; omega

theorem tv_addIn (x y : List Bool) (k lo : Nat) : ∀ n, ((addIn true false x y k lo n).tv = true ↔ ∃ i, lo ≤ i ∧ i < lo + n ∧ ureach true false x (i : Int) = true ∧ ureach true false y ((k : Int) + 1 - i) = true)
  | 0 => by
    constructor
    · intro h; cases h
    · rintro ⟨i, h1, h2, _⟩; omega
  | n + 1 => by
    unfold addIn
    rw [CM.tv_bind]
    show ((addIn true false x y k lo n).tv || (ureach true false x ((lo + n : Nat) : Int) && ureach true false y ((k : Int) + 1 - ((lo + n : Nat) : Int)))) = true ↔ _
    rw [Bool.or_eq_true, Bool.and_eq_true, tv_addIn x y k lo n]
    constructor
    · rintro (⟨i, h1, h2, h3⟩ | h)
      · exact ⟨i, h1, by omega, h3⟩
      · exact ⟨lo + n, by omega, by omega, h⟩
    · rintro ⟨i, h1, h2, h3⟩
      by_cases hi : i = lo + n
      · subst hi; exact .inr h3
      · exact .inl ⟨i, h1, by omega, h3⟩

theorem tv_addK {x y : List Bool} {n m : Nat} (hx : Un x n) (hy : Un y m) (k : Nat) : (addIn true false x y k (addLo y.length k) (addCnt x.length y.length k)).tv = decide (k < n + m) := by
  have := hx.1; have := hy.1
  rw [Bool.eq_iff_iff, tv_addIn, decide_eq_true_eq]
  constructor
  · rintro ⟨i, h1, h2, h3, h4⟩
    rw [reach_un hx, decide_eq_true_eq] at h3
    rw [reach_un hy, decide_eq_true_eq] at h4
    omega
  · intro h
    refine ⟨k + 1 - m, ?_, ?_, ?_, ?_⟩
    · unfold addLo; omega
    · unfold addCnt addLo; omega
    · rw [reach_un hx, decide_eq_true_eq]; omega
    · rw [reach_un hy, decide_eq_true_eq]; omega

theorem tv_addTo {x y : List Bool} {n m : Nat} (hx : Un x n) (hy : Un y m) : ∀ k, (addTo true false x y k).tv.length = k ∧ ∀ i, i < k → (addTo true false x y k).tv.getD i false = decide (i < n + m)
  | 0 => ⟨rfl, fun i h => by omega⟩
  | k + 1 => by
    obtain ⟨h1, h2⟩ := tv_addTo hx hy k
    unfold addTo
    rw [CM.tv_bind, CM.tv_bind, tv_addK hx hy]
    refine ⟨by show ((addTo true false x y k).tv ++ [_]).length = _; simp [h1], fun i hi => ?_⟩
    show ((addTo true false x y k).tv ++ [decide (k < n + m)]).getD i false = _
    rw [List.getD_eq_getElem?_getD]
    by_cases hik : i < k
    · rw [List.getElem?_append_left (by omega), ← List.getD_eq_getElem?_getD]; exact h2 i hik
    · obtain rfl : i = k := by omega
      rw [List.getElem?_append_right (by omega), h1]; simp
theorem tv_uadd {x y : List Bool} {n m : Nat} (hx : Un x n) (hy : Un y m) : (uadd true false x y).tv.length = x.length + y.length ∧ Un (uadd true false x y).tv (n + m) := by
  have := hx.1; have := hy.1
  obtain ⟨h1, h2⟩ := tv_addTo hx hy (x.length + y.length)
  exact ⟨h1, ⟨by unfold uadd; rw [h1]; omega, fun i hi => h2 i (by unfold uadd at hi; rw [h1] at hi; exact hi)⟩⟩

/-- how many are true -/
def cnt (l : List Bool) : Nat := l.count true
theorem cnt_le (l : List Bool) : cnt l ≤ l.length := List.count_le_length
theorem cnt_append (l m : List Bool) : cnt (l ++ m) = cnt l + cnt m := List.count_append
theorem un_one (b : Bool) : Un [b] (cnt [b]) := by
  cases b <;> refine ⟨by decide, fun i hi => ?_⟩ <;> (obtain rfl : i = 0 := by (have : i < 1 := hi; omega)) <;> rfl
theorem un_small {l : List Bool} (h : l.length < 2) : Un l (cnt l) := by
  match l, h with
  | [], _ => exact ⟨Nat.le_refl _, fun i hi => absurd hi (Nat.not_lt_zero _)⟩
  | [b], _ => exact un_one b

theorem tv_total : ∀ (f : Nat) (l : List Bool), l.length ≤ f → (utotal true false f l).tv.length = l.length ∧ Un (utotal true false f l).tv (cnt l)
  | 0, l, h => by
    obtain rfl : l = [] := List.eq_nil_of_length_eq_zero (by omega)
    exact ⟨rfl, un_small (l := []) (by decide)⟩
  | f + 1, l, h => by
    unfold utotal
    by_cases hl : l.length < 2
    · rw [if_pos hl]; exact ⟨rfl, un_small hl⟩
    · rw [if_neg hl, CM.tv_bind, CM.tv_bind]
      have l1 : (l.take (l.length / 2)).length = l.length / 2 := by rw [List.length_take]; omega
      have l2 : (l.drop (l.length / 2)).length = l.length - l.length / 2 := List.length_drop
      obtain ⟨a1, a2⟩ := tv_total f (l.take (l.length / 2)) (by omega)
      obtain ⟨b1, b2⟩ := tv_total f (l.drop (l.length / 2)) (by omega)
      obtain ⟨c1, c2⟩ := tv_uadd a2 b2
      refine ⟨by rw [c1, a1, b1, l1, l2]; omega, ?_⟩
      have : cnt (l.take (l.length / 2)) + cnt (l.drop (l.length / 2)) = cnt l := by rw [← cnt_append, List.take_append_drop]
      rw [← this]; exact c2

theorem take_succ_getD (l : List Bool) (i : Nat) (h : i < l.length) (b : Bool) : l.take (i + 1) = l.take i ++ [l.getD i b] := by
  rw [List.take_succ_eq_append_getElem h, List.getD_eq_getElem?_getD, List.getElem?_eq_getElem h]; rfl
theorem tv_count (l : List Bool) : ∀ i, i ≤ l.length → (ucount true false l i).tv.length = i ∧ Un (ucount true false l i).tv (cnt (l.take i))
  | 0, _ => ⟨rfl, by rw [List.take_zero]; exact un_small (l := []) (by decide)⟩
  | i + 1, h => by
    obtain ⟨a1, a2⟩ := tv_count l i (by omega)
    unfold ucount
    rw [CM.tv_bind]
    obtain ⟨c1, c2⟩ := tv_uadd a2 (un_one (l.getD i true))
    refine ⟨by rw [c1, a1]; rfl, ?_⟩
    rw [take_succ_getD l i (by omega) true, cnt_append]; exact c2

theorem tv_lessTo {x y : List Bool} {n m : Nat} (hx : Un x n) (hy : Un y m) (b : Int) : ∀ j, ((lessTo true false (fun r => !r) x y b j).tv = true ↔ ∃ i : Nat, i < j ∧ (i : Int) ≤ m ∧ ¬ ((i : Int) + b ≤ n))
  | 0 => by
    constructor
    · intro h; cases h
    · rintro ⟨i, h1, _⟩; omega
  | j + 1 => by
    unfold lessTo
    rw [CM.tv_bind]
    show ((lessTo true false (fun r => !r) x y b j).tv || (ureach true false y (j : Int) && !(ureach true false x ((j : Int) + b)))) = true ↔ _
    rw [Bool.or_eq_true, Bool.and_eq_true, Bool.not_eq_true', reach_un hx, reach_un hy, decide_eq_true_eq, decide_eq_false_iff_not, tv_lessTo hx hy b j]
    constructor
    · rintro (⟨i, h1, h2⟩ | h)
      · exact ⟨i, by omega, h2⟩
      · exact ⟨j, by omega, h⟩
    · rintro ⟨i, h1, h2⟩
      by_cases hi : i = j
      · subst hi; exact .inr h2
      · exact .inl ⟨i, by omega, h2⟩
theorem tv_less {x y : List Bool} {n m : Nat} (hx : Un x n) (hy : Un y m) (b : Int) : (uless true false (fun r => !r) x y b).tv = decide ((n : Int) < m + b) := by
  have := hy.1
  rw [Bool.eq_iff_iff, decide_eq_true_eq]
  unfold uless
  rw [tv_lessTo hx hy]
  constructor
  · rintro ⟨i, h1, h2, h3⟩; omega
  · intro h; exact ⟨m, by omega, by omega, by omega⟩

theorem tv_atleast (l : List Bool) (k : Int) : (uatleast true false l k).tv = decide (k ≤ cnt l) := by
  have hc := cnt_le l
  unfold uatleast
  by_cases hk : k ≤ 0 ∨ (l.length : Int) < k
  · rw [if_pos hk]
    show ureach true false l (min k ((l.length : Int) + 1)) = _
    unfold ureach
    rcases hk with hk | hk
    · rw [if_pos (by omega)]; exact (decide_eq_true (by omega)).symm
    · rw [if_neg (by omega), if_pos (by omega)]; exact (decide_eq_false (by omega)).symm
  · rw [if_neg hk, CM.tv_bind]
    obtain ⟨a1, a2⟩ := tv_total l.length l (Nat.le_refl _)
    show (utotal true false l.length l).tv.getD (k - 1).toNat true = _
    rw [getD_any _ _ (by rw [a1]; omega) true false, a2.get, decide_eq_decide]; omega

/- The sorter. -/
theorem getD_set_same {l : List Bool} {i : Nat} {b : Bool} (h : i < l.length) : (l.set i b).getD i false = b := by
  rw [List.getD_eq_getElem?_getD, List.getElem?_set, if_pos rfl, if_pos h]; rfl
theorem getD_set_ne' {l : List Bool} {i j : Nat} {b : Bool} (h : i ≠ j) : (l.set i b).getD j false = l.getD j false := by
  rw [List.getD_eq_getElem?_getD, List.getElem?_set_ne h, ← List.getD_eq_getElem?_getD]

theorem tv_cmp (l : List Bool) (i j : Nat) (hij : i ≠ j) (hi : i < l.length) (hj : j < l.length) :
    (cmpAt false i j l).tv.length = l.length ∧ (cmpAt false i j l).tv.getD i false = (l.getD i false || l.getD j false) ∧ (cmpAt false i j l).tv.getD j false = (l.getD i false && l.getD j false) ∧ ∀ k, k ≠ i → k ≠ j → (cmpAt false i j l).tv.getD k false = l.getD k false := by
  have e : (cmpAt false i j l).tv = (l.set i (l.getD i false || l.getD j false)).set j (l.getD i false && l.getD j false) := rfl
  rw [e]
  refine ⟨by simp, ?_, ?_, fun k h1 h2 => ?_⟩
  · rw [getD_set_ne' (Ne.symm hij), getD_set_same hi]
  · rw [getD_set_same (by simpa using hj)]
  · rw [getD_set_ne' (Ne.symm h2), getD_set_ne' (Ne.symm h1)]

theorem pos_inj {low step i j : Nat} (hs : 0 < step) : low + step * i = low + step * j ↔ i = j := by
  constructor
  · intro h; exact Nat.eq_of_mul_eq_mul_left hs (by omega)
  · rintro rfl; rfl

/-- The comparators (1,2), (3,4) .. (2M-1,2M). -/
theorem tv_loop (low step : Nat) (hs : 0 < step) : ∀ (M : Nat) (l : List Bool), low + step * (2 * M) < l.length →
    (mergeLoop false low step M l).tv.length = l.length ∧
    (∀ i, i < M → (mergeLoop false low step M l).tv.getD (low + step * (2 * i + 1)) false = (l.getD (low + step * (2 * i + 1)) false || l.getD (low + step * (2 * i + 2)) false) ∧
      (mergeLoop false low step M l).tv.getD (low + step * (2 * i + 2)) false = (l.getD (low + step * (2 * i + 1)) false && l.getD (low + step * (2 * i + 2)) false)) ∧
    (∀ p, (∀ i, i < M → p ≠ low + step * (2 * i + 1) ∧ p ≠ low + step * (2 * i + 2)) → (mergeLoop false low step M l).tv.getD p false = l.getD p false)
  | 0, l, _ => ⟨rfl, fun i h => by omega, fun p _ => rfl⟩
  | M + 1, l, h => by
    have hle : step * (2 * M) ≤ step * (2 * (M + 1)) := Nat.mul_le_mul_left _ (by omega)
    obtain ⟨h1, h2, h3⟩ := tv_loop low step hs M l (by omega)
    have e0 : M * (2 * step) = step * (2 * M) := by rw [Nat.mul_left_comm M 2 step, Nat.mul_comm M step, Nat.mul_left_comm step 2 M]
    have e1 : low + step + M * (2 * step) = low + step * (2 * M + 1) := by rw [Nat.mul_succ, e0]; omega
    have e2 : low + step + M * (2 * step) + step = low + step * (2 * M + 2) := by rw [show 2 * M + 2 = (2 * M + 1) + 1 by omega, Nat.mul_succ step (2 * M + 1)]; omega
    unfold mergeLoop
    rw [CM.tv_bind, e2, e1]
    have b1 : step * (2 * M + 1) ≤ step * (2 * (M + 1)) := Nat.mul_le_mul_left _ (by omega)
    have b2 : step * (2 * M + 2) = step * (2 * (M + 1)) := by rw [show 2 * M + 2 = 2 * (M + 1) by omega]
    obtain ⟨c1, c2, c3, c4⟩ := tv_cmp (mergeLoop false low step M l).tv (low + step * (2 * M + 1)) (low + step * (2 * M + 2)) (by rw [Ne, pos_inj hs]; omega) (by rw [h1]; omega) (by rw [h1]; omega)
    have o1 := h3 (low + step * (2 * M + 1)) (fun i hi => ⟨by rw [Ne, pos_inj hs]; omega, by rw [Ne, pos_inj hs]; omega⟩)
    have o2 := h3 (low + step * (2 * M + 2)) (fun i hi => ⟨by rw [Ne, pos_inj hs]; omega, by rw [Ne, pos_inj hs]; omega⟩)
    rw [o1, o2] at c2 c3
    refine ⟨c1.trans h1, fun i hi => ?_, fun p hp => ?_⟩
    · by_cases him : i = M
      · subst him; exact ⟨c2, c3⟩
      · rw [c4 _ (by rw [Ne, pos_inj hs]; omega) (by rw [Ne, pos_inj hs]; omega), c4 _ (by rw [Ne, pos_inj hs]; omega) (by rw [Ne, pos_inj hs]; omega)]
        exact h2 i (by omega)
    · have := hp M (by omega)
      rw [c4 p this.1 this.2]
      exact h3 p fun i hi => hp i (by omega)

/-- h elements from low on, step apart, are the unary number t. -/
def SubU (l : List Bool) (low step h t : Nat) : Prop := t ≤ h ∧ ∀ i, i < h → l.getD (low + step * i) false = decide (i < t)

theorem tv_merge : ∀ (e low step : Nat) (l : List Bool) (p q : Nat), 0 < step → low + step * (2 * 2 ^ e - 1) < l.length → SubU l low step (2 ^ e) p → SubU l (low + step * 2 ^ e) step (2 ^ e) q →
    (umerge false e low step l).tv.length = l.length ∧ SubU (umerge false e low step l).tv low step (2 * 2 ^ e) (p + q) ∧
    ∀ k, (∀ i, i < 2 * 2 ^ e → k ≠ low + step * i) → (umerge false e low step l).tv.getD k false = l.getD k false
  | 0, low, step, l, p, q, hs, hl, hp, hq => by
    unfold umerge
    obtain ⟨c1, c2, c3, c4⟩ := tv_cmp l low (low + step) (by omega) (by omega) (by simpa using hl)
    have p0 := hp.2 0 (by simp)
    have q0 := hq.2 0 (by simp)
    rw [Nat.mul_zero, Nat.add_zero] at p0 q0
    rw [Nat.pow_zero, Nat.mul_one] at q0
    have hp1 : p ≤ 1 := hp.1
    have hq1 : q ≤ 1 := hq.1
    rw [p0, q0] at c2 c3
    refine ⟨c1, ⟨by simp; omega, fun i hi => ?_⟩, fun k hk => ?_⟩
    · have : i = 0 ∨ i = 1 := by simp at hi; omega
      rcases this with rfl | rfl
      · rw [Nat.mul_zero, Nat.add_zero, c2, ← Bool.decide_or, decide_eq_decide]; omega
      · rw [Nat.mul_one, c3, ← Bool.decide_and, decide_eq_decide]; omega
    · refine c4 k ?_ ?_
      · have := hk 0 (by simp); simpa using this
      · have := hk 1 (by simp); simpa using this
  | e + 1, low, step, l, p, q, hs, hl, hp, hq => by
    have hpow : 2 ^ (e + 1) = 2 * 2 ^ e := by rw [Nat.pow_succ, Nat.mul_comm]
    have hpos : 0 < 2 ^ e := Nat.two_pow_pos e
    rw [hpow] at hl hp hq
    generalize hH : 2 ^ e = H at *
    have ev : ∀ i, low + 2 * step * i = low + step * (2 * i) := fun i => by rw [Nat.mul_comm 2 step, Nat.mul_assoc]
    have od : ∀ i, low + step + 2 * step * i = low + step * (2 * i + 1) := fun i => by rw [Nat.mul_succ, Nat.mul_comm 2 step, Nat.mul_assoc]; omega
    have big : ∀ i, i ≤ 2 * (2 * H) - 1 → low + step * i < l.length := fun i hi => by
      have := Nat.mul_le_mul_left step hi; omega
    unfold umerge
    rw [CM.tv_bind, CM.tv_bind, hpow]
    -- the even ones
    have s1 : SubU l low (2 * step) H ((p + 1) / 2) := ⟨by have := hp.1; omega, fun i hi => by
      rw [ev, hp.2 (2 * i) (by omega), decide_eq_decide]; omega⟩
    have s2 : SubU l (low + 2 * step * H) (2 * step) H ((q + 1) / 2) := ⟨by have := hq.1; omega, fun i hi => by
      have e0 : low + 2 * step * H + 2 * step * i = low + step * (2 * H) + step * (2 * i) := by rw [ev, Nat.mul_comm 2 step, Nat.mul_assoc]
      rw [e0, hq.2 (2 * i) (by omega), decide_eq_decide]; omega⟩
    have ih1 := tv_merge e low (2 * step) l ((p + 1) / 2) ((q + 1) / 2) (by omega)
    rw [hH] at ih1
    obtain ⟨a1, a2, a3⟩ := ih1 (by rw [ev]; exact big _ (by omega)) s1 s2
    generalize hL1 : (umerge false e low (2 * step) l).tv = l1 at *
    have keep1 : ∀ i, l1.getD (low + step * (2 * i + 1)) false = l.getD (low + step * (2 * i + 1)) false := fun i => a3 _ fun j _ => by rw [ev, Ne, pos_inj hs]; omega
    -- the odd ones
    have s3 : SubU l1 (low + step) (2 * step) H (p / 2) := ⟨by have := hp.1; omega, fun i hi => by
      rw [od, keep1, hp.2 (2 * i + 1) (by omega), decide_eq_decide]; omega⟩
    have s4 : SubU l1 (low + step + 2 * step * H) (2 * step) H (q / 2) := ⟨by have := hq.1; omega, fun i hi => by
      have e0 : low + step + 2 * step * H + 2 * step * i = low + step * (2 * (H + i) + 1) := by rw [← od, Nat.mul_add]; omega
      have e1 : low + step * (2 * (H + i) + 1) = low + step * (2 * H) + step * (2 * i + 1) := by rw [show 2 * (H + i) + 1 = 2 * H + (2 * i + 1) by omega, Nat.mul_add]; omega
      rw [e0, keep1, e1, hq.2 (2 * i + 1) (by omega), decide_eq_decide]; omega⟩
    have ih2 := tv_merge e (low + step) (2 * step) l1 (p / 2) (q / 2) (by omega)
    rw [hH] at ih2
    obtain ⟨b1, b2, b3⟩ := ih2 (by rw [od, a1]; exact big _ (by omega)) s3 s4
    generalize hL2 : (umerge false e (low + step) (2 * step) l1).tv = l2 at *
    have keep2 : ∀ i, l2.getD (low + step * (2 * i)) false = l1.getD (low + step * (2 * i)) false := fun i => b3 _ fun j _ => by rw [od, Ne, pos_inj hs]; omega
    have E : ∀ i, i < 2 * H → l2.getD (low + step * (2 * i)) false = decide (i < (p + 1) / 2 + (q + 1) / 2) := fun i hi => by
      rw [keep2, ← ev, a2.2 i hi]
    have O : ∀ i, i < 2 * H → l2.getD (low + step * (2 * i + 1)) false = decide (i < p / 2 + q / 2) := fun i hi => by
      rw [← od, b2.2 i hi]
    have hp1 := hp.1
    have hq1 := hq.1
    -- the last comparators
    obtain ⟨c1, c2, c3⟩ := tv_loop low step hs (2 * H - 1) l2 (by rw [b1, a1]; exact big _ (by omega))
    refine ⟨by rw [c1, b1, a1], ⟨by omega, fun i hi => ?_⟩, fun k hk => ?_⟩
    · by_cases h0 : i = 0
      · subst h0
        rw [c3 _ (fun j hj => ⟨by rw [Ne, pos_inj hs]; omega, by rw [Ne, pos_inj hs]; omega⟩)]
        have := E 0 (by omega)
        rw [show 2 * 0 = 0 from rfl] at this
        rw [this, decide_eq_decide]; omega
      · by_cases hlast : i = 2 * (2 * H) - 1
        · rw [c3 _ (fun j hj => ⟨by rw [Ne, pos_inj hs]; omega, by rw [Ne, pos_inj hs]; omega⟩)]
          have := O (2 * H - 1) (by omega)
          rw [show 2 * (2 * H - 1) + 1 = i by omega] at this
          rw [this, decide_eq_decide]; omega
        · rcases Nat.mod_two_eq_zero_or_one i with hm | hm
          · obtain ⟨j, rfl⟩ : ∃ j, i = 2 * j + 2 := ⟨i / 2 - 1, by omega⟩
            rw [(c2 j (by omega)).2, O j (by omega)]
            have := E (j + 1) (by omega)
            rw [show 2 * (j + 1) = 2 * j + 2 by omega] at this
            rw [this, ← Bool.decide_and, decide_eq_decide]; omega
          · obtain ⟨j, rfl⟩ : ∃ j, i = 2 * j + 1 := ⟨i / 2, by omega⟩
            rw [(c2 j (by omega)).1, O j (by omega)]
            have := E (j + 1) (by omega)
            rw [show 2 * (j + 1) = 2 * j + 2 by omega] at this
            rw [this, ← Bool.decide_or, decide_eq_decide]; omega
    · rw [c3 k (fun i hi => ⟨hk _ (by omega), hk _ (by omega)⟩), b3 k (fun i hi => by rw [od]; exact hk _ (by omega)), a3 k (fun i hi => by rw [ev]; exact hk _ (by omega))]

/-- how many of the n from low on are true -/
def cntR (l : List Bool) (low : Nat) : Nat → Nat
  | 0 => 0
  | n + 1 => cntR l low n + (if l.getD (low + n) false = true then 1 else 0)
theorem cntR_le (l : List Bool) (low : Nat) : ∀ n, cntR l low n ≤ n
  | 0 => Nat.le_refl _
  | n + 1 => by have := cntR_le l low n; unfold cntR; split <;> omega
theorem cntR_congr {l m : List Bool} {low : Nat} : ∀ n, (∀ i, i < n → l.getD (low + i) false = m.getD (low + i) false) → cntR l low n = cntR m low n
  | 0, _ => rfl
  | n + 1, h => by unfold cntR; rw [cntR_congr n (fun i hi => h i (by omega)), h n (by omega)]
theorem cntR_add (l : List Bool) (low n : Nat) : ∀ m, cntR l low (n + m) = cntR l low n + cntR l (low + n) m
  | 0 => rfl
  | m + 1 => by
    show cntR l low (n + m) + (if l.getD (low + (n + m)) false = true then 1 else 0) = cntR l low n + (cntR l (low + n) m + (if l.getD (low + n + m) false = true then 1 else 0))
    rw [cntR_add l low n m, show low + (n + m) = low + n + m by omega]; omega
theorem cntR_all (l : List Bool) : ∀ n, n ≤ l.length → cntR l 0 n = cnt (l.take n)
  | 0, _ => by rw [List.take_zero]; rfl
  | n + 1, h => by
    rw [take_succ_getD l n (by omega) false, cnt_append]
    unfold cntR
    rw [cntR_all l n (by omega), Nat.zero_add]
    cases l.getD n false <;> simp [cnt]

theorem tv_sort : ∀ (e low : Nat) (l : List Bool), low + 2 ^ e ≤ l.length →
    (usort false e low l).tv.length = l.length ∧ SubU (usort false e low l).tv low 1 (2 ^ e) (cntR l low (2 ^ e)) ∧ ∀ k, (k < low ∨ low + 2 ^ e ≤ k) → (usort false e low l).tv.getD k false = l.getD k false
  | 0, low, l, h => by
    refine ⟨rfl, ⟨cntR_le _ _ _, fun i hi => ?_⟩, fun k _ => rfl⟩
    obtain rfl : i = 0 := by simp at hi; omega
    have e : cntR l low (2 ^ 0) = if l.getD low false = true then 1 else 0 := by
      show 0 + (if l.getD (low + 0) false = true then 1 else 0) = _
      rw [Nat.zero_add, Nat.add_zero]
    rw [e]
    show l.getD low false = _
    cases l.getD low false <;> rfl
  | e + 1, low, l, h => by
    have hpow : 2 ^ (e + 1) = 2 * 2 ^ e := by rw [Nat.pow_succ, Nat.mul_comm]
    have hpos : 0 < 2 ^ e := Nat.two_pow_pos e
    rw [hpow] at h ⊢
    unfold usort
    rw [CM.tv_bind, CM.tv_bind]
    obtain ⟨a1, a2, a3⟩ := tv_sort e low l (by omega)
    generalize hL1 : (usort false e low l).tv = l1 at *
    obtain ⟨b1, b2, b3⟩ := tv_sort e (low + 2 ^ e) l1 (by omega)
    generalize hL2 : (usort false e (low + 2 ^ e) l1).tv = l2 at *
    have r1 : cntR l1 (low + 2 ^ e) (2 ^ e) = cntR l (low + 2 ^ e) (2 ^ e) := cntR_congr _ fun i hi => a3 _ (by omega)
    rw [r1] at b2
    have s1 : SubU l2 low 1 (2 ^ e) (cntR l low (2 ^ e)) := ⟨a2.1, fun i hi => by rw [b3 _ (by omega)]; exact a2.2 i hi⟩
    have s2 : SubU l2 (low + 1 * 2 ^ e) 1 (2 ^ e) (cntR l (low + 2 ^ e) (2 ^ e)) := by rw [Nat.one_mul]; exact b2
    obtain ⟨c1, c2, c3⟩ := tv_merge e low 1 l2 _ _ (by omega) (by omega) s1 s2
    refine ⟨by rw [c1, b1, a1], ?_, fun k hk => ?_⟩
    · rw [show cntR l low (2 * 2 ^ e) = cntR l low (2 ^ e) + cntR l (low + 2 ^ e) (2 ^ e) by rw [← cntR_add, Nat.two_mul]]; exact c2
    · rw [c3 k (fun i hi => by omega), b3 k (by omega), a3 k (by omega)]

theorem tv_sorter (l : List Bool) : (usorter false l).tv.length = l.length ∧ Un (usorter false l).tv (cnt l) := by
  have hp := plog_self l.length
  unfold usorter
  rw [CM.tv_bind]
  generalize hE : plog l.length l.length 0 = e at *
  have hlen : (l ++ List.replicate (2 ^ e - l.length) false).length = 2 ^ e := by simp; omega
  obtain ⟨a1, a2, _⟩ := tv_sort e 0 (l ++ List.replicate (2 ^ e - l.length) false) (by rw [hlen]; omega)
  have hc : cntR (l ++ List.replicate (2 ^ e - l.length) false) 0 (2 ^ e) = cnt l := by
    rw [cntR_all _ _ (by rw [hlen]; exact Nat.le_refl _), List.take_of_length_le (by rw [hlen]; exact Nat.le_refl _), cnt_append]
    have : cnt (List.replicate (2 ^ e - l.length) false) = 0 := by unfold cnt; rw [List.count_replicate]; rfl
    omega
  rw [hc] at a2
  have hcl := cnt_le l
  have hl : ((usort false e 0 (l ++ List.replicate (2 ^ e - l.length) false)).tv.take l.length).length = l.length := by rw [List.length_take, a1, hlen]; omega
  show ((usort false e 0 (l ++ List.replicate (2 ^ e - l.length) false)).tv.take l.length).length = l.length ∧ Un ((usort false e 0 (l ++ List.replicate (2 ^ e - l.length) false)).tv.take l.length) (cnt l)
  refine ⟨hl, by rw [hl]; exact hcl, fun i hi => ?_⟩
  have hi' : i < l.length := by rw [hl] at hi; exact hi
  have := a2.2 i (by omega)
  rw [Nat.one_mul, Nat.zero_add] at this
  rw [List.getD_eq_getElem?_getD, List.getElem?_take, if_pos hi', ← List.getD_eq_getElem?_getD]; exact this
end Go.Proofs.Ytanlecgpnknhoaa
