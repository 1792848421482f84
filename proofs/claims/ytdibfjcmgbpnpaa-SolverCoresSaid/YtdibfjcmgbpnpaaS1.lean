/- The solver, plainly: its state, and the trail of true literals. -/
namespace Go.Proofs.Ytdibfjcmgbpnpaa
set_option linter.unusedSimpArgs false
set_option linter.unusedVariables false

/-- what a solver holds -/
structure SS where
  value : List Int
  level : List Nat
  reason : List Int
  lits : List Int
  marks : List Nat
  low : Nat
  clauses : List (List Int)
  watches : List (List Nat)
  head : Nat
  added : Nat
  broken : Bool
  proof : List (List Int)
  model : List Int
  core : List Int

/-- a literal over n variables -/
def LOk (n : Nat) (x : Int) : Prop := x ≠ 0 ∧ x.natAbs ≤ n
theorem LOk.neg {n : Nat} {x : Int} (h : LOk n x) : LOk n (-x) := ⟨by have := h.1; omega, by have := h.2; omega⟩
theorem LOk.lt {n : Nat} {x : Int} (h : LOk n x) : x.natAbs < n + 1 := by have := h.2; omega

def SS.of (s : SS) (x : Int) : Int := if x < 0 then -(s.value.getD x.natAbs 0) else s.value.getD x.natAbs 0
def SS.lv (s : SS) (x : Int) : Nat := s.level.getD x.natAbs 0
def SS.rs (s : SS) (x : Int) : Int := s.reason.getD x.natAbs 0
def sgn (x : Int) : Int := if x < 0 then -1 else 1
def SS.push (s : SS) (x r : Int) : SS := { s with value := s.value.set x.natAbs (sgn x), level := s.level.set x.natAbs s.marks.length, reason := s.reason.set x.natAbs r, lits := s.lits ++ [x] }
def SS.mark (s : SS) : SS := { s with marks := s.marks ++ [s.lits.length] }
def SS.decide (s : SS) (x : Int) : SS := if x ≠ 0 then s.mark.push x (-1) else s.mark
def SS.back (s : SS) (k : Nat) : SS :=
  if s.marks.length ≤ k then s else
    { s with value := (s.lits.drop (s.marks.getD k 0)).foldl (fun v x => v.set x.natAbs 0) s.value, low := (s.lits.drop (s.marks.getD k 0)).foldl (fun a x => min a x.natAbs) s.low, lits := s.lits.take (s.marks.getD k 0), marks := s.marks.take k }
def SS.undo (s : SS) (k : Nat) : SS := { s.back k with head := min s.head (s.back k).lits.length }
/-- the first number from l on that is not assigned -/
def adv (v : List Int) : Nat → Nat → Nat
  | 0, l => l
  | k + 1, l => if l < v.length ∧ v.getD l 0 ≠ 0 then adv v k (l + 1) else l
def SS.advance (s : SS) : SS := { s with low := adv s.value (s.value.length - s.low) s.low }
def SS.free (s : SS) : Int := if s.advance.low = s.value.length then 0 else s.advance.low

/-- how many marks lie at or before i -/
def cnt (l : List Nat) (i : Nat) : Nat := l.countP fun m => Decidable.decide (m ≤ i)
theorem cnt_all {l : List Nat} {i : Nat} (h : ∀ m ∈ l, m ≤ i) : cnt l i = l.length := by
  unfold cnt; rw [List.countP_eq_length]; intro m hm; simpa using h m hm
theorem cnt_le (l : List Nat) (i : Nat) : cnt l i ≤ l.length := List.countP_le_length
theorem cnt_mono (l : List Nat) {i j : Nat} (h : i ≤ j) : cnt l i ≤ cnt l j := by
  unfold cnt; apply List.countP_mono_left; intro m _ hm; simp at hm ⊢; omega
theorem cnt_append (a b : List Nat) (i : Nat) : cnt (a ++ b) i = cnt a i + cnt b i := List.countP_append ..
theorem cnt_full {l : List Nat} {i : Nat} (h : cnt l i = l.length) : ∀ m ∈ l, m ≤ i := by
  unfold cnt at h; rw [List.countP_eq_length] at h; intro m hm; simpa using h m hm
theorem cnt_zero {l : List Nat} {i : Nat} (h : cnt l i = 0) : ∀ m ∈ l, i < m := by
  unfold cnt at h; rw [List.countP_eq_zero] at h; intro m hm; have := h m hm; simp at this; omega
/-- in a sorted list the number k lies at or before i iff more than k do -/
theorem cnt_lt : ∀ {l : List Nat} {i k m : Nat}, l.Pairwise (· ≤ ·) → l[k]? = some m → (k < cnt l i ↔ m ≤ i)
  | [], _, k, m, _, h => by simp at h
  | a :: l, i, 0, m, hp, h => by
    simp at h; subst h
    unfold cnt; rw [List.countP_cons]
    constructor
    · intro h
      by_cases ha : a ≤ i
      · exact ha
      · exfalso
        have : l.countP (fun m => Decidable.decide (m ≤ i)) = 0 := by
          rw [List.countP_eq_zero]; intro x hx; have := (List.pairwise_cons.1 hp).1 x hx; simp; omega
        rw [this] at h; simp [ha] at h
    · intro h; simp [h]
  | a :: l, i, k + 1, m, hp, h => by
    have ih := cnt_lt (i := i) (List.pairwise_cons.1 hp).2 (by simpa using h)
    have hm : m ∈ l := List.mem_of_getElem? (by simpa using h)
    have ham := (List.pairwise_cons.1 hp).1 m hm
    unfold cnt at ih ⊢; rw [List.countP_cons]
    by_cases ha : a ≤ i
    · simp only [ha, decide_true, if_true]; omega
    · have : ¬ m ≤ i := by omega
      have h0 : l.countP (fun m => Decidable.decide (m ≤ i)) = 0 := by
        rw [List.countP_eq_zero]; intro x hx; have := (List.pairwise_cons.1 hp).1 x hx; simp; omega
      simp [ha, h0, this]

theorem getD_set {α} (l : List α) (i j : Nat) (a d : α) : (l.set i a).getD j d = if i = j ∧ j < l.length then a else l.getD j d := by
  rw [List.getD_eq_getElem?_getD, List.getElem?_set, List.getD_eq_getElem?_getD]
  by_cases h : i = j
  · subst h
    by_cases h2 : i < l.length
    · simp [h2]
    · simp [h2]
  · simp [h]
theorem nodup_inj {α β} {f : α → β} : ∀ {l : List α}, (l.map f).Nodup → ∀ {a b}, a ∈ l → b ∈ l → f a = f b → a = b
  | [], _, a, b, h, _, _ => by simp at h
  | x :: l, hn, a, b, ha, hb, e => by
    rw [List.map_cons, List.nodup_cons] at hn
    rcases List.mem_cons.1 ha with ea | ha'
    · rcases List.mem_cons.1 hb with eb | hb'
      · rw [ea, eb]
      · exact absurd (by rw [← ea, e]; exact List.mem_map_of_mem hb') hn.1
    · rcases List.mem_cons.1 hb with eb | hb'
      · exact absurd (by rw [← eb, ← e]; exact List.mem_map_of_mem ha') hn.1
      · exact nodup_inj hn.2 ha' hb' e
theorem nodup_pos {α} [DecidableEq α] : ∀ {l : List α}, l.Nodup → ∀ {i j : Nat} {x : α}, l[i]? = some x → l[j]? = some x → i = j
  | [], _, i, j, x, h, _ => by simp at h
  | y :: l, hn, 0, 0, x, _, _ => rfl
  | y :: l, hn, 0, j + 1, x, h, h2 => by
    simp at h h2; subst h; exact absurd (List.mem_of_getElem? h2) (List.nodup_cons.1 hn).1
  | y :: l, hn, i + 1, 0, x, h, h2 => by
    simp at h h2; subst h2; exact absurd (List.mem_of_getElem? h) (List.nodup_cons.1 hn).1
  | y :: l, hn, i + 1, j + 1, x, h, h2 => by
    have := nodup_pos (i := i) (j := j) (x := x) (List.nodup_cons.1 hn).2 (by simpa using h) (by simpa using h2)
    rw [this]
theorem nodup_len : ∀ {l r : List Nat}, l.Nodup → (∀ x ∈ l, x ∈ r) → l.length ≤ r.length
  | [], _, _, _ => by simp
  | x :: l, r, hn, h => by
    have hx := h x (List.mem_cons_self ..)
    have ih := nodup_len (r := r.erase x) (List.nodup_cons.1 hn).2 (fun y hy => (List.mem_erase_of_ne (fun (e : y = x) => (List.nodup_cons.1 hn).1 (by rw [← e]; exact hy))).2 (h y (List.mem_cons_of_mem _ hy)))
    rw [List.length_erase_of_mem hx] at ih
    have := List.length_pos_of_mem hx
    rw [List.length_cons]; omega
theorem foldl_zero (d : List Int) : ∀ (v : List Int) (j : Nat), (d.foldl (fun v x => v.set x.natAbs 0) v).getD j 0 = if (∃ x ∈ d, x.natAbs = j) then 0 else v.getD j 0 := by
  induction d with
  | nil => intro v j; simp
  | cons y d ih =>
    intro v j
    rw [List.foldl_cons, ih, getD_set]
    by_cases h : ∃ x ∈ d, x.natAbs = j
    · rw [if_pos h, if_pos]; obtain ⟨x, h1, h2⟩ := h; exact ⟨x, List.mem_cons_of_mem _ h1, h2⟩
    · rw [if_neg h]
      by_cases h2 : y.natAbs = j
      · rw [if_pos (c := ∃ x ∈ y :: d, x.natAbs = j) ⟨y, List.mem_cons_self .., h2⟩]
        by_cases h3 : j < v.length
        · rw [if_pos ⟨h2, h3⟩]
        · rw [if_neg (fun h => h3 h.2), List.getD_eq_getElem?_getD, List.getElem?_eq_none (by omega)]; rfl
      · rw [if_neg (fun h => h2 h.1), if_neg]
        rintro ⟨x, h4, h5⟩
        rcases List.mem_cons.1 h4 with rfl | h4
        · exact h2 h5
        · exact h ⟨x, h4, h5⟩
theorem foldl_zero_len (d : List Int) : ∀ (v : List Int), (d.foldl (fun v x => v.set x.natAbs 0) v).length = v.length := by
  induction d with
  | nil => intro v; rfl
  | cons y d ih => intro v; rw [List.foldl_cons, ih, List.length_set]
theorem foldl_low (d : List Int) : ∀ (a : Nat), d.foldl (fun a x => min a x.natAbs) a ≤ a ∧ (∀ x ∈ d, d.foldl (fun a x => min a x.natAbs) a ≤ x.natAbs) ∧ ∀ b, b ≤ a → (∀ x ∈ d, b ≤ x.natAbs) → b ≤ d.foldl (fun a x => min a x.natAbs) a := by
  induction d with
  | nil => intro a; simp
  | cons y d ih =>
    intro a
    obtain ⟨h1, h2, h3⟩ := ih (min a y.natAbs)
    rw [List.foldl_cons]
    refine ⟨by omega, ?_, ?_⟩
    · intro x hx
      rcases List.mem_cons.1 hx with rfl | hx
      · omega
      · exact h2 x hx
    · intro b hb h
      apply h3
      · have := h y (List.mem_cons_self ..); omega
      · intro x hx; exact h x (List.mem_cons_of_mem _ hx)

/-- the trail is in order -/
structure Tr (n : Nat) (s : SS) : Prop where
  vl : s.value.length = n + 1
  ll : s.level.length = n + 1
  rl : s.reason.length = n + 1
  ok : ∀ x ∈ s.lits, LOk n x
  nd : (s.lits.map Int.natAbs).Nodup
  val : ∀ x, LOk n x → s.of x = if x ∈ s.lits then 1 else if -x ∈ s.lits then -1 else 0
  srt : s.marks.Pairwise (· ≤ ·)
  ml : ∀ m ∈ s.marks, m ≤ s.lits.length
  lev : ∀ i x, s.lits[i]? = some x → s.lv x = cnt s.marks i
  low1 : 1 ≤ s.low
  low2 : s.low ≤ n + 1
  lowA : ∀ v : Nat, 1 ≤ v → v < s.low → (v : Int) ∈ s.lits ∨ -(v : Int) ∈ s.lits

theorem Tr.anti {n : Nat} {s : SS} (h : Tr n s) {x : Int} (h1 : x ∈ s.lits) : -x ∉ s.lits := by
  intro h2
  have := nodup_inj h.nd h1 h2 (by omega)
  have := (h.ok x h1).1
  omega
theorem Tr.pos {n : Nat} {s : SS} (h : Tr n s) {x : Int} (hx : LOk n x) : 0 < s.of x ↔ x ∈ s.lits := by
  rw [h.val x hx]
  by_cases h1 : x ∈ s.lits
  · simp [h1]
  · by_cases h2 : -x ∈ s.lits <;> simp [h1, h2]
theorem Tr.neg {n : Nat} {s : SS} (h : Tr n s) {x : Int} (hx : LOk n x) : s.of x < 0 ↔ -x ∈ s.lits := by
  rw [h.val x hx]
  by_cases h1 : x ∈ s.lits
  · have := h.anti h1; simp [h1, this]
  · by_cases h2 : -x ∈ s.lits <;> simp [h1, h2]
theorem Tr.zero {n : Nat} {s : SS} (h : Tr n s) {x : Int} (hx : LOk n x) : s.of x = 0 ↔ x ∉ s.lits ∧ -x ∉ s.lits := by
  rw [h.val x hx]
  by_cases h1 : x ∈ s.lits
  · simp [h1]
  · by_cases h2 : -x ∈ s.lits <;> simp [h1, h2]
theorem Tr.tri {n : Nat} {s : SS} (h : Tr n s) {x : Int} (hx : LOk n x) : s.of x = 1 ∨ s.of x = 0 ∨ s.of x = -1 := by
  rw [h.val x hx]
  by_cases h1 : x ∈ s.lits
  · simp [h1]
  · by_cases h2 : -x ∈ s.lits <;> simp [h1, h2]
theorem Tr.abs {n : Nat} {s : SS} (h : Tr n s) {x : Int} (h1 : x ∉ s.lits) (h2 : -x ∉ s.lits) {y : Int} (hy : y ∈ s.lits) : y.natAbs ≠ x.natAbs := by
  intro e
  rcases Int.natAbs_eq_natAbs_iff.1 e with rfl | rfl
  · exact h1 hy
  · exact h2 (by simpa using hy)
theorem Tr.pos_uniq {n : Nat} {s : SS} (h : Tr n s) {i j : Nat} {x : Int} (h1 : s.lits[i]? = some x) (h2 : s.lits[j]? = some x) : i = j := by
  have hn := h.nd
  refine nodup_pos hn (x := x.natAbs) ?_ ?_ <;> simp [h1, h2]
theorem Tr.len {n : Nat} {s : SS} (h : Tr n s) : s.lits.length ≤ n := by
  have h1 : (s.lits.map Int.natAbs).Nodup := h.nd
  have h2 : ∀ v ∈ s.lits.map Int.natAbs, v ∈ List.range' 1 n := by
    intro v hv
    obtain ⟨x, hx, rfl⟩ := List.mem_map.1 hv
    have := h.ok x hx
    rw [List.mem_range'_1]
    have h3 := this.1; have h4 := this.2
    omega
  have := nodup_len h1 h2
  simpa using this
theorem Tr.low_lt {n : Nat} {s : SS} (h : Tr n s) : s.low ≤ n + 1 := h.low2
theorem Tr.top {n : Nat} {s : SS} (h : Tr n s) : cnt s.marks s.lits.length = s.marks.length := cnt_all h.ml
theorem Tr.lv_le {n : Nat} {s : SS} (h : Tr n s) {x : Int} (hx : x ∈ s.lits) : s.lv x ≤ s.marks.length := by
  obtain ⟨i, hi⟩ := List.mem_iff_getElem?.1 hx
  rw [h.lev i x hi]; exact cnt_le _ _

theorem Tr.pushed {n : Nat} {s : SS} (h : Tr n s) {x r : Int} (hx : LOk n x) (h1 : x ∉ s.lits) (h2 : -x ∉ s.lits) : Tr n (s.push x r) := by
  have hxl := hx.lt
  refine ⟨?_, ?_, ?_, ?_, ?_, ?_, h.srt, ?_, ?_, h.low1, h.low2, ?_⟩
  · show (s.value.set _ _).length = _; rw [List.length_set]; exact h.vl
  · show (s.level.set _ _).length = _; rw [List.length_set]; exact h.ll
  · show (s.reason.set _ _).length = _; rw [List.length_set]; exact h.rl
  · intro y hy
    rcases List.mem_append.1 hy with hy | hy
    · exact h.ok y hy
    · rw [List.mem_singleton.1 hy]; exact hx
  · show ((s.lits ++ [x]).map Int.natAbs).Nodup
    rw [List.map_append, List.nodup_append]
    refine ⟨h.nd, by simp, ?_⟩
    intro a ha b hb e
    obtain ⟨y, hy, rfl⟩ := List.mem_map.1 ha
    simp at hb
    exact h.abs h1 h2 hy (by omega)
  · intro y hy
    have hv := h.val y hy
    have e : (s.push x r).of y = if y < 0 then -(if x.natAbs = y.natAbs ∧ y.natAbs < s.value.length then sgn x else s.value.getD y.natAbs 0) else (if x.natAbs = y.natAbs ∧ y.natAbs < s.value.length then sgn x else s.value.getD y.natAbs 0) := by
      show (if y < 0 then -((s.value.set x.natAbs (sgn x)).getD y.natAbs 0) else (s.value.set x.natAbs (sgn x)).getD y.natAbs 0) = _
      rw [getD_set]
    rw [e]
    show _ = if y ∈ s.lits ++ [x] then 1 else if -y ∈ s.lits ++ [x] then -1 else 0
    have hyl : y.natAbs < s.value.length := by rw [h.vl]; exact hy.lt
    have hx0 := hx.1
    by_cases ha : x.natAbs = y.natAbs
    · rw [if_pos (c := x.natAbs = y.natAbs ∧ y.natAbs < s.value.length) ⟨ha, hyl⟩]
      rcases Int.natAbs_eq_natAbs_iff.1 ha with rfl | rfl
      · rw [if_pos (c := x ∈ s.lits ++ [x]) (by simp)]
        unfold sgn; split <;> simp
      · rw [if_neg (c := y ∈ s.lits ++ [-y])]
        · rw [if_pos (c := -y ∈ s.lits ++ [-y]) (by simp)]
          unfold sgn; split <;> split <;> omega
        · simp; exact ⟨by simpa using h2, by omega⟩
    · rw [if_neg (c := x.natAbs = y.natAbs ∧ y.natAbs < s.value.length) (fun q => ha q.1)]
      have e2 : s.of y = if y < 0 then -(s.value.getD y.natAbs 0) else s.value.getD y.natAbs 0 := rfl
      rw [← e2, hv]
      have c1 : y ∈ s.lits ++ [x] ↔ y ∈ s.lits := by
        rw [List.mem_append]; constructor
        · rintro (q | q)
          · exact q
          · rw [List.mem_singleton] at q; exact absurd (by rw [q]) ha
        · exact Or.inl
      have c2 : -y ∈ s.lits ++ [x] ↔ -y ∈ s.lits := by
        rw [List.mem_append]; constructor
        · rintro (q | q)
          · exact q
          · rw [List.mem_singleton] at q; exact absurd (by rw [← q]; simp) ha
        · exact Or.inl
      simp only [c1, c2]
  · intro m hm
    show m ≤ (s.lits ++ [x]).length
    have := h.ml m hm
    rw [List.length_append]; omega
  · intro i y hi
    show (s.level.set x.natAbs s.marks.length).getD y.natAbs 0 = cnt s.marks i
    rw [getD_set]
    change (s.lits ++ [x])[i]? = some y at hi
    by_cases hl : i < s.lits.length
    · rw [List.getElem?_append_left hl] at hi
      rw [if_neg]
      · exact h.lev i y hi
      · rintro ⟨q, -⟩; exact h.abs h1 h2 (List.mem_of_getElem? hi) q.symm
    · rw [List.getElem?_append_right (by omega)] at hi
      have h0 : i = s.lits.length := by
        obtain ⟨hk, -⟩ := List.getElem?_eq_some_iff.1 hi
        simp at hk; omega
      subst h0
      simp at hi; subst hi
      rw [if_pos ⟨rfl, by rw [h.ll]; exact hxl⟩, h.top]
  · intro v a b
    rcases h.lowA v a b with q | q
    · exact .inl (List.mem_append_left _ q)
    · exact .inr (List.mem_append_left _ q)

theorem Tr.marked {n : Nat} {s : SS} (h : Tr n s) : Tr n s.mark := by
  refine ⟨h.vl, h.ll, h.rl, h.ok, h.nd, h.val, ?_, ?_, ?_, h.low1, h.low2, h.lowA⟩
  · show (s.marks ++ [s.lits.length]).Pairwise (· ≤ ·)
    rw [List.pairwise_append]
    refine ⟨h.srt, by simp, ?_⟩
    intro a ha b hb; simp at hb; subst hb; exact h.ml a ha
  · intro m hm
    rcases List.mem_append.1 hm with q | q
    · exact h.ml m q
    · rw [List.mem_singleton.1 q]; exact Nat.le_refl _
  · intro i y hi
    show s.lv y = cnt (s.marks ++ [s.lits.length]) i
    rw [cnt_append, h.lev i y hi]
    obtain ⟨hk, -⟩ := List.getElem?_eq_some_iff.1 hi
    change i < s.lits.length at hk
    have : cnt [s.lits.length] i = 0 := by unfold cnt; rw [List.countP_eq_zero]; intro m hm; simp at hm ⊢; omega
    omega

theorem cnt_take {l : List Nat} {k m i : Nat} (hp : l.Pairwise (· ≤ ·)) (hk : l[k]? = some m) (hi : i < m) : cnt (l.take k) i = cnt l i := by
  have e : l = l.take k ++ l.drop k := (List.take_append_drop k l).symm
  have h0 : cnt (l.drop k) i = 0 := by
    unfold cnt; rw [List.countP_eq_zero]
    intro x hx
    obtain ⟨j, hj⟩ := List.mem_iff_getElem?.1 hx
    rw [List.getElem?_drop] at hj
    have : m ≤ x := by
      obtain ⟨a1, a2⟩ := List.getElem?_eq_some_iff.1 hk
      obtain ⟨b1, b2⟩ := List.getElem?_eq_some_iff.1 hj
      rcases Nat.eq_zero_or_pos j with rfl | hj0
      · simp at b2; rw [a2] at b2; omega
      · have := List.pairwise_iff_getElem.1 hp k (k + j) a1 b1 (by omega)
        omega
    simp; omega
  conv => rhs; rw [e, cnt_append, h0]
  rfl

theorem Tr.backed {n : Nat} {s : SS} (h : Tr n s) (k : Nat) : Tr n (s.back k) := by
  by_cases hk : s.marks.length ≤ k
  · unfold SS.back; rw [if_pos hk]; exact h
  have hm : s.marks[k]? = some (s.marks.getD k 0) := by rw [List.getD_eq_getElem?_getD, List.getElem?_eq_getElem (by omega)]; rfl
  have e : s.back k = { s with value := (s.lits.drop (s.marks.getD k 0)).foldl (fun v x => v.set x.natAbs 0) s.value, low := (s.lits.drop (s.marks.getD k 0)).foldl (fun a x => min a x.natAbs) s.low, lits := s.lits.take (s.marks.getD k 0), marks := s.marks.take k } := by unfold SS.back; rw [if_neg hk]
  rw [e]
  generalize s.marks.getD k 0 = m at hm
  have hml := h.ml m (List.mem_of_getElem? hm)
  obtain ⟨l1, l2, l3⟩ := foldl_low (s.lits.drop m) s.low
  have hsub : ∀ x ∈ s.lits.take m, x ∈ s.lits := fun x hx => List.mem_of_mem_take hx
  have hsub2 : ∀ x ∈ s.lits.drop m, x ∈ s.lits := fun x hx => List.mem_of_mem_drop hx
  have hdis : ∀ x ∈ s.lits.take m, ∀ y ∈ s.lits.drop m, x.natAbs ≠ y.natAbs := by
    have := h.nd
    rw [← List.take_append_drop m s.lits, List.map_append, List.nodup_append] at this
    intro x hx y hy e
    exact this.2.2 _ (List.mem_map_of_mem hx) _ (List.mem_map_of_mem hy) e
  have hor : ∀ x, x ∈ s.lits ↔ x ∈ s.lits.take m ∨ x ∈ s.lits.drop m := by
    intro x; conv => lhs; rw [← List.take_append_drop m s.lits]
    exact List.mem_append
  refine ⟨?_, h.ll, h.rl, fun x hx => h.ok x (hsub x hx), ?_, ?_, ?_, ?_, ?_, ?_, ?_, ?_⟩
  · show (List.foldl (fun (v : List Int) (x : Int) => v.set x.natAbs 0) s.value (s.lits.drop m)).length = _; rw [foldl_zero_len]; exact h.vl
  · show ((s.lits.take m).map Int.natAbs).Nodup
    rw [List.map_take]; exact h.nd.sublist (List.take_sublist _ _)
  · intro x hx
    have hv := h.val x hx
    have e1 : s.of x = if x < 0 then -(s.value.getD x.natAbs 0) else s.value.getD x.natAbs 0 := rfl
    show (if x < 0 then -((List.foldl (fun (v : List Int) (x : Int) => v.set x.natAbs 0) s.value (s.lits.drop m)).getD x.natAbs 0) else (List.foldl (fun (v : List Int) (x : Int) => v.set x.natAbs 0) s.value (s.lits.drop m)).getD x.natAbs 0) = if x ∈ s.lits.take m then 1 else if -x ∈ s.lits.take m then -1 else 0
    rw [foldl_zero]
    by_cases hd : ∃ y ∈ s.lits.drop m, y.natAbs = x.natAbs
    · rw [if_pos (c := ∃ y ∈ s.lits.drop m, y.natAbs = x.natAbs) hd]
      obtain ⟨y, hy, hya⟩ := hd
      rw [if_neg (fun q => hdis x q y hy hya.symm), if_neg (fun q => hdis (-x) q y hy (by omega))]
      split <;> rfl
    · rw [if_neg (c := ∃ y ∈ s.lits.drop m, y.natAbs = x.natAbs) hd, ← e1, hv]
      have c1 : x ∈ s.lits ↔ x ∈ s.lits.take m := by rw [hor]; exact ⟨fun q => q.elim id fun q => absurd ⟨x, q, rfl⟩ hd, Or.inl⟩
      have c2 : -x ∈ s.lits ↔ -x ∈ s.lits.take m := by rw [hor]; exact ⟨fun q => q.elim id fun q => absurd ⟨-x, q, by omega⟩ hd, Or.inl⟩
      simp only [c1, c2]
  · exact h.srt.sublist (List.take_sublist _ _)
  · intro a ha
    show a ≤ (s.lits.take m).length
    rw [List.length_take]
    have a1 := h.ml a (List.mem_of_mem_take ha)
    obtain ⟨j, hj⟩ := List.mem_iff_getElem?.1 ha
    obtain ⟨b1, b2⟩ := List.getElem?_eq_some_iff.1 hj
    rw [List.length_take] at b1
    rw [List.getElem_take] at b2
    obtain ⟨c1, c2⟩ := List.getElem?_eq_some_iff.1 hm
    have := List.pairwise_iff_getElem.1 h.srt j k (by omega) c1 (by omega)
    omega
  · intro i x hi
    change (s.lits.take m)[i]? = some x at hi
    obtain ⟨b1, b2⟩ := List.getElem?_eq_some_iff.1 hi
    rw [List.length_take] at b1
    rw [List.getElem?_take, if_pos (by omega)] at hi
    show s.lv x = cnt (s.marks.take k) i
    rw [cnt_take h.srt hm (by omega)]
    exact h.lev i x hi
  · show 1 ≤ List.foldl _ _ _
    apply l3 1 h.low1
    intro x hx
    have := (h.ok x (hsub2 x hx)).1
    omega
  · show List.foldl _ _ _ ≤ n + 1
    exact Nat.le_trans l1 h.low2
  · intro v a b
    change v < List.foldl _ _ _ at b
    have hd : ∀ y ∈ s.lits.drop m, y.natAbs ≠ v := fun y hy e => by have := l2 y hy; omega
    rcases h.lowA v a (by omega) with q | q
    · rcases (hor _).1 q with q | q
      · exact .inl q
      · exact absurd (by omega) (hd _ q)
    · rcases (hor _).1 q with q | q
      · exact .inr q
      · exact absurd (by omega) (hd _ q)
theorem back_lits (s : SS) (k : Nat) : (s.back k).lits = if s.marks.length ≤ k then s.lits else s.lits.take (s.marks.getD k 0) := by
  unfold SS.back; split <;> rfl
theorem back_marks (s : SS) (k : Nat) : (s.back k).marks = s.marks.take k := by
  unfold SS.back; split
  · rename_i h; rw [List.take_of_length_le h]
  · rfl
theorem back_frame (s : SS) (k : Nat) : (s.back k).level = s.level ∧ (s.back k).reason = s.reason ∧ (s.back k).clauses = s.clauses ∧ (s.back k).watches = s.watches ∧ (s.back k).head = s.head ∧ (s.back k).added = s.added ∧ (s.back k).broken = s.broken ∧ (s.back k).proof = s.proof ∧ (s.back k).model = s.model ∧ (s.back k).core = s.core := by
  unfold SS.back; split <;> exact ⟨rfl, rfl, rfl, rfl, rfl, rfl, rfl, rfl, rfl, rfl⟩
/-- behind back k the literals of the levels up to k are left -/
theorem Tr.back_mem {n : Nat} {s : SS} (h : Tr n s) (k : Nat) {i : Nat} {x : Int} : (s.back k).lits[i]? = some x ↔ s.lits[i]? = some x ∧ cnt s.marks i ≤ k := by
  rw [back_lits]
  split
  · rename_i hk
    constructor
    · intro q; exact ⟨q, Nat.le_trans (cnt_le _ _) hk⟩
    · exact fun q => q.1
  · rename_i hk
    have hm : s.marks[k]? = some (s.marks.getD k 0) := by rw [List.getD_eq_getElem?_getD, List.getElem?_eq_getElem (by omega)]; rfl
    have c := cnt_lt (i := i) h.srt hm
    rw [List.getElem?_take]
    constructor
    · intro q
      split at q
      · rename_i hl; exact ⟨q, by omega⟩
      · exact absurd q (by simp)
    · rintro ⟨q, q2⟩
      rw [if_pos (by omega)]; exact q

theorem adv_spec (v : List Int) : ∀ (k l : Nat), v.length ≤ l + k → l ≤ v.length → l ≤ adv v k l ∧ adv v k l ≤ v.length ∧ (∀ j, l ≤ j → j < adv v k l → v.getD j 0 ≠ 0) ∧ (adv v k l < v.length → v.getD (adv v k l) 0 = 0)
  | 0, l, h, h2 => by unfold adv; exact ⟨Nat.le_refl _, h2, fun j a b => by omega, fun q => by omega⟩
  | k + 1, l, h, h2 => by
    unfold adv
    split
    · rename_i hc
      obtain ⟨a1, a2, a3, a4⟩ := adv_spec v k (l + 1) (by omega) (by omega)
      refine ⟨by omega, a2, ?_, a4⟩
      intro j b1 b2
      rcases Nat.lt_or_ge l j with q | q
      · exact a3 j (by omega) b2
      · rw [show j = l by omega]; exact hc.2
    · rename_i hc
      exact ⟨Nat.le_refl _, h2, fun j a b => by omega, fun q => by
        by_cases h0 : v.getD l 0 = 0
        · exact h0
        · exact absurd ⟨q, h0⟩ hc⟩
theorem Tr.val_var {n : Nat} {s : SS} (h : Tr n s) {v : Nat} (h1 : 1 ≤ v) (h2 : v ≤ n) : s.value.getD v 0 ≠ 0 ↔ ((v : Int) ∈ s.lits ∨ -(v : Int) ∈ s.lits) := by
  have hz := h.zero (x := (v : Int)) ⟨by omega, by omega⟩
  have e : s.of (v : Int) = s.value.getD v 0 := by unfold SS.of; rw [if_neg (by omega)]; rfl
  rw [e] at hz
  constructor
  · intro q
    by_cases a : (v : Int) ∈ s.lits
    · exact .inl a
    · by_cases b : -(v : Int) ∈ s.lits
      · exact .inr b
      · exact absurd (hz.2 ⟨a, b⟩) q
  · rintro (q | q) e2
    · exact (hz.1 e2).1 q
    · exact (hz.1 e2).2 q
theorem Tr.advanced {n : Nat} {s : SS} (h : Tr n s) : Tr n s.advance := by
  have hl := h.vl
  obtain ⟨a1, a2, a3, a4⟩ := adv_spec s.value (s.value.length - s.low) s.low (by have := h.low2; omega) (by have := h.low2; omega)
  refine ⟨h.vl, h.ll, h.rl, h.ok, h.nd, h.val, h.srt, h.ml, h.lev, ?_, ?_, ?_⟩
  · show 1 ≤ adv _ _ _; have := h.low1; omega
  · show adv _ _ _ ≤ _; omega
  · intro v b1 b2
    change v < adv _ _ _ at b2
    rcases Nat.lt_or_ge v s.low with q | q
    · exact h.lowA v b1 q
    · exact (h.val_var b1 (by omega)).1 (a3 v q b2)
/-- free names the least unassigned variable -/
theorem Tr.free_spec {n : Nat} {s : SS} (h : Tr n s) : (s.free = 0 ∧ ∀ v : Nat, 1 ≤ v → v ≤ n → (v : Int) ∈ s.lits ∨ -(v : Int) ∈ s.lits) ∨ (∃ v : Nat, s.free = v ∧ 1 ≤ v ∧ v ≤ n ∧ (v : Int) ∉ s.lits ∧ -(v : Int) ∉ s.lits ∧ ∀ u : Nat, 1 ≤ u → u < v → (u : Int) ∈ s.lits ∨ -(u : Int) ∈ s.lits) := by
  have hl := h.vl
  have ha := h.advanced
  obtain ⟨a1, a2, a3, a4⟩ := adv_spec s.value (s.value.length - s.low) s.low (by have := h.low2; omega) (by have := h.low2; omega)
  have e : s.advance.low = adv s.value (s.value.length - s.low) s.low := rfl
  have h1 := h.low1
  unfold SS.free
  by_cases hc : s.advance.low = s.value.length
  · rw [if_pos hc]
    exact .inl ⟨rfl, fun v b1 b2 => ha.lowA v b1 (by omega)⟩
  · rw [if_neg hc]
    right
    refine ⟨s.advance.low, rfl, ha.low1, by omega, ?_, ?_, fun u b1 b2 => ha.lowA u b1 b2⟩
    · intro q
      exact (h.val_var (v := s.advance.low) ha.low1 (by omega)).2 (.inl q) (by rw [e]; exact a4 (by omega))
    · intro q
      exact (h.val_var (v := s.advance.low) ha.low1 (by omega)).2 (.inr q) (by rw [e]; exact a4 (by omega))
end Go.Proofs.Ytdibfjcmgbpnpaa
