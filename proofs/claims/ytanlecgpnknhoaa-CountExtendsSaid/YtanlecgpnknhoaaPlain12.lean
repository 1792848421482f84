/- Plain laws of layer 16: what the functions return, in words that the laws use. -/
import Derived.Test.YtanlecgpnknhoaaPlain11
namespace Go.Proofs.Ytanlecgpnknhoaa
set_option linter.unusedSimpArgs false
set_option linter.unusedVariables false

structure Grow (c d : List Gate) (k : Nat) : Prop where
  good : Good d
  pre : c <+: d
  len : d.length ≤ c.length + k
theorem Grow.trans {c d e : List Gate} {k m : Nat} (h : Grow c d k) (g : Grow d e m) : Grow c e (k + m) := ⟨g.good, h.pre.trans g.pre, by have := h.len; have := g.len; omega⟩
theorem Grow.ge {c d : List Gate} {k : Nat} (h : Grow c d k) : c.length ≤ d.length := h.pre.length_le
/-- A unary number of n references whose value under an assignment is N of it. -/
structure Num (d : List Gate) (s : List Int) (n : Nat) (N : List Bool → Nat) : Prop where
  len : s.length = n
  refs : RefsIn s d.length
  un : ∀ vals, Un (s.map (cv d vals)) (N vals)
structure Rf (d : List Gate) (r : Int) (V : List Bool → Bool) : Prop where
  lo : 0 ≤ r
  hi : r < 2 * (d.length : Int)
  val : ∀ vals, cv d vals r = V vals
theorem map_cv_up {c d : List Gate} {l : List Int} (hp : c <+: d) (hr : RefsIn l c.length) (vals : List Bool) : l.map (cv d vals) = l.map (cv c vals) :=
  List.map_congr_left fun r h => cv_ext hp (hr r h).1 (hr r h).2
theorem Num.up {d e : List Gate} {s : List Int} {n k : Nat} {N : List Bool → Nat} (h : Num d s n N) (g : Grow d e k) : Num e s n N :=
  ⟨h.len, h.refs.up g.ge, fun vals => by rw [map_cv_up g.pre h.refs]; exact h.un vals⟩
theorem Rf.up {d e : List Gate} {r : Int} {k : Nat} {V : List Bool → Bool} (h : Rf d r V) (g : Grow d e k) : Rf e r V :=
  ⟨h.lo, by have := h.hi; have := g.ge; omega, fun vals => by rw [cv_ext g.pre h.lo h.hi]; exact h.val vals⟩
theorem Rf.ceval {d : List Gate} {r : Int} {V : List Bool → Bool} (h : Rf d r V) (vals : List Bool) : Go.Proofs.Ytanlecgpnknhoaa.ceval d vals r = V vals := by rw [ceval_cv h.lo h.hi]; exact h.val vals
theorem map_ceval {d : List Gate} {s : List Int} (h : RefsIn s d.length) (vals : List Bool) : s.map (ceval d vals) = s.map (cv d vals) :=
  List.map_congr_left fun r hr => ceval_cv (h r hr).1 (h r hr).2
/-- The test of the reference's Unary holds. -/
theorem Num.unary {d : List Gate} {s : List Int} {n : Nat} {N : List Bool → Nat} (h : Num d s n N) (vals : List Bool) : N vals ≤ n ∧ ∀ (i : Nat) (r : Int), s[i]? = some r → ceval d vals r = decide ((i : Int) < (N vals : Int)) := by
  obtain ⟨h1, h2⟩ := h.un vals
  rw [List.length_map, h.len] at h1
  refine ⟨h1, fun i r hr => ?_⟩
  obtain ⟨hi, he⟩ := List.getElem?_eq_some_iff.1 hr
  have hm := h.refs r (List.mem_of_getElem? hr)
  have := h2 i (by simpa using hi)
  rw [List.getD_eq_getElem?_getD, List.getElem?_map, hr] at this
  rw [ceval_cv hm.1 hm.2]
  simp at this ⊢
  rw [this]
theorem un_count {l : List Bool} {t : Nat} (h : Un l t) : cnt l = t := by
  induction l generalizing t with
  | nil => obtain ⟨h1, _⟩ := h; simp at h1; subst h1; rfl
  | cons b l ih =>
    obtain ⟨h1, h2⟩ := h
    have hb := h2 0 (by simp)
    simp at hb
    cases t with
    | zero =>
      simp at hb
      subst hb
      have : Un l 0 := ⟨Nat.zero_le _, fun i hi => by have := h2 (i + 1) (by simpa using hi); simpa using this⟩
      have := ih this
      simp [cnt] at this ⊢; exact this
    | succ t =>
      simp at hb
      subst hb
      have : Un l t := ⟨by simpa using h1, fun i hi => by have := h2 (i + 1) (by simpa using hi); simpa using this⟩
      have := ih this
      simp [cnt] at this ⊢; exact this
theorem Num.count {d : List Gate} {s : List Int} {n : Nat} {N : List Bool → Nat} (h : Num d s n N) (vals : List Bool) : cnt (s.map (ceval d vals)) = N vals := by
  rw [map_ceval h.refs]; exact un_count (h.un vals)

section
variable {c : List Gate} {vals : List Bool}
theorem vof_list {l : List Int} (hr : RefsIn l c.length) : AllV (VOf c vals) l (l.map (cv c vals)) := by
  refine ⟨by simp, fun i r b h1 h2 => ?_⟩
  rw [List.getElem?_map, h1] at h2
  have := hr r (List.mem_of_getElem? h1)
  exact ⟨this.1, this.2, Option.some.inj h2⟩
theorem vof_0 (hg : Good c) : VOf c vals 0 true := ⟨by omega, by have := hg.ne; omega, cv_0 hg vals⟩
theorem vof_1 (hg : Good c) : VOf c vals 1 false := ⟨by omega, by have := hg.ne; omega, cv_1 hg vals⟩
theorem list_vof {s : List Int} {t : List Bool} (h : AllV (VOf c vals) s t) : s.map (cv c vals) = t ∧ RefsIn s c.length := by
  refine ⟨List.ext_getElem? fun i => ?_, fun r hr => ?_⟩
  · rw [List.getElem?_map]
    cases hs : s[i]? with
    | none => rw [List.getElem?_eq_none_iff] at hs; rw [List.getElem?_eq_none (by rw [← h.1]; exact hs)]; rfl
    | some r =>
      have hi := (List.getElem?_eq_some_iff.1 hs).1
      obtain ⟨b, hb⟩ : ∃ b, t[i]? = some b := ⟨_, List.getElem?_eq_getElem (by rw [← h.1]; exact hi)⟩
      rw [hb]
      exact congrArg some (h.2 i r b hs hb).2.2
  · obtain ⟨i, hi⟩ := List.getElem?_of_mem hr
    have hl := (List.getElem?_eq_some_iff.1 hi).1
    obtain ⟨b, hb⟩ : ∃ b, t[i]? = some b := ⟨_, List.getElem?_eq_getElem (by rw [← h.1]; exact hl)⟩
    have := h.2 i r b hi hb
    exact ⟨this.1, this.2.1⟩
end

/-- From alike runs to a unary number. -/
theorem num_of {c d : List Gate} {s : List Int} {k n : Nat} {N : List Bool → Nat} {p : CM Int (List Int)} {q : List Bool → CM Bool (List Bool)} (hg : Good c) (hb : c.length + k ≤ 20000) (e : p.run c = (d, s))
    (h : ∀ vals, Rel k (VOf c vals) (RL n) p (q vals)) (hq : ∀ vals, Un (q vals).tv (N vals)) : Grow c d k ∧ Num d s n N := by
  have H := fun vals => (h vals).vals vals c rfl hg hb
  rw [e] at H
  obtain ⟨a1, a2, a3, a4⟩ := H []
  refine ⟨⟨a1, a2, a3⟩, a4.2, (list_vof a4.1).2, fun vals => ?_⟩
  obtain ⟨_, _, _, b4⟩ := H vals
  rw [(list_vof b4.1).1]
  exact hq vals
theorem rf_of {c d : List Gate} {r : Int} {k : Nat} {V : List Bool → Bool} {p : CM Int Int} {q : List Bool → CM Bool Bool} (hg : Good c) (hb : c.length + k ≤ 20000) (e : p.run c = (d, r))
    (h : ∀ vals, Rel k (VOf c vals) RV p (q vals)) (hq : ∀ vals, (q vals).tv = V vals) : Grow c d k ∧ Rf d r V := by
  have H := fun vals => (h vals).vals vals c rfl hg hb
  rw [e] at H
  obtain ⟨a1, a2, a3, a4⟩ := H []
  refine ⟨⟨a1, a2, a3⟩, a4.1, a4.2.1, fun vals => ?_⟩
  obtain ⟨_, _, _, b4⟩ := H vals
  rw [b4.2.2, hq]

def cntv (c : List Gate) (l : List Int) (vals : List Bool) : Nat := cnt (l.map (cv c vals))
theorem cntv_le (c : List Gate) (l : List Int) (vals : List Bool) : cntv c l vals ≤ l.length := by unfold cntv; have := cnt_le (l.map (cv c vals)); simpa using this
theorem cntv_up {c d : List Gate} {l : List Int} (hp : c <+: d) (hr : RefsIn l c.length) (vals : List Bool) : cntv d l vals = cntv c l vals := by unfold cntv; rw [map_cv_up hp hr]
theorem cntv_ceval {c : List Gate} {l : List Int} (hr : RefsIn l c.length) (vals : List Bool) : cnt (l.map (ceval c vals)) = cntv c l vals := by unfold cntv; rw [map_ceval hr]

section
variable {c d : List Gate} {l s x y : List Int} {n nx ny : Nat} {N M : List Bool → Nat} {r k b : Int} (hg : Good c)
include hg
theorem sorter_num (hr : RefsIn l c.length) (hn : l.length = n) (hb : c.length + sOps (plog n n 0) ≤ 20000) (e : (usorter 1 l).run c = (d, s)) : Grow c d (sOps (plog n n 0)) ∧ Num d s n (cntv c l) := by
  subst hn
  refine num_of (q := fun vals => usorter false (l.map (cv c vals))) hg hb e (fun vals => ?_) (fun vals => (tv_sorter _).2)
  exact usorter_alike (vof_1 hg) (vof_list hr)
theorem total_num (hr : RefsIn l c.length) (hn : l.length = n) (hb : c.length + opsTotal n ≤ 20000) (e : (utotal 0 1 n l).run c = (d, s)) : Grow c d (opsTotal n) ∧ Num d s n (cntv c l) := by
  subst hn
  refine num_of (q := fun vals => utotal true false l.length (l.map (cv c vals))) hg hb e (fun vals => ?_) (fun vals => (tv_total _ _ (by simp)).2)
  exact utotal_alike _ _ _ _ (vof_0 hg) (vof_1 hg) (vof_list hr)
theorem count_num (hr : RefsIn l c.length) (hn : l.length = n) (hb : c.length + n * opsAdd n 1 ≤ 20000) (e : (ucount 0 1 l n).run c = (d, s)) : Grow c d (n * opsAdd n 1) ∧ Num d s n (cntv c l) := by
  subst hn
  refine num_of (q := fun vals => ucount true false (l.map (cv c vals)) l.length) hg hb e (fun vals => ?_) (fun vals => ?_)
  · exact ucount_alike (vof_0 hg) (vof_1 hg) (vof_list hr) _
  · have := (tv_count (l.map (cv c vals)) l.length (by simp)).2
    rwa [List.take_of_length_le (by simp)] at this
theorem add_num (hx : Num c x nx N) (hy : Num c y ny M) (hb : c.length + opsAdd nx ny ≤ 20000) (e : (uadd 0 1 x y).run c = (d, s)) : Grow c d (opsAdd nx ny) ∧ Num d s (nx + ny) (fun vals => N vals + M vals) := by
  obtain ⟨rfl, xr, xu⟩ := hx
  obtain ⟨rfl, yr, yu⟩ := hy
  refine num_of (q := fun vals => uadd true false (x.map (cv c vals)) (y.map (cv c vals))) hg hb e (fun vals => ?_) (fun vals => (tv_uadd (xu vals) (yu vals)).2)
  exact uadd_alike (vof_0 hg) (vof_1 hg) (vof_list xr) (vof_list yr)
end
theorem vof_not' {c : List Gate} {vals : List Bool} {V' : Int → Bool → Prop} (hV : V' = VOf c vals) (r : Int) (s : Bool) (h : V' r s) : V' (cnot r) (!s) := by
  subst hV
  have hb := cnot_bounds h.1 h.2.1
  exact ⟨hb.1, hb.2, by rw [cv_not h.1, h.2.2]⟩
section
variable {c d : List Gate} {l s x y : List Int} {n nx ny : Nat} {N M : List Bool → Nat} {r k b : Int} (hg : Good c)
include hg
theorem less_rf (hx : Num c x nx N) (hy : Num c y ny M) (hb : c.length + 2 * (ny + 1) ≤ 20000) (e : (uless 0 1 cnot x y b).run c = (d, r)) : Grow c d (2 * (ny + 1)) ∧ Rf d r (fun vals => decide ((N vals : Int) < M vals + b)) := by
  obtain ⟨rfl, xr, xu⟩ := hx
  obtain ⟨rfl, yr, yu⟩ := hy
  refine rf_of (q := fun vals => uless true false (fun r => !r) (x.map (cv c vals)) (y.map (cv c vals)) b) hg hb e (fun vals => ?_) (fun vals => tv_less (xu vals) (yu vals) b)
  exact uless_alike (vof_0 hg) (vof_1 hg) (fun r s h => vof_not' rfl r s h) (vof_list xr) (vof_list yr) b
theorem atleast_rf (hr : RefsIn l c.length) (hn : l.length = n) (hb : c.length + opsTotal n ≤ 20000) (e : (uatleast 0 1 l k).run c = (d, r)) : Grow c d (opsTotal n) ∧ Rf d r (fun vals => decide (k ≤ cntv c l vals)) := by
  subst hn
  refine rf_of (q := fun vals => uatleast true false (l.map (cv c vals)) k) hg hb e (fun vals => ?_) (fun vals => tv_atleast _ k)
  exact uatleast_alike (vof_0 hg) (vof_1 hg) (vof_list hr) k
end

/- Repeated calls. -/
theorem eof_list {c : List Gate} {l : List Int} (hr : RefsIn l c.length) : AllV (EOf c) l l :=
  ⟨rfl, fun i r s h1 h2 => ⟨(hr r (List.mem_of_getElem? h1)).1, (hr r (List.mem_of_getElem? h1)).2, Option.some.inj (h1.symm.trans h2)⟩⟩
theorem list_eof {c : List Gate} {s t : List Int} (h : AllV (EOf c) s t) : s = t := by
  refine List.ext_getElem? fun i => ?_
  cases hs : s[i]? with
  | none => rw [List.getElem?_eq_none_iff] at hs; exact (List.getElem?_eq_none (by rw [← h.1]; exact hs)).symm
  | some r =>
    have hi := (List.getElem?_eq_some_iff.1 hs).1
    obtain ⟨b, hb⟩ : ∃ b, t[i]? = some b := ⟨_, List.getElem?_eq_getElem (by rw [← h.1]; exact hi)⟩
    rw [hb, (h.2 i r b hs hb).2.2]
theorem again_list {c d : List Gate} {s : List Int} {k n : Nat} {p : CM Int (List Int)} (h : Rel k (EOf c) (RL n) p p) (hg : Good c) (hb : c.length + k ≤ 20000) (e : p.run c = (d, s)) : p.run d = (d, s) := by
  obtain ⟨h1, h2⟩ := h.again c rfl hg hb
  rw [e] at h1 h2
  obtain ⟨a1, a2⟩ := h2 d (List.prefix_refl _)
  exact Prod.ext a1 (list_eof a2.1).symm
theorem again_ref {c d : List Gate} {r : Int} {k : Nat} {p : CM Int Int} (h : Rel k (EOf c) RV p p) (hg : Good c) (hb : c.length + k ≤ 20000) (e : p.run c = (d, r)) : p.run d = (d, r) := by
  obtain ⟨h1, h2⟩ := h.again c rfl hg hb
  rw [e] at h1 h2
  obtain ⟨a1, a2⟩ := h2 d (List.prefix_refl _)
  exact Prod.ext a1 a2.2.2.symm
theorem eof_0 {c : List Gate} (hg : Good c) : EOf c 0 0 := ⟨by omega, by have := hg.ne; omega, rfl⟩
theorem eof_1 {c : List Gate} (hg : Good c) : EOf c 1 1 := ⟨by omega, by have := hg.ne; omega, rfl⟩
section
variable {c d : List Gate} {l s x y : List Int} {n nx ny : Nat} {r k b : Int} (hg : Good c)
include hg
theorem sorter_again (hr : RefsIn l c.length) (hn : l.length = n) (hb : c.length + sOps (plog n n 0) ≤ 20000) (e : (usorter 1 l).run c = (d, s)) : (usorter 1 l).run d = (d, s) := by
  subst hn; exact again_list (usorter_alike (eof_1 hg) (eof_list hr)) hg hb e
theorem total_again (hr : RefsIn l c.length) (hn : l.length = n) (hb : c.length + opsTotal n ≤ 20000) (e : (utotal 0 1 n l).run c = (d, s)) : (utotal 0 1 n l).run d = (d, s) := by
  subst hn; exact again_list (utotal_alike _ _ _ _ (eof_0 hg) (eof_1 hg) (eof_list hr)) hg hb e
theorem add_again (hx : RefsIn x c.length) (hy : RefsIn y c.length) (hnx : x.length = nx) (hny : y.length = ny) (hb : c.length + opsAdd nx ny ≤ 20000) (e : (uadd 0 1 x y).run c = (d, s)) : (uadd 0 1 x y).run d = (d, s) := by
  subst hnx hny; exact again_list (uadd_alike (eof_0 hg) (eof_1 hg) (eof_list hx) (eof_list hy)) hg hb e
theorem less_again (hx : RefsIn x c.length) (hy : RefsIn y c.length) (hny : y.length = ny) (hb : c.length + 2 * (ny + 1) ≤ 20000) (e : (uless 0 1 cnot x y b).run c = (d, r)) : (uless 0 1 cnot x y b).run d = (d, r) := by
  subst hny
  refine again_ref (uless_alike (eof_0 hg) (eof_1 hg) (fun r s h => ?_) (eof_list hx) (eof_list hy) b) hg hb e
  have hb := cnot_bounds h.1 h.2.1
  exact ⟨hb.1, hb.2, by rw [h.2.2]⟩
theorem atleast_again (hr : RefsIn l c.length) (hn : l.length = n) (hb : c.length + opsTotal n ≤ 20000) (e : (uatleast 0 1 l k).run c = (d, r)) : (uatleast 0 1 l k).run d = (d, r) := by
  subst hn; exact again_ref (uatleast_alike (eof_0 hg) (eof_1 hg) (eof_list hr) k) hg hb e
end

/- Constants. -/
def Bits (l : List Int) : Prop := ∀ r ∈ l, r = 0 ∨ r = 1
theorem kof_list {l : List Int} (h : Bits l) : AllV KOf l l := ⟨rfl, fun i r s h1 h2 => ⟨h r (List.mem_of_getElem? h1), Option.some.inj (h1.symm.trans h2)⟩⟩
theorem list_kof {s t : List Int} (h : AllV KOf s t) : Bits s := by
  intro r hr
  obtain ⟨i, hi⟩ := List.getElem?_of_mem hr
  have hl := (List.getElem?_eq_some_iff.1 hi).1
  obtain ⟨b, hb⟩ : ∃ b, t[i]? = some b := ⟨_, List.getElem?_eq_getElem (by rw [← h.1]; exact hl)⟩
  exact (h.2 i r b hi hb).1
theorem const_list {c d : List Gate} {s : List Int} {k n : Nat} {p : CM Int (List Int)} (h : Rel k KOf (RL n) p p) (hc : 0 < c.length) (e : p.run c = (d, s)) : d = c ∧ Bits s ∧ s.length = n := by
  obtain ⟨h1, h2⟩ := h.const c rfl hc
  rw [e] at h1 h2
  exact ⟨h1, list_kof h2.1, h2.2⟩
theorem const_ref {c d : List Gate} {r : Int} {k : Nat} {p : CM Int Int} (h : Rel k KOf RV p p) (hc : 0 < c.length) (e : p.run c = (d, r)) : d = c ∧ (r = 0 ∨ r = 1) := by
  obtain ⟨h1, h2⟩ := h.const c rfl hc
  rw [e] at h1 h2
  exact ⟨h1, h2.1⟩
theorem kof_0 : KOf 0 0 := ⟨.inl rfl, rfl⟩
theorem kof_1 : KOf 1 1 := ⟨.inr rfl, rfl⟩
section
variable {c d : List Gate} {l s x y : List Int} {n nx ny : Nat} {r k b : Int} (hc : 0 < c.length)
include hc
theorem sorter_const (hl : Bits l) (hn : l.length = n) (e : (usorter 1 l).run c = (d, s)) : d = c ∧ Bits s ∧ s.length = n := by
  subst hn; exact const_list (usorter_alike kof_1 (kof_list hl)) hc e
theorem total_const (hl : Bits l) (hn : l.length = n) (e : (utotal 0 1 n l).run c = (d, s)) : d = c ∧ Bits s ∧ s.length = n := by
  subst hn; exact const_list (utotal_alike _ _ _ _ kof_0 kof_1 (kof_list hl)) hc e
theorem add_const (hx : Bits x) (hy : Bits y) (hnx : x.length = nx) (hny : y.length = ny) (e : (uadd 0 1 x y).run c = (d, s)) : d = c ∧ Bits s ∧ s.length = nx + ny := by
  subst hnx hny; exact const_list (uadd_alike kof_0 kof_1 (kof_list hx) (kof_list hy)) hc e
theorem less_const (hx : Bits x) (hy : Bits y) (e : (uless 0 1 cnot x y b).run c = (d, r)) : d = c ∧ (r = 0 ∨ r = 1) :=
  const_ref (uless_alike kof_0 kof_1 (fun r s h => ⟨cnot_const h.1, by rw [h.2]⟩) (kof_list hx) (kof_list hy) b) hc e
theorem atleast_const (hl : Bits l) (e : (uatleast 0 1 l k).run c = (d, r)) : d = c ∧ (r = 0 ∨ r = 1) :=
  const_ref (uatleast_alike kof_0 kof_1 (kof_list hl) k) hc e
end
end Go.Proofs.Ytanlecgpnknhoaa
