/- The solver's laws, plainly: the reference's unit propagation finds what follows by unit propagation. -/
import Derived.Test.YtdibfjcmgbpnpaaS9
namespace Go.Proofs.Ytdibfjcmgbpnpaa
set_option linter.unusedSimpArgs false
set_option linter.unusedVariables false

def runit (set : List Int) : List Int → Int → Bool × Int
  | [], left => (left == 0, left)
  | x :: c, left => if x ∈ set then (false, 0) else if -x ∈ set ∨ x = left then runit set c left else if left ≠ 0 then (false, 0) else runit set c x
def rpass : List (List Int) → List Int → Option (List Int)
  | [], set => some set
  | c :: D, set =>
    match runit set c 0 with
    | (true, _) => none
    | (false, x) => if x ≠ 0 then rpass D (set ++ [x]) else rpass D set
def rrounds (D : List (List Int)) : Nat → List Int → Bool
  | 0, _ => false
  | k + 1, set =>
    match rpass D set with
    | none => true
    | some set' => rrounds D k set'
def rtaut (c : List Int) : Bool := c.any fun x => Decidable.decide (-x ∈ c)
def rimplies (n : Nat) (D : List (List Int)) (c : List Int) : Bool := rtaut c || rrounds D (min (n + 1) 21) (c.map fun x => -x)

theorem runit_new {set : List Int} : ∀ {c : List Int} {left : Int} {x : Int}, runit set c left = (false, x) → x ≠ 0 → (left = 0 ∨ (left ∉ set ∧ -left ∉ set)) → x ∉ set ∧ -x ∉ set ∧ (x = left ∨ x ∈ c)
  | [], left, x, h, hx, hl => by
    unfold runit at h
    obtain ⟨h1, rfl⟩ := Prod.mk.inj h
    have := hl.resolve_left hx
    exact ⟨this.1, this.2, .inl rfl⟩
  | y :: c, left, x, h, hx, hl => by
    unfold runit at h
    split at h
    · obtain ⟨-, rfl⟩ := Prod.mk.inj h; exact absurd rfl hx
    · rename_i h1
      split at h
      · obtain ⟨a, b, d⟩ := runit_new h hx hl
        exact ⟨a, b, d.imp id (List.mem_cons_of_mem _)⟩
      · rename_i h2
        split at h
        · obtain ⟨-, rfl⟩ := Prod.mk.inj h; exact absurd rfl hx
        · obtain ⟨a, b, d⟩ := runit_new h hx (.inr ⟨h1, fun q => h2 (.inl q)⟩)
          exact ⟨a, b, .inr (d.elim (fun e => by rw [e]; exact List.mem_cons_self ..) (List.mem_cons_of_mem _))⟩
/-- no unit: satisfied, or two literals are open -/
theorem runit_open {set : List Int} : ∀ {c : List Int} {left : Int}, runit set c left = (false, 0) → (∀ x ∈ c, x ≠ 0) → (left = 0 ∨ -left ∉ set) → (∃ x ∈ c, x ∈ set) ∨ ∃ x y, (x ∈ c ∨ (x = left ∧ left ≠ 0)) ∧ (y ∈ c ∨ (y = left ∧ left ≠ 0)) ∧ x ≠ y ∧ -x ∉ set ∧ -y ∉ set
  | [], left, h, _, _ => by
    unfold runit at h
    obtain ⟨h1, rfl⟩ := Prod.mk.inj h
    simp at h1
  | z :: c, left, h, hc, hl => by
    have hc' : ∀ x ∈ c, x ≠ 0 := fun x hx => hc x (List.mem_cons_of_mem _ hx)
    have lift : ∀ {x : Int}, (x ∈ c ∨ (x = left ∧ left ≠ 0)) → (x ∈ z :: c ∨ (x = left ∧ left ≠ 0)) := fun q => q.imp (List.mem_cons_of_mem _) id
    unfold runit at h
    split at h
    · rename_i h1; exact .inl ⟨z, List.mem_cons_self .., h1⟩
    · rename_i h1
      split at h
      · rcases runit_open h hc' hl with ⟨x, a, b⟩ | ⟨x, y, a, b, d⟩
        · exact .inl ⟨x, List.mem_cons_of_mem _ a, b⟩
        · exact .inr ⟨x, y, lift a, lift b, d⟩
      · rename_i h2
        have hz : -z ∉ set := fun q => h2 (.inl q)
        have hzl : z ≠ left := fun q => h2 (.inr q)
        split at h
        · rename_i h3
          exact .inr ⟨z, left, .inl (List.mem_cons_self ..), .inr ⟨rfl, h3⟩, hzl, hz, hl.resolve_left h3⟩
        · have lz : ∀ {x : Int}, (x ∈ c ∨ (x = z ∧ z ≠ 0)) → (x ∈ z :: c ∨ (x = left ∧ left ≠ 0)) := fun q => .inl (q.elim (List.mem_cons_of_mem _) fun e => by rw [e.1]; exact List.mem_cons_self ..)
          rcases runit_open h hc' (.inr hz) with ⟨x, a, b⟩ | ⟨x, y, a, b, d⟩
          · exact .inl ⟨x, List.mem_cons_of_mem _ a, b⟩
          · exact .inr ⟨x, y, lz a, lz b, d⟩

/-- a set of true literals: what was assumed, and what was found -/
structure RI (n : Nat) (s0 add : List Int) : Prop where
  nd : (add.map Int.natAbs).Nodup
  ok : ∀ x ∈ s0 ++ add, LOk n x
  con : ∀ x ∈ s0 ++ add, -x ∉ s0 ++ add
theorem RI.len {n : Nat} {s0 add : List Int} (h : RI n s0 add) : add.length ≤ n := by
  have h2 : ∀ v ∈ add.map Int.natAbs, v ∈ List.range' 1 n := by
    intro v hv
    obtain ⟨x, hx, rfl⟩ := List.mem_map.1 hv
    obtain ⟨a, b⟩ := h.ok x (List.mem_append_right _ hx)
    rw [List.mem_range'_1]
    omega
  have := nodup_len h.nd h2
  simpa using this
theorem RI.snoc {n : Nat} {s0 add : List Int} (h : RI n s0 add) {x : Int} (hx : LOk n x) (h1 : x ∉ s0 ++ add) (h2 : -x ∉ s0 ++ add) : RI n s0 (add ++ [x]) := by
  have h0 := hx.1
  refine ⟨?_, ?_, ?_⟩
  · rw [List.map_append, List.nodup_append]
    refine ⟨h.nd, by simp, ?_⟩
    intro a ha b hb e
    obtain ⟨y, hy, rfl⟩ := List.mem_map.1 ha
    simp at hb
    rw [hb] at e
    rcases Int.natAbs_eq_natAbs_iff.1 e with q | q
    · exact h1 (List.mem_append_right _ (by rw [← q]; exact hy))
    · exact h2 (List.mem_append_right _ (by rw [← q]; exact hy))
  · intro y hy
    rw [← List.append_assoc] at hy
    rcases List.mem_append.1 hy with q | q
    · exact h.ok y q
    · rw [List.mem_singleton.1 q]; exact hx
  · intro y hy hn
    rw [← List.append_assoc] at hy hn
    rcases List.mem_append.1 hy with q | q
    · rcases List.mem_append.1 hn with w | w
      · exact h.con y q w
      · rw [List.mem_singleton] at w
        exact h2 (by rw [← w, Int.neg_neg]; exact q)
    · rw [List.mem_singleton] at q
      subst q
      rcases List.mem_append.1 hn with w | w
      · exact h2 w
      · rw [List.mem_singleton] at w; omega
/-- a pass finds a conflict, or something new, or nothing is left to find -/
theorem rpass_ok {n : Nat} {s0 : List Int} : ∀ {D : List (List Int)} {add : List Int}, RI n s0 add → (∀ c ∈ D, ∀ x ∈ c, LOk n x) → rpass D (s0 ++ add) = none ∨ ∃ add', rpass D (s0 ++ add) = some (s0 ++ add') ∧ RI n s0 add' ∧ (add.length < add'.length ∨ (add' = add ∧ ∀ c ∈ D, runit (s0 ++ add) c 0 = (false, 0)))
  | [], add, h, _ => .inr ⟨add, rfl, h, .inr ⟨rfl, fun c hc => by simp at hc⟩⟩
  | c :: D, add, h, hD => by
    have hc := hD c (List.mem_cons_self ..)
    have hD' : ∀ c ∈ D, ∀ x ∈ c, LOk n x := fun d hd => hD d (List.mem_cons_of_mem _ hd)
    unfold rpass
    match hr : runit (s0 ++ add) c 0 with
    | (true, _) => exact .inl rfl
    | (false, x) =>
      dsimp only
      by_cases hx : x ≠ 0
      · rw [if_pos hx]
        obtain ⟨a1, a2, a3⟩ := runit_new hr hx (.inl rfl)
        have hxc : x ∈ c := a3.resolve_left hx
        have h' := h.snoc (hc x hxc) a1 a2
        rw [List.append_assoc]
        rcases rpass_ok h' hD' with q | ⟨add', e, r, w⟩
        · exact .inl q
        · refine .inr ⟨add', e, r, .inl ?_⟩
          rcases w with w | ⟨w, -⟩
          · rw [List.length_append, List.length_singleton] at w; omega
          · rw [w]; simp
      · rw [if_neg hx]
        have hx0 : x = 0 := by omega
        subst hx0
        rcases rpass_ok h hD' with q | ⟨add', e, r, w⟩
        · exact .inl q
        · refine .inr ⟨add', e, r, w.imp id ?_⟩
          rintro ⟨w1, w2⟩
          refine ⟨w1, fun d hd => ?_⟩
          rcases List.mem_cons.1 hd with q | q
          · rw [q]; exact hr
          · exact w2 d q
theorem rrounds_ok {n : Nat} {s0 : List Int} {D : List (List Int)} (hD : ∀ c ∈ D, ∀ x ∈ c, LOk n x) (hcf : Cf D fun x => x ∈ s0) : ∀ (k : Nat) {add : List Int}, RI n s0 add → n < add.length + k → rrounds D k (s0 ++ add) = true
  | 0, add, h, hk => by have := h.len; omega
  | k + 1, add, h, hk => by
    unfold rrounds
    rcases rpass_ok h hD with q | ⟨add', e, r, w⟩
    · rw [q]
    · rw [e]
      rcases w with w | ⟨rfl, w⟩
      · exact rrounds_ok hD hcf k r (by omega)
      · exfalso
        have hnz : ∀ c ∈ D, ∀ x ∈ c, x ≠ 0 := fun c hc x hx => (hD c hc x hx).1
        have key : ∀ x, UP D (fun x => x ∈ s0) x → x ∈ s0 ++ add' := by
          intro x hx
          induction hx with
          | base q => exact List.mem_append_left _ q
          | @unit d x h1 h2 _ ih =>
            rcases runit_open (w d h1) (hnz d h1) (.inl rfl) with ⟨y, b1, b2⟩ | ⟨y, z, b1, b2, b3, b4, b5⟩
            · by_cases e : y = x
              · rw [← e]; exact b2
              · exact absurd (ih y b1 e) (h.con y b2)
            · have c1 : y ∈ d := b1.resolve_right (fun q => q.2 rfl)
              have c2 : z ∈ d := b2.resolve_right (fun q => q.2 rfl)
              by_cases e : y = x
              · exact absurd (ih z c2 (fun q => b3 (e.trans q.symm))) b5
              · exact absurd (ih y c1 e) b4
        obtain ⟨d, h1, h2⟩ := hcf
        rcases runit_open (w d h1) (hnz d h1) (.inl rfl) with ⟨y, b1, b2⟩ | ⟨y, z, b1, b2, b3, b4, b5⟩
        · exact h.con y b2 (key _ (h2 y b1))
        · exact b4 (key _ (h2 y (b1.resolve_right (fun q => q.2 rfl))))
theorem rimplies_ok {n : Nat} {D : List (List Int)} {c : List Int} (hn : n ≤ 20) (hD : ∀ c ∈ D, ∀ x ∈ c, LOk n x) (hc : ∀ x ∈ c, LOk n x) (h : Rup D c) : rimplies n D c = true := by
  unfold rimplies rtaut
  rw [Bool.or_eq_true]
  by_cases ht : ∃ x ∈ c, -x ∈ c
  · obtain ⟨x, h1, h2⟩ := ht
    exact .inl (List.any_eq_true.2 ⟨x, h1, by simpa using h2⟩)
  · right
    have hcf : Cf D fun x => x ∈ c.map fun x => -x := by
      refine (h.resolve_left ht).mono (fun _ => id) fun x hx => ?_
      have := List.mem_map_of_mem (f := fun x : Int => -x) hx
      simpa using this
    have hri : RI n (c.map fun x => -x) [] := by
      refine ⟨by simp, ?_, ?_⟩
      · intro x hx
        rw [List.append_nil] at hx
        obtain ⟨y, hy, rfl⟩ := List.mem_map.1 hx
        exact (hc y hy).neg
      · intro x hx hnx
        rw [List.append_nil] at hx hnx
        obtain ⟨y, hy, rfl⟩ := List.mem_map.1 hx
        obtain ⟨z, hz, e⟩ := List.mem_map.1 hnx
        refine ht ⟨y, hy, ?_⟩
        have : z = -y := by omega
        rw [← this]; exact hz
    have := rrounds_ok hD hcf (min (n + 1) 21) hri (by simp; omega)
    rwa [List.append_nil] at this
/-- all steps of a proof follow, one after another -/
def rjust (n : Nat) : List (List Int) → List (List Int) → Bool
  | _, [] => true
  | D, c :: P => vlit n c && rimplies n D c && rjust n (D ++ [c]) P
theorem rjust_ok {n : Nat} (hn : n ≤ 20) : ∀ {P D : List (List Int)}, (∀ c ∈ D, ∀ x ∈ c, LOk n x) → (∀ i l, P[i]? = some l → Rup (D ++ P.take i) l ∧ ∀ x ∈ l, LOk n x) → rjust n D P = true
  | [], D, _, _ => rfl
  | c :: P, D, hD, h => by
    obtain ⟨h1, h2⟩ := h 0 c rfl
    rw [List.take_zero, List.append_nil] at h1
    unfold rjust
    rw [vlit_iff.2 h2, rimplies_ok hn hD h2 h1, Bool.true_and, Bool.true_and]
    refine rjust_ok hn ?_ fun i l hl => ?_
    · intro d hd
      rcases List.mem_append.1 hd with q | q
      · exact hD d q
      · rw [List.mem_singleton.1 q]; exact h2
    · have := h (i + 1) l (by simpa using hl)
      rw [List.take_succ_cons] at this
      rw [List.append_assoc]
      exact this
theorem Sv.just {n : Nat} {A B : List (List Int)} {s : SS} (h : Sv n A s) (hn : n ≤ 20) (hB : ∀ c ∈ B, ∀ x ∈ c, LOk n x) (hAB : ∀ c ∈ A, c ∈ B) : rjust n B s.proof = true :=
  rjust_ok hn hB fun i l hl => by
    obtain ⟨a, b⟩ := h.pf i l hl
    refine ⟨a.mono fun c hc => ?_, b⟩
    rcases List.mem_append.1 hc with q | q
    · exact List.mem_append_left _ (hAB c q)
    · exact List.mem_append_right _ q
end Go.Proofs.Ytdibfjcmgbpnpaa
