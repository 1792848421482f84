/- A region that draws its order, walked in the order of the text, whatever the order: each operation that changes the world tells a fact of its own value, which all others keep; a tail that comes last (stores) is walked by SeqE. -/
import Derived.Test.YtadilppdlbhjnaaGC
import Derived.Below
namespace Go.Proofs.Ytadilppdlbhjnaa
set_option linter.unusedSimpArgs false
set_option linter.unusedVariables false
open Go

section
variable {P : Program} {ops : Array Oper} {Q : Exit → Act → World → Prop} {md : Region.Mode} {dep bar : Nat → Bool}

/-- What is known: a fact for each operation. -/
abbrev Fx := Nat → World → Prop
def updF (F : Fx) (i : Nat) (p : World → Prop) : Fx := fun k => if k = i then p else F k
theorem updF_same (F : Fx) (i : Nat) (p : World → Prop) : updF F i p i = p := by simp [updF]
theorem updF_ne {F : Fx} {i k : Nat} {p : World → Prop} (h : k ≠ i) : updF F i p k = F k := by simp [updF, h]
theorem updF_comm (F : Fx) {i j : Nat} (p q : World → Prop) (h : i ≠ j) : updF (updF F i p) j q = updF (updF F j q) i p := by
  funext k
  unfold updF
  by_cases h1 : k = j
  · subst h1; rw [if_pos rfl, if_neg (Ne.symm h), if_pos rfl]
  · rw [if_neg h1]
    by_cases h2 : k = i
    · rw [if_pos h2, if_pos h2]
    · rw [if_neg h2, if_neg h2, if_neg h1]
/-- An operation yields v in every world that meets S, and leaves the world as it is. -/
def YV (P : Program) (ops : Array Oper) (S : World → Prop) (o : Oper) (v : Value) (a : Act) : Prop :=
  (Region.wanted o (yielded ops a.tmps) = true ∧ ∀ w, S w → (execOp a.eval o).run P w = .ok (.value v) w) ∨
  (Region.wanted o (yielded ops a.tmps) = false ∧ v = undef)
theorem YV.of_same {S S' : World → Prop} {o : Oper} {v : Value} {a a' : Act} (hy : YV P ops S o v a) (hS : ∀ x, S' x → S x) (he : execOp a'.eval o = execOp a.eval o)
    (hw : Region.wanted o (yielded ops a'.tmps) = Region.wanted o (yielded ops a.tmps)) : YV P ops S' o v a' := by
  unfold YV at *
  rw [he, hw]
  rcases hy with ⟨h1, h2⟩ | h
  · exact .inl ⟨h1, fun w hw => h2 w (hS w hw)⟩
  · exact .inr h
theorem YV.det {S : World → Prop} {o : Oper} {v v' : Value} {a : Act} {w : World} (h : YV P ops S o v a) (h' : YV P ops S o v' a) (hw : S w) : v = v' := by
  rcases h with ⟨h1, h2⟩ | ⟨h1, rfl⟩ <;> rcases h' with ⟨k1, k2⟩ | ⟨k1, rfl⟩
  · have := (h2 w hw).symm.trans (k2 w hw)
    simpa using this
  · rw [h1] at k1; cases k1
  · rw [h1] at k1; cases k1
  · rfl
def apartAll (md : Region.Mode) (ops : Array Oper) (i : Nat) (oi : Oper) (listed : Array Bool) : Prop :=
  ∀ j oj, ops[j]? = some oj → j ≠ i → listed.getD j true = false → (∀ e ∈ oj.after, Region.binds md e = true → e.on ≠ i) → oi.apart ops oj = true
theorem apartAll.more {i : Nat} {oi : Oper} {listed : Array Bool} (h : apartAll md ops i oi listed) (j : Nat) : apartAll md ops i oi (listed.setIfInBounds j true) := fun k ok hk hki hun hno => by
  refine h k ok hk hki ?_ hno
  by_cases hjk : j = k
  · subst hjk
    rcases Nat.lt_or_ge j listed.size with h' | h'
    · simp [h'] at hun
    · simp [Array.getElem?_eq_none h'] at hun
  · rw [getD_set_ne true hjk] at hun; exact hun

section
variable {X : Type} (G : World → World → Prop) (val : Nat → X → Value) (T : Nat → X → World → Prop) (S0 : World → Prop) (anc : Nat → Nat → Bool)
/-- what the ancestors of j tell -/
def Pre (F : Fx) (j : Nat) (w : World) : Prop := S0 w ∧ ∀ k, anc j k = true → F k w
def Prem (P : Program) (F : Fx) (j : Nat) (oj : Oper) (a : Act) : Prop :=
  ∀ w, Pre S0 anc F j w → RTo P (fun v w' => G w w' ∧ ∃ x, v = val j x ∧ T j x w') ((execOp a.eval oj).run P w)
/-- kinds of a script's operations: 0 a read; 1 it changes the world; 2 the same in every world, and it may come behind the tail's first operations (such stand last) -/
def CertR (P : Program) (md : Region.Mode) (ops : Array Oper) (dep bar : Nat → Bool) (Q : Exit → Act → World → Prop) (m : Nat) : List (Nat × Nat) → Array Bool → Act → Fx → Prop
  | [], listed, a, F => CertE P md ops dep bar Q m listed a (fun w => S0 w ∧ ∀ k, F k w)
  | (i, 1) :: rest, listed, a, F => ∃ oi, ops[i]? = some oi ∧ apartAll md ops i oi listed ∧ i ∈ Region.ready md ops listed ∧ Region.wanted oi (yielded ops a.tmps) = true ∧ Prem G val T S0 anc P F i oi a ∧
      ∀ x, CertR P md ops dep bar Q m rest (listed.setIfInBounds i true) (a.put oi.dst (val i x)) (updF F i (T i x))
  | (i, k) :: rest, listed, a, F => ∃ oi v, ops[i]? = some oi ∧ apartAll md ops i oi listed ∧ i ∈ Region.ready md ops listed ∧ (k = 0 ∧ YV P ops (Pre S0 anc F i) oi v a ∨ k = 2 ∧ YV P ops (fun _ => True) oi v a) ∧ CertR P md ops dep bar Q m rest (listed.setIfInBounds i true) (a.put oi.dst v) F

/-- the first j of the list, and the list without it -/
def pick (j : Nat) : List (Nat × Nat) → Option (Nat × List (Nat × Nat))
  | [] => none
  | (i, b) :: t => if i = j then some (b, t) else (pick j t).map fun x => (x.1, (i, b) :: x.2)
theorem pick_len {j : Nat} : ∀ {sc : List (Nat × Nat)} {b : Nat} {t : List (Nat × Nat)}, pick j sc = some (b, t) → sc.length = t.length + 1
  | [], _, _, h => by cases h
  | (i, b0) :: t0, b, t, h => by
    unfold pick at h
    split at h
    · cases h; rfl
    · cases hp : pick j t0 with
      | none => rw [hp] at h; cases h
      | some x =>
        rw [hp] at h
        obtain ⟨b1, t1⟩ := x
        simp only [Option.map_some, Option.some.injEq, Prod.mk.injEq] at h
        obtain ⟨_, rfl⟩ := h
        have := pick_len hp
        simp [this]

theorem pick_sub {j : Nat} : ∀ {sc : List (Nat × Nat)} {b : Nat} {t : List (Nat × Nat)}, pick j sc = some (b, t) → (∀ x ∈ t, x ∈ sc) ∧ ∀ j', j' ≠ j → pick j' t = none → pick j' sc = none
  | [], _, _, h => by cases h
  | (i, b0) :: t0, b, t, h => by
    unfold pick at h
    split at h
    · rename_i hij
      cases h
      exact ⟨fun x hx => List.mem_cons_of_mem _ hx, fun j' hj' hn => by unfold pick; rw [if_neg (by omega), hn]; rfl⟩
    · rename_i hij
      cases hp : pick j t0 with
      | none => rw [hp] at h; cases h
      | some x =>
        rw [hp] at h
        obtain ⟨b1, t1⟩ := x
        simp only [Option.map_some, Option.some.injEq, Prod.mk.injEq] at h
        obtain ⟨rfl, rfl⟩ := h
        obtain ⟨h1, h2⟩ := pick_sub hp
        refine ⟨fun x hx => ?_, fun j' hj' hn => ?_⟩
        · rcases List.mem_cons.1 hx with e | hx
          · exact e ▸ List.mem_cons_self ..
          · exact List.mem_cons_of_mem _ (h1 x hx)
        · unfold pick at hn ⊢
          by_cases e : i = j'
          · rw [if_pos e] at hn; cases hn
          · rw [if_neg e] at hn ⊢
            cases hq : pick j' t1 with
            | none => rw [h2 j' hj' hq]; rfl
            | some y => rw [hq] at hn; cases hn
variable {G val T S0 anc}
theorem unl_of {listed : Array Bool} {k : Nat} (hk : k ∈ Region.ready md ops listed) : listed.getD k false = false := by
  have h0 := (mem_ready.1 hk).1
  rcases Nat.lt_or_ge k listed.size with h' | h'
  · simp [h'] at h0 ⊢; exact h0
  · simp [Array.getElem?_eq_none h'] at h0 ⊢
theorem clo_of {listed : Array Bool} {i k : Nat} (hk : (listed.setIfInBounds i true).getD k false = false) : listed.getD k false = false := by
  by_cases hik : i = k
  · subst hik
    rcases Nat.lt_or_ge i listed.size with h' | h'
    · simp [h'] at hk
    · simp [Array.getElem?_eq_none h'] at hk ⊢
  · rw [getD_set_ne false hik] at hk; exact hk
theorem clo_ne {listed : Array Bool} {i k : Nat} (hi : i ∈ Region.ready md ops listed) (hk : (listed.setIfInBounds i true).getD k false = false) : k ≠ i := fun e => by
  subst e
  have h0 := (mem_ready.1 hi).1
  rcases Nat.lt_or_ge k listed.size with h' | h'
  · simp [h'] at hk
  · simp [Array.getElem?_eq_none h'] at h0
theorem CertR.unl [Inhabited X] {m : Nat} : ∀ (sc : List (Nat × Nat)) (listed : Array Bool) (a : Act) (F : Fx), CertR G val T S0 anc P md ops dep bar Q m sc listed a F → ∀ x ∈ sc, listed.getD x.1 false = false
  | [], _, _, _, _, x, hx => by cases hx
  | (i, 1) :: rest, listed, a, F, h, x, hx => by
    obtain ⟨oi, _, _, hr, _, _, hrest⟩ := h
    rcases List.mem_cons.1 hx with e | hx
    · subst e; exact unl_of hr
    · exact clo_of (CertR.unl rest _ _ _ (hrest default) x hx)
  | (i, 0) :: rest, listed, a, F, h, x, hx => by
    obtain ⟨oi, v, _, _, hr, _, hrest⟩ := h
    rcases List.mem_cons.1 hx with e | hx
    · subst e; exact unl_of hr
    · exact clo_of (CertR.unl rest _ _ _ hrest x hx)
  | (i, k + 2) :: rest, listed, a, F, h, x, hx => by
    obtain ⟨oi, v, _, _, hr, _, hrest⟩ := h
    rcases List.mem_cons.1 hx with e | hx
    · subst e; exact unl_of hr
    · exact clo_of (CertR.unl rest _ _ _ hrest x hx)
theorem apt_of {listed : Array Bool} {i j : Nat} {oi oj : Oper} (hj : j ∈ Region.ready md ops listed) (hoj : ops[j]? = some oj) (hfree : apartAll md ops i oi listed) (hr : i ∈ Region.ready md ops listed) (hji : j ≠ i) : oi.apart ops oj = true := by
  obtain ⟨hjun, oj', hoj', hall⟩ := mem_ready.1 hj
  obtain rfl : oj = oj' := Option.some.inj (hoj.symm.trans hoj')
  refine hfree j oj hoj hji hjun fun e he hb heq => ?_
  have h1 := hall e he hb
  have h0 := unl_of hr
  rw [heq, h0] at h1; cases h1
/-- what taking j first comes to -/
def FrontR (G : World → World → Prop) (val : Nat → X → Value) (T : Nat → X → World → Prop) (S0 : World → Prop) (anc : Nat → Nat → Bool) (P : Program) (md : Region.Mode) (ops : Array Oper) (dep bar : Nat → Bool) (Q : Exit → Act → World → Prop) (m : Nat) (j b : Nat) (sc' : List (Nat × Nat)) (listed : Array Bool) (a : Act) (F : Fx) (oj : Oper) : Prop :=
  (b ≠ 1 ∧ ∃ v, (b = 0 ∧ YV P ops (Pre S0 anc F j) oj v a ∨ b = 2 ∧ YV P ops (fun _ => True) oj v a) ∧ CertR G val T S0 anc P md ops dep bar Q m sc' (listed.setIfInBounds j true) (a.put oj.dst v) F) ∨
  (b = 1 ∧ Region.wanted oj (yielded ops a.tmps) = true ∧ Prem G val T S0 anc P F j oj a ∧ ∀ x, CertR G val T S0 anc P md ops dep bar Q m sc' (listed.setIfInBounds j true) (a.put oj.dst (val j x)) (updF F j (T j x)))
theorem certR_read {m i k : Nat} {rest : List (Nat × Nat)} {listed : Array Bool} {a : Act} {F : Fx} (hk : k ≠ 1) : CertR G val T S0 anc P md ops dep bar Q m ((i, k) :: rest) listed a F ↔ ∃ oi v, ops[i]? = some oi ∧ apartAll md ops i oi listed ∧ i ∈ Region.ready md ops listed ∧ (k = 0 ∧ YV P ops (Pre S0 anc F i) oi v a ∨ k = 2 ∧ YV P ops (fun _ => True) oi v a) ∧ CertR G val T S0 anc P md ops dep bar Q m rest (listed.setIfInBounds i true) (a.put oi.dst v) F := by
  match k, hk with
  | 0, _ => exact Iff.rfl
  | k + 2, _ => exact Iff.rfl
theorem CertR.front [Inhabited X] {m : Nat} (hsel : ∀ (j : Nat) (o : Oper) cs b, ops[j]? = some o → o.op ≠ .select cs b)
    (hanc : ∀ j k, anc j k = true → ∀ listed, Closed md ops listed → j ∈ Region.ready md ops listed → listed.getD k false = true) {j b : Nat} {w : World} :
    ∀ (sc : List (Nat × Nat)) (sc' : List (Nat × Nat)) (listed : Array Bool) (a : Act) (F : Fx), pick j sc = some (b, sc') → Closed md ops listed → (∀ k, listed.getD k false = false → ∀ x, F k x) → Pre S0 anc F j w → CertR G val T S0 anc P md ops dep bar Q m sc listed a F → j ∈ Region.ready md ops listed →
      ∃ oj, ops[j]? = some oj ∧ FrontR G val T S0 anc P md ops dep bar Q m j b sc' listed a F oj := by
  intro sc
  induction sc with
  | nil => intro sc' listed a F h; cases h
  | cons x rest ih =>
    obtain ⟨i, k⟩ := x
    intro sc' listed a F hpk hcl hF hw h hj
    by_cases hk1 : k = 1
    · subst hk1
      obtain ⟨oi, hi, hfree, hr, hwd, hpr, hrest⟩ := h
      by_cases hji : i = j
      · subst hji
        obtain ⟨rfl, rfl⟩ : 1 = b ∧ rest = sc' := by simpa [pick] using hpk
        exact ⟨oi, hi, .inr ⟨rfl, hwd, hpr, hrest⟩⟩
      · have hji' : j ≠ i := Ne.symm hji
        obtain ⟨sc2, hp, rfl⟩ : ∃ sc2, pick j rest = some (b, sc2) ∧ (i, 1) :: sc2 = sc' := by
          unfold pick at hpk
          rw [if_neg hji] at hpk
          cases hp : pick j rest with
          | none => rw [hp] at hpk; cases hpk
          | some y => rw [hp] at hpk; obtain ⟨y1, y2⟩ := y; simp at hpk; exact ⟨y2, by rw [hpk.1], hpk.2⟩
        have hai : anc j i = false := by
          cases h0 : anc j i
          · rfl
          · have := hanc j i h0 listed hcl hj; rw [unl_of hr] at this; cases this
        have preE : ∀ p x, Pre S0 anc (updF F i p) j x ↔ Pre S0 anc F j x := fun p x => by
          unfold Pre
          refine and_congr Iff.rfl (forall_congr' fun k => ?_)
          by_cases hki : k = i
          · subst hki; rw [hai]; simp
          · rw [updF_ne hki]
        have fj : ∀ x, F j x := hF j (unl_of hj)
        have hF' : ∀ p, ∀ k, (listed.setIfInBounds i true).getD k false = false → ∀ x, updF F i p k x := fun p k hk x => by
          rw [updF_ne (clo_ne hr hk)]; exact hF k (clo_of hk) x
        have get := fun x => ih sc2 (listed.setIfInBounds i true) (a.put oi.dst (val i x)) (updF F i (T i x)) hp (hcl.step hr) (hF' _) ((preE _ _).2 hw) (hrest x) (ready_mono hj hji')
        obtain ⟨oj, hoj, hc0⟩ := get default
        obtain ⟨h1, h2, h3⟩ := Oper.apart_spec (apt_of hj hoj hfree hr hji')
        have e1 := fun v => execOp_put oj (fun cs b => hsel j oj cs b hoj) a oi.dst v h1
        have e2 := fun v => wanted_put oj a oi.dst v h1
        have e3 := fun u => execOp_put oi (fun cs b => hsel i oi cs b hi) a oj.dst u h3
        have e4 := fun u => wanted_put oi a oj.dst u h3
        refine ⟨oj, hoj, ?_⟩
        have getv : ∀ x, FrontR G val T S0 anc P md ops dep bar Q m j b sc2 (listed.setIfInBounds i true) (a.put oi.dst (val i x)) (updF F i (T i x)) oj := fun x => by
          obtain ⟨oj', hoj', hc'⟩ := get x
          obtain rfl : oj = oj' := Option.some.inj (hoj.symm.trans hoj')
          exact hc'
        have back : ∀ {v x}, (b = 0 ∧ YV P ops (Pre S0 anc (updF F i (T i x)) j) oj v (a.put oi.dst (val i x)) ∨ b = 2 ∧ YV P ops (fun _ => True) oj v (a.put oi.dst (val i x))) → (b = 0 ∧ YV P ops (Pre S0 anc F j) oj v a ∨ b = 2 ∧ YV P ops (fun _ => True) oj v a) := fun h => by
          rcases h with ⟨h0, h⟩ | ⟨h0, h⟩
          · exact .inl ⟨h0, h.of_same (fun x h => (preE _ x).2 h) (e1 _).symm (e2 _).symm⟩
          · exact .inr ⟨h0, h.of_same (fun _ h => h) (e1 _).symm (e2 _).symm⟩
        rcases hc0 with ⟨hb1, vj, y1, y2⟩ | ⟨rfl, c1, c2, c3⟩
        · have y1' := back y1
          refine .inl ⟨hb1, vj, y1', oi, hi, hfree.more j, ready_mono hr hji, e4 vj ▸ hwd, fun x hx => by rw [e3 vj]; exact hpr x hx, fun x => ?_⟩
          rcases getv x with ⟨_, vj', z1, z2⟩ | ⟨h, _⟩
          · have z1' := back z1
            obtain rfl : vj = vj' := by
              rcases y1' with ⟨h0, y⟩ | ⟨h0, y⟩ <;> rcases z1' with ⟨k0, z⟩ | ⟨k0, z⟩
              · exact y.det z hw
              · omega
              · omega
              · exact y.det z (w := w) trivial
            rw [Array.setIfInBounds_comm _ _ hji', ← Act.put_comm a (val i x) vj h2]; exact z2
          · exact absurd h hb1
        · refine .inr ⟨rfl, (e2 (val i default)) ▸ c1, fun x hx => by have := c2 x ((preE _ x).2 hx); rw [e1] at this; exact this, fun y => ⟨oi, hi, hfree.more j, ready_mono hr hji, e4 (val j y) ▸ hwd, fun x hx => ?_, fun x => ?_⟩⟩
          · rw [e3]
            refine hpr x ⟨hx.1, fun k hk => ?_⟩
            by_cases hkj : k = j
            · subst hkj; exact fj x
            · have := hx.2 k hk; rw [updF_ne hkj] at this; exact this
          · rcases getv x with ⟨h, _⟩ | ⟨_, _, _, z3⟩
            · exact absurd rfl h
            · rw [Array.setIfInBounds_comm _ _ hji', ← Act.put_comm a (val i x) (val j y) h2, ← updF_comm F _ _ hji]; exact z3 y
    · obtain ⟨oi, v, hi, hfree, hr, hy, hrest⟩ := (certR_read hk1).1 h
      by_cases hji : i = j
      · subst hji
        obtain ⟨rfl, rfl⟩ : k = b ∧ rest = sc' := by simpa [pick] using hpk
        exact ⟨oi, hi, .inl ⟨hk1, v, hy, hrest⟩⟩
      · have hji' : j ≠ i := Ne.symm hji
        obtain ⟨sc2, hp, rfl⟩ : ∃ sc2, pick j rest = some (b, sc2) ∧ (i, k) :: sc2 = sc' := by
          unfold pick at hpk
          rw [if_neg hji] at hpk
          cases hp : pick j rest with
          | none => rw [hp] at hpk; cases hpk
          | some y => rw [hp] at hpk; obtain ⟨y1, y2⟩ := y; simp at hpk; exact ⟨y2, by rw [hpk.1], hpk.2⟩
        obtain ⟨oj, hoj, hc⟩ := ih sc2 _ _ F hp (hcl.step hr) (fun k hk => hF k (clo_of hk)) hw hrest (ready_mono hj hji')
        obtain ⟨h1, h2, h3⟩ := Oper.apart_spec (apt_of hj hoj hfree hr hji')
        have e1 := execOp_put oj (fun cs b => hsel j oj cs b hoj) a oi.dst v h1
        have e2 := wanted_put oj a oi.dst v h1
        have e3 := fun u => execOp_put oi (fun cs b => hsel i oi cs b hi) a oj.dst u h3
        have e4 := fun u => wanted_put oi a oj.dst u h3
        refine ⟨oj, hoj, ?_⟩
        have fj : ∀ x, F j x := hF j (unl_of hj)
        rcases hc with ⟨hb1, vj, y1, y2⟩ | ⟨rfl, c1, c2, c3⟩
        · refine .inl ⟨hb1, vj, ?_, (certR_read hk1).2 ⟨oi, v, hi, hfree.more j, ready_mono hr hji, ?_, ?_⟩⟩
          · rcases y1 with ⟨h0, y⟩ | ⟨h0, y⟩
            · exact .inl ⟨h0, y.of_same (fun _ h => h) e1.symm e2.symm⟩
            · exact .inr ⟨h0, y.of_same (fun _ h => h) e1.symm e2.symm⟩
          · rcases hy with ⟨h0, y⟩ | ⟨h0, y⟩
            · exact .inl ⟨h0, y.of_same (fun _ h => h) (e3 vj) (e4 vj)⟩
            · exact .inr ⟨h0, y.of_same (fun _ h => h) (e3 vj) (e4 vj)⟩
          · rw [Array.setIfInBounds_comm _ _ hji', ← Act.put_comm a v vj h2]; exact y2
        · refine .inr ⟨rfl, e2 ▸ c1, fun x hx => by have := c2 x hx; rw [e1] at this; exact this, fun y => (certR_read hk1).2 ⟨oi, v, hi, hfree.more j, ready_mono hr hji, ?_, ?_⟩⟩
          · rcases hy with ⟨h0, yy⟩ | ⟨h0, yy⟩
            · refine .inl ⟨h0, yy.of_same (fun x hx => ⟨hx.1, fun k hk => ?_⟩) (e3 _) (e4 _)⟩
              by_cases hkj : k = j
              · subst hkj; exact fj x
              · have := hx.2 k hk; rw [updF_ne hkj] at this; exact this
            · exact .inr ⟨h0, yy.of_same (fun _ h => h) (e3 _) (e4 _)⟩
          · rw [Array.setIfInBounds_comm _ _ hji', ← Act.put_comm a v (val j y) h2]; exact c3 y
/-- What is left is the same in every world: it goes with the tail. -/
theorem CertR.late {m : Nat} : ∀ (sc : List (Nat × Nat)) (listed : Array Bool) (a : Act) (F : Fx), (∀ x ∈ sc, x.2 = 2) → CertR G val T S0 anc P md ops dep bar Q m sc listed a F → CertE P md ops dep bar Q (sc.length + m) listed a (fun w => S0 w ∧ ∀ k, F k w)
  | [], listed, a, F, _, h => by rw [List.length_nil, Nat.zero_add]; exact h
  | (i, k) :: rest, listed, a, F, hl, h => by
    obtain rfl : k = 2 := hl _ (List.mem_cons_self ..)
    obtain ⟨oi, v, hi, hfree, hr, hy, hrest⟩ := (certR_read (by decide)).1 h
    rw [List.length_cons, show rest.length + 1 + m = (rest.length + m) + 1 by omega]
    refine .inl ⟨i, oi, v, hi, hfree, hr, .inr ?_, CertR.late rest _ _ F (fun x hx => hl x (List.mem_cons_of_mem _ hx)) hrest⟩
    rcases hy with ⟨h0, _⟩ | ⟨_, y⟩
    · cases h0
    · rcases y with ⟨h1, h2⟩ | h
      · exact .inl ⟨h1, fun w _ => by rw [h2 w trivial]; exact ⟨rfl, rfl⟩⟩
      · exact .inr h
/-- the tail's operations wait for all of the script but the last kind -/
def Stat (md : Region.Mode) (ops : Array Oper) (sc : List (Nat × Nat)) (listed : Array Bool) : Prop :=
  ∀ j oj, ops[j]? = some oj → pick j sc = none → listed.getD j false = false → ∀ x ∈ sc, x.2 ≠ 2 → ∃ e ∈ oj.after, Region.binds md e = true ∧ e.on = x.1
theorem CertR.sound [Inhabited X] {m : Nat} (hsel : ∀ (j : Nat) (o : Oper) cs b, ops[j]? = some o → o.op ≠ .select cs b) (hpart : Part md ops dep bar)
    (hanc : ∀ j k, anc j k = true → ∀ listed, Closed md ops listed → j ∈ Region.ready md ops listed → listed.getD k false = true)
    (hT : ∀ i x w w', T i x w → G w w' → T i x w') (hS : ∀ w w', S0 w → G w w' → S0 w') :
    ∀ (n : Nat) (sc : List (Nat × Nat)) (listed : Array Bool) (a : Act) (F : Fx), sc.length = n → Stat md ops sc listed → Closed md ops listed → (∀ k, listed.getD k false = false → ∀ x, F k x) → (∀ k w w', F k w → G w w' → F k w') →
      CertR G val T S0 anc P md ops dep bar Q m sc listed a F → ∀ w, S0 w → (∀ k, F k w) → wpAny P md ops Q (n + m) listed a w := by
  intro n
  induction n with
  | zero =>
    intro sc listed a F hn hst0 hcl hF hst h w hw hf
    obtain rfl := List.length_eq_zero_iff.1 hn
    rw [Nat.zero_add]
    exact CertE.sound hsel hpart _ _ _ _ hcl h w ⟨hw, hf⟩
  | succ n ih =>
    intro sc listed a F hn hst0 hcl hF hst h w hw hf
    by_cases hall : ∀ x ∈ sc, x.2 = 2
    · rw [← hn]
      exact CertE.sound hsel hpart _ _ _ _ hcl (CertR.late sc listed a F hall h) w ⟨hw, hf⟩
    obtain ⟨x0, hx0, hx2⟩ : ∃ x ∈ sc, x.2 ≠ 2 := Classical.byContradiction fun hno => hall fun x hx => Classical.byContradiction fun h2 => hno ⟨x, hx, h2⟩
    have hun := CertR.unl sc listed a F h
    rw [show n + 1 + m = (n + m) + 1 by omega]
    refine ⟨fun hr => ?_, fun j hj => ?_⟩
    · exfalso
      match sc, h, hn with
      | (i, 1) :: _, h, _ => obtain ⟨_, _, _, hr', _⟩ := h; rw [hr] at hr'; cases hr'
      | (i, 0) :: _, h, _ => obtain ⟨_, _, _, _, hr', _⟩ := h; rw [hr] at hr'; cases hr'
      | (i, k + 2) :: _, h, _ => obtain ⟨_, _, _, _, hr', _⟩ := h; rw [hr] at hr'; cases hr'
    · cases hp : pick j sc with
      | none =>
        exfalso
        obtain ⟨_, oj, hoj, hall'⟩ := mem_ready.1 hj
        obtain ⟨e, he, hb, heq⟩ := hst0 j oj hoj hp (unl_of hj) x0 hx0 hx2
        have h1 := hall' e he hb
        rw [heq, hun x0 hx0] at h1; cases h1
      | some y =>
        obtain ⟨b, sc'⟩ := y
        obtain ⟨oj, hoj, hc⟩ := CertR.front hsel hanc sc sc' listed a F hp hcl hF ⟨hw, fun k _ => hf k⟩ h hj
        have hl := pick_len hp
        obtain ⟨hs1, hs2⟩ := pick_sub hp
        have hcl' := hcl.step hj
        have hst' : Stat md ops sc' (listed.setIfInBounds j true) := fun j' oj' ho' hn' hu x hx hx2 => hst0 j' oj' ho' (hs2 j' (clo_ne hj hu) hn') (clo_of hu) x (hs1 x hx) hx2
        rcases hc with ⟨_, v, y1, y2⟩ | ⟨_, c1, c2, c3⟩
        · have hrec := ih sc' _ _ F (by omega) hst' hcl' (fun k hk => hF k (clo_of hk)) hst y2 w hw hf
          have y1' : YV P ops (Pre S0 anc F j) oj v a := by
            rcases y1 with ⟨_, y⟩ | ⟨_, y⟩
            · exact y
            · exact y.of_same (fun _ _ => trivial) rfl rfl
          rcases y1' with ⟨k1, k2⟩ | ⟨k1, rfl⟩
          · refine wpOp_to hoj k1 ?_
            rw [k2 w ⟨hw, fun k _ => hf k⟩]
            exact hrec
          · unfold Go.wpOp
            simp only [hoj, k1, Bool.false_eq_true, if_false]
            exact hrec
        · refine wpOp_to hoj c1 ((c2 w ⟨hw, fun k _ => hf k⟩).mono fun v w' hk => ?_)
          obtain ⟨hg0, x1, rfl, hx1⟩ := hk
          refine ih sc' _ _ (updF F j (T j x1)) (by omega) hst' hcl' (fun k hk => by rw [updF_ne (clo_ne hj hk)]; exact hF k (clo_of hk)) (fun k x x' hx hg => ?_) (c3 x1) w' (hS _ _ hw hg0) fun k => ?_
          · by_cases hkj : k = j
            · subst hkj; rw [updF_same] at hx ⊢; exact hT _ _ _ _ hx hg
            · rw [updF_ne hkj] at hx ⊢; exact hst _ _ _ hx hg
          · by_cases hkj : k = j
            · subst hkj; rw [updF_same]; exact hx1
            · rw [updF_ne hkj]; exact hst _ _ _ (hf k) hg0
def ancB (ms : List Nat) (j k : Nat) : Bool := Nat.testBit (ancs ms ms.length (ms.getD j 0)) k
def statOk (ms : List Nat) (sc : List (Nat × Nat)) : Bool := (List.range ms.length).all fun j => sc.any (fun x => Nat.beq x.1 j) || sc.all fun x => Nat.beq x.2 2 || Nat.testBit (ms.getD j 0) x.1
def ordR (ms : List Nat) (n : Nat) (ot : OT) : List (Nat × Nat) → Nat → Bool
  | [], L => ordE ms n true ot L
  | (i, _) :: rest, L => (match ms[i]? with | some m => rdy m L i | none => false) && ordR ms n ot rest (Nat.lor L (Nat.shiftLeft 1 i))
theorem stepR {i L : Nat} (hL : ∀ k, L.testBit k = true → k < ops.size) (ho1 : (match (ops.toList.map (amask md))[i]? with | some m => rdy m L i | none => false) = true) {oi : Oper} (hi : ops[i]? = some oi) :
    i ∈ Region.ready md ops (lst ops.size L) ∧ ∀ k, (Nat.lor L (Nat.shiftLeft 1 i)).testBit k = true → k < ops.size := by
  have get : (ops.toList.map (amask md))[i]? = some (amask md oi) := by
    rw [List.getElem?_map]
    have : ops.toList[i]? = some oi := by simpa using hi
    rw [this]; rfl
  rw [get] at ho1
  refine ⟨(rdy_iff hi hL).1 ho1, fun k hk => ?_⟩
  have e : Nat.testBit (Nat.lor L (Nat.shiftLeft 1 i)) k = (L.testBit k || decide (i = k)) := by
    show (L ||| (1 <<< i)).testBit k = _
    rw [Nat.testBit_or, Nat.one_shiftLeft, Nat.testBit_two_pow]
  rw [e, Bool.or_eq_true, decide_eq_true_eq] at hk
  rcases hk with hk | rfl
  · exact hL k hk
  · exact (Array.getElem?_eq_some_iff.1 hi).1
theorem freeR (hok : fastOk md ops = true) {i L : Nat} {oi : Oper} (hi : ops[i]? = some oi) (s1 : i ∈ Region.ready md ops (lst ops.size L)) : apartAll md ops i oi (lst ops.size L) := by
  have getR : ∀ (j : Nat) (o : Oper), ops[j]? = some o → (ops.toList.map (orow md ops))[j]? = some (orow md ops o) := by
    intro j o ho
    rw [List.getElem?_map]
    have : ops.toList[j]? = some o := by simpa using ho
    rw [this]; rfl
  have hpairs : ∀ (i j : Nat) (oi oj : Oper), i < j → ops[i]? = some oi → ops[j]? = some oj → (∃ e ∈ oj.after, Region.binds md e = true ∧ e.on = i) ∨ oi.apart ops oj = true := by
    intro i j oi oj hij hi hj
    unfold fastOk at hok
    rw [Bool.and_eq_true] at hok
    have hs := (pairsOk_spec _ 0 hok.2 i _ (getR i oi hi)).2 j _ hij (getR j oj hj)
    rcases hs with h | h
    · left
      have hm : (0 + i) ∈ (orow md ops oj).2.2 := by simpa using h
      obtain ⟨e, he, hek⟩ := List.mem_map.1 hm
      rw [List.mem_filter] at he
      exact ⟨e, by simpa using he.1, he.2, by omega⟩
    · exact .inr (apartR_spec h)
  intro j oj hj hji hun hno
  rcases Nat.lt_or_ge i j with hlt | hge
  · rcases hpairs i j oi oj hlt hi hj with ⟨e, he, hb, heq⟩ | h
    · exact absurd heq (hno e he hb)
    · exact h
  · have hlt : j < i := by omega
    rcases hpairs j i oj oi hlt hj hi with ⟨e, he, hb, heq⟩ | h
    · exfalso
      obtain ⟨_, o', ho', hall⟩ := mem_ready.1 s1
      obtain rfl : oi = o' := Option.some.inj (hi.symm.trans ho')
      have h1 := hall e he hb
      rw [heq, lst_getD _ _ _ _ (Array.getElem?_eq_some_iff.1 hj).1] at h1
      rw [lst_getD _ _ _ _ (Array.getElem?_eq_some_iff.1 hj).1, h1] at hun
      cases hun
    · exact apart_symm h
variable (val : Nat → X → Value) (T : Nat → X → World → Prop) (S0 : World → Prop)
/-- the walk: reads (0); what changes the world (1); what is the same in every world and may come late (2); the tail -/
def SeqR (P : Program) (ops : Array Oper) (Q : Exit → Act → World → Prop) : List (Nat × Nat) → OT → Act → Fx → Prop
  | [], ot, a, F => SeqE P ops Q ot a (fun w => S0 w ∧ ∀ k, F k w)
  | (i, 1) :: rest, ot, a, F => ∃ oi, ops[i]? = some oi ∧ Region.wanted oi (yielded ops a.tmps) = true ∧ Prem (fun w w' => RowKit.Below w.heap.size w w') val T S0 (ancB (ops.toList.map (amask .any))) P F i oi a ∧
      ∀ x, SeqR P ops Q rest ot (a.put oi.dst (val i x)) (updF F i (T i x))
  | (i, k) :: rest, ot, a, F => ∃ oi v, ops[i]? = some oi ∧ (k = 0 ∧ YV P ops (Pre S0 (ancB (ops.toList.map (amask .any))) F i) oi v a ∨ k = 2 ∧ YV P ops (fun _ => True) oi v a) ∧ SeqR P ops Q rest ot (a.put oi.dst v) F
variable {val T S0}
theorem certR_of_seq (hok : fastOk .any ops = true) {m : Nat} {ot : OT} (hd : ∀ i, (i, 0) ∈ ot.all → dep i = true) (hb : ∀ i, (i, 3) ∈ ot.all → bar i = true) : ∀ (sc : List (Nat × Nat)) (L : Nat) (a : Act) (F : Fx), (∀ k, L.testBit k = true → k < ops.size) →
    ordR (ops.toList.map (amask .any)) m ot sc L = true → SeqR val T S0 P ops Q sc ot a F → CertR (fun w w' => RowKit.Below w.heap.size w w') val T S0 (ancB (ops.toList.map (amask .any))) P .any ops dep bar Q m sc (lst ops.size L) a F
  | [], L, a, F, hL, ho, h => (certE_of_seq hok ot m L a _ hd hb hL h).1 ho
  | (i, 1) :: rest, L, a, F, hL, ho, h => by
    simp only [ordR, Bool.and_eq_true] at ho
    obtain ⟨oi, hi, hw, hp, hrest⟩ := h
    obtain ⟨s1, s2⟩ := stepR hL ho.1 hi
    exact ⟨oi, hi, freeR hok hi s1, s1, hw, hp, fun x => by rw [lst_set]; exact certR_of_seq hok hd hb rest _ _ _ s2 ho.2 (hrest x)⟩
  | (i, 0) :: rest, L, a, F, hL, ho, h => by
    simp only [ordR, Bool.and_eq_true] at ho
    obtain ⟨oi, v, hi, hy, hrest⟩ := h
    obtain ⟨s1, s2⟩ := stepR hL ho.1 hi
    exact ⟨oi, v, hi, freeR hok hi s1, s1, hy, by rw [lst_set]; exact certR_of_seq hok hd hb rest _ _ _ s2 ho.2 hrest⟩
  | (i, k + 2) :: rest, L, a, F, hL, ho, h => by
    simp only [ordR, Bool.and_eq_true] at ho
    obtain ⟨oi, v, hi, hy, hrest⟩ := h
    obtain ⟨s1, s2⟩ := stepR hL ho.1 hi
    exact ⟨oi, v, hi, freeR hok hi s1, s1, hy, by rw [lst_set]; exact certR_of_seq hok hd hb rest _ _ _ s2 ho.2 hrest⟩
theorem pick_none : ∀ {sc : List (Nat × Nat)} {j : Nat}, sc.any (fun x => Nat.beq x.1 j) = true → pick j sc ≠ none
  | [], _, h => by cases h
  | (i, b) :: t, j, h => by
    unfold pick
    by_cases e : i = j
    · rw [if_pos e]; simp
    · rw [if_neg e]
      rw [List.any_cons, Bool.or_eq_true] at h
      rcases h with h | h
      · exact absurd (Nat.eq_of_beq_eq_true h) e
      · have := pick_none h
        cases hp : pick j t with
        | none => exact absurd hp this
        | some y => simp
theorem stat_of {sc : List (Nat × Nat)} {listed : Array Bool} (h : statOk (ops.toList.map (amask md)) sc = true) : Stat md ops sc listed := by
  intro j oj hoj hn _ x hx hx2
  have hjl := (Array.getElem?_eq_some_iff.1 hoj).1
  have gm : (ops.toList.map (amask md)).getD j 0 = amask md oj := by
    rw [List.getD_eq_getElem?_getD, List.getElem?_map]
    have : ops.toList[j]? = some oj := by simpa using hoj
    rw [this]; rfl
  have h1 := List.all_eq_true.1 h j (List.mem_range.2 (by rw [List.length_map, Array.length_toList]; exact hjl))
  rw [Bool.or_eq_true] at h1
  rcases h1 with h1 | h1
  · exact absurd hn (pick_none h1)
  · have h2 := List.all_eq_true.1 h1 x hx
    rw [Bool.or_eq_true, gm] at h2
    rcases h2 with h2 | h2
    · exact absurd (Nat.eq_of_beq_eq_true h2) hx2
    · exact (amask_bit oj x.1).1 h2
def ordROk (md : Region.Mode) (ops : Array Oper) (sc : List (Nat × Nat)) (ot : OT) : Bool :=
  statOk (ops.toList.map (amask md)) sc && Nat.ble sc.length ops.size && ordR (ops.toList.map (amask md)) (ops.size - sc.length) ot sc 0 && barOk (ops.toList.map (amask md)) ot.all
/-- THE RULE. -/
theorem wp_region_seqR [Inhabited X] {id : Nat} {a : Act} {w : World} (val : Nat → X → Value) (T : Nat → X → World → Prop) (S0 : World → Prop) (sc : List (Nat × Nat)) (ot : OT) (hm : P.follows .mixedOrders = true) (hok' : fastOk .any ops = true) (hord : ordROk .any ops sc ot = true) (hS : S0 w.drew)
    (hT : ∀ i x w w', T i x w → RowKit.Below w.heap.size w w' → T i x w') (hS0 : ∀ w w', S0 w → RowKit.Below w.heap.size w w' → S0 w')
    (h : SeqR val T S0 P ops Q sc ot a (fun _ _ => True)) : (Code.region id ops true).wp P Q a w := by
  refine wp_region_any hm ?_
  unfold ordROk at hord
  rw [Bool.and_eq_true, Bool.and_eq_true, Bool.and_eq_true] at hord
  obtain ⟨⟨⟨hstat, hle⟩, ho⟩, hb⟩ := hord
  have hle := Nat.le_of_ble_eq_true hle
  let dep : Nat → Bool := fun i => ((ot.all.filter fun x => Nat.beq x.2 0).map (·.1)).contains i
  let bar : Nat → Bool := fun i => ((ot.all.filter fun x => Nat.beq x.2 3).map (·.1)).contains i
  have hc := certR_of_seq (Q := Q) (dep := dep) (bar := bar) hok' (m := ops.size - sc.length) (ot := ot)
    (fun i hi => by
      show List.contains _ i = true
      rw [List.contains_iff_mem]
      exact List.mem_map.2 ⟨(i, 0), List.mem_filter.2 ⟨hi, rfl⟩, rfl⟩)
    (fun i hi => by
      show List.contains _ i = true
      rw [List.contains_iff_mem]
      exact List.mem_map.2 ⟨(i, 3), List.mem_filter.2 ⟨hi, rfl⟩, rfl⟩) sc 0 a _
    (fun k hk => by simp at hk) ho h
  have hsel : ∀ (j : Nat) (o : Oper) cs b, ops[j]? = some o → o.op ≠ .select cs b := by
    unfold fastOk at hok'; rw [Bool.and_eq_true] at hok'; exact Region.noSelect_spec hok'.1
  have un : ∀ {listed : Array Bool} {k}, k ∈ Region.ready .any ops listed → listed.getD k false = true → False := fun {listed k} hk h => by
    have h0 := (mem_ready.1 hk).1
    rcases Nat.lt_or_ge k listed.size with h' | h'
    · simp [h'] at h0 h; rw [h0] at h; cases h
    · simp [Array.getElem?_eq_none h'] at h
  have hpart : Part .any ops dep bar := by
    intro i j hi hj listed hcl ri rj
    have hi : List.contains _ i = true := hi
    have hj : List.contains _ j = true := hj
    rw [List.contains_iff_mem] at hi hj
    obtain ⟨⟨x, kx⟩, hx, rfl⟩ := List.mem_map.1 hi
    obtain ⟨⟨y, ky⟩, hy, rfl⟩ := List.mem_map.1 hj
    rw [List.mem_filter] at hx hy
    have h1 := List.all_eq_true.1 hb _ hy.1
    have ey : Nat.beq ky 3 = true := hy.2
    have ex : Nat.beq kx 0 = true := hx.2
    simp only [ey, Bool.not_true, Bool.false_or] at h1
    have h2 := List.all_eq_true.1 h1 _ hx.1
    simp only [ex, Bool.not_true, Bool.false_or, Bool.or_eq_true] at h2
    rcases h2 with h2 | h2
    · exact un ri (anc_listed hcl rj h2)
    · exact un rj (anc_listed hcl ri h2)
  have hcl0 : Closed .any ops (lst ops.size 0) := by
    rw [lst_zero]; exact closed_none _ rfl
  have := CertR.sound hsel hpart (fun j k hjk listed hcl hj => anc_listed hcl hj hjk) hT hS0 sc.length sc _ a _ rfl (stat_of hstat) hcl0 (fun _ _ _ => trivial) (fun _ _ _ _ _ => trivial) hc w.drew hS (fun _ => trivial)
  rw [lst_zero, show sc.length + (ops.size - sc.length) = ops.size by omega] at this
  exact this
variable {S : World → Prop} {o : Oper} {rest : List (Nat × Nat)} {ot : OT} {a : Act} {v : Value} {i : Nat} {tl : List Oper} {F : Fx}
/-- a read: the facts of its ancestors may be used -/
theorem seqR_pure (hi : ops.toList.drop i = o :: tl) (hw : Region.wanted o (yielded ops a.tmps) = true) (hy : ∀ w, S0 w → (∀ k, ancB (ops.toList.map (amask .any)) i k = true → F k w) → (execOp a.eval o).run P w = .ok (.value v) w)
    (h : SeqR val T S0 P ops Q rest ot (a.put o.dst v) F) : SeqR val T S0 P ops Q ((i, 0) :: rest) ot a F :=
  ⟨o, v, at_drop hi, .inl ⟨rfl, .inl ⟨hw, fun w hS => hy w hS.1 hS.2⟩⟩, h⟩
theorem seqR_free (hi : ops.toList.drop i = o :: tl) (hw : Region.wanted o (yielded ops a.tmps) = true) (hy : ∀ w, (execOp a.eval o).run P w = .ok (.value v) w)
    (h : SeqR val T S0 P ops Q rest ot (a.put o.dst v) F) : SeqR val T S0 P ops Q ((i, 2) :: rest) ot a F :=
  ⟨o, v, at_drop hi, .inr ⟨rfl, .inl ⟨hw, fun w _ => hy w⟩⟩, h⟩
theorem seqR_call {f : FuncId} {args : Array Value} (hi : ops.toList.drop i = o :: tl) (hw : Region.wanted o (yielded ops a.tmps) = true) (hy : ∀ w, (execOp a.eval o).run P w = .ok (.enter f args) w)
    (hc : ∀ w, S0 w → (∀ k, ancB (ops.toList.map (amask .any)) i k = true → F k w) → Calls P f args w fun e w' => RowKit.Below w.heap.size w w' ∧ ∃ x, e = .returned (val i x) ∧ T i x w')
    (h : ∀ x, SeqR val T S0 P ops Q rest ot (a.put o.dst (val i x)) (updF F i (T i x))) : SeqR val T S0 P ops Q ((i, 1) :: rest) ot a F :=
  ⟨o, at_drop hi, hw, fun w hS => by rw [hy w]; exact (hc w hS.1 hS.2).mono fun e w' he => by obtain ⟨h1, x, h2, h3⟩ := he; exact ⟨_, h2, h1, x, rfl, h3⟩, h⟩
theorem seqR_move (hi : ops.toList.drop i = o :: tl) (hw : Region.wanted o (yielded ops a.tmps) = true)
    (hc : ∀ w, S0 w → (∀ k, ancB (ops.toList.map (amask .any)) i k = true → F k w) → ∃ x w', (execOp a.eval o).run P w = .ok (.value (val i x)) w' ∧ RowKit.Below w.heap.size w w' ∧ T i x w')
    (h : ∀ x, SeqR val T S0 P ops Q rest ot (a.put o.dst (val i x)) (updF F i (T i x))) : SeqR val T S0 P ops Q ((i, 1) :: rest) ot a F :=
  ⟨o, at_drop hi, hw, fun w hS => by obtain ⟨x, w', h1, h2, h3⟩ := hc w hS.1 hS.2; rw [h1]; exact ⟨h2, x, rfl, h3⟩, h⟩
end
end
end Go.Proofs.Ytadilppdlbhjnaa
