/- A region that draws its order, walked in an order of the prover's: operations that leave the world alone as they come, and an operation that changes it when nothing else may come up. -/
import Derived.Test.YtdibfjcmgbpnpaaSeqM
namespace Go.Proofs.Ytdibfjcmgbpnpaa
set_option linter.unusedSimpArgs false
set_option linter.unusedVariables false
open Go

section
variable {P : Program} {ops : Array Oper} {Q : Exit → Act → World → Prop} {md : Region.Mode}

/-- An operation yields v and leaves the world as it is. -/
def RStill (P : Program) (v : Value) (w : World) : Result Next → Prop
  | .ok (.value u) w' => u = v ∧ w' = w
  | .ok (.enter f args) w' => Calls P f args w' fun e w'' => e = .returned v ∧ w'' = w
  | _ => False
def YP (P : Program) (ops : Array Oper) (S : World → Prop) (o : Oper) (v : Value) (a : Act) : Prop :=
  (Region.wanted o (yielded ops a.tmps) = true ∧ ∀ w, S w → RStill P v w ((execOp a.eval o).run P w)) ∨
  (Region.wanted o (yielded ops a.tmps) = false ∧ v = undef)
/-- An operation comes to a value and a world. -/
def RTo (P : Program) (K : Value → World → Prop) : Result Next → Prop
  | .ok (.value u) w' => K u w'
  | .ok .skip w' => K undef w'
  | .ok (.enter f args) w' => Calls P f args w' fun e w'' => ∃ v, e = .returned v ∧ K v w''
  | _ => False
theorem RTo.mono {K K' : Value → World → Prop} {r : Result Next} (h : RTo P K r) (hk : ∀ v w, K v w → K' v w) : RTo P K' r := by
  cases r with
  | ok n w' =>
    cases n <;> simp only [RTo] at h ⊢
    case value u => exact hk _ _ h
    case skip => exact hk _ _ h
    case enter f args => exact Calls.mono h fun e w'' he => by obtain ⟨v, h1, h2⟩ := he; exact ⟨v, h1, hk _ _ h2⟩
  | halt x w' => exact h
theorem RTo.of_still {v : Value} {w : World} {r : Result Next} (h : RStill P v w r) {K : Value → World → Prop} (hk : K v w) : RTo P K r := by
  cases r with
  | ok n w' =>
    cases n <;> simp only [RStill, RTo] at h ⊢
    case value u => rw [h.1, h.2]; exact hk
    case enter f args => exact Calls.mono h fun e w'' he => by obtain ⟨h1, h2⟩ := he; subst h2; exact ⟨v, h1, hk⟩
  | halt x w' => exact absurd h (by simp [RStill])
theorem YP.of_same {S S' : World → Prop} {o : Oper} {v : Value} {a a' : Act} (hy : YP P ops S o v a) (hS : ∀ x, S' x → S x) (he : execOp a'.eval o = execOp a.eval o)
    (hw : Region.wanted o (yielded ops a'.tmps) = Region.wanted o (yielded ops a.tmps)) : YP P ops S' o v a' := by
  unfold YP at *
  rw [he, hw]
  rcases hy with ⟨h1, h2⟩ | h
  · exact .inl ⟨h1, fun w h => h2 w (hS w h)⟩
  · exact .inr h

theorem wpOp_to {i : Nat} {o : Oper} {a : Act} (hi : ops[i]? = some o) (hw : Region.wanted o (yielded ops a.tmps) = true)
    {K : Act → World → Prop} {w : World} (hr : RTo P (fun v w' => K (a.put o.dst v) w') ((execOp a.eval o).run P w)) : wpOp P ops Q i K a w := by
  unfold Go.wpOp
  simp only [hi, hw, if_true]
  refine .inl ?_
  unfold Oper.wp
  generalize (execOp a.eval o).run P w = r at *
  cases r with
  | ok n w' =>
    cases n <;> simp only [RTo] at hr <;> simp only [Oper.upon]
    case value u => exact hr
    case skip => exact hr
    case enter f args => exact Calls.mono hr fun e w'' he => by obtain ⟨v, rfl, hs⟩ := he; exact hs
  | halt x w' => exact absurd hr (by simp [RTo])

def CertD (P : Program) (md : Region.Mode) (ops : Array Oper) (Q : Exit → Act → World → Prop) : Nat → Array Bool → Act → (World → Prop) → Prop
  | 0, listed, a, S => Region.ready md ops listed = [] ∧ ∀ w, S w → Q .normal a w
  | n + 1, listed, a, S =>
    (∃ i oi v, ops[i]? = some oi ∧
      (∀ j oj, ops[j]? = some oj → j ≠ i → listed.getD j true = false → (∀ e ∈ oj.after, Region.binds md e = true → e.on ≠ i) → oi.apart ops oj = true) ∧
      i ∈ Region.ready md ops listed ∧ YP P ops S oi v a ∧ CertD P md ops Q n (listed.setIfInBounds i true) (a.put oi.dst v) S) ∨
    (∃ i oi, ops[i]? = some oi ∧ Region.ready md ops listed = [i] ∧ Region.wanted oi (yielded ops a.tmps) = true ∧
      ∀ w, S w → RTo P (fun v w' => ∃ S' : World → Prop, S' w' ∧ (∀ x, S' x → S x) ∧ CertD P md ops Q n (listed.setIfInBounds i true) (a.put oi.dst v) S') ((execOp a.eval oi).run P w))

/-- What any operation that may come up leads to. -/
def FrontD (P : Program) (md : Region.Mode) (ops : Array Oper) (Q : Exit → Act → World → Prop) (n : Nat) (listed : Array Bool) (a : Act) (S : World → Prop) (j : Nat) : Prop :=
  ∃ m oj, n = m + 1 ∧ ops[j]? = some oj ∧
    ((Region.wanted oj (yielded ops a.tmps) = true ∧ ∀ w, S w → RTo P (fun v w' => ∃ S' : World → Prop, S' w' ∧ (∀ x, S' x → S x) ∧ CertD P md ops Q m (listed.setIfInBounds j true) (a.put oj.dst v) S') ((execOp a.eval oj).run P w)) ∨
     (Region.wanted oj (yielded ops a.tmps) = false ∧ CertD P md ops Q m (listed.setIfInBounds j true) (a.put oj.dst undef) S))

theorem CertD.front (hsel : ∀ (j : Nat) (o : Oper) cs b, ops[j]? = some o → o.op ≠ .select cs b) :
    ∀ (n : Nat) (listed : Array Bool) (a : Act) (S : World → Prop), CertD P md ops Q n listed a S → ∀ j, j ∈ Region.ready md ops listed → FrontD P md ops Q n listed a S j := by
  intro n
  induction n with
  | zero => intro listed a S h j hj; rw [h.1] at hj; cases hj
  | succ n ih =>
    intro listed a S h j hj
    rcases h with ⟨i, oi, v, hi, hfree, hr, hy, hrest⟩ | ⟨i, oi, hi, hr, hw, hgo⟩
    · by_cases hji : j = i
      · subst hji
        refine ⟨n, oi, rfl, hi, ?_⟩
        rcases hy with ⟨h1, h2⟩ | ⟨h1, rfl⟩
        · exact .inl ⟨h1, fun w hS => RTo.of_still (h2 w hS) ⟨S, hS, fun _ h => h, hrest⟩⟩
        · exact .inr ⟨h1, hrest⟩
      · obtain ⟨m, oj, rfl, hoj, hc⟩ := ih _ _ _ hrest j (ready_mono hj hji)
        obtain ⟨hjun, oj', hoj', hall⟩ := mem_ready.1 hj
        obtain rfl : oj = oj' := Option.some.inj (hoj.symm.trans hoj')
        have hnot : ∀ e ∈ oj.after, Region.binds md e = true → e.on ≠ i := fun e he hb heq => by
          have h1 := hall e he hb
          have h0 := (mem_ready.1 hr).1
          rw [heq] at h1
          rcases Nat.lt_or_ge i listed.size with h' | h'
          · simp [h'] at h0 h1; rw [h0] at h1; cases h1
          · simp [Array.getElem?_eq_none h'] at h1
        obtain ⟨h1, h2, h3⟩ := Oper.apart_spec (hfree j oj hoj hji hjun hnot)
        have e1 := execOp_put oj (fun cs b => hsel j oj cs b hoj) a oi.dst v h1
        have e2 := wanted_put oj a oi.dst v h1
        have hfree' : ∀ k ok, ops[k]? = some ok → k ≠ i → (listed.setIfInBounds j true).getD k true = false →
            (∀ e ∈ ok.after, Region.binds md e = true → e.on ≠ i) → oi.apart ops ok = true := fun k ok hk hki hun hno => by
          refine hfree k ok hk hki ?_ hno
          by_cases hjk : j = k
          · subst hjk; exact hjun
          · rw [getD_set_ne true hjk] at hun; exact hun
        have back : ∀ (u : Value) (S' : World → Prop), (∀ x, S' x → S x) → CertD P md ops Q m ((listed.setIfInBounds i true).setIfInBounds j true) ((a.put oi.dst v).put oj.dst u) S' → CertD P md ops Q (m + 1) (listed.setIfInBounds j true) (a.put oj.dst u) S' := fun u S' hS hc => by
          refine .inl ⟨i, oi, v, hi, hfree', ready_mono hr (Ne.symm hji), hy.of_same hS (execOp_put oi (fun cs b => hsel i oi cs b hi) a oj.dst u h3) (wanted_put oi a oj.dst u h3), ?_⟩
          rw [Array.setIfInBounds_comm _ _ hji, ← Act.put_comm a v u h2]
          exact hc
        refine ⟨m + 1, oj, rfl, hoj, ?_⟩
        rcases hc with ⟨c1, c2⟩ | ⟨c1, c2⟩
        · refine .inl ⟨e2 ▸ c1, fun w hS => ?_⟩
          have := c2 w hS
          rw [e1] at this
          exact this.mono fun u w' hk => by obtain ⟨S', s1, s2, s3⟩ := hk; exact ⟨S', s1, s2, back u S' s2 s3⟩
        · exact .inr ⟨e2 ▸ c1, back undef S (fun _ h => h) c2⟩
    · rw [hr] at hj
      obtain rfl : j = i := by simpa using hj
      exact ⟨n, oi, rfl, hi, .inl ⟨hw, hgo⟩⟩

theorem CertD.sound (hsel : ∀ (j : Nat) (o : Oper) cs b, ops[j]? = some o → o.op ≠ .select cs b) :
    ∀ (n : Nat) (listed : Array Bool) (a : Act) (S : World → Prop), CertD P md ops Q n listed a S → ∀ w, S w → wpAny P md ops Q n listed a w := by
  intro n
  induction n with
  | zero => intro listed a S h w hS; exact ⟨h.1, h.2 w hS⟩
  | succ n ih =>
    intro listed a S h w hS
    refine ⟨fun hr => ?_, fun j hj => ?_⟩
    · exfalso
      rcases h with ⟨i, oi, v, hi, hfree, hr', hy, hrest⟩ | ⟨i, oi, hi, hr', hw, hgo⟩
      · rw [hr] at hr'; cases hr'
      · rw [hr] at hr'; cases hr'
    · obtain ⟨m, oj, hm, hoj, hc⟩ := CertD.front hsel _ _ _ _ h j hj
      obtain rfl : n = m := by omega
      rcases hc with ⟨c1, c2⟩ | ⟨c1, c2⟩
      · exact wpOp_to hoj c1 ((c2 w hS).mono fun v w' hk => by obtain ⟨S', s1, s2, s3⟩ := hk; exact ih _ _ _ s3 w' s1)
      · unfold Go.wpOp
        simp only [hoj, c1, Bool.false_eq_true, if_false]
        exact ih _ _ _ c2 w hS

/- The order, checked once, by numbers. -/
def amask (md : Region.Mode) (o : Oper) : Nat := o.after.toList.foldl (fun m e => if Region.binds md e then Nat.lor m (Nat.shiftLeft 1 e.on) else m) 0
def rdy (am L i : Nat) : Bool := !Nat.testBit L i && Nat.beq (Nat.land am L) am
def onlyRdy (L i : Nat) : Nat → List Nat → Bool
  | _, [] => true
  | k, m :: t => (Nat.beq k i || !rdy m L k) && onlyRdy L i (k + 1) t
def ordGo (ms : List Nat) : List (Nat × Bool) → Nat → Bool
  | [], L => onlyRdy L ms.length 0 ms
  | (i, mv) :: rest, L => (match ms[i]? with | some m => rdy m L i | none => false) && (!mv || onlyRdy L i 0 ms) && ordGo ms rest (Nat.lor L (Nat.shiftLeft 1 i))
def ordOk (md : Region.Mode) (ops : Array Oper) (order : List (Nat × Bool)) : Bool := ordGo (ops.toList.map (amask md)) order 0

def lst (n L : Nat) : Array Bool := ((List.range n).map fun i => L.testBit i).toArray
theorem lst_size (n L : Nat) : (lst n L).size = n := by simp [lst]
theorem lst_getD (n L j : Nat) (d : Bool) (h : j < n) : (lst n L).getD j d = L.testBit j := by
  have hp : j < (lst n L).size := by simpa [lst] using h
  rw [Array.getD_eq_getD_getElem?, Array.getElem?_eq_getElem hp]
  simp [lst]
theorem lst_out (n L j : Nat) (d : Bool) (h : ¬ j < n) : (lst n L).getD j d = d := by
  rw [Array.getD_eq_getD_getElem?, Array.getElem?_eq_none (by simp [lst]; omega)]; rfl
theorem lst_set (n L i : Nat) : (lst n L).setIfInBounds i true = lst n (Nat.lor L (Nat.shiftLeft 1 i)) := by
  apply Array.ext
  · simp [lst]
  · intro j h1 h2
    rw [Array.getElem_setIfInBounds (by simpa using h1)]
    have e : Nat.testBit (Nat.lor L (Nat.shiftLeft 1 i)) j = (L.testBit j || decide (i = j)) := by
      show (L ||| (1 <<< i)).testBit j = _
      rw [Nat.testBit_or, Nat.one_shiftLeft, Nat.testBit_two_pow]
    simp only [lst, List.getElem_toArray, List.getElem_map, List.getElem_range, e]
    split
    · subst_vars; simp
    · rename_i hne; simp [hne]
theorem lst_zero (n : Nat) : lst n 0 = Array.replicate n false := by
  apply Array.ext
  · simp [lst]
  · intro j h1 h2; simp [lst]
theorem amask_bit (o : Oper) (j : Nat) : (amask md o).testBit j = true ↔ ∃ e ∈ o.after, Region.binds md e = true ∧ e.on = j := by
  have key : ∀ (l : List Edge) (m : Nat), (l.foldl (fun m e => if Region.binds md e then Nat.lor m (Nat.shiftLeft 1 e.on) else m) m).testBit j = true ↔ m.testBit j = true ∨ ∃ e ∈ l, Region.binds md e = true ∧ e.on = j := by
    intro l
    induction l with
    | nil => intro m; simp
    | cons e t ih =>
      intro m
      rw [List.foldl_cons, ih]
      by_cases hb : Region.binds md e = true
      · rw [if_pos hb]
        have e1 : Nat.testBit (Nat.lor m (Nat.shiftLeft 1 e.on)) j = (m.testBit j || decide (e.on = j)) := by
          show (m ||| (1 <<< e.on)).testBit j = _
          rw [Nat.testBit_or, Nat.one_shiftLeft, Nat.testBit_two_pow]
        rw [e1]
        simp only [Bool.or_eq_true, decide_eq_true_eq, List.mem_cons]
        constructor
        · rintro ((h | h) | ⟨x, hx, h⟩)
          · exact .inl h
          · exact .inr ⟨e, .inl rfl, hb, h⟩
          · exact .inr ⟨x, .inr hx, h⟩
        · rintro (h | ⟨x, rfl | hx, h1, h2⟩)
          · exact .inl (.inl h)
          · exact .inl (.inr h2)
          · exact .inr ⟨x, hx, h1, h2⟩
      · rw [if_neg hb]
        simp only [List.mem_cons]
        constructor
        · rintro (h | ⟨x, hx, h⟩)
          · exact .inl h
          · exact .inr ⟨x, .inr hx, h⟩
        · rintro (h | ⟨x, rfl | hx, h1, h2⟩)
          · exact .inl h
          · exact absurd h1 hb
          · exact .inr ⟨x, hx, h1, h2⟩
  unfold amask
  rw [key]
  simp
theorem rdy_iff {L i : Nat} {o : Oper} (hi : ops[i]? = some o) (hb : ∀ k, L.testBit k = true → k < ops.size) : rdy (amask md o) L i = true ↔ i ∈ Region.ready md ops (lst ops.size L) := by
  have hlt := (Array.getElem?_eq_some_iff.1 hi).1
  have hbeq : Nat.beq (Nat.land (amask md o) L) (amask md o) = true ↔ Nat.land (amask md o) L = amask md o := ⟨Nat.eq_of_beq_eq_true, fun h => by rw [h]; exact Nat.beq_refl _⟩
  unfold rdy
  rw [Bool.and_eq_true, hbeq, mem_ready, lst_getD _ _ _ _ hlt]
  constructor
  · rintro ⟨h1, h2⟩
    refine ⟨by simpa using h1, o, hi, fun e he hbd => ?_⟩
    have h3 : (amask md o).testBit e.on = true := (amask_bit o e.on).2 ⟨e, he, hbd, rfl⟩
    rw [← h2] at h3
    have h4 : (amask md o).testBit e.on = true ∧ L.testBit e.on = true := by
      have : ((amask md o) &&& L).testBit e.on = true := h3
      rw [Nat.testBit_and, Bool.and_eq_true] at this; exact this
    rw [lst_getD _ _ _ _ (hb _ h4.2)]; exact h4.2
  · rintro ⟨h1, o', ho', hall⟩
    obtain rfl : o = o' := Option.some.inj (hi.symm.trans ho')
    refine ⟨by simpa using h1, Nat.eq_of_testBit_eq fun k => ?_⟩
    show ((amask md o) &&& L).testBit k = _
    rw [Nat.testBit_and]
    cases hk : (amask md o).testBit k with
    | false => rfl
    | true =>
      obtain ⟨e, he, hbd, rfl⟩ := (amask_bit o k).1 hk
      have h3 := hall e he hbd
      by_cases hl : e.on < ops.size
      · rw [lst_getD _ _ _ _ hl] at h3; rw [h3]; rfl
      · rw [lst_out _ _ _ _ hl] at h3; cases h3
theorem onlyRdy_spec {L i : Nat} : ∀ (ms : List Nat) (k : Nat), onlyRdy L i k ms = true → ∀ j m, ms[j]? = some m → k + j = i ∨ rdy m L (k + j) = false
  | [], k, _, j, m, h => by simp at h
  | m0 :: t, k, h, j, m, hj => by
    simp only [onlyRdy, Bool.and_eq_true, Bool.or_eq_true, Bool.not_eq_true'] at h
    cases j with
    | zero =>
      obtain rfl : m0 = m := by simpa using hj
      rcases h.1 with h1 | h1
      · exact .inl (Nat.eq_of_beq_eq_true h1)
      · exact .inr h1
    | succ j =>
      rcases onlyRdy_spec t (k + 1) h.2 j m (by simpa using hj) with h1 | h1
      · exact .inl (by omega)
      · exact .inr (by rw [show k + (j + 1) = k + 1 + j by omega]; exact h1)

theorem ready_range {listed : Array Bool} {j : Nat} (h : j ∈ Region.ready md ops listed) : j < ops.size := by
  obtain ⟨_, o, ho, _⟩ := mem_ready.1 h; exact (Array.getElem?_eq_some_iff.1 ho).1
theorem ready_nodup (listed : Array Bool) : (Region.ready md ops listed).Nodup := by
  unfold Region.ready
  exact List.nodup_range.filter _

def SeqD (P : Program) (ops : Array Oper) (Q : Exit → Act → World → Prop) : List (Nat × Bool) → Act → (World → Prop) → Prop
  | [], a, S => ∀ w, S w → Q .normal a w
  | (i, false) :: rest, a, S => ∃ oi v, ops[i]? = some oi ∧ YP P ops S oi v a ∧ SeqD P ops Q rest (a.put oi.dst v) S
  | (i, true) :: rest, a, S => ∃ oi, ops[i]? = some oi ∧ Region.wanted oi (yielded ops a.tmps) = true ∧
      ∀ w, S w → RTo P (fun v w' => ∃ S' : World → Prop, S' w' ∧ (∀ x, S' x → S x) ∧ SeqD P ops Q rest (a.put oi.dst v) S') ((execOp a.eval oi).run P w)

theorem apart_symm {x y : Oper} (h : x.apart ops y = true) : y.apart ops x = true := by
  unfold Oper.apart at *
  cases hx : x.dst <;> cases hy : y.dst <;> simp only [hx, hy] at h ⊢ <;> simp_all
  exact fun e => h.1.2 e.symm

theorem certD_of_seq (hok : fastOk md ops = true) : ∀ (order : List (Nat × Bool)) (L : Nat) (a : Act) (S : World → Prop), (∀ k, L.testBit k = true → k < ops.size) → ordGo (ops.toList.map (amask md)) order L = true → SeqD P ops Q order a S → CertD P md ops Q order.length (lst ops.size L) a S := by
  have get : ∀ (j : Nat) (o : Oper), ops[j]? = some o → (ops.toList.map (amask md))[j]? = some (amask md o) := by
    intro j o ho
    rw [List.getElem?_map]
    have : ops.toList[j]? = some o := by simpa using ho
    rw [this]; rfl
  have getR : ∀ (j : Nat) (o : Oper), ops[j]? = some o → (ops.toList.map (orow md ops))[j]? = some (orow md ops o) := by
    intro j o ho
    rw [List.getElem?_map]
    have : ops.toList[j]? = some o := by simpa using ho
    rw [this]; rfl
  have hpairs : ∀ (i j : Nat) (oi oj : Oper), i < j → ops[i]? = some oi → ops[j]? = some oj → (∃ e ∈ oj.after, Region.binds md e = true ∧ e.on = i) ∨ oi.apart ops oj = true := by
    intro i j oi oj hij hi hj
    unfold fastOk at hok
    rw [Bool.and_eq_true] at hok
    have hs := (pairsOk_spec _ 0 hok.2 i _ (getR i oi hi)).2 j _ hij (getR j oj hj)
    rcases hs with h | h
    · left
      have hm : (0 + i) ∈ (orow md ops oj).2.2 := by simpa using h
      obtain ⟨e, he, hek⟩ := List.mem_map.1 hm
      rw [List.mem_filter] at he
      exact ⟨e, by simpa using he.1, he.2, by omega⟩
    · exact .inr (apartR_spec h)
  intro order
  induction order with
  | nil =>
    intro L a S hL ho h
    refine ⟨?_, h⟩
    cases hr : Region.ready md ops (lst ops.size L) with
    | nil => rfl
    | cons j t =>
      exfalso
      have hj : j ∈ Region.ready md ops (lst ops.size L) := by rw [hr]; exact List.mem_cons_self
      have hjl := ready_range hj
      obtain ⟨o, hoj⟩ : ∃ o, ops[j]? = some o := ⟨_, Array.getElem?_eq_getElem hjl⟩
      have := onlyRdy_spec _ 0 ho j _ (get j o hoj)
      rcases this with h1 | h1
      · simp at h1; omega
      · rw [Nat.zero_add] at h1
        rw [(rdy_iff hoj hL).2 hj] at h1; cases h1
  | cons x rest ih =>
    intro L a S hL ho h
    obtain ⟨i, mv⟩ := x
    simp only [ordGo, Bool.and_eq_true] at ho
    obtain ⟨⟨ho1, ho2⟩, ho3⟩ := ho
    have step : ∀ oi, ops[i]? = some oi → i ∈ Region.ready md ops (lst ops.size L) ∧ (∀ k, (Nat.lor L (Nat.shiftLeft 1 i)).testBit k = true → k < ops.size) := by
      intro oi hi
      rw [get i oi hi] at ho1
      refine ⟨(rdy_iff hi hL).1 ho1, fun k hk => ?_⟩
      have e : Nat.testBit (Nat.lor L (Nat.shiftLeft 1 i)) k = (L.testBit k || decide (i = k)) := by
        show (L ||| (1 <<< i)).testBit k = _
        rw [Nat.testBit_or, Nat.one_shiftLeft, Nat.testBit_two_pow]
      rw [e, Bool.or_eq_true, decide_eq_true_eq] at hk
      rcases hk with hk | rfl
      · exact hL k hk
      · exact (Array.getElem?_eq_some_iff.1 hi).1
    cases mv with
    | false =>
      obtain ⟨oi, v, hi, hy, hrest⟩ := h
      obtain ⟨s1, s2⟩ := step oi hi
      refine .inl ⟨i, oi, v, hi, fun j oj hj hji hun hno => ?_, s1, hy, ?_⟩
      · rcases Nat.lt_or_ge i j with hlt | hge
        · rcases hpairs i j oi oj hlt hi hj with ⟨e, he, hb, heq⟩ | h
          · exact absurd heq (hno e he hb)
          · exact h
        · have hlt : j < i := by omega
          rcases hpairs j i oj oi hlt hj hi with ⟨e, he, hb, heq⟩ | h
          · exfalso
            obtain ⟨_, o', ho', hall⟩ := mem_ready.1 s1
            obtain rfl : oi = o' := Option.some.inj (hi.symm.trans ho')
            have h1 := hall e he hb
            rw [heq, lst_getD _ _ _ _ (Array.getElem?_eq_some_iff.1 hj).1] at h1
            rw [lst_getD _ _ _ _ (Array.getElem?_eq_some_iff.1 hj).1, h1] at hun
            cases hun
          · exact apart_symm h
      · rw [lst_set]; exact ih _ _ _ s2 ho3 hrest
    | true =>
      obtain ⟨oi, hi, hw, hgo⟩ := h
      obtain ⟨s1, s2⟩ := step oi hi
      have hon : onlyRdy L i 0 (ops.toList.map (amask md)) = true := by simpa using ho2
      refine .inr ⟨i, oi, hi, ?_, hw, fun w hS => (hgo w hS).mono fun v w' hk => ?_⟩
      · have hall : ∀ j ∈ Region.ready md ops (lst ops.size L), j = i := by
          intro j hj
          have hjl := ready_range hj
          obtain ⟨o, hoj⟩ : ∃ o, ops[j]? = some o := ⟨_, Array.getElem?_eq_getElem hjl⟩
          rcases onlyRdy_spec _ 0 hon j _ (get j o hoj) with h1 | h1
          · omega
          · rw [Nat.zero_add] at h1
            rw [(rdy_iff hoj hL).2 hj] at h1; cases h1
        have hnd := ready_nodup (md := md) (ops := ops) (lst ops.size L)
        revert s1 hall hnd
        generalize Region.ready md ops (lst ops.size L) = l
        intro s1 hall hnd
        match l, s1, hall, hnd with
        | [x], s1, _, _ => rw [List.mem_singleton.1 s1]
        | x :: y :: t, _, hall, hnd =>
          exfalso
          have h1 := hall x (by simp)
          have h2 := hall y (by simp)
          simp at hnd
          exact hnd.1.1 (h1.trans h2.symm)
      · obtain ⟨S', t1, t2, t3⟩ := hk
        exact ⟨S', t1, t2, by rw [lst_set]; exact ih _ _ _ s2 ho3 t3⟩

theorem ordGo_size : ∀ (order : List (Nat × Bool)) (L : Nat), ordGo (ops.toList.map (amask md)) order L = true → order.length + 0 ≤ order.length := fun _ _ _ => Nat.le_refl _

theorem wpAny_more {m : Nat} : ∀ (n : Nat) (listed : Array Bool) (a : Act) (w : World), wpAny P md ops Q n listed a w → wpAny P md ops Q (n + m) listed a w := by
  intro n
  induction n with
  | zero =>
    intro listed a w h
    cases m with
    | zero => exact h
    | succ m => rw [show 0 + (m + 1) = m + 1 by omega]; exact ⟨fun _ => h.2, fun i hi => by rw [h.1] at hi; cases hi⟩
  | succ n ih =>
    intro listed a w h
    rw [show n + 1 + m = n + m + 1 by omega]
    exact ⟨h.1, fun i hi => wpOp_mono (fun a' w' h' => ih _ a' w' h') (h.2 i hi)⟩

/-- THE RULE. -/
theorem wp_region_seqD {id : Nat} {a : Act} {w : World} (S : World → Prop) (order : List (Nat × Bool)) (hm : P.follows .mixedOrders = true) (hok' : fastOk .any ops = true) (hord : ordOk .any ops order = true) (hlen : Nat.beq order.length ops.size = true) (hS : S w.drew)
    (h : SeqD P ops Q order a S) : (Code.region id ops true).wp P Q a w := by
  refine wp_region_any hm ?_
  have hc := certD_of_seq (Q := Q) hok' order 0 a S (fun k hk => by simp at hk) hord h
  have hsel : ∀ (j : Nat) (o : Oper) cs b, ops[j]? = some o → o.op ≠ .select cs b := by
    unfold fastOk at hok'; rw [Bool.and_eq_true] at hok'; exact Region.noSelect_spec hok'.1
  have := CertD.sound hsel _ _ _ _ hc w.drew hS
  rw [lst_zero, Nat.eq_of_beq_eq_true hlen] at this
  exact this

variable {S : World → Prop} {o : Oper} {rest : List (Nat × Bool)} {a : Act} {v : Value} {i : Nat}
theorem seqD_nil (h : ∀ w, S w → Q .normal a w) : SeqD P ops Q [] a S := h
theorem seqD_pure (hi : ops[i]? = some o) (hw : Region.wanted o (yielded ops a.tmps) = true) (hy : ∀ w, S w → (execOp a.eval o).run P w = .ok (.value v) w) (h : SeqD P ops Q rest (a.put o.dst v) S) : SeqD P ops Q ((i, false) :: rest) a S :=
  ⟨o, v, hi, .inl ⟨hw, fun w hS => by rw [hy w hS]; exact ⟨rfl, rfl⟩⟩, h⟩
theorem seqD_still {f : FuncId} {args : Array Value} (hi : ops[i]? = some o) (hw : Region.wanted o (yielded ops a.tmps) = true) (hy : ∀ w, S w → (execOp a.eval o).run P w = .ok (.enter f args) w)
    (hc : ∀ w, S w → Calls P f args w fun e w' => e = .returned v ∧ w' = w) (h : SeqD P ops Q rest (a.put o.dst v) S) : SeqD P ops Q ((i, false) :: rest) a S :=
  ⟨o, v, hi, .inl ⟨hw, fun w hS => by rw [hy w hS]; exact hc w hS⟩, h⟩
theorem seqD_off (hi : ops[i]? = some o) (hw : Region.wanted o (yielded ops a.tmps) = false) (h : SeqD P ops Q rest (a.put o.dst undef) S) : SeqD P ops Q ((i, false) :: rest) a S :=
  ⟨o, undef, hi, .inr ⟨hw, rfl⟩, h⟩
/-- A call that changes the world: what it returns, and what is known behind it. -/
theorem seqD_call {f : FuncId} {args : Array Value} (hi : ops[i]? = some o) (hw : Region.wanted o (yielded ops a.tmps) = true) (hy : ∀ w, S w → (execOp a.eval o).run P w = .ok (.enter f args) w)
    (h : ∀ w, S w → Calls P f args w fun e w' => ∃ v, e = .returned v ∧ ∃ S' : World → Prop, S' w' ∧ (∀ x, S' x → S x) ∧ SeqD P ops Q rest (a.put o.dst v) S') : SeqD P ops Q ((i, true) :: rest) a S :=
  ⟨o, hi, hw, fun w hS => by rw [hy w hS]; exact h w hS⟩
/-- A call that keeps S, its value known ahead. -/
theorem seqD_keep {f : FuncId} {args : Array Value} (hi : ops[i]? = some o) (hw : Region.wanted o (yielded ops a.tmps) = true) (hy : ∀ w, S w → (execOp a.eval o).run P w = .ok (.enter f args) w)
    (hc : ∀ w, S w → Calls P f args w fun e w' => e = .returned v ∧ S w') (h : SeqD P ops Q rest (a.put o.dst v) S) : SeqD P ops Q ((i, true) :: rest) a S :=
  ⟨o, hi, hw, fun w hS => by rw [hy w hS]; exact (hc w hS).mono fun e w' he => ⟨v, he.1, S, he.2, fun _ h => h, h⟩⟩
/-- An operation of the machine that changes the world. -/
theorem seqD_move (hi : ops[i]? = some o) (hw : Region.wanted o (yielded ops a.tmps) = true)
    (h : ∀ w, S w → ∃ v w', (execOp a.eval o).run P w = .ok (.value v) w' ∧ ∃ S' : World → Prop, S' w' ∧ (∀ x, S' x → S x) ∧ SeqD P ops Q rest (a.put o.dst v) S') : SeqD P ops Q ((i, true) :: rest) a S :=
  ⟨o, hi, hw, fun w hS => by obtain ⟨v, w', h1, h2⟩ := h w hS; rw [h1]; exact h2⟩
theorem seqD_store (hi : ops[i]? = some o) (hw : Region.wanted o (yielded ops a.tmps) = true)
    (h : ∀ w, S w → ∃ w', (execOp a.eval o).run P w = .ok .skip w' ∧ ∃ S' : World → Prop, S' w' ∧ (∀ x, S' x → S x) ∧ SeqD P ops Q rest (a.put o.dst undef) S') : SeqD P ops Q ((i, true) :: rest) a S :=
  ⟨o, hi, hw, fun w hS => by obtain ⟨w', h1, h2⟩ := h w hS; rw [h1]; exact h2⟩
end

/- A region without a draw, in the order of the text. -/
section
variable {P : Program} {ops : Array Oper} {Q : Exit → Act → World → Prop}
def SeqT (P : Program) (ops : Array Oper) (Q : Exit → Act → World → Prop) : List Oper → Act → (World → Prop) → Prop
  | [], a, S => ∀ w, S w → Q .normal a w
  | o :: rest, a, S =>
    (Region.wanted o (yielded ops a.tmps) = true ∧ ∀ w, S w → RTo P (fun v w' => ∃ S' : World → Prop, S' w' ∧ SeqT P ops Q rest (a.put o.dst v) S') ((execOp a.eval o).run P w)) ∨
    (Region.wanted o (yielded ops a.tmps) = false ∧ SeqT P ops Q rest (a.put o.dst undef) S)
theorem SeqT.sound : ∀ (l : List Oper) (a : Act) (S : World → Prop), SeqT P ops Q l a S → ∀ w, S w → wpList P ops Q l a w
  | [], a, S, h, w, hS => h w hS
  | o :: rest, a, S, h, w, hS => by
    unfold wpList
    rcases h with ⟨h1, h2⟩ | ⟨h1, h2⟩
    · rw [if_pos h1]
      refine .inl ?_
      have hr := h2 w hS
      unfold Oper.wp
      generalize (execOp a.eval o).run P w = r at *
      cases r with
      | ok n w' =>
        cases n <;> simp only [RTo] at hr <;> simp only [Oper.upon]
        case value u => obtain ⟨S', s1, s2⟩ := hr; exact SeqT.sound rest _ S' s2 _ s1
        case skip => obtain ⟨S', s1, s2⟩ := hr; exact SeqT.sound rest _ S' s2 _ s1
        case enter f args => exact Calls.mono hr fun e w'' he => by obtain ⟨v, rfl, S', s1, s2⟩ := he; exact SeqT.sound rest _ S' s2 _ s1
      | halt x w' => exact absurd hr (by simp [RTo])
    · rw [if_neg (by rw [h1]; exact Bool.false_ne_true)]
      exact SeqT.sound rest _ S h2 w hS
theorem wp_region_seqT' {id : Nat} {a : Act} {w : World} (S : World → Prop) (hS : S w) (h : SeqT P ops Q ops.toList a S) : (Code.region id ops false).wp P Q a w :=
  wp_region_list (SeqT.sound _ _ _ h w hS)
variable {S : World → Prop} {o : Oper} {rest : List Oper} {a : Act} {v : Value}
theorem seqT_nil (h : ∀ w, S w → Q .normal a w) : SeqT P ops Q [] a S := h
theorem seqT_pure (hw : Region.wanted o (yielded ops a.tmps) = true) (hy : ∀ w, S w → (execOp a.eval o).run P w = .ok (.value v) w) (h : SeqT P ops Q rest (a.put o.dst v) S) : SeqT P ops Q (o :: rest) a S :=
  .inl ⟨hw, fun w hS => by rw [hy w hS]; exact ⟨S, hS, h⟩⟩
theorem seqT_off (hw : Region.wanted o (yielded ops a.tmps) = false) (h : SeqT P ops Q rest (a.put o.dst undef) S) : SeqT P ops Q (o :: rest) a S := .inr ⟨hw, h⟩
/-- A call that keeps S. -/
theorem seqT_call {f : FuncId} {args : Array Value} (hw : Region.wanted o (yielded ops a.tmps) = true) (hy : ∀ w, S w → (execOp a.eval o).run P w = .ok (.enter f args) w)
    (hc : ∀ w, S w → Calls P f args w fun e w' => e = .returned v ∧ S w') (h : SeqT P ops Q rest (a.put o.dst v) S) : SeqT P ops Q (o :: rest) a S :=
  .inl ⟨hw, fun w hS => by rw [hy w hS]; exact (hc w hS).mono fun e w' he => ⟨v, he.1, S, he.2, h⟩⟩
/-- A call after which something else is known. -/
theorem seqT_go {f : FuncId} {args : Array Value} (hw : Region.wanted o (yielded ops a.tmps) = true) (hy : ∀ w, S w → (execOp a.eval o).run P w = .ok (.enter f args) w)
    (hc : ∀ w, S w → Calls P f args w fun e w' => ∃ v, e = .returned v ∧ ∃ S' : World → Prop, S' w' ∧ SeqT P ops Q rest (a.put o.dst v) S') : SeqT P ops Q (o :: rest) a S :=
  .inl ⟨hw, fun w hS => by rw [hy w hS]; exact hc w hS⟩
theorem seqT_move (hw : Region.wanted o (yielded ops a.tmps) = true)
    (h : ∀ w, S w → ∃ v w', (execOp a.eval o).run P w = .ok (.value v) w' ∧ ∃ S' : World → Prop, S' w' ∧ SeqT P ops Q rest (a.put o.dst v) S') : SeqT P ops Q (o :: rest) a S :=
  .inl ⟨hw, fun w hS => by obtain ⟨v, w', h1, h2⟩ := h w hS; rw [h1]; exact h2⟩
theorem seqT_store (hw : Region.wanted o (yielded ops a.tmps) = true)
    (h : ∀ w, S w → ∃ w', (execOp a.eval o).run P w = .ok .skip w' ∧ ∃ S' : World → Prop, S' w' ∧ SeqT P ops Q rest (a.put o.dst undef) S') : SeqT P ops Q (o :: rest) a S :=
  .inl ⟨hw, fun w hS => by obtain ⟨w', h1, h2⟩ := h w hS; rw [h1]; exact h2⟩
end
end Go.Proofs.Ytdibfjcmgbpnpaa
