/- A region that draws its order, walked in an order of the prover's; behind an operation that all reads come before or after, the worlds may be any. -/
import Derived.Test.YtdibfjcmgbpnpaaSeqD
namespace Go.Proofs.Ytdibfjcmgbpnpaa
set_option linter.unusedSimpArgs false
set_option linter.unusedVariables false
open Go

section
variable {P : Program} {ops : Array Oper} {Q : Exit → Act → World → Prop} {md : Region.Mode}

/- ancestors, by numbers -/
def upM (ms : List Nat) (L : Nat) : Nat → List Nat → Nat
  | _, [] => L
  | k, m :: t => upM ms (if Nat.testBit L k then Nat.lor L m else L) (k + 1) t
def ancs (ms : List Nat) : Nat → Nat → Nat
  | 0, L => L
  | n + 1, L => ancs ms n (upM ms L 0 ms)
theorem upM_bits (ms : List Nat) (G : Nat → Prop) : ∀ (t : List Nat) (k L : Nat), (∀ i m, t[i]? = some m → G (k + i) → ∀ j, m.testBit j = true → G j) → (∀ j, L.testBit j = true → G j) → ∀ j, (upM ms L k t).testBit j = true → G j
  | [], _, _, _, hL, j, h => hL j h
  | m :: t, k, L, ht, hL, j, h => by
    unfold upM at h
    refine upM_bits ms G t (k + 1) _ (fun i m' hi hg => ht (i + 1) m' (by simpa using hi) (by rw [show k + (i + 1) = k + 1 + i by omega]; exact hg)) (fun j hj => ?_) j h
    split at hj
    · rename_i hk
      have e : Nat.testBit (Nat.lor L m) j = (L.testBit j || m.testBit j) := by
        show (L ||| m).testBit j = _
        rw [Nat.testBit_or]
      rw [e, Bool.or_eq_true] at hj
      rcases hj with hj | hj
      · exact hL j hj
      · exact ht 0 m (by simp) (hL _ hk) j hj
    · exact hL j hj
theorem ancs_bits (ms : List Nat) (G : Nat → Prop) (hm : ∀ i m, ms[i]? = some m → G i → ∀ j, m.testBit j = true → G j) : ∀ (n L : Nat), (∀ j, L.testBit j = true → G j) → ∀ j, (ancs ms n L).testBit j = true → G j
  | 0, _, hL, j, h => hL j h
  | n + 1, L, hL, j, h => ancs_bits ms G hm n _ (fun j hj => upM_bits ms G ms 0 L (fun i m hi hg => hm i m hi (by rw [Nat.zero_add] at hg; exact hg)) hL j hj) j h
/-- an order of the operations; where several that change the world may come up, each has its own order behind it -/
inductive OT where
  | nil
  | one (i k : Nat) (rest : OT)
  | alt (i k : Nat) (rest more : OT)
  | stop
def OT.all : OT → List (Nat × Nat)
  | .nil => []
  | .stop => []
  | .one i k r => (i, k) :: r.all
  | .alt i k r m => (i, k) :: (r.all ++ m.all)
def OT.heads : OT → List Nat
  | .alt i _ _ m => i :: m.heads
  | _ => []
/-- all reads stand before or behind the operation -/
def barOk (ms : List Nat) (order : List (Nat × Nat)) : Bool :=
  order.all fun x => !Nat.beq x.2 3 || order.all fun y => !Nat.beq y.2 0 || Nat.testBit (ancs ms ms.length (ms.getD x.1 0)) y.1 || Nat.testBit (ancs ms ms.length (ms.getD y.1 0)) x.1
theorem anc_listed {listed : Array Bool} (hcl : Closed md ops listed) {j : Nat} (hj : j ∈ Region.ready md ops listed) {k n : Nat} (h : (ancs (ops.toList.map (amask md)) n ((ops.toList.map (amask md)).getD j 0)).testBit k = true) : listed.getD k false = true := by
  refine ancs_bits (ops.toList.map (amask md)) (fun k => listed.getD k false = true) ?_ n _ ?_ k h
  · intro i m hi hg j hj
    rw [List.getElem?_map] at hi
    cases ho : ops.toList[i]? with
    | none => rw [ho] at hi; cases hi
    | some o =>
      rw [ho] at hi
      obtain rfl : amask md o = m := by simpa using hi
      obtain ⟨e, he, hb, rfl⟩ := (amask_bit o j).1 hj
      exact hcl i o (by simpa using ho) hg e he hb
  · intro k hk
    obtain ⟨_, o, ho, hall⟩ := mem_ready.1 hj
    have hg : (ops.toList.map (amask md)).getD j 0 = amask md o := by
      rw [List.getD_eq_getElem?_getD, List.getElem?_map]
      have : ops.toList[j]? = some o := by simpa using ho
      rw [this]; rfl
    rw [hg] at hk
    obtain ⟨e, he, hb, rfl⟩ := (amask_bit o k).1 hk
    exact hall e he hb
def Part (md : Region.Mode) (ops : Array Oper) (dep bar : Nat → Bool) : Prop :=
  ∀ i j, dep i = true → bar j = true → ∀ listed, Closed md ops listed → i ∈ Region.ready md ops listed → j ∈ Region.ready md ops listed → False

def CertE (P : Program) (md : Region.Mode) (ops : Array Oper) (dep bar : Nat → Bool) (Q : Exit → Act → World → Prop) : Nat → Array Bool → Act → (World → Prop) → Prop
  | 0, listed, a, S => Region.ready md ops listed = [] ∧ ∀ w, S w → Q .normal a w
  | n + 1, listed, a, S =>
    (∃ i oi v, ops[i]? = some oi ∧
      (∀ j oj, ops[j]? = some oj → j ≠ i → listed.getD j true = false → (∀ e ∈ oj.after, Region.binds md e = true → e.on ≠ i) → oi.apart ops oj = true) ∧
      i ∈ Region.ready md ops listed ∧ (YP P ops S oi v a ∧ dep i = true ∨ YP P ops (fun _ => True) oi v a) ∧ CertE P md ops dep bar Q n (listed.setIfInBounds i true) (a.put oi.dst v) S) ∨
    (Region.ready md ops listed ≠ [] ∧ ∀ i, i ∈ Region.ready md ops listed → ∃ oi, ops[i]? = some oi ∧ Region.wanted oi (yielded ops a.tmps) = true ∧
      ∀ w, S w → RTo P (fun v w' => ∃ S' : World → Prop, S' w' ∧ ((∀ x, S' x → S x) ∨ bar i = true) ∧ CertE P md ops dep bar Q n (listed.setIfInBounds i true) (a.put oi.dst v) S') ((execOp a.eval oi).run P w))

def FrontE (P : Program) (md : Region.Mode) (ops : Array Oper) (dep bar : Nat → Bool) (Q : Exit → Act → World → Prop) (n : Nat) (listed : Array Bool) (a : Act) (S : World → Prop) (j : Nat) : Prop :=
  ∃ m oj, n = m + 1 ∧ ops[j]? = some oj ∧
    ((Region.wanted oj (yielded ops a.tmps) = true ∧ ∀ w, S w → RTo P (fun v w' => ∃ S' : World → Prop, S' w' ∧ ((∀ x, S' x → S x) ∨ bar j = true) ∧ CertE P md ops dep bar Q m (listed.setIfInBounds j true) (a.put oj.dst v) S') ((execOp a.eval oj).run P w)) ∨
     (Region.wanted oj (yielded ops a.tmps) = false ∧ CertE P md ops dep bar Q m (listed.setIfInBounds j true) (a.put oj.dst undef) S))

variable {dep bar : Nat → Bool}
theorem CertE.front (hsel : ∀ (j : Nat) (o : Oper) cs b, ops[j]? = some o → o.op ≠ .select cs b) (hpart : Part md ops dep bar) :
    ∀ (n : Nat) (listed : Array Bool) (a : Act) (S : World → Prop), Closed md ops listed → CertE P md ops dep bar Q n listed a S → ∀ j, j ∈ Region.ready md ops listed → FrontE P md ops dep bar Q n listed a S j := by
  intro n
  induction n with
  | zero => intro listed a S _ h j hj; rw [h.1] at hj; cases hj
  | succ n ih =>
    intro listed a S hcl h j hj
    rcases h with ⟨i, oi, v, hi, hfree, hr, hy, hrest⟩ | ⟨_, hgo⟩
    · by_cases hji : j = i
      · subst hji
        refine ⟨n, oi, rfl, hi, ?_⟩
        have hy' : YP P ops S oi v a := by
          rcases hy with h | h
          · exact h.1
          · exact h.of_same (fun _ _ => trivial) rfl rfl
        rcases hy' with ⟨h1, h2⟩ | ⟨h1, rfl⟩
        · exact .inl ⟨h1, fun w hS => RTo.of_still (h2 w hS) ⟨S, hS, .inl fun _ h => h, hrest⟩⟩
        · exact .inr ⟨h1, hrest⟩
      · obtain ⟨m, oj, rfl, hoj, hc⟩ := ih _ _ _ (hcl.step hr) hrest j (ready_mono hj hji)
        obtain ⟨hjun, oj', hoj', hall⟩ := mem_ready.1 hj
        obtain rfl : oj = oj' := Option.some.inj (hoj.symm.trans hoj')
        have hnot : ∀ e ∈ oj.after, Region.binds md e = true → e.on ≠ i := fun e he hb heq => by
          have h1 := hall e he hb
          have h0 := (mem_ready.1 hr).1
          rw [heq] at h1
          rcases Nat.lt_or_ge i listed.size with h' | h'
          · simp [h'] at h0 h1; rw [h0] at h1; cases h1
          · simp [Array.getElem?_eq_none h'] at h1
        obtain ⟨h1, h2, h3⟩ := Oper.apart_spec (hfree j oj hoj hji hjun hnot)
        have e1 := execOp_put oj (fun cs b => hsel j oj cs b hoj) a oi.dst v h1
        have e2 := wanted_put oj a oi.dst v h1
        have hfree' : ∀ k ok, ops[k]? = some ok → k ≠ i → (listed.setIfInBounds j true).getD k true = false →
            (∀ e ∈ ok.after, Region.binds md e = true → e.on ≠ i) → oi.apart ops ok = true := fun k ok hk hki hun hno => by
          refine hfree k ok hk hki ?_ hno
          by_cases hjk : j = k
          · subst hjk; exact hjun
          · rw [getD_set_ne true hjk] at hun; exact hun
        have e3 := fun u => execOp_put oi (fun cs b => hsel i oi cs b hi) a oj.dst u h3
        have e4 := fun u => wanted_put oi a oj.dst u h3
        have back : ∀ (u : Value) (S' : World → Prop), ((∀ x, S' x → S x) ∨ bar j = true) → CertE P md ops dep bar Q m ((listed.setIfInBounds i true).setIfInBounds j true) ((a.put oi.dst v).put oj.dst u) S' → CertE P md ops dep bar Q (m + 1) (listed.setIfInBounds j true) (a.put oj.dst u) S' := fun u S' hS hc => by
          refine .inl ⟨i, oi, v, hi, hfree', ready_mono hr (Ne.symm hji), ?_, ?_⟩
          · rcases hy with ⟨hy, hd⟩ | hy
            · rcases hS with hS | hb
              · exact .inl ⟨hy.of_same hS (e3 u) (e4 u), hd⟩
              · exact absurd (hpart i j hd hb listed hcl hr hj) id
            · exact .inr (hy.of_same (fun _ h => h) (e3 u) (e4 u))
          · rw [Array.setIfInBounds_comm _ _ hji, ← Act.put_comm a v u h2]
            exact hc
        refine ⟨m + 1, oj, rfl, hoj, ?_⟩
        rcases hc with ⟨c1, c2⟩ | ⟨c1, c2⟩
        · refine .inl ⟨e2 ▸ c1, fun w hS => ?_⟩
          have := c2 w hS
          rw [e1] at this
          exact this.mono fun u w' hk => by obtain ⟨S', s1, s2, s3⟩ := hk; exact ⟨S', s1, s2, back u S' s2 s3⟩
        · exact .inr ⟨e2 ▸ c1, back undef S (.inl fun _ h => h) c2⟩
    · obtain ⟨oi, hi, hw, hg⟩ := hgo j hj
      exact ⟨n, oi, rfl, hi, .inl ⟨hw, hg⟩⟩

theorem CertE.sound (hsel : ∀ (j : Nat) (o : Oper) cs b, ops[j]? = some o → o.op ≠ .select cs b) (hpart : Part md ops dep bar) :
    ∀ (n : Nat) (listed : Array Bool) (a : Act) (S : World → Prop), Closed md ops listed → CertE P md ops dep bar Q n listed a S → ∀ w, S w → wpAny P md ops Q n listed a w := by
  intro n
  induction n with
  | zero => intro listed a S _ h w hS; exact ⟨h.1, h.2 w hS⟩
  | succ n ih =>
    intro listed a S hcl h w hS
    refine ⟨fun hr => ?_, fun j hj => ?_⟩
    · exfalso
      rcases h with ⟨i, oi, v, hi, hfree, hr', hy, hrest⟩ | ⟨hne, hgo⟩
      · rw [hr] at hr'; cases hr'
      · exact hne hr
    · obtain ⟨m, oj, hm, hoj, hc⟩ := CertE.front hsel hpart _ _ _ _ hcl h j hj
      obtain rfl : n = m := by omega
      have hcl' := hcl.step hj
      rcases hc with ⟨c1, c2⟩ | ⟨c1, c2⟩
      · exact wpOp_to hoj c1 ((c2 w hS).mono fun v w' hk => by obtain ⟨S', s1, s2, s3⟩ := hk; exact ih _ _ _ hcl' s3 w' s1)
      · unfold Go.wpOp
        simp only [hoj, c1, Bool.false_eq_true, if_false]
        exact ih _ _ _ hcl' c2 w hS

/-- kinds: 0 a read, 1 the same in every world, 2 it changes the world, 3 it changes the world and all reads stand before or behind it -/
def SeqE (P : Program) (ops : Array Oper) (Q : Exit → Act → World → Prop) : OT → Act → (World → Prop) → Prop
  | .nil, a, S => ∀ w, S w → Q .normal a w
  | .stop, _, _ => True
  | .one i k rest, a, S => ∃ oi v, ops[i]? = some oi ∧ (YP P ops S oi v a ∧ k = 0 ∨ YP P ops (fun _ => True) oi v a) ∧ SeqE P ops Q rest (a.put oi.dst v) S
  | .alt i k rest more, a, S => (∃ oi, ops[i]? = some oi ∧ Region.wanted oi (yielded ops a.tmps) = true ∧
      ∀ w, S w → RTo P (fun v w' => ∃ S' : World → Prop, S' w' ∧ ((∀ x, S' x → S x) ∨ k = 3) ∧ SeqE P ops Q rest (a.put oi.dst v) S') ((execOp a.eval oi).run P w)) ∧ SeqE P ops Q more a S
/-- all that may come up is among hs -/
def rdySub (L : Nat) (hs : List Nat) : Nat → List Nat → Bool
  | _, [] => true
  | k, m :: t => (hs.any (Nat.beq k) || !rdy m L k) && rdySub L hs (k + 1) t
def ordE (ms : List Nat) : Nat → Bool → OT → Nat → Bool
  | n, true, .nil, L => Nat.beq n 0 && onlyRdy L ms.length 0 ms
  | _, false, .nil, _ => false
  | _, b, .stop, _ => !b
  | n, true, .one i k rest, L => (match ms[i]? with | some m => rdy m L i | none => false) && Nat.ble k 1 && Nat.ble 1 n && ordE ms (n - 1) true rest (Nat.lor L (Nat.shiftLeft 1 i))
  | _, false, .one _ _ _, _ => false
  | n, b, .alt i k rest more, L => (match ms[i]? with | some m => rdy m L i | none => false) && Nat.ble 1 n && (!b || rdySub L (i :: more.heads) 0 ms) && ordE ms (n - 1) true rest (Nat.lor L (Nat.shiftLeft 1 i)) && ordE ms n false more L
theorem rdySub_spec {L : Nat} {hs : List Nat} : ∀ (ms : List Nat) (k : Nat), rdySub L hs k ms = true → ∀ j m, ms[j]? = some m → k + j ∈ hs ∨ rdy m L (k + j) = false
  | [], k, _, j, m, h => by simp at h
  | m0 :: t, k, h, j, m, hj => by
    simp only [rdySub, Bool.and_eq_true, Bool.or_eq_true, Bool.not_eq_true'] at h
    cases j with
    | zero =>
      obtain rfl : m0 = m := by simpa using hj
      rcases h.1 with h1 | h1
      · left
        obtain ⟨x, hx, hb⟩ := List.any_eq_true.1 h1
        rw [Nat.add_zero, Nat.eq_of_beq_eq_true hb]; exact hx
      · exact .inr h1
    | succ j =>
      rcases rdySub_spec t (k + 1) h.2 j m (by simpa using hj) with h1 | h1
      · exact .inl (by rw [show k + (j + 1) = k + 1 + j by omega]; exact h1)
      · exact .inr (by rw [show k + (j + 1) = k + 1 + j by omega]; exact h1)

theorem certE_of_seq (hok : fastOk md ops = true) : ∀ (ot : OT) (n L : Nat) (a : Act) (S : World → Prop), (∀ i, (i, 0) ∈ ot.all → dep i = true) → (∀ i, (i, 3) ∈ ot.all → bar i = true) → (∀ k, L.testBit k = true → k < ops.size) → SeqE P ops Q ot a S →
    (ordE (ops.toList.map (amask md)) n true ot L = true → CertE P md ops dep bar Q n (lst ops.size L) a S) ∧
    (ordE (ops.toList.map (amask md)) n false ot L = true → ∃ m, (ot.heads ≠ [] → n = m + 1) ∧ ∀ i ∈ ot.heads, i ∈ Region.ready md ops (lst ops.size L) ∧ ∃ oi, ops[i]? = some oi ∧ Region.wanted oi (yielded ops a.tmps) = true ∧
      ∀ w, S w → RTo P (fun v w' => ∃ S' : World → Prop, S' w' ∧ ((∀ x, S' x → S x) ∨ bar i = true) ∧ CertE P md ops dep bar Q m ((lst ops.size L).setIfInBounds i true) (a.put oi.dst v) S') ((execOp a.eval oi).run P w)) := by
  have get : ∀ (j : Nat) (o : Oper), ops[j]? = some o → (ops.toList.map (amask md))[j]? = some (amask md o) := by
    intro j o ho
    rw [List.getElem?_map]
    have : ops.toList[j]? = some o := by simpa using ho
    rw [this]; rfl
  have getR : ∀ (j : Nat) (o : Oper), ops[j]? = some o → (ops.toList.map (orow md ops))[j]? = some (orow md ops o) := by
    intro j o ho
    rw [List.getElem?_map]
    have : ops.toList[j]? = some o := by simpa using ho
    rw [this]; rfl
  have hpairs : ∀ (i j : Nat) (oi oj : Oper), i < j → ops[i]? = some oi → ops[j]? = some oj → (∃ e ∈ oj.after, Region.binds md e = true ∧ e.on = i) ∨ oi.apart ops oj = true := by
    intro i j oi oj hij hi hj
    unfold fastOk at hok
    rw [Bool.and_eq_true] at hok
    have hs := (pairsOk_spec _ 0 hok.2 i _ (getR i oi hi)).2 j _ hij (getR j oj hj)
    rcases hs with h | h
    · left
      have hm : (0 + i) ∈ (orow md ops oj).2.2 := by simpa using h
      obtain ⟨e, he, hek⟩ := List.mem_map.1 hm
      rw [List.mem_filter] at he
      exact ⟨e, by simpa using he.1, he.2, by omega⟩
    · exact .inr (apartR_spec h)
  have step : ∀ i L, (∀ k, L.testBit k = true → k < ops.size) → (match (ops.toList.map (amask md))[i]? with | some m => rdy m L i | none => false) = true → ∀ oi, ops[i]? = some oi → i ∈ Region.ready md ops (lst ops.size L) ∧ (∀ k, (Nat.lor L (Nat.shiftLeft 1 i)).testBit k = true → k < ops.size) := by
    intro i L hL ho1 oi hi
    rw [get i oi hi] at ho1
    refine ⟨(rdy_iff hi hL).1 ho1, fun k hk => ?_⟩
    have e : Nat.testBit (Nat.lor L (Nat.shiftLeft 1 i)) k = (L.testBit k || decide (i = k)) := by
      show (L ||| (1 <<< i)).testBit k = _
      rw [Nat.testBit_or, Nat.one_shiftLeft, Nat.testBit_two_pow]
    rw [e, Bool.or_eq_true, decide_eq_true_eq] at hk
    rcases hk with hk | rfl
    · exact hL k hk
    · exact (Array.getElem?_eq_some_iff.1 hi).1
  have free : ∀ i L oi, ops[i]? = some oi → i ∈ Region.ready md ops (lst ops.size L) → ∀ j oj, ops[j]? = some oj → j ≠ i → (lst ops.size L).getD j true = false → (∀ e ∈ oj.after, Region.binds md e = true → e.on ≠ i) → oi.apart ops oj = true := by
    intro i L oi hi s1 j oj hj hji hun hno
    rcases Nat.lt_or_ge i j with hlt | hge
    · rcases hpairs i j oi oj hlt hi hj with ⟨e, he, hb, heq⟩ | h
      · exact absurd heq (hno e he hb)
      · exact h
    · have hlt : j < i := by omega
      rcases hpairs j i oj oi hlt hj hi with ⟨e, he, hb, heq⟩ | h
      · exfalso
        obtain ⟨_, o', ho', hall⟩ := mem_ready.1 s1
        obtain rfl : oi = o' := Option.some.inj (hi.symm.trans ho')
        have h1 := hall e he hb
        rw [heq, lst_getD _ _ _ _ (Array.getElem?_eq_some_iff.1 hj).1] at h1
        rw [lst_getD _ _ _ _ (Array.getElem?_eq_some_iff.1 hj).1, h1] at hun
        cases hun
      · exact apart_symm h
  intro ot
  induction ot with
  | nil =>
    intro n L a S _ _ hL h
    refine ⟨fun ho => ?_, fun ho => by simp [ordE] at ho⟩
    simp only [ordE, Bool.and_eq_true] at ho
    obtain rfl := Nat.eq_of_beq_eq_true ho.1
    refine ⟨?_, h⟩
    cases hr : Region.ready md ops (lst ops.size L) with
    | nil => rfl
    | cons j t =>
      exfalso
      have hj : j ∈ Region.ready md ops (lst ops.size L) := by rw [hr]; exact List.mem_cons_self
      have hjl := ready_range hj
      obtain ⟨o, hoj⟩ : ∃ o, ops[j]? = some o := ⟨_, Array.getElem?_eq_getElem hjl⟩
      have := onlyRdy_spec _ 0 ho.2 j _ (get j o hoj)
      rcases this with h1 | h1
      · simp at h1; omega
      · rw [Nat.zero_add] at h1
        rw [(rdy_iff hoj hL).2 hj] at h1; cases h1
  | stop =>
    intro n L a S _ _ hL h
    exact ⟨fun ho => by simp [ordE] at ho, fun _ => ⟨0, fun hn => absurd rfl hn, fun i hi => by cases hi⟩⟩
  | one i k rest ih =>
    intro n L a S hd hb hL h
    refine ⟨fun ho => ?_, fun ho => by simp [ordE] at ho⟩
    simp only [ordE, Bool.and_eq_true] at ho
    obtain ⟨⟨⟨ho1, ho2⟩, hn⟩, ho3⟩ := ho
    have hn := Nat.le_of_ble_eq_true hn
    obtain ⟨oi, v, hi, hy, hrest⟩ := h
    obtain ⟨s1, s2⟩ := step i L hL ho1 oi hi
    obtain ⟨m, rfl⟩ : ∃ m, n = m + 1 := ⟨n - 1, by omega⟩
    refine .inl ⟨i, oi, v, hi, free i L oi hi s1, s1, ?_, ?_⟩
    · rcases hy with ⟨hy, rfl⟩ | hy
      · exact .inl ⟨hy, hd i (List.mem_cons_self ..)⟩
      · exact .inr hy
    · rw [lst_set]
      exact (ih m _ _ _ (fun i hi => hd i (List.mem_cons_of_mem _ hi)) (fun i hi => hb i (List.mem_cons_of_mem _ hi)) s2 hrest).1 ho3
  | alt i k rest more ih1 ih2 =>
    intro n L a S hd hb hL h
    have hd1 : ∀ i, (i, 0) ∈ rest.all → dep i = true := fun i hi => hd i (List.mem_cons_of_mem _ (List.mem_append.2 (.inl hi)))
    have hd2 : ∀ i, (i, 0) ∈ more.all → dep i = true := fun i hi => hd i (List.mem_cons_of_mem _ (List.mem_append.2 (.inr hi)))
    have hb1 : ∀ i, (i, 3) ∈ rest.all → bar i = true := fun i hi => hb i (List.mem_cons_of_mem _ (List.mem_append.2 (.inl hi)))
    have hb2 : ∀ i, (i, 3) ∈ more.all → bar i = true := fun i hi => hb i (List.mem_cons_of_mem _ (List.mem_append.2 (.inr hi)))
    obtain ⟨⟨oi, hi, hw, hgo⟩, hmore⟩ := h
    have key : ∀ b, ordE (ops.toList.map (amask md)) n b (.alt i k rest more) L = true → ∃ m, n = m + 1 ∧ ∀ j ∈ OT.heads (.alt i k rest more), j ∈ Region.ready md ops (lst ops.size L) ∧ ∃ oi, ops[j]? = some oi ∧ Region.wanted oi (yielded ops a.tmps) = true ∧
        ∀ w, S w → RTo P (fun v w' => ∃ S' : World → Prop, S' w' ∧ ((∀ x, S' x → S x) ∨ bar j = true) ∧ CertE P md ops dep bar Q m ((lst ops.size L).setIfInBounds j true) (a.put oi.dst v) S') ((execOp a.eval oi).run P w) := by
      intro b ho
      simp only [ordE, Bool.and_eq_true] at ho
      obtain ⟨⟨⟨⟨ho1, hn⟩, _⟩, ho3⟩, ho4⟩ := ho
      have hn := Nat.le_of_ble_eq_true hn
      obtain ⟨m, rfl⟩ : ∃ m, n = m + 1 := ⟨n - 1, by omega⟩
      obtain ⟨s1, s2⟩ := step i L hL ho1 oi hi
      refine ⟨m, rfl, fun j hj => ?_⟩
      rcases List.mem_cons.1 hj with rfl | hj
      · refine ⟨s1, oi, hi, hw, fun w hS => (hgo w hS).mono fun v w' hk => ?_⟩
        obtain ⟨S', t1, t2, t3⟩ := hk
        exact ⟨S', t1, t2.imp id (fun e => by subst e; exact hb j (List.mem_cons_self ..)), by rw [lst_set]; exact (ih1 m _ _ _ hd1 hb1 s2 t3).1 ho3⟩
      · obtain ⟨m', e, hall⟩ := (ih2 (m + 1) L a S hd2 hb2 hL hmore).2 ho4
        obtain rfl : m = m' := by have := e (fun h0 => by rw [h0] at hj; cases hj); omega
        exact hall j hj
    refine ⟨fun ho => ?_, fun ho => ?_⟩
    · obtain ⟨m, rfl, hall⟩ := key true ho
      simp only [ordE, Bool.and_eq_true, Bool.not_true, Bool.false_or] at ho
      obtain ⟨⟨⟨⟨ho1, _⟩, hsub⟩, _⟩, _⟩ := ho
      refine .inr ⟨fun h0 => ?_, fun j hj => ?_⟩
      · have := (step i L hL ho1 oi hi).1; rw [h0] at this; cases this
      · have hjl := ready_range hj
        obtain ⟨o, hoj⟩ : ∃ o, ops[j]? = some o := ⟨_, Array.getElem?_eq_getElem hjl⟩
        rcases rdySub_spec _ 0 hsub j _ (get j o hoj) with h1 | h1
        · rw [Nat.zero_add] at h1
          exact (hall j h1).2
        · rw [Nat.zero_add] at h1
          rw [(rdy_iff hoj hL).2 hj] at h1; cases h1
    · obtain ⟨m, e, hall⟩ := key false ho
      exact ⟨m, fun _ => e, hall⟩

/-- the order is right, and all reads stand before or behind the operations of kind 3 -/
def ordEOk (md : Region.Mode) (ops : Array Oper) (ot : OT) : Bool :=
  ordE (ops.toList.map (amask md)) ops.size true ot 0 && barOk (ops.toList.map (amask md)) ot.all
/-- THE RULE. -/
theorem wp_region_seqE {id : Nat} {a : Act} {w : World} (S : World → Prop) (ot : OT) (hm : P.follows .mixedOrders = true) (hok' : fastOk .any ops = true) (hord : ordEOk .any ops ot = true) (hS : S w.drew)
    (h : SeqE P ops Q ot a S) : (Code.region id ops true).wp P Q a w := by
  refine wp_region_any hm ?_
  unfold ordEOk at hord
  rw [Bool.and_eq_true] at hord
  obtain ⟨ho, hb⟩ := hord
  let dep : Nat → Bool := fun i => ((ot.all.filter fun x => Nat.beq x.2 0).map (·.1)).contains i
  let bar : Nat → Bool := fun i => ((ot.all.filter fun x => Nat.beq x.2 3).map (·.1)).contains i
  have hc := (certE_of_seq (Q := Q) (dep := dep) (bar := bar) hok' ot ops.size 0 a S
    (fun i hi => by
      show List.contains _ i = true
      rw [List.contains_iff_mem]
      exact List.mem_map.2 ⟨(i, 0), List.mem_filter.2 ⟨hi, rfl⟩, rfl⟩)
    (fun i hi => by
      show List.contains _ i = true
      rw [List.contains_iff_mem]
      exact List.mem_map.2 ⟨(i, 3), List.mem_filter.2 ⟨hi, rfl⟩, rfl⟩)
    (fun k hk => by simp at hk) h).1 ho
  have hsel : ∀ (j : Nat) (o : Oper) cs b, ops[j]? = some o → o.op ≠ .select cs b := by
    unfold fastOk at hok'; rw [Bool.and_eq_true] at hok'; exact Region.noSelect_spec hok'.1
  have hpart : Part .any ops dep bar := by
    intro i j hi hj listed hcl ri rj
    have hi : List.contains _ i = true := hi
    have hj : List.contains _ j = true := hj
    rw [List.contains_iff_mem] at hi hj
    obtain ⟨⟨x, kx⟩, hx, rfl⟩ := List.mem_map.1 hi
    obtain ⟨⟨y, ky⟩, hy, rfl⟩ := List.mem_map.1 hj
    rw [List.mem_filter] at hx hy
    have h1 := List.all_eq_true.1 hb _ hy.1
    have ey : Nat.beq ky 3 = true := hy.2
    have ex : Nat.beq kx 0 = true := hx.2
    simp only [ey, Bool.not_true, Bool.false_or] at h1
    have h2 := List.all_eq_true.1 h1 _ hx.1
    simp only [ex, Bool.not_true, Bool.false_or, Bool.or_eq_true] at h2
    have un : ∀ {k}, k ∈ Region.ready .any ops listed → listed.getD k false = true → False := fun {k} hk h => by
      have h0 := (mem_ready.1 hk).1
      rcases Nat.lt_or_ge k listed.size with h' | h'
      · simp [h'] at h0 h; rw [h0] at h; cases h
      · simp [Array.getElem?_eq_none h'] at h
    rcases h2 with h2 | h2
    · exact un ri (anc_listed hcl rj h2)
    · exact un rj (anc_listed hcl ri h2)
  have hcl0 : Closed .any ops (lst ops.size 0) := by
    rw [lst_zero]; exact closed_none _ rfl
  have := CertE.sound hsel hpart _ _ _ _ hcl0 hc w.drew hS
  rw [lst_zero] at this
  exact this

theorem at_drop {o : Oper} {i : Nat} {tl : List Oper} (h : ops.toList.drop i = o :: tl) : ops[i]? = some o := by
  have h1 : (ops.toList.drop i)[0]? = some o := by rw [h]; rfl
  rw [List.getElem?_drop] at h1
  simpa using h1
variable {S : World → Prop} {o : Oper} {rest more : OT} {a : Act} {v : Value} {i : Nat} {W : World} {tl : List Oper}
theorem seqE_nil (h : ∀ w, S w → Q .normal a w) : SeqE P ops Q .nil a S := h
theorem seqE_stop : SeqE P ops Q .stop a S := trivial
theorem seqE_pure (hi : ops.toList.drop i = o :: tl) (hw : Region.wanted o (yielded ops a.tmps) = true) (hy : ∀ w, S w → (execOp a.eval o).run P w = .ok (.value v) w) (h : SeqE P ops Q rest (a.put o.dst v) S) : SeqE P ops Q (.one i 0 rest) a S :=
  ⟨o, v, at_drop hi, .inl ⟨.inl ⟨hw, fun w hS => by rw [hy w hS]; exact ⟨rfl, rfl⟩⟩, rfl⟩, h⟩
theorem seqE_still {f : FuncId} {args : Array Value} (hi : ops.toList.drop i = o :: tl) (hw : Region.wanted o (yielded ops a.tmps) = true) (hy : ∀ w, S w → (execOp a.eval o).run P w = .ok (.enter f args) w)
    (hc : ∀ w, S w → Calls P f args w fun e w' => e = .returned v ∧ w' = w) (h : SeqE P ops Q rest (a.put o.dst v) S) : SeqE P ops Q (.one i 0 rest) a S :=
  ⟨o, v, at_drop hi, .inl ⟨.inl ⟨hw, fun w hS => by rw [hy w hS]; exact hc w hS⟩, rfl⟩, h⟩
theorem seqE_free (hi : ops.toList.drop i = o :: tl) (hw : Region.wanted o (yielded ops a.tmps) = true) (hy : ∀ w, (execOp a.eval o).run P w = .ok (.value v) w) (h : SeqE P ops Q rest (a.put o.dst v) S) : SeqE P ops Q (.one i 1 rest) a S :=
  ⟨o, v, at_drop hi, .inr (.inl ⟨hw, fun w _ => by rw [hy w]; exact ⟨rfl, rfl⟩⟩), h⟩
theorem seqE_fcall {f : FuncId} {args : Array Value} (hi : ops.toList.drop i = o :: tl) (hw : Region.wanted o (yielded ops a.tmps) = true) (hy : ∀ w, (execOp a.eval o).run P w = .ok (.enter f args) w)
    (hc : ∀ w, Calls P f args w fun e w' => e = .returned v ∧ w' = w) (h : SeqE P ops Q rest (a.put o.dst v) S) : SeqE P ops Q (.one i 1 rest) a S :=
  ⟨o, v, at_drop hi, .inr (.inl ⟨hw, fun w _ => by rw [hy w]; exact hc w⟩), h⟩
theorem seqE_off (hi : ops.toList.drop i = o :: tl) (hw : Region.wanted o (yielded ops a.tmps) = false) (h : SeqE P ops Q rest (a.put o.dst undef) S) : SeqE P ops Q (.one i 1 rest) a S :=
  ⟨o, undef, at_drop hi, .inr (.inr ⟨hw, rfl⟩), h⟩
/-- A call that changes the world: what it returns, and what is known behind it. -/
theorem seqE_call {f : FuncId} {args : Array Value} (hi : ops.toList.drop i = o :: tl) (hw : Region.wanted o (yielded ops a.tmps) = true) (hy : ∀ w, S w → (execOp a.eval o).run P w = .ok (.enter f args) w)
    (h : ∀ w, S w → Calls P f args w fun e w' => ∃ v, e = .returned v ∧ ∃ S' : World → Prop, S' w' ∧ (∀ x, S' x → S x) ∧ SeqE P ops Q rest (a.put o.dst v) S') (hm : SeqE P ops Q more a S) : SeqE P ops Q (.alt i 2 rest more) a S :=
  ⟨⟨o, at_drop hi, hw, fun w hS => by rw [hy w hS]; exact (h w hS).mono fun e w' he => by obtain ⟨v, h1, S', h2, h3, h4⟩ := he; exact ⟨v, h1, S', h2, .inl h3, h4⟩⟩, hm⟩
/-- A call that keeps S, its value known ahead. -/
theorem seqE_keep {f : FuncId} {args : Array Value} (hi : ops.toList.drop i = o :: tl) (hw : Region.wanted o (yielded ops a.tmps) = true) (hy : ∀ w, S w → (execOp a.eval o).run P w = .ok (.enter f args) w)
    (hc : ∀ w, S w → Calls P f args w fun e w' => e = .returned v ∧ S w') (h : SeqE P ops Q rest (a.put o.dst v) S) (hm : SeqE P ops Q more a S) : SeqE P ops Q (.alt i 2 rest more) a S :=
  ⟨⟨o, at_drop hi, hw, fun w hS => by rw [hy w hS]; exact (hc w hS).mono fun e w' he => ⟨v, he.1, S, he.2, .inl fun _ h => h, h⟩⟩, hm⟩
theorem seqE_move (hi : ops.toList.drop i = o :: tl) (hw : Region.wanted o (yielded ops a.tmps) = true)
    (h : ∀ w, S w → ∃ v w', (execOp a.eval o).run P w = .ok (.value v) w' ∧ ∃ S' : World → Prop, S' w' ∧ (∀ x, S' x → S x) ∧ SeqE P ops Q rest (a.put o.dst v) S') (hm : SeqE P ops Q more a S) : SeqE P ops Q (.alt i 2 rest more) a S :=
  ⟨⟨o, at_drop hi, hw, fun w hS => by obtain ⟨v, w', h1, S', h2, h3, h4⟩ := h w hS; rw [h1]; exact ⟨S', h2, .inl h3, h4⟩⟩, hm⟩
theorem seqE_store (hi : ops.toList.drop i = o :: tl) (hw : Region.wanted o (yielded ops a.tmps) = true)
    (h : ∀ w, S w → ∃ w', (execOp a.eval o).run P w = .ok .skip w' ∧ ∃ S' : World → Prop, S' w' ∧ (∀ x, S' x → S x) ∧ SeqE P ops Q rest (a.put o.dst undef) S') (hm : SeqE P ops Q more a S) : SeqE P ops Q (.alt i 2 rest more) a S :=
  ⟨⟨o, at_drop hi, hw, fun w hS => by obtain ⟨w', h1, S', h2, h3, h4⟩ := h w hS; rw [h1]; exact ⟨S', h2, .inl h3, h4⟩⟩, hm⟩
/- the same behind which the worlds may be any -/
theorem seqE_callB {f : FuncId} {args : Array Value} (hi : ops.toList.drop i = o :: tl) (hw : Region.wanted o (yielded ops a.tmps) = true) (hy : ∀ w, S w → (execOp a.eval o).run P w = .ok (.enter f args) w)
    (h : ∀ w, S w → Calls P f args w fun e w' => ∃ v, e = .returned v ∧ ∃ S' : World → Prop, S' w' ∧ SeqE P ops Q rest (a.put o.dst v) S') (hm : SeqE P ops Q more a S) : SeqE P ops Q (.alt i 3 rest more) a S :=
  ⟨⟨o, at_drop hi, hw, fun w hS => by rw [hy w hS]; exact (h w hS).mono fun e w' he => by obtain ⟨v, h1, S', h2, h3⟩ := he; exact ⟨v, h1, S', h2, .inr rfl, h3⟩⟩, hm⟩
theorem seqE_moveB (hi : ops.toList.drop i = o :: tl) (hw : Region.wanted o (yielded ops a.tmps) = true)
    (h : ∀ w, S w → ∃ v w', (execOp a.eval o).run P w = .ok (.value v) w' ∧ ∃ S' : World → Prop, S' w' ∧ SeqE P ops Q rest (a.put o.dst v) S') (hm : SeqE P ops Q more a S) : SeqE P ops Q (.alt i 3 rest more) a S :=
  ⟨⟨o, at_drop hi, hw, fun w hS => by obtain ⟨v, w', h1, S', h2, h3⟩ := h w hS; rw [h1]; exact ⟨S', h2, .inr rfl, h3⟩⟩, hm⟩
theorem seqE_storeB (hi : ops.toList.drop i = o :: tl) (hw : Region.wanted o (yielded ops a.tmps) = true)
    (h : ∀ w, S w → ∃ w', (execOp a.eval o).run P w = .ok .skip w' ∧ ∃ S' : World → Prop, S' w' ∧ SeqE P ops Q rest (a.put o.dst undef) S') (hm : SeqE P ops Q more a S) : SeqE P ops Q (.alt i 3 rest more) a S :=
  ⟨⟨o, at_drop hi, hw, fun w hS => by obtain ⟨w', h1, S', h2, h3⟩ := h w hS; rw [h1]; exact ⟨S', h2, .inr rfl, h3⟩⟩, hm⟩
end
end Go.Proofs.Ytdibfjcmgbpnpaa
