/- A region that draws its order, all of whose operations yield the same in every world that meets S: it may be walked in the order of the text. -/
import Derived.OrdersHeld
import Derived.Deep.RegionHeld
namespace Go.Proofs.Ytdibfjcmgbpnpaa
set_option linter.unusedSimpArgs false
set_option linter.unusedVariables false
open Go

section
variable {P : Program} {ops : Array Oper} {Q : Exit → Act → World → Prop} {md : Region.Mode} {S : World → Prop}

/-- What an operation comes to: its value, and S behind it. -/
def RGood (P : Program) (S : World → Prop) (v : Value) : Result Next → Prop
  | .ok (.value u) w' => u = v ∧ S w'
  | .ok .skip w' => v = undef ∧ S w'
  | .ok (.enter f args) w' => Calls P f args w' fun e w'' => e = .returned v ∧ S w''
  | _ => False

def YS (P : Program) (ops : Array Oper) (S : World → Prop) (o : Oper) (v : Value) (a : Act) : Prop :=
  (Region.wanted o (yielded ops a.tmps) = true ∧ ∀ w, S w → RGood P S v ((execOp a.eval o).run P w)) ∨
  (Region.wanted o (yielded ops a.tmps) = false ∧ v = undef)

theorem YS.of_same {o : Oper} {v : Value} {a a' : Act} (hy : YS P ops S o v a) (he : execOp a'.eval o = execOp a.eval o)
    (hw : Region.wanted o (yielded ops a'.tmps) = Region.wanted o (yielded ops a.tmps)) : YS P ops S o v a' := by
  unfold YS at *
  rw [he, hw]
  exact hy

theorem YS.wpOp {i : Nat} {o : Oper} {v : Value} {a : Act} (hi : ops[i]? = some o) (hy : YS P ops S o v a)
    {K : Act → World → Prop} {w : World} (hS : S w) (h : ∀ w', S w' → K (a.put o.dst v) w') : wpOp P ops Q i K a w := by
  unfold Go.wpOp
  simp only [hi]
  rcases hy with ⟨hw, hv⟩ | ⟨hw, rfl⟩
  · have hr := hv w hS
    simp only [hw, if_true]
    refine .inl ?_
    unfold Oper.wp
    generalize (execOp a.eval o).run P w = r at *
    cases r with
    | ok n w' =>
      cases n <;> simp only [RGood] at hr <;> simp only [Oper.upon]
      case value u => rw [hr.1]; exact h _ hr.2
      case skip => rw [← hr.1]; exact h _ hr.2
      case enter f args => exact Calls.mono hr fun e w'' he => by obtain ⟨rfl, hs⟩ := he; exact h _ hs
    | halt x w' => exact absurd hr (by simp [RGood])
  · simp only [hw, Bool.false_eq_true, if_false]; exact h _ hS

/-- All operations can be taken, one after another, in some order. -/
inductive Cert (P : Program) (md : Region.Mode) (ops : Array Oper) (S : World → Prop) (fin : Act → Prop) : Nat → Array Bool → Act → Prop
  | done {n : Nat} {listed : Array Bool} {a : Act} : Region.ready md ops listed = [] → fin a → Cert P md ops S fin n listed a
  | take {n : Nat} {listed : Array Bool} {a : Act} {i : Nat} {oi : Oper} {v : Value} : ops[i]? = some oi →
      (∀ j oj, ops[j]? = some oj → j ≠ i → listed.getD j true = false → (∀ e ∈ oj.after, Region.binds md e = true → e.on ≠ i) → oi.apart ops oj = true) →
      i ∈ Region.ready md ops listed → YS P ops S oi v a → Cert P md ops S fin n (listed.setIfInBounds i true) (a.put oi.dst v) → Cert P md ops S fin (n + 1) listed a

theorem Cert.front {fin : Act → Prop} (hsel : ∀ (j : Nat) (o : Oper) cs b, ops[j]? = some o → o.op ≠ .select cs b) {n : Nat} {listed : Array Bool} {a : Act} (h : Cert P md ops S fin n listed a) :
    ∀ j, j ∈ Region.ready md ops listed → ∃ m oj vj, n = m + 1 ∧ ops[j]? = some oj ∧ YS P ops S oj vj a ∧ Cert P md ops S fin m (listed.setIfInBounds j true) (a.put oj.dst vj) := by
  induction h with
  | done hr _ => intro j hj; rw [hr] at hj; cases hj
  | @take n listed a i oi v hi hfree hr hy hrest ih =>
    intro j hj
    by_cases hji : j = i
    · subst hji; exact ⟨n, oi, v, rfl, hi, hy, hrest⟩
    · obtain ⟨m, oj, vj, rfl, hoj, hyj, hc⟩ := ih j (ready_mono hj hji)
      obtain ⟨hjun, oj', hoj', hall⟩ := mem_ready.1 hj
      obtain rfl : oj = oj' := Option.some.inj (hoj.symm.trans hoj')
      have hnot : ∀ e ∈ oj.after, Region.binds md e = true → e.on ≠ i := fun e he hb heq => by
        have h1 := hall e he hb
        have h0 := (mem_ready.1 hr).1
        rw [heq] at h1
        rcases Nat.lt_or_ge i listed.size with h' | h'
        · simp [h'] at h0 h1; rw [h0] at h1; cases h1
        · simp [Array.getElem?_eq_none h'] at h1
      obtain ⟨h1, h2, h3⟩ := Oper.apart_spec (hfree j oj hoj hji hjun hnot)
      have hyj' : YS P ops S oj vj a := hyj.of_same (execOp_put oj (fun cs b => hsel j oj cs b hoj) a oi.dst v h1).symm (wanted_put oj a oi.dst v h1).symm
      have hy' : YS P ops S oi v (a.put oj.dst vj) := hy.of_same (execOp_put oi (fun cs b => hsel i oi cs b hi) a oj.dst vj h3) (wanted_put oi a oj.dst vj h3)
      have hfree' : ∀ k ok, ops[k]? = some ok → k ≠ i → (listed.setIfInBounds j true).getD k true = false →
          (∀ e ∈ ok.after, Region.binds md e = true → e.on ≠ i) → oi.apart ops ok = true := fun k ok hk hki hun hno => by
        refine hfree k ok hk hki ?_ hno
        by_cases hjk : j = k
        · subst hjk; exact hjun
        · rw [getD_set_ne true hjk] at hun; exact hun
      refine ⟨m + 1, oj, vj, rfl, hoj, hyj', .take hi hfree' (ready_mono hr (Ne.symm hji)) hy' ?_⟩
      rw [Array.setIfInBounds_comm _ _ hji, ← Act.put_comm a v vj h2]
      exact hc

theorem Cert.sound {fin : Act → Prop} (hsel : ∀ (j : Nat) (o : Oper) cs b, ops[j]? = some o → o.op ≠ .select cs b) (hfin : ∀ a, fin a → ∀ w, S w → Q .normal a w) :
    ∀ (n : Nat) (listed : Array Bool) (a : Act), Cert P md ops S fin n listed a → ∀ w, S w → wpAny P md ops Q n listed a w := by
  intro n
  induction n with
  | zero =>
    intro listed a h w hS
    cases h with
    | done hr hf => exact ⟨hr, hfin _ hf w hS⟩
  | succ n ih =>
    intro listed a h w hS
    refine ⟨fun hr => ?_, fun j hj => ?_⟩
    · cases h with
      | done _ hf => exact hfin _ hf w hS
      | take _ _ hr' => rw [hr] at hr'; cases hr'
    · obtain ⟨m, oj, vj, hm, hoj, hyj, hc⟩ := h.front hsel j hj
      obtain rfl : n = m := by omega
      exact hyj.wpOp hoj hS fun w' hS' => ih _ _ hc w' hS'

/-- The first k are listed. -/
def pre (n k : Nat) : Array Bool := ((List.range n).map fun i => decide (i < k)).toArray
theorem pre_zero (n : Nat) : pre n 0 = Array.replicate n false := by
  apply Array.ext
  · simp [pre]
  · intro i h1 h2; simp [pre]
theorem pre_succ (n k : Nat) : (pre n k).setIfInBounds k true = pre n (k + 1) := by
  apply Array.ext
  · simp [pre]
  · intro i h1 h2
    rw [Array.getElem_setIfInBounds (by simpa using h1)]
    simp only [pre, List.getElem_toArray, List.getElem_map, List.getElem_range]
    split
    · subst_vars; simp
    · rw [decide_eq_decide]; omega

def textOk (md : Region.Mode) (ops : Array Oper) : Bool :=
  Region.noSelect ops && (List.range ops.size).all fun k => Region.free md ops (pre ops.size k) k && (Region.ready md ops (pre ops.size k)).contains k

/-- What the check looks at: the slot that is written, those that are looked at, the operations that come before. -/
def orow (md : Region.Mode) (ops : Array Oper) (o : Oper) : Option Nat × List Nat × List Nat := (o.dst, o.looksAt ops, (o.after.toList.filter (Region.binds md)).map (·.on))
def apartR (x y : Option Nat × List Nat × List Nat) : Bool :=
  (match x.1 with
   | some d => !y.2.1.contains d && (match y.1 with | some e => !Nat.beq e d | none => true)
   | none => true) &&
  (match y.1 with
   | some d => !x.2.1.contains d
   | none => true)
def pairsOk : Nat → List (Option Nat × List Nat × List Nat) → Bool
  | _, [] => true
  | i, x :: t => t.all (fun y => y.2.2.contains i || apartR x y) && x.2.2.all (fun k => Nat.blt k i) && pairsOk (i + 1) t
def fastOk (md : Region.Mode) (ops : Array Oper) : Bool := Region.noSelect ops && pairsOk 0 (ops.toList.map (orow md ops))

theorem apartR_spec {md : Region.Mode} {ops : Array Oper} {x y : Oper} (h : apartR (orow md ops x) (orow md ops y) = true) : x.apart ops y = true := by
  unfold apartR orow at h
  unfold Oper.apart
  cases hx : x.dst with
  | none => cases hy : y.dst with
    | none => simp
    | some e => simpa [hx, hy] using h
  | some d => cases hy : y.dst with
    | none => simpa [hx, hy] using h
    | some e =>
      simp only [hx, hy, Bool.and_eq_true, Bool.not_eq_true'] at h ⊢
      refine ⟨⟨h.1.1, ?_⟩, h.2⟩
      have hne : e ≠ d := Nat.ne_of_beq_eq_false h.1.2
      simpa using hne

theorem pairsOk_spec : ∀ (l : List (Option Nat × List Nat × List Nat)) (i : Nat), pairsOk i l = true →
    ∀ k x, l[k]? = some x → (∀ e ∈ x.2.2, e < i + k) ∧ ∀ j y, k < j → l[j]? = some y → y.2.2.contains (i + k) = true ∨ apartR x y = true
  | [], _, _, k, x, h => by simp at h
  | x0 :: t, i, h, k, x, hk => by
    simp only [pairsOk, Bool.and_eq_true] at h
    obtain ⟨⟨h1, h2⟩, h3⟩ := h
    cases k with
    | zero =>
      obtain rfl : x0 = x := by simpa using hk
      refine ⟨fun e he => ?_, fun j y hj hy => ?_⟩
      · have := List.all_eq_true.1 h2 e he; simpa [Nat.blt_eq] using this
      · obtain ⟨j, rfl⟩ : ∃ m, j = m + 1 := ⟨j - 1, by omega⟩
        have hy' : t[j]? = some y := by simpa using hy
        have := List.all_eq_true.1 h1 y (List.mem_of_getElem? hy')
        simpa using this
    | succ k =>
      have hk' : t[k]? = some x := by simpa using hk
      obtain ⟨a1, a2⟩ := pairsOk_spec t (i + 1) h3 k x hk'
      refine ⟨fun e he => by have := a1 e he; omega, fun j y hj hy => ?_⟩
      obtain ⟨j, rfl⟩ : ∃ m, j = m + 1 := ⟨j - 1, by omega⟩
      have := a2 j y (by omega) (by simpa using hy)
      rwa [show i + 1 + k = i + (k + 1) by omega] at this

theorem textOk_of {md : Region.Mode} {ops : Array Oper} (h : fastOk md ops = true) : textOk md ops = true := by
  unfold fastOk at h
  rw [Bool.and_eq_true] at h
  unfold textOk
  rw [Bool.and_eq_true, List.all_eq_true]
  refine ⟨h.1, fun k hk => ?_⟩
  have hk := List.mem_range.1 hk
  have hs := pairsOk_spec _ 0 h.2
  have get : ∀ (j : Nat) (o : Oper), ops[j]? = some o → (ops.toList.map (orow md ops))[j]? = some (orow md ops o) := by
    intro j o ho
    rw [List.getElem?_map]
    have : ops.toList[j]? = some o := by simpa using ho
    rw [this]; rfl
  obtain ⟨o, ho⟩ : ∃ o, ops[k]? = some o := ⟨_, Array.getElem?_eq_getElem hk⟩
  obtain ⟨h1, h2⟩ := hs k _ (get k o ho)
  have listed : ∀ j d, j < ops.size → (pre ops.size k).getD j d = decide (j < k) := by
    intro j d hj
    have hp : j < (pre ops.size k).size := by simp [pre]; exact hj
    rw [Array.getD_eq_getD_getElem?, Array.getElem?_eq_getElem hp]
    simp [pre]
  rw [Bool.and_eq_true]
  constructor
  · unfold Region.free
    simp only [ho, List.all_eq_true, List.mem_range]
    intro j hj
    obtain ⟨oj, hoj⟩ : ∃ o, ops[j]? = some o := ⟨_, Array.getElem?_eq_getElem hj⟩
    simp only [hoj, listed j true hj, Bool.or_eq_true, beq_iff_eq, decide_eq_true_eq]
    by_cases hjk : j = k
    · exact .inl (.inl hjk)
    by_cases hlt : j < k
    · exact .inl (.inr hlt)
    refine .inr ?_
    rcases h2 j _ (by omega) (get j oj hoj) with h | h
    · left
      rw [Array.any_eq_true']
      have hm : (0 + k) ∈ (orow md ops oj).2.2 := by simpa using h
      obtain ⟨e, he, hek⟩ := List.mem_map.1 hm
      rw [List.mem_filter] at he
      refine ⟨e, by simpa using he.1, ?_⟩
      rw [Bool.and_eq_true, beq_iff_eq]
      exact ⟨he.2, by omega⟩
    · exact .inr (apartR_spec h)
  · have : k ∈ Region.ready md ops (pre ops.size k) := by
      refine mem_ready.2 ⟨by rw [listed k true hk]; simp, o, ho, fun e he hb => ?_⟩
      have hm : e.on ∈ (orow md ops o).2.2 := List.mem_map.2 ⟨e, List.mem_filter.2 ⟨by simpa using he, hb⟩, rfl⟩
      have := h1 _ hm
      rw [listed e.on false (by omega)]
      simp; omega
    simpa using this

def SeqOk (P : Program) (ops : Array Oper) (S : World → Prop) (fin : Act → Prop) : List Oper → Act → Prop
  | [], a => fin a
  | o :: rest, a => ∃ v, YS P ops S o v a ∧ SeqOk P ops S fin rest (a.put o.dst v)

theorem cert_of_seq {fin : Act → Prop} (hok : textOk md ops = true) : ∀ (rest : List Oper) (k : Nat) (a : Act), ops.toList.drop k = rest → k ≤ ops.size → SeqOk P ops S fin rest a → Cert P md ops S fin rest.length (pre ops.size k) a := by
  intro rest
  induction rest with
  | nil =>
    intro k a hd hk h
    refine .done ?_ h
    have hks : ops.size ≤ k := by have := congrArg List.length hd; simp at this; omega
    cases hr : Region.ready md ops (pre ops.size k) with
    | nil => rfl
    | cons j t =>
      exfalso
      have hj : j ∈ Region.ready md ops (pre ops.size k) := by rw [hr]; exact List.mem_cons_self
      obtain ⟨h0, o, ho, _⟩ := mem_ready.1 hj
      have hlt := (Array.getElem?_eq_some_iff.1 ho).1
      have hp : j < (pre ops.size k).size := by simp [pre]; exact hlt
      rw [Array.getD_eq_getD_getElem?, Array.getElem?_eq_getElem hp] at h0
      simp [pre] at h0
      omega
  | cons o rest ih =>
    intro k a hd hk h
    obtain ⟨v, hy, hrest⟩ := h
    have hlt : k < ops.size := by
      have := congrArg List.length hd; simp at this; omega
    have ho : ops[k]? = some o := by
      have h1 : (ops.toList.drop k)[0]? = some o := by rw [hd]; rfl
      rw [List.getElem?_drop] at h1
      simpa using h1
    unfold textOk at hok
    rw [Bool.and_eq_true, List.all_eq_true] at hok
    have hc := hok.2 k (List.mem_range.2 hlt)
    rw [Bool.and_eq_true] at hc
    refine .take ho (Region.free_spec ho hc.1) (by simpa using hc.2) hy ?_
    rw [pre_succ]
    refine ih (k + 1) _ ?_ (by omega) hrest
    rw [show k + 1 = k + 1 from rfl, ← List.drop_drop, hd]; rfl

/-- THE RULE. -/
theorem wp_region_seq {id : Nat} {a : Act} {w : World} (S : World → Prop) (hm : P.follows .mixedOrders = true) (hok' : fastOk .any ops = true) (hS : S w.drew)
    (h : SeqOk P ops S (fun a => ∀ w, S w → Q .normal a w) ops.toList a) : (Code.region id ops true).wp P Q a w := by
  have hok := textOk_of hok'
  refine wp_region_any hm ?_
  have hc := cert_of_seq hok ops.toList 0 a (by simp) (by omega) h
  rw [pre_zero] at hc
  have hsel : ∀ (j : Nat) (o : Oper) cs b, ops[j]? = some o → o.op ≠ .select cs b := by
    unfold textOk at hok; rw [Bool.and_eq_true] at hok; exact Region.noSelect_spec hok.1
  have := Cert.sound (Q := Q) hsel (fun a hf w hS => hf w hS) _ _ _ hc w.drew hS
  simpa using this

variable {fin : Act → Prop} {o : Oper} {rest : List Oper} {a : Act} {v : Value}
/-- One operation by its run. -/
theorem wpList_run {w w' : World} (hg : o.guard = none) (h : (execOp a.eval o).run P w = .ok (.value v) w') (hk : wpList P ops Q rest (a.put o.dst v) w') : wpList P ops Q (o :: rest) a w := by
  unfold wpList
  have hw : Region.wanted o (yielded ops a.tmps) = true := by unfold Region.wanted; rw [hg]
  rw [if_pos hw]
  refine .inl ?_
  unfold Oper.wp
  rw [h]
  exact hk
theorem seq_nil (h : fin a) : SeqOk P ops S fin [] a := h
theorem seq_pure (hw : Region.wanted o (yielded ops a.tmps) = true) (hy : ∀ w, S w → (execOp a.eval o).run P w = .ok (.value v) w) (h : SeqOk P ops S fin rest (a.put o.dst v)) : SeqOk P ops S fin (o :: rest) a :=
  ⟨v, .inl ⟨hw, fun w hS => by rw [hy w hS]; exact ⟨rfl, hS⟩⟩, h⟩
theorem seq_off (hw : Region.wanted o (yielded ops a.tmps) = false) (h : SeqOk P ops S fin rest (a.put o.dst undef)) : SeqOk P ops S fin (o :: rest) a :=
  ⟨undef, .inr ⟨hw, rfl⟩, h⟩
theorem seq_call {f : FuncId} {args : Array Value} (hw : Region.wanted o (yielded ops a.tmps) = true) (hy : ∀ w, S w → (execOp a.eval o).run P w = .ok (.enter f args) w)
    (hc : ∀ w, S w → Calls P f args w fun e w' => e = .returned v ∧ S w') (h : SeqOk P ops S fin rest (a.put o.dst v)) : SeqOk P ops S fin (o :: rest) a :=
  ⟨v, .inl ⟨hw, fun w hS => by rw [hy w hS]; exact hc w hS⟩, h⟩
end
end Go.Proofs.Ytdibfjcmgbpnpaa
