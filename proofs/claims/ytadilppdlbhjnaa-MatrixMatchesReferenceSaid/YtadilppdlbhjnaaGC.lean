import Derived.OrdersHeld
import Derived.Deep.RegionHeld
import Derived.Below
namespace Go.Proofs.Ytadilppdlbhjnaa
set_option linter.unusedSimpArgs false
set_option linter.unusedVariables false
open Go
theorem zA {α : Type _} (l : List α) (i : Nat) (a : α) : l.toArray.setIfInBounds i a = (l.set i a).toArray := List.setIfInBounds_toArray l i a
theorem zB {α : Type _} {x : α} {xs : List α} {a : α} : (x :: xs).set 0 a = a :: xs := rfl
theorem zC {α : Type _} {x : α} {xs : List α} {i : Nat} {a : α} : (x :: xs).set (i + 1) a = x :: xs.set i a := rfl
section
variable {P : Program} {ops : Array Oper} {Q : Exit → Act → World → Prop} {md : Region.Mode} {S : World → Prop}
def RGood (P : Program) (S : World → Prop) (v : Value) : Result Next → Prop
 | .ok (.value u) w' => u = v ∧ S w'
 | .ok .skip w' => v = undef ∧ S w'
 | .ok (.enter f args) w' => Calls P f args w' fun e w'' => e = .returned v ∧ S w''
 | _ => False
def YS (P : Program) (ops : Array Oper) (S : World → Prop) (o : Oper) (v : Value) (a : Act) : Prop :=
 (Region.wanted o (yielded ops a.tmps) = true ∧ ∀ w, S w → RGood P S v ((execOp a.eval o).run P w)) ∨
 (Region.wanted o (yielded ops a.tmps) = false ∧ v = undef)
theorem YS.of_same {o : Oper} {v : Value} {a a' : Act} (hy : YS P ops S o v a) (he : execOp a'.eval o = execOp a.eval o)
 (hw : Region.wanted o (yielded ops a'.tmps) = Region.wanted o (yielded ops a.tmps)) : YS P ops S o v a' := by
 unfold YS at *
 rw [he, hw]
 exact hy
theorem YS.wpOp {i : Nat} {o : Oper} {v : Value} {a : Act} (hi : ops[i]? = some o) (hy : YS P ops S o v a)
 {K : Act → World → Prop} {w : World} (hS : S w) (h : ∀ w', S w' → K (a.put o.dst v) w') : wpOp P ops Q i K a w := by
 unfold Go.wpOp
 simp only [hi]
 rcases hy with ⟨hw, hv⟩ | ⟨hw, rfl⟩
 · have hr := hv w hS
   simp only [hw, if_true]
   refine .inl ?_
   unfold Oper.wp
   generalize (execOp a.eval o).run P w = r at *
   cases r with
   | ok n w' =>
    cases n <;> simp only [RGood] at hr <;> simp only [Oper.upon]
    case value u => rw [hr.1]; exact h _ hr.2
    case skip => rw [← hr.1]; exact h _ hr.2
    case enter f args => exact Calls.mono hr fun e w'' he => by obtain ⟨rfl, hs⟩ := he; exact h _ hs
   | halt x w' => exact absurd hr (by simp [RGood])
 · simp only [hw, Bool.false_eq_true, if_false]; exact h _ hS
inductive Cert (P : Program) (md : Region.Mode) (ops : Array Oper) (S : World → Prop) (fin : Act → Prop) : Nat → Array Bool → Act → Prop
 | done {n : Nat} {listed : Array Bool} {a : Act} : Region.ready md ops listed = [] → fin a → Cert P md ops S fin n listed a
 | take {n : Nat} {listed : Array Bool} {a : Act} {i : Nat} {oi : Oper} {v : Value} : ops[i]? = some oi →
  (∀ j oj, ops[j]? = some oj → j ≠ i → listed.getD j true = false → (∀ e ∈ oj.after, Region.binds md e = true → e.on ≠ i) → oi.apart ops oj = true) →
  i ∈ Region.ready md ops listed → YS P ops S oi v a → Cert P md ops S fin n (listed.setIfInBounds i true) (a.put oi.dst v) → Cert P md ops S fin (n + 1) listed a
theorem Cert.front {fin : Act → Prop} (hsel : ∀ (j : Nat) (o : Oper) cs b, ops[j]? = some o → o.op ≠ .select cs b) {n : Nat} {listed : Array Bool} {a : Act} (h : Cert P md ops S fin n listed a) :
 ∀ j, j ∈ Region.ready md ops listed → ∃ m oj vj, n = m + 1 ∧ ops[j]? = some oj ∧ YS P ops S oj vj a ∧ Cert P md ops S fin m (listed.setIfInBounds j true) (a.put oj.dst vj) := by
 induction h with
 | done hr _ => intro j hj; rw [hr] at hj; cases hj
 | @take n listed a i oi v hi hfree hr hy hrest ih =>
  intro j hj
  by_cases hji : j = i
  · subst hji; exact ⟨n, oi, v, rfl, hi, hy, hrest⟩
  · obtain ⟨m, oj, vj, rfl, hoj, hyj, hc⟩ := ih j (ready_mono hj hji)
    obtain ⟨hjun, oj', hoj', hall⟩ := mem_ready.1 hj
    obtain rfl : oj = oj' := Option.some.inj (hoj.symm.trans hoj')
    have hnot : ∀ e ∈ oj.after, Region.binds md e = true → e.on ≠ i := fun e he hb heq => by
     have h1 := hall e he hb
     have h0 := (mem_ready.1 hr).1
     rw [heq] at h1
     rcases Nat.lt_or_ge i listed.size with h' | h'
     · simp [h'] at h0 h1; rw [h0] at h1; cases h1
     · simp [Array.getElem?_eq_none h'] at h1
    obtain ⟨h1, h2, h3⟩ := Oper.apart_spec (hfree j oj hoj hji hjun hnot)
    have hyj' : YS P ops S oj vj a := hyj.of_same (execOp_put oj (fun cs b => hsel j oj cs b hoj) a oi.dst v h1).symm (wanted_put oj a oi.dst v h1).symm
    have hy' : YS P ops S oi v (a.put oj.dst vj) := hy.of_same (execOp_put oi (fun cs b => hsel i oi cs b hi) a oj.dst vj h3) (wanted_put oi a oj.dst vj h3)
    have hfree' : ∀ k ok, ops[k]? = some ok → k ≠ i → (listed.setIfInBounds j true).getD k true = false →
     (∀ e ∈ ok.after, Region.binds md e = true → e.on ≠ i) → oi.apart ops ok = true := fun k ok hk hki hun hno => by
     refine hfree k ok hk hki ?_ hno
     by_cases hjk : j = k
     · subst hjk; exact hjun
     · rw [getD_set_ne true hjk] at hun; exact hun
    refine ⟨m + 1, oj, vj, rfl, hoj, hyj', .take hi hfree' (ready_mono hr (Ne.symm hji)) hy' ?_⟩
    rw [Array.setIfInBounds_comm _ _ hji, ← Act.put_comm a v vj h2]
    exact hc
theorem Cert.sound {fin : Act → Prop} (hsel : ∀ (j : Nat) (o : Oper) cs b, ops[j]? = some o → o.op ≠ .select cs b) (hfin : ∀ a, fin a → ∀ w, S w → Q .normal a w) :
 ∀ (n : Nat) (listed : Array Bool) (a : Act), Cert P md ops S fin n listed a → ∀ w, S w → wpAny P md ops Q n listed a w := by
 intro n
 induction n with
 | zero =>
  intro listed a h w hS
  cases h with
  | done hr hf => exact ⟨hr, hfin _ hf w hS⟩
 | succ n ih =>
  intro listed a h w hS
  refine ⟨fun hr => ?_, fun j hj => ?_⟩
  · cases h with
    | done _ hf => exact hfin _ hf w hS
    | take _ _ hr' => rw [hr] at hr'; cases hr'
  · obtain ⟨m, oj, vj, hm, hoj, hyj, hc⟩ := h.front hsel j hj
    obtain rfl : n = m := by omega
    exact hyj.wpOp hoj hS fun w' hS' => ih _ _ hc w' hS'
def pre (n k : Nat) : Array Bool := ((List.range n).map fun i => decide (i < k)).toArray
theorem pre_zero (n : Nat) : pre n 0 = Array.replicate n false := by
 apply Array.ext
 · simp [pre]
 · intro i h1 h2; simp [pre]
theorem pre_succ (n k : Nat) : (pre n k).setIfInBounds k true = pre n (k + 1) := by
 apply Array.ext
 · simp [pre]
 · intro i h1 h2
   rw [Array.getElem_setIfInBounds (by simpa using h1)]
   simp only [pre, List.getElem_toArray, List.getElem_map, List.getElem_range]
   split
   · subst_vars; simp
   · rw [decide_eq_decide]; omega
def textOk (md : Region.Mode) (ops : Array Oper) : Bool :=
 Region.noSelect ops && (List.range ops.size).all fun k => Region.free md ops (pre ops.size k) k && (Region.ready md ops (pre ops.size k)).contains k
def orow (md : Region.Mode) (ops : Array Oper) (o : Oper) : Option Nat × List Nat × List Nat := (o.dst, o.looksAt ops, (o.after.toList.filter (Region.binds md)).map (·.on))
def apartR (x y : Option Nat × List Nat × List Nat) : Bool :=
 (match x.1 with
  | some d => !y.2.1.contains d && (match y.1 with | some e => !Nat.beq e d | none => true)
  | none => true) &&
 (match y.1 with
  | some d => !x.2.1.contains d
  | none => true)
def pairsOk : Nat → List (Option Nat × List Nat × List Nat) → Bool
 | _, [] => true
 | i, x :: t => t.all (fun y => y.2.2.contains i || apartR x y) && x.2.2.all (fun k => Nat.blt k i) && pairsOk (i + 1) t
def fastOk (md : Region.Mode) (ops : Array Oper) : Bool := Region.noSelect ops && pairsOk 0 (ops.toList.map (orow md ops))
theorem apartR_spec {md : Region.Mode} {ops : Array Oper} {x y : Oper} (h : apartR (orow md ops x) (orow md ops y) = true) : x.apart ops y = true := by
 unfold apartR orow at h
 unfold Oper.apart
 cases hx : x.dst with
 | none => cases hy : y.dst with
  | none => simp
  | some e => simpa [hx, hy] using h
 | some d => cases hy : y.dst with
  | none => simpa [hx, hy] using h
  | some e =>
   simp only [hx, hy, Bool.and_eq_true, Bool.not_eq_true'] at h ⊢
   refine ⟨⟨h.1.1, ?_⟩, h.2⟩
   have hne : e ≠ d := Nat.ne_of_beq_eq_false h.1.2
   simpa using hne
theorem pairsOk_spec : ∀ (l : List (Option Nat × List Nat × List Nat)) (i : Nat), pairsOk i l = true →
 ∀ k x, l[k]? = some x → (∀ e ∈ x.2.2, e < i + k) ∧ ∀ j y, k < j → l[j]? = some y → y.2.2.contains (i + k) = true ∨ apartR x y = true
 | [], _, _, k, x, h => by simp at h
 | x0 :: t, i, h, k, x, hk => by
  simp only [pairsOk, Bool.and_eq_true] at h
  obtain ⟨⟨h1, h2⟩, h3⟩ := h
  cases k with
  | zero =>
   obtain rfl : x0 = x := by simpa using hk
   refine ⟨fun e he => ?_, fun j y hj hy => ?_⟩
   · have := List.all_eq_true.1 h2 e he; simpa [Nat.blt_eq] using this
   · obtain ⟨j, rfl⟩ : ∃ m, j = m + 1 := ⟨j - 1, by omega⟩
     have hy' : t[j]? = some y := by simpa using hy
     have := List.all_eq_true.1 h1 y (List.mem_of_getElem? hy')
     simpa using this
  | succ k =>
   have hk' : t[k]? = some x := by simpa using hk
   obtain ⟨a1, a2⟩ := pairsOk_spec t (i + 1) h3 k x hk'
   refine ⟨fun e he => by have := a1 e he; omega, fun j y hj hy => ?_⟩
   obtain ⟨j, rfl⟩ : ∃ m, j = m + 1 := ⟨j - 1, by omega⟩
   have := a2 j y (by omega) (by simpa using hy)
   rwa [show i + 1 + k = i + (k + 1) by omega] at this
theorem textOk_of {md : Region.Mode} {ops : Array Oper} (h : fastOk md ops = true) : textOk md ops = true := by
 unfold fastOk at h
 rw [Bool.and_eq_true] at h
 unfold textOk
 rw [Bool.and_eq_true, List.all_eq_true]
 refine ⟨h.1, fun k hk => ?_⟩
 have hk := List.mem_range.1 hk
 have hs := pairsOk_spec _ 0 h.2
 have get : ∀ (j : Nat) (o : Oper), ops[j]? = some o → (ops.toList.map (orow md ops))[j]? = some (orow md ops o) := by
  intro j o ho
  rw [List.getElem?_map]
  have : ops.toList[j]? = some o := by simpa using ho
  rw [this]; rfl
 obtain ⟨o, ho⟩ : ∃ o, ops[k]? = some o := ⟨_, Array.getElem?_eq_getElem hk⟩
 obtain ⟨h1, h2⟩ := hs k _ (get k o ho)
 have listed : ∀ j d, j < ops.size → (pre ops.size k).getD j d = decide (j < k) := by
  intro j d hj
  have hp : j < (pre ops.size k).size := by simp [pre]; exact hj
  rw [Array.getD_eq_getD_getElem?, Array.getElem?_eq_getElem hp]
  simp [pre]
 rw [Bool.and_eq_true]
 constructor
 · unfold Region.free
   simp only [ho, List.all_eq_true, List.mem_range]
   intro j hj
   obtain ⟨oj, hoj⟩ : ∃ o, ops[j]? = some o := ⟨_, Array.getElem?_eq_getElem hj⟩
   simp only [hoj, listed j true hj, Bool.or_eq_true, beq_iff_eq, decide_eq_true_eq]
   by_cases hjk : j = k
   · exact .inl (.inl hjk)
   by_cases hlt : j < k
   · exact .inl (.inr hlt)
   refine .inr ?_
   rcases h2 j _ (by omega) (get j oj hoj) with h | h
   · left
     rw [Array.any_eq_true']
     have hm : (0 + k) ∈ (orow md ops oj).2.2 := by simpa using h
     obtain ⟨e, he, hek⟩ := List.mem_map.1 hm
     rw [List.mem_filter] at he
     refine ⟨e, by simpa using he.1, ?_⟩
     rw [Bool.and_eq_true, beq_iff_eq]
     exact ⟨he.2, by omega⟩
   · exact .inr (apartR_spec h)
 · have : k ∈ Region.ready md ops (pre ops.size k) := by
    refine mem_ready.2 ⟨by rw [listed k true hk]; simp, o, ho, fun e he hb => ?_⟩
    have hm : e.on ∈ (orow md ops o).2.2 := List.mem_map.2 ⟨e, List.mem_filter.2 ⟨by simpa using he, hb⟩, rfl⟩
    have := h1 _ hm
    rw [listed e.on false (by omega)]
    simp; omega
   simpa using this
def SeqOk (P : Program) (ops : Array Oper) (S : World → Prop) (fin : Act → Prop) : List Oper → Act → Prop
 | [], a => fin a
 | o :: rest, a => ∃ v, YS P ops S o v a ∧ SeqOk P ops S fin rest (a.put o.dst v)
theorem cert_of_seq {fin : Act → Prop} (hok : textOk md ops = true) : ∀ (rest : List Oper) (k : Nat) (a : Act), ops.toList.drop k = rest → k ≤ ops.size → SeqOk P ops S fin rest a → Cert P md ops S fin rest.length (pre ops.size k) a := by
 intro rest
 induction rest with
 | nil =>
  intro k a hd hk h
  refine .done ?_ h
  have hks : ops.size ≤ k := by have := congrArg List.length hd; simp at this; omega
  cases hr : Region.ready md ops (pre ops.size k) with
  | nil => rfl
  | cons j t =>
   exfalso
   have hj : j ∈ Region.ready md ops (pre ops.size k) := by rw [hr]; exact List.mem_cons_self
   obtain ⟨h0, o, ho, _⟩ := mem_ready.1 hj
   have hlt := (Array.getElem?_eq_some_iff.1 ho).1
   have hp : j < (pre ops.size k).size := by simp [pre]; exact hlt
   rw [Array.getD_eq_getD_getElem?, Array.getElem?_eq_getElem hp] at h0
   simp [pre] at h0
   omega
 | cons o rest ih =>
  intro k a hd hk h
  obtain ⟨v, hy, hrest⟩ := h
  have hlt : k < ops.size := by
   have := congrArg List.length hd; simp at this; omega
  have ho : ops[k]? = some o := by
   have h1 : (ops.toList.drop k)[0]? = some o := by rw [hd]; rfl
   rw [List.getElem?_drop] at h1
   simpa using h1
  unfold textOk at hok
  rw [Bool.and_eq_true, List.all_eq_true] at hok
  have hc := hok.2 k (List.mem_range.2 hlt)
  rw [Bool.and_eq_true] at hc
  refine .take ho (Region.free_spec ho hc.1) (by simpa using hc.2) hy ?_
  rw [pre_succ]
  refine ih (k + 1) _ ?_ (by omega) hrest
  rw [show k + 1 = k + 1 from rfl, ← List.drop_drop, hd]; rfl
theorem wp_region_seq {id : Nat} {a : Act} {w : World} (S : World → Prop) (hm : P.follows .mixedOrders = true) (hok' : fastOk .any ops = true) (hS : S w.drew)
 (h : SeqOk P ops S (fun a => ∀ w, S w → Q .normal a w) ops.toList a) : (Code.region id ops true).wp P Q a w := by
 have hok := textOk_of hok'
 refine wp_region_any hm ?_
 have hc := cert_of_seq hok ops.toList 0 a (by simp) (by omega) h
 rw [pre_zero] at hc
 have hsel : ∀ (j : Nat) (o : Oper) cs b, ops[j]? = some o → o.op ≠ .select cs b := by
  unfold textOk at hok; rw [Bool.and_eq_true] at hok; exact Region.noSelect_spec hok.1
 have := Cert.sound (Q := Q) hsel (fun a hf w hS => hf w hS) _ _ _ hc w.drew hS
 simpa using this
variable {fin : Act → Prop} {o : Oper} {rest : List Oper} {a : Act} {v : Value}
theorem wpList_run {w w' : World} (hg : o.guard = none) (h : (execOp a.eval o).run P w = .ok (.value v) w') (hk : wpList P ops Q rest (a.put o.dst v) w') : wpList P ops Q (o :: rest) a w := by
 unfold wpList
 have hw : Region.wanted o (yielded ops a.tmps) = true := by unfold Region.wanted; rw [hg]
 rw [if_pos hw]
 refine .inl ?_
 unfold Oper.wp
 rw [h]
 exact hk
theorem seq_nil (h : fin a) : SeqOk P ops S fin [] a := h
theorem seq_pure (hw : Region.wanted o (yielded ops a.tmps) = true) (hy : ∀ w, S w → (execOp a.eval o).run P w = .ok (.value v) w) (h : SeqOk P ops S fin rest (a.put o.dst v)) : SeqOk P ops S fin (o :: rest) a :=
 ⟨v, .inl ⟨hw, fun w hS => by rw [hy w hS]; exact ⟨rfl, hS⟩⟩, h⟩
theorem seq_off (hw : Region.wanted o (yielded ops a.tmps) = false) (h : SeqOk P ops S fin rest (a.put o.dst undef)) : SeqOk P ops S fin (o :: rest) a :=
 ⟨undef, .inr ⟨hw, rfl⟩, h⟩
theorem seq_call {f : FuncId} {args : Array Value} (hw : Region.wanted o (yielded ops a.tmps) = true) (hy : ∀ w, S w → (execOp a.eval o).run P w = .ok (.enter f args) w)
 (hc : ∀ w, S w → Calls P f args w fun e w' => e = .returned v ∧ S w') (h : SeqOk P ops S fin rest (a.put o.dst v)) : SeqOk P ops S fin (o :: rest) a :=
 ⟨v, .inl ⟨hw, fun w hS => by rw [hy w hS]; exact hc w hS⟩, h⟩
end
end Go.Proofs.Ytadilppdlbhjnaa
namespace Go.Proofs.Ytadilppdlbhjnaa
set_option linter.unusedSimpArgs false
set_option linter.unusedVariables false
open Go
section
variable {P : Program} {ops : Array Oper} {Q : Exit → Act → World → Prop} {md : Region.Mode} {S : Nat → World → Prop} {m : Nat} {mover : Nat → Bool} {l : Nat}
def YM (P : Program) (ops : Array Oper) (S : Nat → World → Prop) (m : Nat) (mv : Bool) (j : Nat) (o : Oper) (v : Value) (a : Act) : Prop :=
 match mv with
 | true => Region.wanted o (yielded ops a.tmps) = true ∧ ∀ w, S j w → RGood P (S (j + 1)) v ((execOp a.eval o).run P w)
 | false => (Region.wanted o (yielded ops a.tmps) = true ∧ ∀ k, k ≤ m → ∀ w, S k w → RGood P (S k) v ((execOp a.eval o).run P w)) ∨
  (Region.wanted o (yielded ops a.tmps) = false ∧ v = undef)
theorem YM.of_same {mv : Bool} {j : Nat} {o : Oper} {v : Value} {a a' : Act} (hy : YM P ops S m mv j o v a) (he : execOp a'.eval o = execOp a.eval o)
 (hw : Region.wanted o (yielded ops a'.tmps) = Region.wanted o (yielded ops a.tmps)) : YM P ops S m mv j o v a' := by
 unfold YM at *
 rw [he, hw]
 exact hy
def up (mv : Bool) (j : Nat) : Nat := if mv then j + 1 else j
theorem wpOp_good {i : Nat} {o : Oper} {v : Value} {a : Act} {S' : World → Prop} (hi : ops[i]? = some o) (hw : Region.wanted o (yielded ops a.tmps) = true)
 {K : Act → World → Prop} {w : World} (hr : RGood P S' v ((execOp a.eval o).run P w)) (h : ∀ w', S' w' → K (a.put o.dst v) w') : wpOp P ops Q i K a w := by
 unfold Go.wpOp
 simp only [hi, hw, if_true]
 refine .inl ?_
 unfold Oper.wp
 generalize (execOp a.eval o).run P w = r at *
 cases r with
 | ok n w' =>
  cases n <;> simp only [RGood] at hr <;> simp only [Oper.upon]
  case value u => rw [hr.1]; exact h _ hr.2
  case skip => rw [← hr.1]; exact h _ hr.2
  case enter f args => exact Calls.mono hr fun e w'' he => by obtain ⟨rfl, hs⟩ := he; exact h _ hs
 | halt x w' => exact absurd hr (by simp [RGood])
theorem YM.wpOp {mv : Bool} {j i : Nat} {o : Oper} {v : Value} {a : Act} (hi : ops[i]? = some o) (hy : YM P ops S m mv j o v a) (hj : j ≤ m)
 {K : Act → World → Prop} {w : World} (hS : S j w) (h : ∀ w', S (up mv j) w' → K (a.put o.dst v) w') : wpOp P ops Q i K a w := by
 cases mv with
 | true => exact wpOp_good hi hy.1 (hy.2 w hS) (fun w' hw' => h w' hw')
 | false =>
  rcases hy with ⟨hw, hv⟩ | ⟨hw, rfl⟩
  · exact wpOp_good hi hw (hv j hj w hS) (fun w' hw' => h w' hw')
  · unfold Go.wpOp
    simp only [hi, hw, Bool.false_eq_true, if_false]; exact h _ hS
def Closed (md : Region.Mode) (ops : Array Oper) (listed : Array Bool) : Prop :=
 ∀ j o, ops[j]? = some o → listed.getD j false = true → ∀ e ∈ o.after, Region.binds md e = true → listed.getD e.on false = true
theorem Closed.step {listed : Array Bool} {i : Nat} (h : Closed md ops listed) (hi : i ∈ Region.ready md ops listed) : Closed md ops (listed.setIfInBounds i true) := by
 intro j o ho hj e he hb
 obtain ⟨_, oi, hoi, hall⟩ := mem_ready.1 hi
 by_cases hji : j = i
 · subst hji
   obtain rfl : oi = o := Option.some.inj (hoi.symm.trans ho)
   exact getD_set_true (hall e he hb)
 · rw [getD_set_ne false (Ne.symm hji)] at hj
   exact getD_set_true (h j o ho hj e he hb)
inductive CertM (P : Program) (md : Region.Mode) (ops : Array Oper) (Q : Exit → Act → World → Prop) (S : Nat → World → Prop) (m : Nat) (mover : Nat → Bool) (l : Nat) : Nat → Array Bool → Act → Nat → Prop
 | fin {n : Nat} {listed : Array Bool} {a : Act} : (∀ i, i < ops.size → i ≠ l → listed.getD i false = true) → (∀ w, S m w → wpAny P md ops Q n listed a w) → CertM P md ops Q S m mover l n listed a m
 | take {n : Nat} {listed : Array Bool} {a : Act} {j i : Nat} {oi : Oper} {v : Value} : ops[i]? = some oi →
  (∀ j oj, ops[j]? = some oj → j ≠ i → listed.getD j true = false → (∀ e ∈ oj.after, Region.binds md e = true → e.on ≠ i) → oi.apart ops oj = true) →
  i ∈ Region.ready md ops listed → YM P ops S m (mover i) j oi v a → up (mover i) j ≤ m → CertM P md ops Q S m mover l n (listed.setIfInBounds i true) (a.put oi.dst v) (up (mover i) j) → CertM P md ops Q S m mover l (n + 1) listed a j
theorem up_comm (x y : Bool) (j : Nat) : up x (up y j) = up y (up x j) := by cases x <;> cases y <;> rfl
theorem CertM.le {n : Nat} {listed : Array Bool} {a : Act} {j : Nat} (h : CertM P md ops Q S m mover l n listed a j) : j ≤ m := by
 cases h with
 | fin => exact Nat.le_refl _
 | take _ _ _ _ h => revert h; unfold up; split <;> omega
theorem CertM.front (hsel : ∀ (j : Nat) (o : Oper) cs b, ops[j]? = some o → o.op ≠ .select cs b)
 (hex : ∀ listed, Closed md ops listed → ∀ i j, i ∈ Region.ready md ops listed → j ∈ Region.ready md ops listed → mover i = true → mover j = true → i = j)
 (hlast : ∀ listed, Closed md ops listed → l ∈ Region.ready md ops listed → ∀ i, i < ops.size → i ≠ l → listed.getD i false = true)
 {n : Nat} {listed : Array Bool} {a : Act} {s : Nat} (h : CertM P md ops Q S m mover l n listed a s) :
 Closed md ops listed → ∀ j, j ∈ Region.ready md ops listed → (∀ i, i < ops.size → i ≠ l → listed.getD i false = true) ∨ ∃ k oj vj, n = k + 1 ∧ ops[j]? = some oj ∧ YM P ops S m (mover j) s oj vj a ∧ up (mover j) s ≤ m ∧ CertM P md ops Q S m mover l k (listed.setIfInBounds j true) (a.put oj.dst vj) (up (mover j) s) := by
 induction h with
 | fin hall _ => intro _ j _; exact .inl hall
 | @take n listed a s i oi v hi hfree hr hy hle hrest ih =>
  intro hcl j hj
  by_cases hji : j = i
  · subst hji; exact .inr ⟨n, oi, v, rfl, hi, hy, hle, hrest⟩
  · right
    have hun : ∀ x, x ∈ Region.ready md ops listed → listed.getD x false = true → False := by
     intro x hx ht
     have h0 := (mem_ready.1 hx).1
     rcases Nat.lt_or_ge x listed.size with h' | h'
     · simp [h'] at h0 ht; rw [h0] at ht; cases ht
     · simp [Array.getElem?_eq_none h'] at h0
    rcases ih (hcl.step hr) j (ready_mono hj hji) with hall | hex0
    · exfalso
      have hjl : j = l := by
       rcases Nat.decEq j l with h | h
       · exfalso
         have hjs : j < ops.size := by obtain ⟨_, o, ho, _⟩ := mem_ready.1 hj; exact (Array.getElem?_eq_some_iff.1 ho).1
         have := hall j hjs h
         rw [getD_set_ne false (Ne.symm hji)] at this
         exact hun j hj this
       · exact h
      subst hjl
      exact hun i hr (hlast listed hcl hj i (Array.getElem?_eq_some_iff.1 hi).1 (Ne.symm hji))
    obtain ⟨k, oj, vj, rfl, hoj, hyj, hlej, hc⟩ := hex0
    obtain ⟨hjun, oj', hoj', hall⟩ := mem_ready.1 hj
    obtain rfl : oj = oj' := Option.some.inj (hoj.symm.trans hoj')
    have hnot : ∀ e ∈ oj.after, Region.binds md e = true → e.on ≠ i := fun e he hb heq => by
     have h1 := hall e he hb
     have h0 := (mem_ready.1 hr).1
     rw [heq] at h1
     rcases Nat.lt_or_ge i listed.size with h' | h'
     · simp [h'] at h0 h1; rw [h0] at h1; cases h1
     · simp [Array.getElem?_eq_none h'] at h1
    obtain ⟨h1, h2, h3⟩ := Oper.apart_spec (hfree j oj hoj hji hjun hnot)
    have hnm : mover i = true → mover j = true → False := fun a b => hji (hex listed hcl j i hj hr b a)
    have hyj0 : YM P ops S m (mover j) s oj vj (a.put oi.dst v) := by
     cases hmj : mover j with
     | false => rw [hmj] at hyj; exact hyj
     | true =>
      cases hmi : mover i with
      | true => exact absurd hmj (fun h => hnm hmi h)
      | false => rw [hmj, hmi] at hyj; exact hyj
    have hy0 : YM P ops S m (mover i) (up (mover j) s) oi v a := by
     cases hmi : mover i with
     | false => rw [hmi] at hy; exact hy
     | true =>
      cases hmj : mover j with
      | true => exact absurd hmj (fun h => hnm hmi h)
      | false => rw [hmi] at hy; exact hy
    have hyj' : YM P ops S m (mover j) s oj vj a := hyj0.of_same (execOp_put oj (fun cs b => hsel j oj cs b hoj) a oi.dst v h1).symm (wanted_put oj a oi.dst v h1).symm
    have hy' : YM P ops S m (mover i) (up (mover j) s) oi v (a.put oj.dst vj) := hy0.of_same (execOp_put oi (fun cs b => hsel i oi cs b hi) a oj.dst vj h3) (wanted_put oi a oj.dst vj h3)
    have hfree' : ∀ k ok, ops[k]? = some ok → k ≠ i → (listed.setIfInBounds j true).getD k true = false →
     (∀ e ∈ ok.after, Region.binds md e = true → e.on ≠ i) → oi.apart ops ok = true := fun k ok hk hki hun hno => by
     refine hfree k ok hk hki ?_ hno
     by_cases hjk : j = k
     · subst hjk; exact hjun
     · rw [getD_set_ne true hjk] at hun; exact hun
    rw [up_comm] at hlej hc
    refine ⟨k + 1, oj, vj, rfl, hoj, hyj', ?_, .take hi hfree' (ready_mono hr (Ne.symm hji)) hy' hlej ?_⟩
    · revert hlej; unfold up; split <;> split <;> omega
    · rw [Array.setIfInBounds_comm _ _ hji, ← Act.put_comm a v vj h2]
      exact hc
theorem CertM.sound (hsel : ∀ (j : Nat) (o : Oper) cs b, ops[j]? = some o → o.op ≠ .select cs b)
 (hex : ∀ listed, Closed md ops listed → ∀ i j, i ∈ Region.ready md ops listed → j ∈ Region.ready md ops listed → mover i = true → mover j = true → i = j)
 (hlast : ∀ listed, Closed md ops listed → l ∈ Region.ready md ops listed → ∀ i, i < ops.size → i ≠ l → listed.getD i false = true) :
 ∀ (n : Nat) (listed : Array Bool) (a : Act) (s : Nat), CertM P md ops Q S m mover l n listed a s → Closed md ops listed → ∀ w, S s w → wpAny P md ops Q n listed a w := by
 intro n
 induction n with
 | zero =>
  intro listed a s h hcl w hS
  cases h with
  | fin _ hf => exact hf w hS
 | succ n ih =>
  intro listed a s h hcl w hS
  have hfr := h.front hsel hex hlast hcl
  have hle0 := h.le
  cases h with
  | fin _ hf => exact hf w hS
  | @take _ _ _ _ i oi v hi hfree hr hy hle hrest =>
   refine ⟨fun h0 => (by rw [h0] at hr; cases hr), fun j hj => ?_⟩
   by_cases hji : j = i
   · subst hji
     exact hy.wpOp hi hle0 hS fun w' hS' => ih _ _ _ hrest (hcl.step hj) w' hS'
   · rcases hfr j hj with hall | ⟨k, oj, vj, hk, hoj, hyj, hle', hc⟩
     · exfalso
       have un : ∀ x, x ∈ Region.ready md ops listed → x = l := by
        intro x hx
        rcases Nat.decEq x l with h | h
        · exfalso
          obtain ⟨h0, o, ho, _⟩ := mem_ready.1 hx
          have ht := hall x (Array.getElem?_eq_some_iff.1 ho).1 h
          rcases Nat.lt_or_ge x listed.size with h' | h'
          · simp [h'] at h0 ht; rw [h0] at ht; cases ht
          · simp [Array.getElem?_eq_none h'] at h0
        · exact h
       exact hji ((un j hj).trans (un i hr).symm)
     · obtain rfl : n = k := by omega
       exact hyj.wpOp hoj hle0 hS fun w' hS' => ih _ _ _ hc (hcl.step hj) w' hS'
def chained (md : Region.Mode) (ops : Array Oper) : List Nat → Bool
 | [] => true
 | [_] => true
 | x :: y :: t => Nat.blt x y && (match ops[y]? with | some o => o.after.any (fun e => Region.binds md e && e.on == x) | none => false) && chained md ops (y :: t)
theorem chained_before {listed : Array Bool} (hcl : Closed md ops listed) : ∀ (l : List Nat) (x : Nat), chained md ops (x :: l) = true → ∀ y ∈ l, (listed.getD y false = true ∨ y ∈ Region.ready md ops listed) → listed.getD x false = true
 | [], _, _, y, h, _ => by cases h
 | z :: t, x, h, y, hy, hl => by
  simp only [chained, Bool.and_eq_true] at h
  obtain ⟨⟨_, h1⟩, h2⟩ := h
  have hz : listed.getD z false = true ∨ z ∈ Region.ready md ops listed := by
   rcases List.mem_cons.1 hy with rfl | hy
   · exact hl
   · exact .inl (chained_before hcl t z h2 y hy hl)
  cases ho : ops[z]? with
  | none => rw [ho] at h1; cases h1
  | some o =>
   rw [ho] at h1
   obtain ⟨e, he, hb⟩ := Array.any_eq_true'.1 h1
   rw [Bool.and_eq_true, beq_iff_eq] at hb
   rw [← hb.2]
   rcases hz with hz | hz
   · exact hcl z o ho hz e he hb.1
   · obtain ⟨_, o', ho', hall⟩ := mem_ready.1 hz
     obtain rfl : o = o' := Option.some.inj (ho.symm.trans ho')
     exact hall e he hb.1
theorem unlisted_of_ready {listed : Array Bool} {x : Nat} (h : x ∈ Region.ready md ops listed) : listed.getD x false = false := by
 have h0 := (mem_ready.1 h).1
 rcases Nat.lt_or_ge x listed.size with h' | h'
 · simp [h'] at h0 ⊢; exact h0
 · simp [Array.getElem?_eq_none h'] at h0
theorem chained_excl {listed : Array Bool} (hcl : Closed md ops listed) : ∀ (l : List Nat), chained md ops l = true → ∀ i ∈ l, ∀ j ∈ l, i ∈ Region.ready md ops listed → j ∈ Region.ready md ops listed → i = j
 | [], _, i, hi, _, _, _, _ => by cases hi
 | x :: t, h, i, hi, j, hj, hri, hrj => by
  have ht : chained md ops t = true := by
   cases t with
   | nil => rfl
   | cons y t => simp only [chained, Bool.and_eq_true] at h; exact h.2
  rcases List.mem_cons.1 hi with e1 | h1 <;> rcases List.mem_cons.1 hj with e2 | h2
  · rw [e1, e2]
  · subst e1; have := chained_before hcl t i h j h2 (.inr hrj); rw [unlisted_of_ready hri] at this; cases this
  · subst e2; have := chained_before hcl t j h i h1 (.inr hri); rw [unlisted_of_ready hrj] at this; cases this
  · exact chained_excl hcl t ht i h1 j h2 hri hrj
def SeqM (P : Program) (ops : Array Oper) (S : Nat → World → Prop) (m : Nat) (mover : Nat → Bool) (fin : Act → Prop) : List Oper → Nat → Nat → Act → Prop
 | [], _, s, a => s = m ∧ fin a
 | o :: rest, k, s, a => ∃ v, YM P ops S m (mover k) s o v a ∧ up (mover k) s ≤ m ∧ SeqM P ops S m mover fin rest (k + 1) (up (mover k) s) (a.put o.dst v)
theorem pre_getD {n k j : Nat} (d : Bool) (h : j < n) : (pre n k).getD j d = decide (j < k) := by
 have hp : j < (pre n k).size := by simp [pre]; exact h
 rw [Array.getD_eq_getD_getElem?, Array.getElem?_eq_getElem hp]
 simp [pre]
theorem certM_of_seq {fin : Act → Prop} (hok : textOk md ops = true) (hl : l = ops.size ∨ l + 1 = ops.size) (hfin : ∀ n a, n + l = ops.size → fin a → ∀ w, S m w → wpAny P md ops Q n (pre ops.size l) a w) :
 ∀ (rest : List Oper) (k s : Nat) (a : Act), (ops.toList.take l).drop k = rest → k ≤ l → SeqM P ops S m mover fin rest k s a → CertM P md ops Q S m mover l (rest.length + (ops.size - l)) (pre ops.size k) a s := by
 intro rest
 induction rest with
 | nil =>
  intro k s a hd hk h
  obtain ⟨rfl, h⟩ := h
  have hkl : k = l := by
   have := congrArg List.length hd
   simp at this
   omega
  subst hkl
  refine .fin (fun i hi hne => ?_) (fun w hS => hfin _ a (by simp; omega) h w hS)
  rw [pre_getD _ hi, decide_eq_true_eq]; omega
 | cons o rest ih =>
  intro k s a hd hk h
  obtain ⟨v, hy, hle, hrest⟩ := h
  have hkl : k < l := by
   have := congrArg List.length hd; simp at this; omega
  have hlt : k < ops.size := by omega
  have ho : ops[k]? = some o := by
   have h1 : ((ops.toList.take l).drop k)[0]? = some o := by rw [hd]; rfl
   rw [List.getElem?_drop, List.getElem?_take, if_pos (by omega)] at h1
   simpa using h1
  unfold textOk at hok
  rw [Bool.and_eq_true, List.all_eq_true] at hok
  have hc := hok.2 k (List.mem_range.2 hlt)
  rw [Bool.and_eq_true] at hc
  rw [show (o :: rest).length + (ops.size - l) = rest.length + (ops.size - l) + 1 by simp; omega]
  refine .take ho (Region.free_spec ho hc.1) (by simpa using hc.2) hy hle ?_
  rw [pre_succ]
  refine ih (k + 1) _ _ ?_ (by omega) hrest
  rw [← List.drop_drop, hd]; rfl
theorem closed_none (n : Nat) (hn : n = ops.size) : Closed md ops (Array.replicate n false) := by
 intro j o ho hj
 exfalso
 have hlt := (Array.getElem?_eq_some_iff.1 ho).1
 subst hn
 simp [hlt] at hj
theorem wp_region_seqM {id : Nat} {a : Act} {w : World} (S : Nat → World → Prop) (movers : List Nat) (hm : P.follows .mixedOrders = true) (hok' : fastOk .any ops = true) (hch : chained .any ops movers = true) (hS : S 0 w.drew)
 (h : SeqM P ops S movers.length (fun k => movers.contains k) (fun a => ∀ w, S movers.length w → Q .normal a w) ops.toList 0 0 a) : (Code.region id ops true).wp P Q a w := by
 have hok := textOk_of hok'
 refine wp_region_any hm ?_
 have hc := certM_of_seq (l := ops.size) (Q := Q) hok (.inl rfl) (fun n a hn hf w hS => by
  obtain rfl : n = 0 := by omega
  refine ⟨?_, hf w hS⟩
  cases hr : Region.ready .any ops (pre ops.size ops.size) with
  | nil => rfl
  | cons j t =>
   exfalso
   have hj : j ∈ Region.ready .any ops (pre ops.size ops.size) := by rw [hr]; exact List.mem_cons_self
   obtain ⟨h0, o, ho, _⟩ := mem_ready.1 hj
   have hlt := (Array.getElem?_eq_some_iff.1 ho).1
   rw [pre_getD _ hlt] at h0; simp at h0; omega) ops.toList 0 0 a (by rw [← Array.length_toList, List.take_length, List.drop_zero]) (by omega) h
 rw [pre_zero, Nat.sub_self, Nat.add_zero, Array.length_toList] at hc
 have hsel : ∀ (j : Nat) (o : Oper) cs b, ops[j]? = some o → o.op ≠ .select cs b := by
  unfold textOk at hok; rw [Bool.and_eq_true] at hok; exact Region.noSelect_spec hok.1
 exact CertM.sound hsel (fun listed hcl i j hi hj h1 h2 => chained_excl hcl movers hch i (by simpa using h1) j (by simpa using h2) hi hj)
  (fun listed _ h => by obtain ⟨_, o, ho, _⟩ := mem_ready.1 h; have := (Array.getElem?_eq_some_iff.1 ho).1; omega) _ _ _ _ hc (closed_none _ rfl) w.drew hS
variable {fin : Act → Prop} {o : Oper} {rest : List Oper} {a : Act} {v : Value} {k s : Nat}
theorem seqM_nil (h : fin a) : SeqM P ops S m mover fin [] k m a := ⟨rfl, h⟩
theorem seqM_pure (hm : mover k = false) (hs : s ≤ m) (hw : Region.wanted o (yielded ops a.tmps) = true) (hy : ∀ j, j ≤ m → ∀ w, S j w → (execOp a.eval o).run P w = .ok (.value v) w) (h : SeqM P ops S m mover fin rest (k + 1) s (a.put o.dst v)) : SeqM P ops S m mover fin (o :: rest) k s a := by
 refine ⟨v, ?_, ?_, ?_⟩
 · rw [hm]; exact .inl ⟨hw, fun j hj w hS => by rw [hy j hj w hS]; exact ⟨rfl, hS⟩⟩
 · rw [hm]; exact hs
 · rw [hm]; exact h
theorem seqM_call {f : FuncId} {args : Array Value} (hm : mover k = true) (hs : s + 1 ≤ m) (hw : Region.wanted o (yielded ops a.tmps) = true) (hy : ∀ w, S s w → (execOp a.eval o).run P w = .ok (.enter f args) w)
 (hc : ∀ w, S s w → Calls P f args w fun e w' => e = .returned v ∧ S (s + 1) w') (h : SeqM P ops S m mover fin rest (k + 1) (s + 1) (a.put o.dst v)) : SeqM P ops S m mover fin (o :: rest) k s a := by
 refine ⟨v, ?_, ?_, ?_⟩
 · rw [hm]; exact ⟨hw, fun w hS => by rw [hy w hS]; exact hc w hS⟩
 · rw [hm]; exact hs
 · rw [hm]; exact h
theorem seqM_store {f : World → World} (hm : mover k = true) (hs : s + 1 ≤ m) (hw : Region.wanted o (yielded ops a.tmps) = true) (hy : ∀ w, S s w → (execOp a.eval o).run P w = .ok .skip (f w) ∧ S (s + 1) (f w))
 (h : SeqM P ops S m mover fin rest (k + 1) (s + 1) (a.put o.dst undef)) : SeqM P ops S m mover fin (o :: rest) k s a := by
 refine ⟨undef, ?_, ?_, ?_⟩
 · rw [hm]; exact ⟨hw, fun w hS => by rw [(hy w hS).1]; exact ⟨rfl, (hy w hS).2⟩⟩
 · rw [hm]; exact hs
 · rw [hm]; exact h
end
end Go.Proofs.Ytadilppdlbhjnaa
namespace Go.Proofs.Ytadilppdlbhjnaa
set_option linter.unusedSimpArgs false
set_option linter.unusedVariables false
open Go
section
variable {P : Program} {ops : Array Oper} {Q : Exit → Act → World → Prop} {md : Region.Mode}
def RStill (P : Program) (v : Value) (w : World) : Result Next → Prop
 | .ok (.value u) w' => u = v ∧ w' = w
 | .ok (.enter f args) w' => Calls P f args w' fun e w'' => e = .returned v ∧ w'' = w
 | _ => False
def YP (P : Program) (ops : Array Oper) (S : World → Prop) (o : Oper) (v : Value) (a : Act) : Prop :=
 (Region.wanted o (yielded ops a.tmps) = true ∧ ∀ w, S w → RStill P v w ((execOp a.eval o).run P w)) ∨
 (Region.wanted o (yielded ops a.tmps) = false ∧ v = undef)
def RTo (P : Program) (K : Value → World → Prop) : Result Next → Prop
 | .ok (.value u) w' => K u w'
 | .ok .skip w' => K undef w'
 | .ok (.enter f args) w' => Calls P f args w' fun e w'' => ∃ v, e = .returned v ∧ K v w''
 | _ => False
theorem RTo.mono {K K' : Value → World → Prop} {r : Result Next} (h : RTo P K r) (hk : ∀ v w, K v w → K' v w) : RTo P K' r := by
 cases r with
 | ok n w' =>
  cases n <;> simp only [RTo] at h ⊢
  case value u => exact hk _ _ h
  case skip => exact hk _ _ h
  case enter f args => exact Calls.mono h fun e w'' he => by obtain ⟨v, h1, h2⟩ := he; exact ⟨v, h1, hk _ _ h2⟩
 | halt x w' => exact h
theorem RTo.of_still {v : Value} {w : World} {r : Result Next} (h : RStill P v w r) {K : Value → World → Prop} (hk : K v w) : RTo P K r := by
 cases r with
 | ok n w' =>
  cases n <;> simp only [RStill, RTo] at h ⊢
  case value u => rw [h.1, h.2]; exact hk
  case enter f args => exact Calls.mono h fun e w'' he => by obtain ⟨h1, h2⟩ := he; subst h2; exact ⟨v, h1, hk⟩
 | halt x w' => exact absurd h (by simp [RStill])
theorem YP.of_same {S S' : World → Prop} {o : Oper} {v : Value} {a a' : Act} (hy : YP P ops S o v a) (hS : ∀ x, S' x → S x) (he : execOp a'.eval o = execOp a.eval o)
 (hw : Region.wanted o (yielded ops a'.tmps) = Region.wanted o (yielded ops a.tmps)) : YP P ops S' o v a' := by
 unfold YP at *
 rw [he, hw]
 rcases hy with ⟨h1, h2⟩ | h
 · exact .inl ⟨h1, fun w h => h2 w (hS w h)⟩
 · exact .inr h
theorem wpOp_to {i : Nat} {o : Oper} {a : Act} (hi : ops[i]? = some o) (hw : Region.wanted o (yielded ops a.tmps) = true)
 {K : Act → World → Prop} {w : World} (hr : RTo P (fun v w' => K (a.put o.dst v) w') ((execOp a.eval o).run P w)) : wpOp P ops Q i K a w := by
 unfold Go.wpOp
 simp only [hi, hw, if_true]
 refine .inl ?_
 unfold Oper.wp
 generalize (execOp a.eval o).run P w = r at *
 cases r with
 | ok n w' =>
  cases n <;> simp only [RTo] at hr <;> simp only [Oper.upon]
  case value u => exact hr
  case skip => exact hr
  case enter f args => exact Calls.mono hr fun e w'' he => by obtain ⟨v, rfl, hs⟩ := he; exact hs
 | halt x w' => exact absurd hr (by simp [RTo])
def CertD (P : Program) (md : Region.Mode) (ops : Array Oper) (Q : Exit → Act → World → Prop) : Nat → Array Bool → Act → (World → Prop) → Prop
 | 0, listed, a, S => Region.ready md ops listed = [] ∧ ∀ w, S w → Q .normal a w
 | n + 1, listed, a, S =>
  (∃ i oi v, ops[i]? = some oi ∧
   (∀ j oj, ops[j]? = some oj → j ≠ i → listed.getD j true = false → (∀ e ∈ oj.after, Region.binds md e = true → e.on ≠ i) → oi.apart ops oj = true) ∧
   i ∈ Region.ready md ops listed ∧ YP P ops S oi v a ∧ CertD P md ops Q n (listed.setIfInBounds i true) (a.put oi.dst v) S) ∨
  (∃ i oi, ops[i]? = some oi ∧ Region.ready md ops listed = [i] ∧ Region.wanted oi (yielded ops a.tmps) = true ∧
   ∀ w, S w → RTo P (fun v w' => ∃ S' : World → Prop, S' w' ∧ (∀ x, S' x → S x) ∧ CertD P md ops Q n (listed.setIfInBounds i true) (a.put oi.dst v) S') ((execOp a.eval oi).run P w))
def FrontD (P : Program) (md : Region.Mode) (ops : Array Oper) (Q : Exit → Act → World → Prop) (n : Nat) (listed : Array Bool) (a : Act) (S : World → Prop) (j : Nat) : Prop :=
 ∃ m oj, n = m + 1 ∧ ops[j]? = some oj ∧
  ((Region.wanted oj (yielded ops a.tmps) = true ∧ ∀ w, S w → RTo P (fun v w' => ∃ S' : World → Prop, S' w' ∧ (∀ x, S' x → S x) ∧ CertD P md ops Q m (listed.setIfInBounds j true) (a.put oj.dst v) S') ((execOp a.eval oj).run P w)) ∨
   (Region.wanted oj (yielded ops a.tmps) = false ∧ CertD P md ops Q m (listed.setIfInBounds j true) (a.put oj.dst undef) S))
theorem CertD.front (hsel : ∀ (j : Nat) (o : Oper) cs b, ops[j]? = some o → o.op ≠ .select cs b) :
 ∀ (n : Nat) (listed : Array Bool) (a : Act) (S : World → Prop), CertD P md ops Q n listed a S → ∀ j, j ∈ Region.ready md ops listed → FrontD P md ops Q n listed a S j := by
 intro n
 induction n with
 | zero => intro listed a S h j hj; rw [h.1] at hj; cases hj
 | succ n ih =>
  intro listed a S h j hj
  rcases h with ⟨i, oi, v, hi, hfree, hr, hy, hrest⟩ | ⟨i, oi, hi, hr, hw, hgo⟩
  · by_cases hji : j = i
    · subst hji
      refine ⟨n, oi, rfl, hi, ?_⟩
      rcases hy with ⟨h1, h2⟩ | ⟨h1, rfl⟩
      · exact .inl ⟨h1, fun w hS => RTo.of_still (h2 w hS) ⟨S, hS, fun _ h => h, hrest⟩⟩
      · exact .inr ⟨h1, hrest⟩
    · obtain ⟨m, oj, rfl, hoj, hc⟩ := ih _ _ _ hrest j (ready_mono hj hji)
      obtain ⟨hjun, oj', hoj', hall⟩ := mem_ready.1 hj
      obtain rfl : oj = oj' := Option.some.inj (hoj.symm.trans hoj')
      have hnot : ∀ e ∈ oj.after, Region.binds md e = true → e.on ≠ i := fun e he hb heq => by
       have h1 := hall e he hb
       have h0 := (mem_ready.1 hr).1
       rw [heq] at h1
       rcases Nat.lt_or_ge i listed.size with h' | h'
       · simp [h'] at h0 h1; rw [h0] at h1; cases h1
       · simp [Array.getElem?_eq_none h'] at h1
      obtain ⟨h1, h2, h3⟩ := Oper.apart_spec (hfree j oj hoj hji hjun hnot)
      have e1 := execOp_put oj (fun cs b => hsel j oj cs b hoj) a oi.dst v h1
      have e2 := wanted_put oj a oi.dst v h1
      have hfree' : ∀ k ok, ops[k]? = some ok → k ≠ i → (listed.setIfInBounds j true).getD k true = false →
       (∀ e ∈ ok.after, Region.binds md e = true → e.on ≠ i) → oi.apart ops ok = true := fun k ok hk hki hun hno => by
       refine hfree k ok hk hki ?_ hno
       by_cases hjk : j = k
       · subst hjk; exact hjun
       · rw [getD_set_ne true hjk] at hun; exact hun
      have back : ∀ (u : Value) (S' : World → Prop), (∀ x, S' x → S x) → CertD P md ops Q m ((listed.setIfInBounds i true).setIfInBounds j true) ((a.put oi.dst v).put oj.dst u) S' → CertD P md ops Q (m + 1) (listed.setIfInBounds j true) (a.put oj.dst u) S' := fun u S' hS hc => by
       refine .inl ⟨i, oi, v, hi, hfree', ready_mono hr (Ne.symm hji), hy.of_same hS (execOp_put oi (fun cs b => hsel i oi cs b hi) a oj.dst u h3) (wanted_put oi a oj.dst u h3), ?_⟩
       rw [Array.setIfInBounds_comm _ _ hji, ← Act.put_comm a v u h2]
       exact hc
      refine ⟨m + 1, oj, rfl, hoj, ?_⟩
      rcases hc with ⟨c1, c2⟩ | ⟨c1, c2⟩
      · refine .inl ⟨e2 ▸ c1, fun w hS => ?_⟩
        have := c2 w hS
        rw [e1] at this
        exact this.mono fun u w' hk => by obtain ⟨S', s1, s2, s3⟩ := hk; exact ⟨S', s1, s2, back u S' s2 s3⟩
      · exact .inr ⟨e2 ▸ c1, back undef S (fun _ h => h) c2⟩
  · rw [hr] at hj
    obtain rfl : j = i := by simpa using hj
    exact ⟨n, oi, rfl, hi, .inl ⟨hw, hgo⟩⟩
theorem CertD.sound (hsel : ∀ (j : Nat) (o : Oper) cs b, ops[j]? = some o → o.op ≠ .select cs b) :
 ∀ (n : Nat) (listed : Array Bool) (a : Act) (S : World → Prop), CertD P md ops Q n listed a S → ∀ w, S w → wpAny P md ops Q n listed a w := by
 intro n
 induction n with
 | zero => intro listed a S h w hS; exact ⟨h.1, h.2 w hS⟩
 | succ n ih =>
  intro listed a S h w hS
  refine ⟨fun hr => ?_, fun j hj => ?_⟩
  · exfalso
    rcases h with ⟨i, oi, v, hi, hfree, hr', hy, hrest⟩ | ⟨i, oi, hi, hr', hw, hgo⟩
    · rw [hr] at hr'; cases hr'
    · rw [hr] at hr'; cases hr'
  · obtain ⟨m, oj, hm, hoj, hc⟩ := CertD.front hsel _ _ _ _ h j hj
    obtain rfl : n = m := by omega
    rcases hc with ⟨c1, c2⟩ | ⟨c1, c2⟩
    · exact wpOp_to hoj c1 ((c2 w hS).mono fun v w' hk => by obtain ⟨S', s1, s2, s3⟩ := hk; exact ih _ _ _ s3 w' s1)
    · unfold Go.wpOp
      simp only [hoj, c1, Bool.false_eq_true, if_false]
      exact ih _ _ _ c2 w hS
def amask (md : Region.Mode) (o : Oper) : Nat := o.after.toList.foldl (fun m e => if Region.binds md e then Nat.lor m (Nat.shiftLeft 1 e.on) else m) 0
def rdy (am L i : Nat) : Bool := !Nat.testBit L i && Nat.beq (Nat.land am L) am
def onlyRdy (L i : Nat) : Nat → List Nat → Bool
 | _, [] => true
 | k, m :: t => (Nat.beq k i || !rdy m L k) && onlyRdy L i (k + 1) t
def lst (n L : Nat) : Array Bool := ((List.range n).map fun i => L.testBit i).toArray
theorem lst_getD (n L j : Nat) (d : Bool) (h : j < n) : (lst n L).getD j d = L.testBit j := by
 have hp : j < (lst n L).size := by simpa [lst] using h
 rw [Array.getD_eq_getD_getElem?, Array.getElem?_eq_getElem hp]
 simp [lst]
theorem lst_out (n L j : Nat) (d : Bool) (h : ¬ j < n) : (lst n L).getD j d = d := by
 rw [Array.getD_eq_getD_getElem?, Array.getElem?_eq_none (by simp [lst]; omega)]; rfl
theorem lst_set (n L i : Nat) : (lst n L).setIfInBounds i true = lst n (Nat.lor L (Nat.shiftLeft 1 i)) := by
 apply Array.ext
 · simp [lst]
 · intro j h1 h2
   rw [Array.getElem_setIfInBounds (by simpa using h1)]
   have e : Nat.testBit (Nat.lor L (Nat.shiftLeft 1 i)) j = (L.testBit j || decide (i = j)) := by
    show (L ||| (1 <<< i)).testBit j = _
    rw [Nat.testBit_or, Nat.one_shiftLeft, Nat.testBit_two_pow]
   simp only [lst, List.getElem_toArray, List.getElem_map, List.getElem_range, e]
   split
   · subst_vars; simp
   · rename_i hne; simp [hne]
theorem lst_zero (n : Nat) : lst n 0 = Array.replicate n false := by
 apply Array.ext
 · simp [lst]
 · intro j h1 h2; simp [lst]
theorem amask_bit (o : Oper) (j : Nat) : (amask md o).testBit j = true ↔ ∃ e ∈ o.after, Region.binds md e = true ∧ e.on = j := by
 have key : ∀ (l : List Edge) (m : Nat), (l.foldl (fun m e => if Region.binds md e then Nat.lor m (Nat.shiftLeft 1 e.on) else m) m).testBit j = true ↔ m.testBit j = true ∨ ∃ e ∈ l, Region.binds md e = true ∧ e.on = j := by
  intro l
  induction l with
  | nil => intro m; simp
  | cons e t ih =>
   intro m
   rw [List.foldl_cons, ih]
   by_cases hb : Region.binds md e = true
   · rw [if_pos hb]
     have e1 : Nat.testBit (Nat.lor m (Nat.shiftLeft 1 e.on)) j = (m.testBit j || decide (e.on = j)) := by
      show (m ||| (1 <<< e.on)).testBit j = _
      rw [Nat.testBit_or, Nat.one_shiftLeft, Nat.testBit_two_pow]
     rw [e1]
     simp only [Bool.or_eq_true, decide_eq_true_eq, List.mem_cons]
     constructor
     · rintro ((h | h) | ⟨x, hx, h⟩)
       · exact .inl h
       · exact .inr ⟨e, .inl rfl, hb, h⟩
       · exact .inr ⟨x, .inr hx, h⟩
     · rintro (h | ⟨x, rfl | hx, h1, h2⟩)
       · exact .inl (.inl h)
       · exact .inl (.inr h2)
       · exact .inr ⟨x, hx, h1, h2⟩
   · rw [if_neg hb]
     simp only [List.mem_cons]
     constructor
     · rintro (h | ⟨x, hx, h⟩)
       · exact .inl h
       · exact .inr ⟨x, .inr hx, h⟩
     · rintro (h | ⟨x, rfl | hx, h1, h2⟩)
       · exact .inl h
       · exact absurd h1 hb
       · exact .inr ⟨x, hx, h1, h2⟩
 unfold amask
 rw [key]
 simp
theorem rdy_iff {L i : Nat} {o : Oper} (hi : ops[i]? = some o) (hb : ∀ k, L.testBit k = true → k < ops.size) : rdy (amask md o) L i = true ↔ i ∈ Region.ready md ops (lst ops.size L) := by
 have hlt := (Array.getElem?_eq_some_iff.1 hi).1
 have hbeq : Nat.beq (Nat.land (amask md o) L) (amask md o) = true ↔ Nat.land (amask md o) L = amask md o := ⟨Nat.eq_of_beq_eq_true, fun h => by rw [h]; exact Nat.beq_refl _⟩
 unfold rdy
 rw [Bool.and_eq_true, hbeq, mem_ready, lst_getD _ _ _ _ hlt]
 constructor
 · rintro ⟨h1, h2⟩
   refine ⟨by simpa using h1, o, hi, fun e he hbd => ?_⟩
   have h3 : (amask md o).testBit e.on = true := (amask_bit o e.on).2 ⟨e, he, hbd, rfl⟩
   rw [← h2] at h3
   have h4 : (amask md o).testBit e.on = true ∧ L.testBit e.on = true := by
    have : ((amask md o) &&& L).testBit e.on = true := h3
    rw [Nat.testBit_and, Bool.and_eq_true] at this; exact this
   rw [lst_getD _ _ _ _ (hb _ h4.2)]; exact h4.2
 · rintro ⟨h1, o', ho', hall⟩
   obtain rfl : o = o' := Option.some.inj (hi.symm.trans ho')
   refine ⟨by simpa using h1, Nat.eq_of_testBit_eq fun k => ?_⟩
   show ((amask md o) &&& L).testBit k = _
   rw [Nat.testBit_and]
   cases hk : (amask md o).testBit k with
   | false => rfl
   | true =>
    obtain ⟨e, he, hbd, rfl⟩ := (amask_bit o k).1 hk
    have h3 := hall e he hbd
    by_cases hl : e.on < ops.size
    · rw [lst_getD _ _ _ _ hl] at h3; rw [h3]; rfl
    · rw [lst_out _ _ _ _ hl] at h3; cases h3
theorem onlyRdy_spec {L i : Nat} : ∀ (ms : List Nat) (k : Nat), onlyRdy L i k ms = true → ∀ j m, ms[j]? = some m → k + j = i ∨ rdy m L (k + j) = false
 | [], k, _, j, m, h => by simp at h
 | m0 :: t, k, h, j, m, hj => by
  simp only [onlyRdy, Bool.and_eq_true, Bool.or_eq_true, Bool.not_eq_true'] at h
  cases j with
  | zero =>
   obtain rfl : m0 = m := by simpa using hj
   rcases h.1 with h1 | h1
   · exact .inl (Nat.eq_of_beq_eq_true h1)
   · exact .inr h1
  | succ j =>
   rcases onlyRdy_spec t (k + 1) h.2 j m (by simpa using hj) with h1 | h1
   · exact .inl (by omega)
   · exact .inr (by rw [show k + (j + 1) = k + 1 + j by omega]; exact h1)
theorem ready_range {listed : Array Bool} {j : Nat} (h : j ∈ Region.ready md ops listed) : j < ops.size := by
 obtain ⟨_, o, ho, _⟩ := mem_ready.1 h; exact (Array.getElem?_eq_some_iff.1 ho).1
def SeqD (P : Program) (ops : Array Oper) (Q : Exit → Act → World → Prop) : List (Nat × Bool) → Act → (World → Prop) → Prop
 | [], a, S => ∀ w, S w → Q .normal a w
 | (i, false) :: rest, a, S => ∃ oi v, ops[i]? = some oi ∧ YP P ops S oi v a ∧ SeqD P ops Q rest (a.put oi.dst v) S
 | (i, true) :: rest, a, S => ∃ oi, ops[i]? = some oi ∧ Region.wanted oi (yielded ops a.tmps) = true ∧
  ∀ w, S w → RTo P (fun v w' => ∃ S' : World → Prop, S' w' ∧ (∀ x, S' x → S x) ∧ SeqD P ops Q rest (a.put oi.dst v) S') ((execOp a.eval oi).run P w)
theorem apart_symm {x y : Oper} (h : x.apart ops y = true) : y.apart ops x = true := by
 unfold Oper.apart at *
 cases hx : x.dst <;> cases hy : y.dst <;> simp only [hx, hy] at h ⊢ <;> simp_all
 exact fun e => h.1.2 e.symm
variable {S : World → Prop} {o : Oper} {rest : List (Nat × Bool)} {a : Act} {v : Value} {i : Nat}
end
section
variable {P : Program} {ops : Array Oper} {Q : Exit → Act → World → Prop}
def SeqT (P : Program) (ops : Array Oper) (Q : Exit → Act → World → Prop) : List Oper → Act → (World → Prop) → Prop
 | [], a, S => ∀ w, S w → Q .normal a w
 | o :: rest, a, S =>
  (Region.wanted o (yielded ops a.tmps) = true ∧ ∀ w, S w → RTo P (fun v w' => ∃ S' : World → Prop, S' w' ∧ SeqT P ops Q rest (a.put o.dst v) S') ((execOp a.eval o).run P w)) ∨
  (Region.wanted o (yielded ops a.tmps) = false ∧ SeqT P ops Q rest (a.put o.dst undef) S)
theorem SeqT.sound : ∀ (l : List Oper) (a : Act) (S : World → Prop), SeqT P ops Q l a S → ∀ w, S w → wpList P ops Q l a w
 | [], a, S, h, w, hS => h w hS
 | o :: rest, a, S, h, w, hS => by
  unfold wpList
  rcases h with ⟨h1, h2⟩ | ⟨h1, h2⟩
  · rw [if_pos h1]
    refine .inl ?_
    have hr := h2 w hS
    unfold Oper.wp
    generalize (execOp a.eval o).run P w = r at *
    cases r with
    | ok n w' =>
     cases n <;> simp only [RTo] at hr <;> simp only [Oper.upon]
     case value u => obtain ⟨S', s1, s2⟩ := hr; exact SeqT.sound rest _ S' s2 _ s1
     case skip => obtain ⟨S', s1, s2⟩ := hr; exact SeqT.sound rest _ S' s2 _ s1
     case enter f args => exact Calls.mono hr fun e w'' he => by obtain ⟨v, rfl, S', s1, s2⟩ := he; exact SeqT.sound rest _ S' s2 _ s1
    | halt x w' => exact absurd hr (by simp [RTo])
  · rw [if_neg (by rw [h1]; exact Bool.false_ne_true)]
    exact SeqT.sound rest _ S h2 w hS
theorem wp_region_seqT' {id : Nat} {a : Act} {w : World} (S : World → Prop) (hS : S w) (h : SeqT P ops Q ops.toList a S) : (Code.region id ops false).wp P Q a w :=
 wp_region_list (SeqT.sound _ _ _ h w hS)
variable {S : World → Prop} {o : Oper} {rest : List Oper} {a : Act} {v : Value}
theorem seqT_nil (h : ∀ w, S w → Q .normal a w) : SeqT P ops Q [] a S := h
theorem seqT_pure (hw : Region.wanted o (yielded ops a.tmps) = true) (hy : ∀ w, S w → (execOp a.eval o).run P w = .ok (.value v) w) (h : SeqT P ops Q rest (a.put o.dst v) S) : SeqT P ops Q (o :: rest) a S :=
 .inl ⟨hw, fun w hS => by rw [hy w hS]; exact ⟨S, hS, h⟩⟩
theorem seqT_call {f : FuncId} {args : Array Value} (hw : Region.wanted o (yielded ops a.tmps) = true) (hy : ∀ w, S w → (execOp a.eval o).run P w = .ok (.enter f args) w)
 (hc : ∀ w, S w → Calls P f args w fun e w' => e = .returned v ∧ S w') (h : SeqT P ops Q rest (a.put o.dst v) S) : SeqT P ops Q (o :: rest) a S :=
 .inl ⟨hw, fun w hS => by rw [hy w hS]; exact (hc w hS).mono fun e w' he => ⟨v, he.1, S, he.2, h⟩⟩
end
end Go.Proofs.Ytadilppdlbhjnaa
namespace Go.Proofs.Ytadilppdlbhjnaa
set_option linter.unusedSimpArgs false
set_option linter.unusedVariables false
open Go
section
variable {P : Program} {ops : Array Oper} {Q : Exit → Act → World → Prop} {md : Region.Mode}
def upM (ms : List Nat) (L : Nat) : Nat → List Nat → Nat
 | _, [] => L
 | k, m :: t => upM ms (if Nat.testBit L k then Nat.lor L m else L) (k + 1) t
def ancs (ms : List Nat) : Nat → Nat → Nat
 | 0, L => L
 | n + 1, L => ancs ms n (upM ms L 0 ms)
theorem upM_bits (ms : List Nat) (G : Nat → Prop) : ∀ (t : List Nat) (k L : Nat), (∀ i m, t[i]? = some m → G (k + i) → ∀ j, m.testBit j = true → G j) → (∀ j, L.testBit j = true → G j) → ∀ j, (upM ms L k t).testBit j = true → G j
 | [], _, _, _, hL, j, h => hL j h
 | m :: t, k, L, ht, hL, j, h => by
  unfold upM at h
  refine upM_bits ms G t (k + 1) _ (fun i m' hi hg => ht (i + 1) m' (by simpa using hi) (by rw [show k + (i + 1) = k + 1 + i by omega]; exact hg)) (fun j hj => ?_) j h
  split at hj
  · rename_i hk
    have e : Nat.testBit (Nat.lor L m) j = (L.testBit j || m.testBit j) := by
     show (L ||| m).testBit j = _
     rw [Nat.testBit_or]
    rw [e, Bool.or_eq_true] at hj
    rcases hj with hj | hj
    · exact hL j hj
    · exact ht 0 m (by simp) (hL _ hk) j hj
  · exact hL j hj
theorem ancs_bits (ms : List Nat) (G : Nat → Prop) (hm : ∀ i m, ms[i]? = some m → G i → ∀ j, m.testBit j = true → G j) : ∀ (n L : Nat), (∀ j, L.testBit j = true → G j) → ∀ j, (ancs ms n L).testBit j = true → G j
 | 0, _, hL, j, h => hL j h
 | n + 1, L, hL, j, h => ancs_bits ms G hm n _ (fun j hj => upM_bits ms G ms 0 L (fun i m hi hg => hm i m hi (by rw [Nat.zero_add] at hg; exact hg)) hL j hj) j h
inductive OT where
 | nil
 | one (i k : Nat) (rest : OT)
 | alt (i k : Nat) (rest more : OT)
 | stop
def OT.all : OT → List (Nat × Nat)
 | .nil => []
 | .stop => []
 | .one i k r => (i, k) :: r.all
 | .alt i k r m => (i, k) :: (r.all ++ m.all)
def OT.heads : OT → List Nat
 | .alt i _ _ m => i :: m.heads
 | _ => []
def barOk (ms : List Nat) (order : List (Nat × Nat)) : Bool :=
 order.all fun x => !Nat.beq x.2 3 || order.all fun y => !Nat.beq y.2 0 || Nat.testBit (ancs ms ms.length (ms.getD x.1 0)) y.1 || Nat.testBit (ancs ms ms.length (ms.getD y.1 0)) x.1
theorem anc_listed {listed : Array Bool} (hcl : Closed md ops listed) {j : Nat} (hj : j ∈ Region.ready md ops listed) {k n : Nat} (h : (ancs (ops.toList.map (amask md)) n ((ops.toList.map (amask md)).getD j 0)).testBit k = true) : listed.getD k false = true := by
 refine ancs_bits (ops.toList.map (amask md)) (fun k => listed.getD k false = true) ?_ n _ ?_ k h
 · intro i m hi hg j hj
   rw [List.getElem?_map] at hi
   cases ho : ops.toList[i]? with
   | none => rw [ho] at hi; cases hi
   | some o =>
    rw [ho] at hi
    obtain rfl : amask md o = m := by simpa using hi
    obtain ⟨e, he, hb, rfl⟩ := (amask_bit o j).1 hj
    exact hcl i o (by simpa using ho) hg e he hb
 · intro k hk
   obtain ⟨_, o, ho, hall⟩ := mem_ready.1 hj
   have hg : (ops.toList.map (amask md)).getD j 0 = amask md o := by
    rw [List.getD_eq_getElem?_getD, List.getElem?_map]
    have : ops.toList[j]? = some o := by simpa using ho
    rw [this]; rfl
   rw [hg] at hk
   obtain ⟨e, he, hb, rfl⟩ := (amask_bit o k).1 hk
   exact hall e he hb
def Part (md : Region.Mode) (ops : Array Oper) (dep bar : Nat → Bool) : Prop :=
 ∀ i j, dep i = true → bar j = true → ∀ listed, Closed md ops listed → i ∈ Region.ready md ops listed → j ∈ Region.ready md ops listed → False
def CertE (P : Program) (md : Region.Mode) (ops : Array Oper) (dep bar : Nat → Bool) (Q : Exit → Act → World → Prop) : Nat → Array Bool → Act → (World → Prop) → Prop
 | 0, listed, a, S => Region.ready md ops listed = [] ∧ ∀ w, S w → Q .normal a w
 | n + 1, listed, a, S =>
  (∃ i oi v, ops[i]? = some oi ∧
   (∀ j oj, ops[j]? = some oj → j ≠ i → listed.getD j true = false → (∀ e ∈ oj.after, Region.binds md e = true → e.on ≠ i) → oi.apart ops oj = true) ∧
   i ∈ Region.ready md ops listed ∧ (YP P ops S oi v a ∧ dep i = true ∨ YP P ops (fun _ => True) oi v a) ∧ CertE P md ops dep bar Q n (listed.setIfInBounds i true) (a.put oi.dst v) S) ∨
  (Region.ready md ops listed ≠ [] ∧ ∀ i, i ∈ Region.ready md ops listed → ∃ oi, ops[i]? = some oi ∧ Region.wanted oi (yielded ops a.tmps) = true ∧
   ∀ w, S w → RTo P (fun v w' => ∃ S' : World → Prop, S' w' ∧ ((∀ x, S' x → S x) ∨ bar i = true) ∧ CertE P md ops dep bar Q n (listed.setIfInBounds i true) (a.put oi.dst v) S') ((execOp a.eval oi).run P w))
def FrontE (P : Program) (md : Region.Mode) (ops : Array Oper) (dep bar : Nat → Bool) (Q : Exit → Act → World → Prop) (n : Nat) (listed : Array Bool) (a : Act) (S : World → Prop) (j : Nat) : Prop :=
 ∃ m oj, n = m + 1 ∧ ops[j]? = some oj ∧
  ((Region.wanted oj (yielded ops a.tmps) = true ∧ ∀ w, S w → RTo P (fun v w' => ∃ S' : World → Prop, S' w' ∧ ((∀ x, S' x → S x) ∨ bar j = true) ∧ CertE P md ops dep bar Q m (listed.setIfInBounds j true) (a.put oj.dst v) S') ((execOp a.eval oj).run P w)) ∨
   (Region.wanted oj (yielded ops a.tmps) = false ∧ CertE P md ops dep bar Q m (listed.setIfInBounds j true) (a.put oj.dst undef) S))
variable {dep bar : Nat → Bool}
theorem CertE.front (hsel : ∀ (j : Nat) (o : Oper) cs b, ops[j]? = some o → o.op ≠ .select cs b) (hpart : Part md ops dep bar) :
 ∀ (n : Nat) (listed : Array Bool) (a : Act) (S : World → Prop), Closed md ops listed → CertE P md ops dep bar Q n listed a S → ∀ j, j ∈ Region.ready md ops listed → FrontE P md ops dep bar Q n listed a S j := by
 intro n
 induction n with
 | zero => intro listed a S _ h j hj; rw [h.1] at hj; cases hj
 | succ n ih =>
  intro listed a S hcl h j hj
  rcases h with ⟨i, oi, v, hi, hfree, hr, hy, hrest⟩ | ⟨_, hgo⟩
  · by_cases hji : j = i
    · subst hji
      refine ⟨n, oi, rfl, hi, ?_⟩
      have hy' : YP P ops S oi v a := by
       rcases hy with h | h
       · exact h.1
       · exact h.of_same (fun _ _ => trivial) rfl rfl
      rcases hy' with ⟨h1, h2⟩ | ⟨h1, rfl⟩
      · exact .inl ⟨h1, fun w hS => RTo.of_still (h2 w hS) ⟨S, hS, .inl fun _ h => h, hrest⟩⟩
      · exact .inr ⟨h1, hrest⟩
    · obtain ⟨m, oj, rfl, hoj, hc⟩ := ih _ _ _ (hcl.step hr) hrest j (ready_mono hj hji)
      obtain ⟨hjun, oj', hoj', hall⟩ := mem_ready.1 hj
      obtain rfl : oj = oj' := Option.some.inj (hoj.symm.trans hoj')
      have hnot : ∀ e ∈ oj.after, Region.binds md e = true → e.on ≠ i := fun e he hb heq => by
       have h1 := hall e he hb
       have h0 := (mem_ready.1 hr).1
       rw [heq] at h1
       rcases Nat.lt_or_ge i listed.size with h' | h'
       · simp [h'] at h0 h1; rw [h0] at h1; cases h1
       · simp [Array.getElem?_eq_none h'] at h1
      obtain ⟨h1, h2, h3⟩ := Oper.apart_spec (hfree j oj hoj hji hjun hnot)
      have e1 := execOp_put oj (fun cs b => hsel j oj cs b hoj) a oi.dst v h1
      have e2 := wanted_put oj a oi.dst v h1
      have hfree' : ∀ k ok, ops[k]? = some ok → k ≠ i → (listed.setIfInBounds j true).getD k true = false →
       (∀ e ∈ ok.after, Region.binds md e = true → e.on ≠ i) → oi.apart ops ok = true := fun k ok hk hki hun hno => by
       refine hfree k ok hk hki ?_ hno
       by_cases hjk : j = k
       · subst hjk; exact hjun
       · rw [getD_set_ne true hjk] at hun; exact hun
      have e3 := fun u => execOp_put oi (fun cs b => hsel i oi cs b hi) a oj.dst u h3
      have e4 := fun u => wanted_put oi a oj.dst u h3
      have back : ∀ (u : Value) (S' : World → Prop), ((∀ x, S' x → S x) ∨ bar j = true) → CertE P md ops dep bar Q m ((listed.setIfInBounds i true).setIfInBounds j true) ((a.put oi.dst v).put oj.dst u) S' → CertE P md ops dep bar Q (m + 1) (listed.setIfInBounds j true) (a.put oj.dst u) S' := fun u S' hS hc => by
       refine .inl ⟨i, oi, v, hi, hfree', ready_mono hr (Ne.symm hji), ?_, ?_⟩
       · rcases hy with ⟨hy, hd⟩ | hy
         · rcases hS with hS | hb
           · exact .inl ⟨hy.of_same hS (e3 u) (e4 u), hd⟩
           · exact absurd (hpart i j hd hb listed hcl hr hj) id
         · exact .inr (hy.of_same (fun _ h => h) (e3 u) (e4 u))
       · rw [Array.setIfInBounds_comm _ _ hji, ← Act.put_comm a v u h2]
         exact hc
      refine ⟨m + 1, oj, rfl, hoj, ?_⟩
      rcases hc with ⟨c1, c2⟩ | ⟨c1, c2⟩
      · refine .inl ⟨e2 ▸ c1, fun w hS => ?_⟩
        have := c2 w hS
        rw [e1] at this
        exact this.mono fun u w' hk => by obtain ⟨S', s1, s2, s3⟩ := hk; exact ⟨S', s1, s2, back u S' s2 s3⟩
      · exact .inr ⟨e2 ▸ c1, back undef S (.inl fun _ h => h) c2⟩
  · obtain ⟨oi, hi, hw, hg⟩ := hgo j hj
    exact ⟨n, oi, rfl, hi, .inl ⟨hw, hg⟩⟩
theorem CertE.sound (hsel : ∀ (j : Nat) (o : Oper) cs b, ops[j]? = some o → o.op ≠ .select cs b) (hpart : Part md ops dep bar) :
 ∀ (n : Nat) (listed : Array Bool) (a : Act) (S : World → Prop), Closed md ops listed → CertE P md ops dep bar Q n listed a S → ∀ w, S w → wpAny P md ops Q n listed a w := by
 intro n
 induction n with
 | zero => intro listed a S _ h w hS; exact ⟨h.1, h.2 w hS⟩
 | succ n ih =>
  intro listed a S hcl h w hS
  refine ⟨fun hr => ?_, fun j hj => ?_⟩
  · exfalso
    rcases h with ⟨i, oi, v, hi, hfree, hr', hy, hrest⟩ | ⟨hne, hgo⟩
    · rw [hr] at hr'; cases hr'
    · exact hne hr
  · obtain ⟨m, oj, hm, hoj, hc⟩ := CertE.front hsel hpart _ _ _ _ hcl h j hj
    obtain rfl : n = m := by omega
    have hcl' := hcl.step hj
    rcases hc with ⟨c1, c2⟩ | ⟨c1, c2⟩
    · exact wpOp_to hoj c1 ((c2 w hS).mono fun v w' hk => by obtain ⟨S', s1, s2, s3⟩ := hk; exact ih _ _ _ hcl' s3 w' s1)
    · unfold Go.wpOp
      simp only [hoj, c1, Bool.false_eq_true, if_false]
      exact ih _ _ _ hcl' c2 w hS
def SeqE (P : Program) (ops : Array Oper) (Q : Exit → Act → World → Prop) : OT → Act → (World → Prop) → Prop
 | .nil, a, S => ∀ w, S w → Q .normal a w
 | .stop, _, _ => True
 | .one i k rest, a, S => ∃ oi v, ops[i]? = some oi ∧ (YP P ops S oi v a ∧ k = 0 ∨ YP P ops (fun _ => True) oi v a) ∧ SeqE P ops Q rest (a.put oi.dst v) S
 | .alt i k rest more, a, S => (∃ oi, ops[i]? = some oi ∧ Region.wanted oi (yielded ops a.tmps) = true ∧
  ∀ w, S w → RTo P (fun v w' => ∃ S' : World → Prop, S' w' ∧ ((∀ x, S' x → S x) ∨ k = 3) ∧ SeqE P ops Q rest (a.put oi.dst v) S') ((execOp a.eval oi).run P w)) ∧ SeqE P ops Q more a S
def rdySub (L : Nat) (hs : List Nat) : Nat → List Nat → Bool
 | _, [] => true
 | k, m :: t => (hs.any (Nat.beq k) || !rdy m L k) && rdySub L hs (k + 1) t
def ordE (ms : List Nat) : Nat → Bool → OT → Nat → Bool
 | n, true, .nil, L => Nat.beq n 0 && onlyRdy L ms.length 0 ms
 | _, false, .nil, _ => false
 | _, b, .stop, _ => !b
 | n, true, .one i k rest, L => (match ms[i]? with | some m => rdy m L i | none => false) && Nat.ble k 1 && Nat.ble 1 n && ordE ms (n - 1) true rest (Nat.lor L (Nat.shiftLeft 1 i))
 | _, false, .one _ _ _, _ => false
 | n, b, .alt i k rest more, L => (match ms[i]? with | some m => rdy m L i | none => false) && Nat.ble 1 n && (!b || rdySub L (i :: more.heads) 0 ms) && ordE ms (n - 1) true rest (Nat.lor L (Nat.shiftLeft 1 i)) && ordE ms n false more L
theorem rdySub_spec {L : Nat} {hs : List Nat} : ∀ (ms : List Nat) (k : Nat), rdySub L hs k ms = true → ∀ j m, ms[j]? = some m → k + j ∈ hs ∨ rdy m L (k + j) = false
 | [], k, _, j, m, h => by simp at h
 | m0 :: t, k, h, j, m, hj => by
  simp only [rdySub, Bool.and_eq_true, Bool.or_eq_true, Bool.not_eq_true'] at h
  cases j with
  | zero =>
   obtain rfl : m0 = m := by simpa using hj
   rcases h.1 with h1 | h1
   · left
     obtain ⟨x, hx, hb⟩ := List.any_eq_true.1 h1
     rw [Nat.add_zero, Nat.eq_of_beq_eq_true hb]; exact hx
   · exact .inr h1
  | succ j =>
   rcases rdySub_spec t (k + 1) h.2 j m (by simpa using hj) with h1 | h1
   · exact .inl (by rw [show k + (j + 1) = k + 1 + j by omega]; exact h1)
   · exact .inr (by rw [show k + (j + 1) = k + 1 + j by omega]; exact h1)
theorem certE_of_seq (hok : fastOk md ops = true) : ∀ (ot : OT) (n L : Nat) (a : Act) (S : World → Prop), (∀ i, (i, 0) ∈ ot.all → dep i = true) → (∀ i, (i, 3) ∈ ot.all → bar i = true) → (∀ k, L.testBit k = true → k < ops.size) → SeqE P ops Q ot a S →
 (ordE (ops.toList.map (amask md)) n true ot L = true → CertE P md ops dep bar Q n (lst ops.size L) a S) ∧
 (ordE (ops.toList.map (amask md)) n false ot L = true → ∃ m, (ot.heads ≠ [] → n = m + 1) ∧ ∀ i ∈ ot.heads, i ∈ Region.ready md ops (lst ops.size L) ∧ ∃ oi, ops[i]? = some oi ∧ Region.wanted oi (yielded ops a.tmps) = true ∧
  ∀ w, S w → RTo P (fun v w' => ∃ S' : World → Prop, S' w' ∧ ((∀ x, S' x → S x) ∨ bar i = true) ∧ CertE P md ops dep bar Q m ((lst ops.size L).setIfInBounds i true) (a.put oi.dst v) S') ((execOp a.eval oi).run P w)) := by
 have get : ∀ (j : Nat) (o : Oper), ops[j]? = some o → (ops.toList.map (amask md))[j]? = some (amask md o) := by
  intro j o ho
  rw [List.getElem?_map]
  have : ops.toList[j]? = some o := by simpa using ho
  rw [this]; rfl
 have getR : ∀ (j : Nat) (o : Oper), ops[j]? = some o → (ops.toList.map (orow md ops))[j]? = some (orow md ops o) := by
  intro j o ho
  rw [List.getElem?_map]
  have : ops.toList[j]? = some o := by simpa using ho
  rw [this]; rfl
 have hpairs : ∀ (i j : Nat) (oi oj : Oper), i < j → ops[i]? = some oi → ops[j]? = some oj → (∃ e ∈ oj.after, Region.binds md e = true ∧ e.on = i) ∨ oi.apart ops oj = true := by
  intro i j oi oj hij hi hj
  unfold fastOk at hok
  rw [Bool.and_eq_true] at hok
  have hs := (pairsOk_spec _ 0 hok.2 i _ (getR i oi hi)).2 j _ hij (getR j oj hj)
  rcases hs with h | h
  · left
    have hm : (0 + i) ∈ (orow md ops oj).2.2 := by simpa using h
    obtain ⟨e, he, hek⟩ := List.mem_map.1 hm
    rw [List.mem_filter] at he
    exact ⟨e, by simpa using he.1, he.2, by omega⟩
  · exact .inr (apartR_spec h)
 have step : ∀ i L, (∀ k, L.testBit k = true → k < ops.size) → (match (ops.toList.map (amask md))[i]? with | some m => rdy m L i | none => false) = true → ∀ oi, ops[i]? = some oi → i ∈ Region.ready md ops (lst ops.size L) ∧ (∀ k, (Nat.lor L (Nat.shiftLeft 1 i)).testBit k = true → k < ops.size) := by
  intro i L hL ho1 oi hi
  rw [get i oi hi] at ho1
  refine ⟨(rdy_iff hi hL).1 ho1, fun k hk => ?_⟩
  have e : Nat.testBit (Nat.lor L (Nat.shiftLeft 1 i)) k = (L.testBit k || decide (i = k)) := by
   show (L ||| (1 <<< i)).testBit k = _
   rw [Nat.testBit_or, Nat.one_shiftLeft, Nat.testBit_two_pow]
  rw [e, Bool.or_eq_true, decide_eq_true_eq] at hk
  rcases hk with hk | rfl
  · exact hL k hk
  · exact (Array.getElem?_eq_some_iff.1 hi).1
 have free : ∀ i L oi, ops[i]? = some oi → i ∈ Region.ready md ops (lst ops.size L) → ∀ j oj, ops[j]? = some oj → j ≠ i → (lst ops.size L).getD j true = false → (∀ e ∈ oj.after, Region.binds md e = true → e.on ≠ i) → oi.apart ops oj = true := by
  intro i L oi hi s1 j oj hj hji hun hno
  rcases Nat.lt_or_ge i j with hlt | hge
  · rcases hpairs i j oi oj hlt hi hj with ⟨e, he, hb, heq⟩ | h
    · exact absurd heq (hno e he hb)
    · exact h
  · have hlt : j < i := by omega
    rcases hpairs j i oj oi hlt hj hi with ⟨e, he, hb, heq⟩ | h
    · exfalso
      obtain ⟨_, o', ho', hall⟩ := mem_ready.1 s1
      obtain rfl : oi = o' := Option.some.inj (hi.symm.trans ho')
      have h1 := hall e he hb
      rw [heq, lst_getD _ _ _ _ (Array.getElem?_eq_some_iff.1 hj).1] at h1
      rw [lst_getD _ _ _ _ (Array.getElem?_eq_some_iff.1 hj).1, h1] at hun
      cases hun
    · exact apart_symm h
 intro ot
 induction ot with
 | nil =>
  intro n L a S _ _ hL h
  refine ⟨fun ho => ?_, fun ho => by simp [ordE] at ho⟩
  simp only [ordE, Bool.and_eq_true] at ho
  obtain rfl := Nat.eq_of_beq_eq_true ho.1
  refine ⟨?_, h⟩
  cases hr : Region.ready md ops (lst ops.size L) with
  | nil => rfl
  | cons j t =>
   exfalso
   have hj : j ∈ Region.ready md ops (lst ops.size L) := by rw [hr]; exact List.mem_cons_self
   have hjl := ready_range hj
   obtain ⟨o, hoj⟩ : ∃ o, ops[j]? = some o := ⟨_, Array.getElem?_eq_getElem hjl⟩
   have := onlyRdy_spec _ 0 ho.2 j _ (get j o hoj)
   rcases this with h1 | h1
   · simp at h1; omega
   · rw [Nat.zero_add] at h1
     rw [(rdy_iff hoj hL).2 hj] at h1; cases h1
 | stop =>
  intro n L a S _ _ hL h
  exact ⟨fun ho => by simp [ordE] at ho, fun _ => ⟨0, fun hn => absurd rfl hn, fun i hi => by cases hi⟩⟩
 | one i k rest ih =>
  intro n L a S hd hb hL h
  refine ⟨fun ho => ?_, fun ho => by simp [ordE] at ho⟩
  simp only [ordE, Bool.and_eq_true] at ho
  obtain ⟨⟨⟨ho1, ho2⟩, hn⟩, ho3⟩ := ho
  have hn := Nat.le_of_ble_eq_true hn
  obtain ⟨oi, v, hi, hy, hrest⟩ := h
  obtain ⟨s1, s2⟩ := step i L hL ho1 oi hi
  obtain ⟨m, rfl⟩ : ∃ m, n = m + 1 := ⟨n - 1, by omega⟩
  refine .inl ⟨i, oi, v, hi, free i L oi hi s1, s1, ?_, ?_⟩
  · rcases hy with ⟨hy, rfl⟩ | hy
    · exact .inl ⟨hy, hd i (List.mem_cons_self ..)⟩
    · exact .inr hy
  · rw [lst_set]
    exact (ih m _ _ _ (fun i hi => hd i (List.mem_cons_of_mem _ hi)) (fun i hi => hb i (List.mem_cons_of_mem _ hi)) s2 hrest).1 ho3
 | alt i k rest more ih1 ih2 =>
  intro n L a S hd hb hL h
  have hd1 : ∀ i, (i, 0) ∈ rest.all → dep i = true := fun i hi => hd i (List.mem_cons_of_mem _ (List.mem_append.2 (.inl hi)))
  have hd2 : ∀ i, (i, 0) ∈ more.all → dep i = true := fun i hi => hd i (List.mem_cons_of_mem _ (List.mem_append.2 (.inr hi)))
  have hb1 : ∀ i, (i, 3) ∈ rest.all → bar i = true := fun i hi => hb i (List.mem_cons_of_mem _ (List.mem_append.2 (.inl hi)))
  have hb2 : ∀ i, (i, 3) ∈ more.all → bar i = true := fun i hi => hb i (List.mem_cons_of_mem _ (List.mem_append.2 (.inr hi)))
  obtain ⟨⟨oi, hi, hw, hgo⟩, hmore⟩ := h
  have key : ∀ b, ordE (ops.toList.map (amask md)) n b (.alt i k rest more) L = true → ∃ m, n = m + 1 ∧ ∀ j ∈ OT.heads (.alt i k rest more), j ∈ Region.ready md ops (lst ops.size L) ∧ ∃ oi, ops[j]? = some oi ∧ Region.wanted oi (yielded ops a.tmps) = true ∧
   ∀ w, S w → RTo P (fun v w' => ∃ S' : World → Prop, S' w' ∧ ((∀ x, S' x → S x) ∨ bar j = true) ∧ CertE P md ops dep bar Q m ((lst ops.size L).setIfInBounds j true) (a.put oi.dst v) S') ((execOp a.eval oi).run P w) := by
   intro b ho
   simp only [ordE, Bool.and_eq_true] at ho
   obtain ⟨⟨⟨⟨ho1, hn⟩, _⟩, ho3⟩, ho4⟩ := ho
   have hn := Nat.le_of_ble_eq_true hn
   obtain ⟨m, rfl⟩ : ∃ m, n = m + 1 := ⟨n - 1, by omega⟩
   obtain ⟨s1, s2⟩ := step i L hL ho1 oi hi
   refine ⟨m, rfl, fun j hj => ?_⟩
   rcases List.mem_cons.1 hj with rfl | hj
   · refine ⟨s1, oi, hi, hw, fun w hS => (hgo w hS).mono fun v w' hk => ?_⟩
     obtain ⟨S', t1, t2, t3⟩ := hk
     exact ⟨S', t1, t2.imp id (fun e => by subst e; exact hb j (List.mem_cons_self ..)), by rw [lst_set]; exact (ih1 m _ _ _ hd1 hb1 s2 t3).1 ho3⟩
   · obtain ⟨m', e, hall⟩ := (ih2 (m + 1) L a S hd2 hb2 hL hmore).2 ho4
     obtain rfl : m = m' := by have := e (fun h0 => by rw [h0] at hj; cases hj); omega
     exact hall j hj
  refine ⟨fun ho => ?_, fun ho => ?_⟩
  · obtain ⟨m, rfl, hall⟩ := key true ho
    simp only [ordE, Bool.and_eq_true, Bool.not_true, Bool.false_or] at ho
    obtain ⟨⟨⟨⟨ho1, _⟩, hsub⟩, _⟩, _⟩ := ho
    refine .inr ⟨fun h0 => ?_, fun j hj => ?_⟩
    · have := (step i L hL ho1 oi hi).1; rw [h0] at this; cases this
    · have hjl := ready_range hj
      obtain ⟨o, hoj⟩ : ∃ o, ops[j]? = some o := ⟨_, Array.getElem?_eq_getElem hjl⟩
      rcases rdySub_spec _ 0 hsub j _ (get j o hoj) with h1 | h1
      · rw [Nat.zero_add] at h1
        exact (hall j h1).2
      · rw [Nat.zero_add] at h1
        rw [(rdy_iff hoj hL).2 hj] at h1; cases h1
  · obtain ⟨m, e, hall⟩ := key false ho
    exact ⟨m, fun _ => e, hall⟩
def ordEOk (md : Region.Mode) (ops : Array Oper) (ot : OT) : Bool :=
 ordE (ops.toList.map (amask md)) ops.size true ot 0 && barOk (ops.toList.map (amask md)) ot.all
theorem wp_region_seqE {id : Nat} {a : Act} {w : World} (S : World → Prop) (ot : OT) (hm : P.follows .mixedOrders = true) (hok' : fastOk .any ops = true) (hord : ordEOk .any ops ot = true) (hS : S w.drew)
 (h : SeqE P ops Q ot a S) : (Code.region id ops true).wp P Q a w := by
 refine wp_region_any hm ?_
 unfold ordEOk at hord
 rw [Bool.and_eq_true] at hord
 obtain ⟨ho, hb⟩ := hord
 let dep : Nat → Bool := fun i => ((ot.all.filter fun x => Nat.beq x.2 0).map (·.1)).contains i
 let bar : Nat → Bool := fun i => ((ot.all.filter fun x => Nat.beq x.2 3).map (·.1)).contains i
 have hc := (certE_of_seq (Q := Q) (dep := dep) (bar := bar) hok' ot ops.size 0 a S
  (fun i hi => by
   show List.contains _ i = true
   rw [List.contains_iff_mem]
   exact List.mem_map.2 ⟨(i, 0), List.mem_filter.2 ⟨hi, rfl⟩, rfl⟩)
  (fun i hi => by
   show List.contains _ i = true
   rw [List.contains_iff_mem]
   exact List.mem_map.2 ⟨(i, 3), List.mem_filter.2 ⟨hi, rfl⟩, rfl⟩)
  (fun k hk => by simp at hk) h).1 ho
 have hsel : ∀ (j : Nat) (o : Oper) cs b, ops[j]? = some o → o.op ≠ .select cs b := by
  unfold fastOk at hok'; rw [Bool.and_eq_true] at hok'; exact Region.noSelect_spec hok'.1
 have hpart : Part .any ops dep bar := by
  intro i j hi hj listed hcl ri rj
  have hi : List.contains _ i = true := hi
  have hj : List.contains _ j = true := hj
  rw [List.contains_iff_mem] at hi hj
  obtain ⟨⟨x, kx⟩, hx, rfl⟩ := List.mem_map.1 hi
  obtain ⟨⟨y, ky⟩, hy, rfl⟩ := List.mem_map.1 hj
  rw [List.mem_filter] at hx hy
  have h1 := List.all_eq_true.1 hb _ hy.1
  have ey : Nat.beq ky 3 = true := hy.2
  have ex : Nat.beq kx 0 = true := hx.2
  simp only [ey, Bool.not_true, Bool.false_or] at h1
  have h2 := List.all_eq_true.1 h1 _ hx.1
  simp only [ex, Bool.not_true, Bool.false_or, Bool.or_eq_true] at h2
  have un : ∀ {k}, k ∈ Region.ready .any ops listed → listed.getD k false = true → False := fun {k} hk h => by
   have h0 := (mem_ready.1 hk).1
   rcases Nat.lt_or_ge k listed.size with h' | h'
   · simp [h'] at h0 h; rw [h0] at h; cases h
   · simp [Array.getElem?_eq_none h'] at h
  rcases h2 with h2 | h2
  · exact un ri (anc_listed hcl rj h2)
  · exact un rj (anc_listed hcl ri h2)
 have hcl0 : Closed .any ops (lst ops.size 0) := by
  rw [lst_zero]; exact closed_none _ rfl
 have := CertE.sound hsel hpart _ _ _ _ hcl0 hc w.drew hS
 rw [lst_zero] at this
 exact this
theorem at_drop {o : Oper} {i : Nat} {tl : List Oper} (h : ops.toList.drop i = o :: tl) : ops[i]? = some o := by
 have h1 : (ops.toList.drop i)[0]? = some o := by rw [h]; rfl
 rw [List.getElem?_drop] at h1
 simpa using h1
variable {S : World → Prop} {o : Oper} {rest more : OT} {a : Act} {v : Value} {i : Nat} {W : World} {tl : List Oper}
theorem seqE_nil (h : ∀ w, S w → Q .normal a w) : SeqE P ops Q .nil a S := h
theorem seqE_stop : SeqE P ops Q .stop a S := trivial
theorem seqE_pure (hi : ops.toList.drop i = o :: tl) (hw : Region.wanted o (yielded ops a.tmps) = true) (hy : ∀ w, S w → (execOp a.eval o).run P w = .ok (.value v) w) (h : SeqE P ops Q rest (a.put o.dst v) S) : SeqE P ops Q (.one i 0 rest) a S :=
 ⟨o, v, at_drop hi, .inl ⟨.inl ⟨hw, fun w hS => by rw [hy w hS]; exact ⟨rfl, rfl⟩⟩, rfl⟩, h⟩
theorem seqE_still {f : FuncId} {args : Array Value} (hi : ops.toList.drop i = o :: tl) (hw : Region.wanted o (yielded ops a.tmps) = true) (hy : ∀ w, S w → (execOp a.eval o).run P w = .ok (.enter f args) w)
 (hc : ∀ w, S w → Calls P f args w fun e w' => e = .returned v ∧ w' = w) (h : SeqE P ops Q rest (a.put o.dst v) S) : SeqE P ops Q (.one i 0 rest) a S :=
 ⟨o, v, at_drop hi, .inl ⟨.inl ⟨hw, fun w hS => by rw [hy w hS]; exact hc w hS⟩, rfl⟩, h⟩
theorem seqE_free (hi : ops.toList.drop i = o :: tl) (hw : Region.wanted o (yielded ops a.tmps) = true) (hy : ∀ w, (execOp a.eval o).run P w = .ok (.value v) w) (h : SeqE P ops Q rest (a.put o.dst v) S) : SeqE P ops Q (.one i 1 rest) a S :=
 ⟨o, v, at_drop hi, .inr (.inl ⟨hw, fun w _ => by rw [hy w]; exact ⟨rfl, rfl⟩⟩), h⟩
theorem seqE_fcall {f : FuncId} {args : Array Value} (hi : ops.toList.drop i = o :: tl) (hw : Region.wanted o (yielded ops a.tmps) = true) (hy : ∀ w, (execOp a.eval o).run P w = .ok (.enter f args) w)
 (hc : ∀ w, Calls P f args w fun e w' => e = .returned v ∧ w' = w) (h : SeqE P ops Q rest (a.put o.dst v) S) : SeqE P ops Q (.one i 1 rest) a S :=
 ⟨o, v, at_drop hi, .inr (.inl ⟨hw, fun w _ => by rw [hy w]; exact hc w⟩), h⟩
theorem seqE_off (hi : ops.toList.drop i = o :: tl) (hw : Region.wanted o (yielded ops a.tmps) = false) (h : SeqE P ops Q rest (a.put o.dst undef) S) : SeqE P ops Q (.one i 1 rest) a S :=
 ⟨o, undef, at_drop hi, .inr (.inr ⟨hw, rfl⟩), h⟩
theorem seqE_call {f : FuncId} {args : Array Value} (hi : ops.toList.drop i = o :: tl) (hw : Region.wanted o (yielded ops a.tmps) = true) (hy : ∀ w, S w → (execOp a.eval o).run P w = .ok (.enter f args) w)
 (h : ∀ w, S w → Calls P f args w fun e w' => ∃ v, e = .returned v ∧ ∃ S' : World → Prop, S' w' ∧ (∀ x, S' x → S x) ∧ SeqE P ops Q rest (a.put o.dst v) S') (hm : SeqE P ops Q more a S) : SeqE P ops Q (.alt i 2 rest more) a S :=
 ⟨⟨o, at_drop hi, hw, fun w hS => by rw [hy w hS]; exact (h w hS).mono fun e w' he => by obtain ⟨v, h1, S', h2, h3, h4⟩ := he; exact ⟨v, h1, S', h2, .inl h3, h4⟩⟩, hm⟩
theorem seqE_keep {f : FuncId} {args : Array Value} (hi : ops.toList.drop i = o :: tl) (hw : Region.wanted o (yielded ops a.tmps) = true) (hy : ∀ w, S w → (execOp a.eval o).run P w = .ok (.enter f args) w)
 (hc : ∀ w, S w → Calls P f args w fun e w' => e = .returned v ∧ S w') (h : SeqE P ops Q rest (a.put o.dst v) S) (hm : SeqE P ops Q more a S) : SeqE P ops Q (.alt i 2 rest more) a S :=
 ⟨⟨o, at_drop hi, hw, fun w hS => by rw [hy w hS]; exact (hc w hS).mono fun e w' he => ⟨v, he.1, S, he.2, .inl fun _ h => h, h⟩⟩, hm⟩
theorem seqE_move (hi : ops.toList.drop i = o :: tl) (hw : Region.wanted o (yielded ops a.tmps) = true)
 (h : ∀ w, S w → ∃ v w', (execOp a.eval o).run P w = .ok (.value v) w' ∧ ∃ S' : World → Prop, S' w' ∧ (∀ x, S' x → S x) ∧ SeqE P ops Q rest (a.put o.dst v) S') (hm : SeqE P ops Q more a S) : SeqE P ops Q (.alt i 2 rest more) a S :=
 ⟨⟨o, at_drop hi, hw, fun w hS => by obtain ⟨v, w', h1, S', h2, h3, h4⟩ := h w hS; rw [h1]; exact ⟨S', h2, .inl h3, h4⟩⟩, hm⟩
theorem seqE_callB {f : FuncId} {args : Array Value} (hi : ops.toList.drop i = o :: tl) (hw : Region.wanted o (yielded ops a.tmps) = true) (hy : ∀ w, S w → (execOp a.eval o).run P w = .ok (.enter f args) w)
 (h : ∀ w, S w → Calls P f args w fun e w' => ∃ v, e = .returned v ∧ ∃ S' : World → Prop, S' w' ∧ SeqE P ops Q rest (a.put o.dst v) S') (hm : SeqE P ops Q more a S) : SeqE P ops Q (.alt i 3 rest more) a S :=
 ⟨⟨o, at_drop hi, hw, fun w hS => by rw [hy w hS]; exact (h w hS).mono fun e w' he => by obtain ⟨v, h1, S', h2, h3⟩ := he; exact ⟨v, h1, S', h2, .inr rfl, h3⟩⟩, hm⟩
theorem seqE_moveB (hi : ops.toList.drop i = o :: tl) (hw : Region.wanted o (yielded ops a.tmps) = true)
 (h : ∀ w, S w → ∃ v w', (execOp a.eval o).run P w = .ok (.value v) w' ∧ ∃ S' : World → Prop, S' w' ∧ SeqE P ops Q rest (a.put o.dst v) S') (hm : SeqE P ops Q more a S) : SeqE P ops Q (.alt i 3 rest more) a S :=
 ⟨⟨o, at_drop hi, hw, fun w hS => by obtain ⟨v, w', h1, S', h2, h3⟩ := h w hS; rw [h1]; exact ⟨S', h2, .inr rfl, h3⟩⟩, hm⟩
theorem seqE_storeB (hi : ops.toList.drop i = o :: tl) (hw : Region.wanted o (yielded ops a.tmps) = true)
 (h : ∀ w, S w → ∃ w', (execOp a.eval o).run P w = .ok .skip w' ∧ ∃ S' : World → Prop, S' w' ∧ SeqE P ops Q rest (a.put o.dst undef) S') (hm : SeqE P ops Q more a S) : SeqE P ops Q (.alt i 3 rest more) a S :=
 ⟨⟨o, at_drop hi, hw, fun w hS => by obtain ⟨w', h1, S', h2, h3⟩ := h w hS; rw [h1]; exact ⟨S', h2, .inr rfl, h3⟩⟩, hm⟩
end
end Go.Proofs.Ytadilppdlbhjnaa
namespace Go.Proofs.Ytadilppdlbhjnaa
set_option linter.unusedSimpArgs false
set_option linter.unusedVariables false
open Go
section
variable {P : Program} {ops : Array Oper} {Q : Exit → Act → World → Prop} {md : Region.Mode} {dep bar : Nat → Bool}
abbrev Fx := Nat → World → Prop
def updF (F : Fx) (i : Nat) (p : World → Prop) : Fx := fun k => if k = i then p else F k
theorem updF_same (F : Fx) (i : Nat) (p : World → Prop) : updF F i p i = p := by simp [updF]
theorem updF_ne {F : Fx} {i k : Nat} {p : World → Prop} (h : k ≠ i) : updF F i p k = F k := by simp [updF, h]
theorem updF_comm (F : Fx) {i j : Nat} (p q : World → Prop) (h : i ≠ j) : updF (updF F i p) j q = updF (updF F j q) i p := by
 funext k
 unfold updF
 by_cases h1 : k = j
 · subst h1; rw [if_pos rfl, if_neg (Ne.symm h), if_pos rfl]
 · rw [if_neg h1]
   by_cases h2 : k = i
   · rw [if_pos h2, if_pos h2]
   · rw [if_neg h2, if_neg h2, if_neg h1]
def YV (P : Program) (ops : Array Oper) (S : World → Prop) (o : Oper) (v : Value) (a : Act) : Prop :=
 (Region.wanted o (yielded ops a.tmps) = true ∧ ∀ w, S w → (execOp a.eval o).run P w = .ok (.value v) w) ∨
 (Region.wanted o (yielded ops a.tmps) = false ∧ v = undef)
theorem YV.of_same {S S' : World → Prop} {o : Oper} {v : Value} {a a' : Act} (hy : YV P ops S o v a) (hS : ∀ x, S' x → S x) (he : execOp a'.eval o = execOp a.eval o)
 (hw : Region.wanted o (yielded ops a'.tmps) = Region.wanted o (yielded ops a.tmps)) : YV P ops S' o v a' := by
 unfold YV at *
 rw [he, hw]
 rcases hy with ⟨h1, h2⟩ | h
 · exact .inl ⟨h1, fun w hw => h2 w (hS w hw)⟩
 · exact .inr h
theorem YV.det {S : World → Prop} {o : Oper} {v v' : Value} {a : Act} {w : World} (h : YV P ops S o v a) (h' : YV P ops S o v' a) (hw : S w) : v = v' := by
 rcases h with ⟨h1, h2⟩ | ⟨h1, rfl⟩ <;> rcases h' with ⟨k1, k2⟩ | ⟨k1, rfl⟩
 · have := (h2 w hw).symm.trans (k2 w hw)
   simpa using this
 · rw [h1] at k1; cases k1
 · rw [h1] at k1; cases k1
 · rfl
def apartAll (md : Region.Mode) (ops : Array Oper) (i : Nat) (oi : Oper) (listed : Array Bool) : Prop :=
 ∀ j oj, ops[j]? = some oj → j ≠ i → listed.getD j true = false → (∀ e ∈ oj.after, Region.binds md e = true → e.on ≠ i) → oi.apart ops oj = true
theorem apartAll.more {i : Nat} {oi : Oper} {listed : Array Bool} (h : apartAll md ops i oi listed) (j : Nat) : apartAll md ops i oi (listed.setIfInBounds j true) := fun k ok hk hki hun hno => by
 refine h k ok hk hki ?_ hno
 by_cases hjk : j = k
 · subst hjk
   rcases Nat.lt_or_ge j listed.size with h' | h'
   · simp [h'] at hun
   · simp [Array.getElem?_eq_none h'] at hun
 · rw [getD_set_ne true hjk] at hun; exact hun
section
variable {X : Type} (G : World → World → Prop) (val : Nat → X → Value) (T : Nat → X → World → Prop) (S0 : World → Prop) (anc : Nat → Nat → Bool)
def Pre (F : Fx) (j : Nat) (w : World) : Prop := S0 w ∧ ∀ k, anc j k = true → F k w
def Prem (P : Program) (F : Fx) (j : Nat) (oj : Oper) (a : Act) : Prop :=
 ∀ w, Pre S0 anc F j w → RTo P (fun v w' => G w w' ∧ ∃ x, v = val j x ∧ T j x w') ((execOp a.eval oj).run P w)
def CertR (P : Program) (md : Region.Mode) (ops : Array Oper) (dep bar : Nat → Bool) (Q : Exit → Act → World → Prop) (m : Nat) : List (Nat × Nat) → Array Bool → Act → Fx → Prop
 | [], listed, a, F => CertE P md ops dep bar Q m listed a (fun w => S0 w ∧ ∀ k, F k w)
 | (i, 1) :: rest, listed, a, F => ∃ oi, ops[i]? = some oi ∧ apartAll md ops i oi listed ∧ i ∈ Region.ready md ops listed ∧ Region.wanted oi (yielded ops a.tmps) = true ∧ Prem G val T S0 anc P F i oi a ∧
  ∀ x, CertR P md ops dep bar Q m rest (listed.setIfInBounds i true) (a.put oi.dst (val i x)) (updF F i (T i x))
 | (i, k) :: rest, listed, a, F => ∃ oi v, ops[i]? = some oi ∧ apartAll md ops i oi listed ∧ i ∈ Region.ready md ops listed ∧ (k = 0 ∧ YV P ops (Pre S0 anc F i) oi v a ∨ k = 2 ∧ YV P ops (fun _ => True) oi v a) ∧ CertR P md ops dep bar Q m rest (listed.setIfInBounds i true) (a.put oi.dst v) F
def pick (j : Nat) : List (Nat × Nat) → Option (Nat × List (Nat × Nat))
 | [] => none
 | (i, b) :: t => if i = j then some (b, t) else (pick j t).map fun x => (x.1, (i, b) :: x.2)
theorem pick_len {j : Nat} : ∀ {sc : List (Nat × Nat)} {b : Nat} {t : List (Nat × Nat)}, pick j sc = some (b, t) → sc.length = t.length + 1
 | [], _, _, h => by cases h
 | (i, b0) :: t0, b, t, h => by
  unfold pick at h
  split at h
  · cases h; rfl
  · cases hp : pick j t0 with
    | none => rw [hp] at h; cases h
    | some x =>
     rw [hp] at h
     obtain ⟨b1, t1⟩ := x
     simp only [Option.map_some, Option.some.injEq, Prod.mk.injEq] at h
     obtain ⟨_, rfl⟩ := h
     have := pick_len hp
     simp [this]
theorem pick_sub {j : Nat} : ∀ {sc : List (Nat × Nat)} {b : Nat} {t : List (Nat × Nat)}, pick j sc = some (b, t) → (∀ x ∈ t, x ∈ sc) ∧ ∀ j', j' ≠ j → pick j' t = none → pick j' sc = none
 | [], _, _, h => by cases h
 | (i, b0) :: t0, b, t, h => by
  unfold pick at h
  split at h
  · rename_i hij
    cases h
    exact ⟨fun x hx => List.mem_cons_of_mem _ hx, fun j' hj' hn => by unfold pick; rw [if_neg (by omega), hn]; rfl⟩
  · rename_i hij
    cases hp : pick j t0 with
    | none => rw [hp] at h; cases h
    | some x =>
     rw [hp] at h
     obtain ⟨b1, t1⟩ := x
     simp only [Option.map_some, Option.some.injEq, Prod.mk.injEq] at h
     obtain ⟨rfl, rfl⟩ := h
     obtain ⟨h1, h2⟩ := pick_sub hp
     refine ⟨fun x hx => ?_, fun j' hj' hn => ?_⟩
     · rcases List.mem_cons.1 hx with e | hx
       · exact e ▸ List.mem_cons_self ..
       · exact List.mem_cons_of_mem _ (h1 x hx)
     · unfold pick at hn ⊢
       by_cases e : i = j'
       · rw [if_pos e] at hn; cases hn
       · rw [if_neg e] at hn ⊢
         cases hq : pick j' t1 with
         | none => rw [h2 j' hj' hq]; rfl
         | some y => rw [hq] at hn; cases hn
variable {G val T S0 anc}
theorem unl_of {listed : Array Bool} {k : Nat} (hk : k ∈ Region.ready md ops listed) : listed.getD k false = false := by
 have h0 := (mem_ready.1 hk).1
 rcases Nat.lt_or_ge k listed.size with h' | h'
 · simp [h'] at h0 ⊢; exact h0
 · simp [Array.getElem?_eq_none h'] at h0 ⊢
theorem clo_of {listed : Array Bool} {i k : Nat} (hk : (listed.setIfInBounds i true).getD k false = false) : listed.getD k false = false := by
 by_cases hik : i = k
 · subst hik
   rcases Nat.lt_or_ge i listed.size with h' | h'
   · simp [h'] at hk
   · simp [Array.getElem?_eq_none h'] at hk ⊢
 · rw [getD_set_ne false hik] at hk; exact hk
theorem clo_ne {listed : Array Bool} {i k : Nat} (hi : i ∈ Region.ready md ops listed) (hk : (listed.setIfInBounds i true).getD k false = false) : k ≠ i := fun e => by
 subst e
 have h0 := (mem_ready.1 hi).1
 rcases Nat.lt_or_ge k listed.size with h' | h'
 · simp [h'] at hk
 · simp [Array.getElem?_eq_none h'] at h0
theorem CertR.unl [Inhabited X] {m : Nat} : ∀ (sc : List (Nat × Nat)) (listed : Array Bool) (a : Act) (F : Fx), CertR G val T S0 anc P md ops dep bar Q m sc listed a F → ∀ x ∈ sc, listed.getD x.1 false = false
 | [], _, _, _, _, x, hx => by cases hx
 | (i, 1) :: rest, listed, a, F, h, x, hx => by
  obtain ⟨oi, _, _, hr, _, _, hrest⟩ := h
  rcases List.mem_cons.1 hx with e | hx
  · subst e; exact unl_of hr
  · exact clo_of (CertR.unl rest _ _ _ (hrest default) x hx)
 | (i, 0) :: rest, listed, a, F, h, x, hx => by
  obtain ⟨oi, v, _, _, hr, _, hrest⟩ := h
  rcases List.mem_cons.1 hx with e | hx
  · subst e; exact unl_of hr
  · exact clo_of (CertR.unl rest _ _ _ hrest x hx)
 | (i, k + 2) :: rest, listed, a, F, h, x, hx => by
  obtain ⟨oi, v, _, _, hr, _, hrest⟩ := h
  rcases List.mem_cons.1 hx with e | hx
  · subst e; exact unl_of hr
  · exact clo_of (CertR.unl rest _ _ _ hrest x hx)
theorem apt_of {listed : Array Bool} {i j : Nat} {oi oj : Oper} (hj : j ∈ Region.ready md ops listed) (hoj : ops[j]? = some oj) (hfree : apartAll md ops i oi listed) (hr : i ∈ Region.ready md ops listed) (hji : j ≠ i) : oi.apart ops oj = true := by
 obtain ⟨hjun, oj', hoj', hall⟩ := mem_ready.1 hj
 obtain rfl : oj = oj' := Option.some.inj (hoj.symm.trans hoj')
 refine hfree j oj hoj hji hjun fun e he hb heq => ?_
 have h1 := hall e he hb
 have h0 := unl_of hr
 rw [heq, h0] at h1; cases h1
def FrontR (G : World → World → Prop) (val : Nat → X → Value) (T : Nat → X → World → Prop) (S0 : World → Prop) (anc : Nat → Nat → Bool) (P : Program) (md : Region.Mode) (ops : Array Oper) (dep bar : Nat → Bool) (Q : Exit → Act → World → Prop) (m : Nat) (j b : Nat) (sc' : List (Nat × Nat)) (listed : Array Bool) (a : Act) (F : Fx) (oj : Oper) : Prop :=
 (b ≠ 1 ∧ ∃ v, (b = 0 ∧ YV P ops (Pre S0 anc F j) oj v a ∨ b = 2 ∧ YV P ops (fun _ => True) oj v a) ∧ CertR G val T S0 anc P md ops dep bar Q m sc' (listed.setIfInBounds j true) (a.put oj.dst v) F) ∨
 (b = 1 ∧ Region.wanted oj (yielded ops a.tmps) = true ∧ Prem G val T S0 anc P F j oj a ∧ ∀ x, CertR G val T S0 anc P md ops dep bar Q m sc' (listed.setIfInBounds j true) (a.put oj.dst (val j x)) (updF F j (T j x)))
theorem certR_read {m i k : Nat} {rest : List (Nat × Nat)} {listed : Array Bool} {a : Act} {F : Fx} (hk : k ≠ 1) : CertR G val T S0 anc P md ops dep bar Q m ((i, k) :: rest) listed a F ↔ ∃ oi v, ops[i]? = some oi ∧ apartAll md ops i oi listed ∧ i ∈ Region.ready md ops listed ∧ (k = 0 ∧ YV P ops (Pre S0 anc F i) oi v a ∨ k = 2 ∧ YV P ops (fun _ => True) oi v a) ∧ CertR G val T S0 anc P md ops dep bar Q m rest (listed.setIfInBounds i true) (a.put oi.dst v) F := by
 match k, hk with
 | 0, _ => exact Iff.rfl
 | k + 2, _ => exact Iff.rfl
theorem CertR.front [Inhabited X] {m : Nat} (hsel : ∀ (j : Nat) (o : Oper) cs b, ops[j]? = some o → o.op ≠ .select cs b)
 (hanc : ∀ j k, anc j k = true → ∀ listed, Closed md ops listed → j ∈ Region.ready md ops listed → listed.getD k false = true) {j b : Nat} {w : World} :
 ∀ (sc : List (Nat × Nat)) (sc' : List (Nat × Nat)) (listed : Array Bool) (a : Act) (F : Fx), pick j sc = some (b, sc') → Closed md ops listed → (∀ k, listed.getD k false = false → ∀ x, F k x) → Pre S0 anc F j w → CertR G val T S0 anc P md ops dep bar Q m sc listed a F → j ∈ Region.ready md ops listed →
  ∃ oj, ops[j]? = some oj ∧ FrontR G val T S0 anc P md ops dep bar Q m j b sc' listed a F oj := by
 intro sc
 induction sc with
 | nil => intro sc' listed a F h; cases h
 | cons x rest ih =>
  obtain ⟨i, k⟩ := x
  intro sc' listed a F hpk hcl hF hw h hj
  by_cases hk1 : k = 1
  · subst hk1
    obtain ⟨oi, hi, hfree, hr, hwd, hpr, hrest⟩ := h
    by_cases hji : i = j
    · subst hji
      obtain ⟨rfl, rfl⟩ : 1 = b ∧ rest = sc' := by simpa [pick] using hpk
      exact ⟨oi, hi, .inr ⟨rfl, hwd, hpr, hrest⟩⟩
    · have hji' : j ≠ i := Ne.symm hji
      obtain ⟨sc2, hp, rfl⟩ : ∃ sc2, pick j rest = some (b, sc2) ∧ (i, 1) :: sc2 = sc' := by
       unfold pick at hpk
       rw [if_neg hji] at hpk
       cases hp : pick j rest with
       | none => rw [hp] at hpk; cases hpk
       | some y => rw [hp] at hpk; obtain ⟨y1, y2⟩ := y; simp at hpk; exact ⟨y2, by rw [hpk.1], hpk.2⟩
      have hai : anc j i = false := by
       cases h0 : anc j i
       · rfl
       · have := hanc j i h0 listed hcl hj; rw [unl_of hr] at this; cases this
      have preE : ∀ p x, Pre S0 anc (updF F i p) j x ↔ Pre S0 anc F j x := fun p x => by
       unfold Pre
       refine and_congr Iff.rfl (forall_congr' fun k => ?_)
       by_cases hki : k = i
       · subst hki; rw [hai]; simp
       · rw [updF_ne hki]
      have fj : ∀ x, F j x := hF j (unl_of hj)
      have hF' : ∀ p, ∀ k, (listed.setIfInBounds i true).getD k false = false → ∀ x, updF F i p k x := fun p k hk x => by
       rw [updF_ne (clo_ne hr hk)]; exact hF k (clo_of hk) x
      have get := fun x => ih sc2 (listed.setIfInBounds i true) (a.put oi.dst (val i x)) (updF F i (T i x)) hp (hcl.step hr) (hF' _) ((preE _ _).2 hw) (hrest x) (ready_mono hj hji')
      obtain ⟨oj, hoj, hc0⟩ := get default
      obtain ⟨h1, h2, h3⟩ := Oper.apart_spec (apt_of hj hoj hfree hr hji')
      have e1 := fun v => execOp_put oj (fun cs b => hsel j oj cs b hoj) a oi.dst v h1
      have e2 := fun v => wanted_put oj a oi.dst v h1
      have e3 := fun u => execOp_put oi (fun cs b => hsel i oi cs b hi) a oj.dst u h3
      have e4 := fun u => wanted_put oi a oj.dst u h3
      refine ⟨oj, hoj, ?_⟩
      have getv : ∀ x, FrontR G val T S0 anc P md ops dep bar Q m j b sc2 (listed.setIfInBounds i true) (a.put oi.dst (val i x)) (updF F i (T i x)) oj := fun x => by
       obtain ⟨oj', hoj', hc'⟩ := get x
       obtain rfl : oj = oj' := Option.some.inj (hoj.symm.trans hoj')
       exact hc'
      have back : ∀ {v x}, (b = 0 ∧ YV P ops (Pre S0 anc (updF F i (T i x)) j) oj v (a.put oi.dst (val i x)) ∨ b = 2 ∧ YV P ops (fun _ => True) oj v (a.put oi.dst (val i x))) → (b = 0 ∧ YV P ops (Pre S0 anc F j) oj v a ∨ b = 2 ∧ YV P ops (fun _ => True) oj v a) := fun h => by
       rcases h with ⟨h0, h⟩ | ⟨h0, h⟩
       · exact .inl ⟨h0, h.of_same (fun x h => (preE _ x).2 h) (e1 _).symm (e2 _).symm⟩
       · exact .inr ⟨h0, h.of_same (fun _ h => h) (e1 _).symm (e2 _).symm⟩
      rcases hc0 with ⟨hb1, vj, y1, y2⟩ | ⟨rfl, c1, c2, c3⟩
      · have y1' := back y1
        refine .inl ⟨hb1, vj, y1', oi, hi, hfree.more j, ready_mono hr hji, e4 vj ▸ hwd, fun x hx => by rw [e3 vj]; exact hpr x hx, fun x => ?_⟩
        rcases getv x with ⟨_, vj', z1, z2⟩ | ⟨h, _⟩
        · have z1' := back z1
          obtain rfl : vj = vj' := by
           rcases y1' with ⟨h0, y⟩ | ⟨h0, y⟩ <;> rcases z1' with ⟨k0, z⟩ | ⟨k0, z⟩
           · exact y.det z hw
           · omega
           · omega
           · exact y.det z (w := w) trivial
          rw [Array.setIfInBounds_comm _ _ hji', ← Act.put_comm a (val i x) vj h2]; exact z2
        · exact absurd h hb1
      · refine .inr ⟨rfl, (e2 (val i default)) ▸ c1, fun x hx => by have := c2 x ((preE _ x).2 hx); rw [e1] at this; exact this, fun y => ⟨oi, hi, hfree.more j, ready_mono hr hji, e4 (val j y) ▸ hwd, fun x hx => ?_, fun x => ?_⟩⟩
        · rw [e3]
          refine hpr x ⟨hx.1, fun k hk => ?_⟩
          by_cases hkj : k = j
          · subst hkj; exact fj x
          · have := hx.2 k hk; rw [updF_ne hkj] at this; exact this
        · rcases getv x with ⟨h, _⟩ | ⟨_, _, _, z3⟩
          · exact absurd rfl h
          · rw [Array.setIfInBounds_comm _ _ hji', ← Act.put_comm a (val i x) (val j y) h2, ← updF_comm F _ _ hji]; exact z3 y
  · obtain ⟨oi, v, hi, hfree, hr, hy, hrest⟩ := (certR_read hk1).1 h
    by_cases hji : i = j
    · subst hji
      obtain ⟨rfl, rfl⟩ : k = b ∧ rest = sc' := by simpa [pick] using hpk
      exact ⟨oi, hi, .inl ⟨hk1, v, hy, hrest⟩⟩
    · have hji' : j ≠ i := Ne.symm hji
      obtain ⟨sc2, hp, rfl⟩ : ∃ sc2, pick j rest = some (b, sc2) ∧ (i, k) :: sc2 = sc' := by
       unfold pick at hpk
       rw [if_neg hji] at hpk
       cases hp : pick j rest with
       | none => rw [hp] at hpk; cases hpk
       | some y => rw [hp] at hpk; obtain ⟨y1, y2⟩ := y; simp at hpk; exact ⟨y2, by rw [hpk.1], hpk.2⟩
      obtain ⟨oj, hoj, hc⟩ := ih sc2 _ _ F hp (hcl.step hr) (fun k hk => hF k (clo_of hk)) hw hrest (ready_mono hj hji')
      obtain ⟨h1, h2, h3⟩ := Oper.apart_spec (apt_of hj hoj hfree hr hji')
      have e1 := execOp_put oj (fun cs b => hsel j oj cs b hoj) a oi.dst v h1
      have e2 := wanted_put oj a oi.dst v h1
      have e3 := fun u => execOp_put oi (fun cs b => hsel i oi cs b hi) a oj.dst u h3
      have e4 := fun u => wanted_put oi a oj.dst u h3
      refine ⟨oj, hoj, ?_⟩
      have fj : ∀ x, F j x := hF j (unl_of hj)
      rcases hc with ⟨hb1, vj, y1, y2⟩ | ⟨rfl, c1, c2, c3⟩
      · refine .inl ⟨hb1, vj, ?_, (certR_read hk1).2 ⟨oi, v, hi, hfree.more j, ready_mono hr hji, ?_, ?_⟩⟩
        · rcases y1 with ⟨h0, y⟩ | ⟨h0, y⟩
          · exact .inl ⟨h0, y.of_same (fun _ h => h) e1.symm e2.symm⟩
          · exact .inr ⟨h0, y.of_same (fun _ h => h) e1.symm e2.symm⟩
        · rcases hy with ⟨h0, y⟩ | ⟨h0, y⟩
          · exact .inl ⟨h0, y.of_same (fun _ h => h) (e3 vj) (e4 vj)⟩
          · exact .inr ⟨h0, y.of_same (fun _ h => h) (e3 vj) (e4 vj)⟩
        · rw [Array.setIfInBounds_comm _ _ hji', ← Act.put_comm a v vj h2]; exact y2
      · refine .inr ⟨rfl, e2 ▸ c1, fun x hx => by have := c2 x hx; rw [e1] at this; exact this, fun y => (certR_read hk1).2 ⟨oi, v, hi, hfree.more j, ready_mono hr hji, ?_, ?_⟩⟩
        · rcases hy with ⟨h0, yy⟩ | ⟨h0, yy⟩
          · refine .inl ⟨h0, yy.of_same (fun x hx => ⟨hx.1, fun k hk => ?_⟩) (e3 _) (e4 _)⟩
            by_cases hkj : k = j
            · subst hkj; exact fj x
            · have := hx.2 k hk; rw [updF_ne hkj] at this; exact this
          · exact .inr ⟨h0, yy.of_same (fun _ h => h) (e3 _) (e4 _)⟩
        · rw [Array.setIfInBounds_comm _ _ hji', ← Act.put_comm a v (val j y) h2]; exact c3 y
theorem CertR.late {m : Nat} : ∀ (sc : List (Nat × Nat)) (listed : Array Bool) (a : Act) (F : Fx), (∀ x ∈ sc, x.2 = 2) → CertR G val T S0 anc P md ops dep bar Q m sc listed a F → CertE P md ops dep bar Q (sc.length + m) listed a (fun w => S0 w ∧ ∀ k, F k w)
 | [], listed, a, F, _, h => by rw [List.length_nil, Nat.zero_add]; exact h
 | (i, k) :: rest, listed, a, F, hl, h => by
  obtain rfl : k = 2 := hl _ (List.mem_cons_self ..)
  obtain ⟨oi, v, hi, hfree, hr, hy, hrest⟩ := (certR_read (by decide)).1 h
  rw [List.length_cons, show rest.length + 1 + m = (rest.length + m) + 1 by omega]
  refine .inl ⟨i, oi, v, hi, hfree, hr, .inr ?_, CertR.late rest _ _ F (fun x hx => hl x (List.mem_cons_of_mem _ hx)) hrest⟩
  rcases hy with ⟨h0, _⟩ | ⟨_, y⟩
  · cases h0
  · rcases y with ⟨h1, h2⟩ | h
    · exact .inl ⟨h1, fun w _ => by rw [h2 w trivial]; exact ⟨rfl, rfl⟩⟩
    · exact .inr h
def Stat (md : Region.Mode) (ops : Array Oper) (sc : List (Nat × Nat)) (listed : Array Bool) : Prop :=
 ∀ j oj, ops[j]? = some oj → pick j sc = none → listed.getD j false = false → ∀ x ∈ sc, x.2 ≠ 2 → ∃ e ∈ oj.after, Region.binds md e = true ∧ e.on = x.1
theorem CertR.sound [Inhabited X] {m : Nat} (hsel : ∀ (j : Nat) (o : Oper) cs b, ops[j]? = some o → o.op ≠ .select cs b) (hpart : Part md ops dep bar)
 (hanc : ∀ j k, anc j k = true → ∀ listed, Closed md ops listed → j ∈ Region.ready md ops listed → listed.getD k false = true)
 (hT : ∀ i x w w', T i x w → G w w' → T i x w') (hS : ∀ w w', S0 w → G w w' → S0 w') :
 ∀ (n : Nat) (sc : List (Nat × Nat)) (listed : Array Bool) (a : Act) (F : Fx), sc.length = n → Stat md ops sc listed → Closed md ops listed → (∀ k, listed.getD k false = false → ∀ x, F k x) → (∀ k w w', F k w → G w w' → F k w') →
  CertR G val T S0 anc P md ops dep bar Q m sc listed a F → ∀ w, S0 w → (∀ k, F k w) → wpAny P md ops Q (n + m) listed a w := by
 intro n
 induction n with
 | zero =>
  intro sc listed a F hn hst0 hcl hF hst h w hw hf
  obtain rfl := List.length_eq_zero_iff.1 hn
  rw [Nat.zero_add]
  exact CertE.sound hsel hpart _ _ _ _ hcl h w ⟨hw, hf⟩
 | succ n ih =>
  intro sc listed a F hn hst0 hcl hF hst h w hw hf
  by_cases hall : ∀ x ∈ sc, x.2 = 2
  · rw [← hn]
    exact CertE.sound hsel hpart _ _ _ _ hcl (CertR.late sc listed a F hall h) w ⟨hw, hf⟩
  obtain ⟨x0, hx0, hx2⟩ : ∃ x ∈ sc, x.2 ≠ 2 := Classical.byContradiction fun hno => hall fun x hx => Classical.byContradiction fun h2 => hno ⟨x, hx, h2⟩
  have hun := CertR.unl sc listed a F h
  rw [show n + 1 + m = (n + m) + 1 by omega]
  refine ⟨fun hr => ?_, fun j hj => ?_⟩
  · exfalso
    match sc, h, hn with
    | (i, 1) :: _, h, _ => obtain ⟨_, _, _, hr', _⟩ := h; rw [hr] at hr'; cases hr'
    | (i, 0) :: _, h, _ => obtain ⟨_, _, _, _, hr', _⟩ := h; rw [hr] at hr'; cases hr'
    | (i, k + 2) :: _, h, _ => obtain ⟨_, _, _, _, hr', _⟩ := h; rw [hr] at hr'; cases hr'
  · cases hp : pick j sc with
    | none =>
     exfalso
     obtain ⟨_, oj, hoj, hall'⟩ := mem_ready.1 hj
     obtain ⟨e, he, hb, heq⟩ := hst0 j oj hoj hp (unl_of hj) x0 hx0 hx2
     have h1 := hall' e he hb
     rw [heq, hun x0 hx0] at h1; cases h1
    | some y =>
     obtain ⟨b, sc'⟩ := y
     obtain ⟨oj, hoj, hc⟩ := CertR.front hsel hanc sc sc' listed a F hp hcl hF ⟨hw, fun k _ => hf k⟩ h hj
     have hl := pick_len hp
     obtain ⟨hs1, hs2⟩ := pick_sub hp
     have hcl' := hcl.step hj
     have hst' : Stat md ops sc' (listed.setIfInBounds j true) := fun j' oj' ho' hn' hu x hx hx2 => hst0 j' oj' ho' (hs2 j' (clo_ne hj hu) hn') (clo_of hu) x (hs1 x hx) hx2
     rcases hc with ⟨_, v, y1, y2⟩ | ⟨_, c1, c2, c3⟩
     · have hrec := ih sc' _ _ F (by omega) hst' hcl' (fun k hk => hF k (clo_of hk)) hst y2 w hw hf
       have y1' : YV P ops (Pre S0 anc F j) oj v a := by
        rcases y1 with ⟨_, y⟩ | ⟨_, y⟩
        · exact y
        · exact y.of_same (fun _ _ => trivial) rfl rfl
       rcases y1' with ⟨k1, k2⟩ | ⟨k1, rfl⟩
       · refine wpOp_to hoj k1 ?_
         rw [k2 w ⟨hw, fun k _ => hf k⟩]
         exact hrec
       · unfold Go.wpOp
         simp only [hoj, k1, Bool.false_eq_true, if_false]
         exact hrec
     · refine wpOp_to hoj c1 ((c2 w ⟨hw, fun k _ => hf k⟩).mono fun v w' hk => ?_)
       obtain ⟨hg0, x1, rfl, hx1⟩ := hk
       refine ih sc' _ _ (updF F j (T j x1)) (by omega) hst' hcl' (fun k hk => by rw [updF_ne (clo_ne hj hk)]; exact hF k (clo_of hk)) (fun k x x' hx hg => ?_) (c3 x1) w' (hS _ _ hw hg0) fun k => ?_
       · by_cases hkj : k = j
         · subst hkj; rw [updF_same] at hx ⊢; exact hT _ _ _ _ hx hg
         · rw [updF_ne hkj] at hx ⊢; exact hst _ _ _ hx hg
       · by_cases hkj : k = j
         · subst hkj; rw [updF_same]; exact hx1
         · rw [updF_ne hkj]; exact hst _ _ _ (hf k) hg0
def ancB (ms : List Nat) (j k : Nat) : Bool := Nat.testBit (ancs ms ms.length (ms.getD j 0)) k
def statOk (ms : List Nat) (sc : List (Nat × Nat)) : Bool := (List.range ms.length).all fun j => sc.any (fun x => Nat.beq x.1 j) || sc.all fun x => Nat.beq x.2 2 || Nat.testBit (ms.getD j 0) x.1
def ordR (ms : List Nat) (n : Nat) (ot : OT) : List (Nat × Nat) → Nat → Bool
 | [], L => ordE ms n true ot L
 | (i, _) :: rest, L => (match ms[i]? with | some m => rdy m L i | none => false) && ordR ms n ot rest (Nat.lor L (Nat.shiftLeft 1 i))
theorem stepR {i L : Nat} (hL : ∀ k, L.testBit k = true → k < ops.size) (ho1 : (match (ops.toList.map (amask md))[i]? with | some m => rdy m L i | none => false) = true) {oi : Oper} (hi : ops[i]? = some oi) :
 i ∈ Region.ready md ops (lst ops.size L) ∧ ∀ k, (Nat.lor L (Nat.shiftLeft 1 i)).testBit k = true → k < ops.size := by
 have get : (ops.toList.map (amask md))[i]? = some (amask md oi) := by
  rw [List.getElem?_map]
  have : ops.toList[i]? = some oi := by simpa using hi
  rw [this]; rfl
 rw [get] at ho1
 refine ⟨(rdy_iff hi hL).1 ho1, fun k hk => ?_⟩
 have e : Nat.testBit (Nat.lor L (Nat.shiftLeft 1 i)) k = (L.testBit k || decide (i = k)) := by
  show (L ||| (1 <<< i)).testBit k = _
  rw [Nat.testBit_or, Nat.one_shiftLeft, Nat.testBit_two_pow]
 rw [e, Bool.or_eq_true, decide_eq_true_eq] at hk
 rcases hk with hk | rfl
 · exact hL k hk
 · exact (Array.getElem?_eq_some_iff.1 hi).1
theorem freeR (hok : fastOk md ops = true) {i L : Nat} {oi : Oper} (hi : ops[i]? = some oi) (s1 : i ∈ Region.ready md ops (lst ops.size L)) : apartAll md ops i oi (lst ops.size L) := by
 have getR : ∀ (j : Nat) (o : Oper), ops[j]? = some o → (ops.toList.map (orow md ops))[j]? = some (orow md ops o) := by
  intro j o ho
  rw [List.getElem?_map]
  have : ops.toList[j]? = some o := by simpa using ho
  rw [this]; rfl
 have hpairs : ∀ (i j : Nat) (oi oj : Oper), i < j → ops[i]? = some oi → ops[j]? = some oj → (∃ e ∈ oj.after, Region.binds md e = true ∧ e.on = i) ∨ oi.apart ops oj = true := by
  intro i j oi oj hij hi hj
  unfold fastOk at hok
  rw [Bool.and_eq_true] at hok
  have hs := (pairsOk_spec _ 0 hok.2 i _ (getR i oi hi)).2 j _ hij (getR j oj hj)
  rcases hs with h | h
  · left
    have hm : (0 + i) ∈ (orow md ops oj).2.2 := by simpa using h
    obtain ⟨e, he, hek⟩ := List.mem_map.1 hm
    rw [List.mem_filter] at he
    exact ⟨e, by simpa using he.1, he.2, by omega⟩
  · exact .inr (apartR_spec h)
 intro j oj hj hji hun hno
 rcases Nat.lt_or_ge i j with hlt | hge
 · rcases hpairs i j oi oj hlt hi hj with ⟨e, he, hb, heq⟩ | h
   · exact absurd heq (hno e he hb)
   · exact h
 · have hlt : j < i := by omega
   rcases hpairs j i oj oi hlt hj hi with ⟨e, he, hb, heq⟩ | h
   · exfalso
     obtain ⟨_, o', ho', hall⟩ := mem_ready.1 s1
     obtain rfl : oi = o' := Option.some.inj (hi.symm.trans ho')
     have h1 := hall e he hb
     rw [heq, lst_getD _ _ _ _ (Array.getElem?_eq_some_iff.1 hj).1] at h1
     rw [lst_getD _ _ _ _ (Array.getElem?_eq_some_iff.1 hj).1, h1] at hun
     cases hun
   · exact apart_symm h
variable (val : Nat → X → Value) (T : Nat → X → World → Prop) (S0 : World → Prop)
def SeqR (P : Program) (ops : Array Oper) (Q : Exit → Act → World → Prop) : List (Nat × Nat) → OT → Act → Fx → Prop
 | [], ot, a, F => SeqE P ops Q ot a (fun w => S0 w ∧ ∀ k, F k w)
 | (i, 1) :: rest, ot, a, F => ∃ oi, ops[i]? = some oi ∧ Region.wanted oi (yielded ops a.tmps) = true ∧ Prem (fun w w' => RowKit.Below w.heap.size w w') val T S0 (ancB (ops.toList.map (amask .any))) P F i oi a ∧
  ∀ x, SeqR P ops Q rest ot (a.put oi.dst (val i x)) (updF F i (T i x))
 | (i, k) :: rest, ot, a, F => ∃ oi v, ops[i]? = some oi ∧ (k = 0 ∧ YV P ops (Pre S0 (ancB (ops.toList.map (amask .any))) F i) oi v a ∨ k = 2 ∧ YV P ops (fun _ => True) oi v a) ∧ SeqR P ops Q rest ot (a.put oi.dst v) F
variable {val T S0}
theorem certR_of_seq (hok : fastOk .any ops = true) {m : Nat} {ot : OT} (hd : ∀ i, (i, 0) ∈ ot.all → dep i = true) (hb : ∀ i, (i, 3) ∈ ot.all → bar i = true) : ∀ (sc : List (Nat × Nat)) (L : Nat) (a : Act) (F : Fx), (∀ k, L.testBit k = true → k < ops.size) →
 ordR (ops.toList.map (amask .any)) m ot sc L = true → SeqR val T S0 P ops Q sc ot a F → CertR (fun w w' => RowKit.Below w.heap.size w w') val T S0 (ancB (ops.toList.map (amask .any))) P .any ops dep bar Q m sc (lst ops.size L) a F
 | [], L, a, F, hL, ho, h => (certE_of_seq hok ot m L a _ hd hb hL h).1 ho
 | (i, 1) :: rest, L, a, F, hL, ho, h => by
  simp only [ordR, Bool.and_eq_true] at ho
  obtain ⟨oi, hi, hw, hp, hrest⟩ := h
  obtain ⟨s1, s2⟩ := stepR hL ho.1 hi
  exact ⟨oi, hi, freeR hok hi s1, s1, hw, hp, fun x => by rw [lst_set]; exact certR_of_seq hok hd hb rest _ _ _ s2 ho.2 (hrest x)⟩
 | (i, 0) :: rest, L, a, F, hL, ho, h => by
  simp only [ordR, Bool.and_eq_true] at ho
  obtain ⟨oi, v, hi, hy, hrest⟩ := h
  obtain ⟨s1, s2⟩ := stepR hL ho.1 hi
  exact ⟨oi, v, hi, freeR hok hi s1, s1, hy, by rw [lst_set]; exact certR_of_seq hok hd hb rest _ _ _ s2 ho.2 hrest⟩
 | (i, k + 2) :: rest, L, a, F, hL, ho, h => by
  simp only [ordR, Bool.and_eq_true] at ho
  obtain ⟨oi, v, hi, hy, hrest⟩ := h
  obtain ⟨s1, s2⟩ := stepR hL ho.1 hi
  exact ⟨oi, v, hi, freeR hok hi s1, s1, hy, by rw [lst_set]; exact certR_of_seq hok hd hb rest _ _ _ s2 ho.2 hrest⟩
theorem pick_none : ∀ {sc : List (Nat × Nat)} {j : Nat}, sc.any (fun x => Nat.beq x.1 j) = true → pick j sc ≠ none
 | [], _, h => by cases h
 | (i, b) :: t, j, h => by
  unfold pick
  by_cases e : i = j
  · rw [if_pos e]; simp
  · rw [if_neg e]
    rw [List.any_cons, Bool.or_eq_true] at h
    rcases h with h | h
    · exact absurd (Nat.eq_of_beq_eq_true h) e
    · have := pick_none h
      cases hp : pick j t with
      | none => exact absurd hp this
      | some y => simp
theorem stat_of {sc : List (Nat × Nat)} {listed : Array Bool} (h : statOk (ops.toList.map (amask md)) sc = true) : Stat md ops sc listed := by
 intro j oj hoj hn _ x hx hx2
 have hjl := (Array.getElem?_eq_some_iff.1 hoj).1
 have gm : (ops.toList.map (amask md)).getD j 0 = amask md oj := by
  rw [List.getD_eq_getElem?_getD, List.getElem?_map]
  have : ops.toList[j]? = some oj := by simpa using hoj
  rw [this]; rfl
 have h1 := List.all_eq_true.1 h j (List.mem_range.2 (by rw [List.length_map, Array.length_toList]; exact hjl))
 rw [Bool.or_eq_true] at h1
 rcases h1 with h1 | h1
 · exact absurd hn (pick_none h1)
 · have h2 := List.all_eq_true.1 h1 x hx
   rw [Bool.or_eq_true, gm] at h2
   rcases h2 with h2 | h2
   · exact absurd (Nat.eq_of_beq_eq_true h2) hx2
   · exact (amask_bit oj x.1).1 h2
def ordROk (md : Region.Mode) (ops : Array Oper) (sc : List (Nat × Nat)) (ot : OT) : Bool :=
 statOk (ops.toList.map (amask md)) sc && Nat.ble sc.length ops.size && ordR (ops.toList.map (amask md)) (ops.size - sc.length) ot sc 0 && barOk (ops.toList.map (amask md)) ot.all
theorem wp_region_seqR [Inhabited X] {id : Nat} {a : Act} {w : World} (val : Nat → X → Value) (T : Nat → X → World → Prop) (S0 : World → Prop) (sc : List (Nat × Nat)) (ot : OT) (hm : P.follows .mixedOrders = true) (hok' : fastOk .any ops = true) (hord : ordROk .any ops sc ot = true) (hS : S0 w.drew)
 (hT : ∀ i x w w', T i x w → RowKit.Below w.heap.size w w' → T i x w') (hS0 : ∀ w w', S0 w → RowKit.Below w.heap.size w w' → S0 w')
 (h : SeqR val T S0 P ops Q sc ot a (fun _ _ => True)) : (Code.region id ops true).wp P Q a w := by
 refine wp_region_any hm ?_
 unfold ordROk at hord
 rw [Bool.and_eq_true, Bool.and_eq_true, Bool.and_eq_true] at hord
 obtain ⟨⟨⟨hstat, hle⟩, ho⟩, hb⟩ := hord
 have hle := Nat.le_of_ble_eq_true hle
 let dep : Nat → Bool := fun i => ((ot.all.filter fun x => Nat.beq x.2 0).map (·.1)).contains i
 let bar : Nat → Bool := fun i => ((ot.all.filter fun x => Nat.beq x.2 3).map (·.1)).contains i
 have hc := certR_of_seq (Q := Q) (dep := dep) (bar := bar) hok' (m := ops.size - sc.length) (ot := ot)
  (fun i hi => by
   show List.contains _ i = true
   rw [List.contains_iff_mem]
   exact List.mem_map.2 ⟨(i, 0), List.mem_filter.2 ⟨hi, rfl⟩, rfl⟩)
  (fun i hi => by
   show List.contains _ i = true
   rw [List.contains_iff_mem]
   exact List.mem_map.2 ⟨(i, 3), List.mem_filter.2 ⟨hi, rfl⟩, rfl⟩) sc 0 a _
  (fun k hk => by simp at hk) ho h
 have hsel : ∀ (j : Nat) (o : Oper) cs b, ops[j]? = some o → o.op ≠ .select cs b := by
  unfold fastOk at hok'; rw [Bool.and_eq_true] at hok'; exact Region.noSelect_spec hok'.1
 have un : ∀ {listed : Array Bool} {k}, k ∈ Region.ready .any ops listed → listed.getD k false = true → False := fun {listed k} hk h => by
  have h0 := (mem_ready.1 hk).1
  rcases Nat.lt_or_ge k listed.size with h' | h'
  · simp [h'] at h0 h; rw [h0] at h; cases h
  · simp [Array.getElem?_eq_none h'] at h
 have hpart : Part .any ops dep bar := by
  intro i j hi hj listed hcl ri rj
  have hi : List.contains _ i = true := hi
  have hj : List.contains _ j = true := hj
  rw [List.contains_iff_mem] at hi hj
  obtain ⟨⟨x, kx⟩, hx, rfl⟩ := List.mem_map.1 hi
  obtain ⟨⟨y, ky⟩, hy, rfl⟩ := List.mem_map.1 hj
  rw [List.mem_filter] at hx hy
  have h1 := List.all_eq_true.1 hb _ hy.1
  have ey : Nat.beq ky 3 = true := hy.2
  have ex : Nat.beq kx 0 = true := hx.2
  simp only [ey, Bool.not_true, Bool.false_or] at h1
  have h2 := List.all_eq_true.1 h1 _ hx.1
  simp only [ex, Bool.not_true, Bool.false_or, Bool.or_eq_true] at h2
  rcases h2 with h2 | h2
  · exact un ri (anc_listed hcl rj h2)
  · exact un rj (anc_listed hcl ri h2)
 have hcl0 : Closed .any ops (lst ops.size 0) := by
  rw [lst_zero]; exact closed_none _ rfl
 have := CertR.sound hsel hpart (fun j k hjk listed hcl hj => anc_listed hcl hj hjk) hT hS0 sc.length sc _ a _ rfl (stat_of hstat) hcl0 (fun _ _ _ => trivial) (fun _ _ _ _ _ => trivial) hc w.drew hS (fun _ => trivial)
 rw [lst_zero, show sc.length + (ops.size - sc.length) = ops.size by omega] at this
 exact this
variable {S : World → Prop} {o : Oper} {rest : List (Nat × Nat)} {ot : OT} {a : Act} {v : Value} {i : Nat} {tl : List Oper} {F : Fx}
theorem seqR_pure (hi : ops.toList.drop i = o :: tl) (hw : Region.wanted o (yielded ops a.tmps) = true) (hy : ∀ w, S0 w → (∀ k, ancB (ops.toList.map (amask .any)) i k = true → F k w) → (execOp a.eval o).run P w = .ok (.value v) w)
 (h : SeqR val T S0 P ops Q rest ot (a.put o.dst v) F) : SeqR val T S0 P ops Q ((i, 0) :: rest) ot a F :=
 ⟨o, v, at_drop hi, .inl ⟨rfl, .inl ⟨hw, fun w hS => hy w hS.1 hS.2⟩⟩, h⟩
theorem seqR_free (hi : ops.toList.drop i = o :: tl) (hw : Region.wanted o (yielded ops a.tmps) = true) (hy : ∀ w, (execOp a.eval o).run P w = .ok (.value v) w)
 (h : SeqR val T S0 P ops Q rest ot (a.put o.dst v) F) : SeqR val T S0 P ops Q ((i, 2) :: rest) ot a F :=
 ⟨o, v, at_drop hi, .inr ⟨rfl, .inl ⟨hw, fun w _ => hy w⟩⟩, h⟩
theorem seqR_call {f : FuncId} {args : Array Value} (hi : ops.toList.drop i = o :: tl) (hw : Region.wanted o (yielded ops a.tmps) = true) (hy : ∀ w, (execOp a.eval o).run P w = .ok (.enter f args) w)
 (hc : ∀ w, S0 w → (∀ k, ancB (ops.toList.map (amask .any)) i k = true → F k w) → Calls P f args w fun e w' => RowKit.Below w.heap.size w w' ∧ ∃ x, e = .returned (val i x) ∧ T i x w')
 (h : ∀ x, SeqR val T S0 P ops Q rest ot (a.put o.dst (val i x)) (updF F i (T i x))) : SeqR val T S0 P ops Q ((i, 1) :: rest) ot a F :=
 ⟨o, at_drop hi, hw, fun w hS => by rw [hy w]; exact (hc w hS.1 hS.2).mono fun e w' he => by obtain ⟨h1, x, h2, h3⟩ := he; exact ⟨_, h2, h1, x, rfl, h3⟩, h⟩
theorem seqR_move (hi : ops.toList.drop i = o :: tl) (hw : Region.wanted o (yielded ops a.tmps) = true)
 (hc : ∀ w, S0 w → (∀ k, ancB (ops.toList.map (amask .any)) i k = true → F k w) → ∃ x w', (execOp a.eval o).run P w = .ok (.value (val i x)) w' ∧ RowKit.Below w.heap.size w w' ∧ T i x w')
 (h : ∀ x, SeqR val T S0 P ops Q rest ot (a.put o.dst (val i x)) (updF F i (T i x))) : SeqR val T S0 P ops Q ((i, 1) :: rest) ot a F :=
 ⟨o, at_drop hi, hw, fun w hS => by obtain ⟨x, w', h1, h2, h3⟩ := hc w hS.1 hS.2; rw [h1]; exact ⟨h2, x, rfl, h3⟩, h⟩
end
end
end Go.Proofs.Ytadilppdlbhjnaa
