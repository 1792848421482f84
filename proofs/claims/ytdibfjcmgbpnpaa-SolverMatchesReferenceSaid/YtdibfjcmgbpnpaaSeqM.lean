/- A region that draws its order and whose movers (calls and stores that change the world) come one after another: it may be walked in the order of the text. -/
import Derived.Test.YtdibfjcmgbpnpaaSeq
namespace Go.Proofs.Ytdibfjcmgbpnpaa
set_option linter.unusedSimpArgs false
set_option linter.unusedVariables false
open Go

section
variable {P : Program} {ops : Array Oper} {Q : Exit → Act → World → Prop} {md : Region.Mode} {S : Nat → World → Prop} {m : Nat} {mover : Nat → Bool} {l : Nat}

/-- At stage j an operation yields v: a mover brings the world to stage j + 1, any other does the same at all stages and leaves the stage. -/
def YM (P : Program) (ops : Array Oper) (S : Nat → World → Prop) (m : Nat) (mv : Bool) (j : Nat) (o : Oper) (v : Value) (a : Act) : Prop :=
  match mv with
  | true => Region.wanted o (yielded ops a.tmps) = true ∧ ∀ w, S j w → RGood P (S (j + 1)) v ((execOp a.eval o).run P w)
  | false => (Region.wanted o (yielded ops a.tmps) = true ∧ ∀ k, k ≤ m → ∀ w, S k w → RGood P (S k) v ((execOp a.eval o).run P w)) ∨
      (Region.wanted o (yielded ops a.tmps) = false ∧ v = undef)

theorem YM.of_same {mv : Bool} {j : Nat} {o : Oper} {v : Value} {a a' : Act} (hy : YM P ops S m mv j o v a) (he : execOp a'.eval o = execOp a.eval o)
    (hw : Region.wanted o (yielded ops a'.tmps) = Region.wanted o (yielded ops a.tmps)) : YM P ops S m mv j o v a' := by
  unfold YM at *
  rw [he, hw]
  exact hy

def up (mv : Bool) (j : Nat) : Nat := if mv then j + 1 else j

theorem wpOp_good {i : Nat} {o : Oper} {v : Value} {a : Act} {S' : World → Prop} (hi : ops[i]? = some o) (hw : Region.wanted o (yielded ops a.tmps) = true)
    {K : Act → World → Prop} {w : World} (hr : RGood P S' v ((execOp a.eval o).run P w)) (h : ∀ w', S' w' → K (a.put o.dst v) w') : wpOp P ops Q i K a w := by
  unfold Go.wpOp
  simp only [hi, hw, if_true]
  refine .inl ?_
  unfold Oper.wp
  generalize (execOp a.eval o).run P w = r at *
  cases r with
  | ok n w' =>
    cases n <;> simp only [RGood] at hr <;> simp only [Oper.upon]
    case value u => rw [hr.1]; exact h _ hr.2
    case skip => rw [← hr.1]; exact h _ hr.2
    case enter f args => exact Calls.mono hr fun e w'' he => by obtain ⟨rfl, hs⟩ := he; exact h _ hs
  | halt x w' => exact absurd hr (by simp [RGood])

theorem YM.wpOp {mv : Bool} {j i : Nat} {o : Oper} {v : Value} {a : Act} (hi : ops[i]? = some o) (hy : YM P ops S m mv j o v a) (hj : j ≤ m)
    {K : Act → World → Prop} {w : World} (hS : S j w) (h : ∀ w', S (up mv j) w' → K (a.put o.dst v) w') : wpOp P ops Q i K a w := by
  cases mv with
  | true => exact wpOp_good hi hy.1 (hy.2 w hS) (fun w' hw' => h w' hw')
  | false =>
    rcases hy with ⟨hw, hv⟩ | ⟨hw, rfl⟩
    · exact wpOp_good hi hw (hv j hj w hS) (fun w' hw' => h w' hw')
    · unfold Go.wpOp
      simp only [hi, hw, Bool.false_eq_true, if_false]; exact h _ hS

/-- What is listed has all of what comes before it listed. -/
def Closed (md : Region.Mode) (ops : Array Oper) (listed : Array Bool) : Prop :=
  ∀ j o, ops[j]? = some o → listed.getD j false = true → ∀ e ∈ o.after, Region.binds md e = true → listed.getD e.on false = true
theorem Closed.step {listed : Array Bool} {i : Nat} (h : Closed md ops listed) (hi : i ∈ Region.ready md ops listed) : Closed md ops (listed.setIfInBounds i true) := by
  intro j o ho hj e he hb
  obtain ⟨_, oi, hoi, hall⟩ := mem_ready.1 hi
  by_cases hji : j = i
  · subst hji
    obtain rfl : oi = o := Option.some.inj (hoi.symm.trans ho)
    exact getD_set_true (hall e he hb)
  · rw [getD_set_ne false (Ne.symm hji)] at hj
    exact getD_set_true (h j o ho hj e he hb)

/-- Steps in some order; l: the operation, if any, that always comes last and is not among them. -/
inductive CertM (P : Program) (md : Region.Mode) (ops : Array Oper) (Q : Exit → Act → World → Prop) (S : Nat → World → Prop) (m : Nat) (mover : Nat → Bool) (l : Nat) : Nat → Array Bool → Act → Nat → Prop
  | fin {n : Nat} {listed : Array Bool} {a : Act} : (∀ i, i < ops.size → i ≠ l → listed.getD i false = true) → (∀ w, S m w → wpAny P md ops Q n listed a w) → CertM P md ops Q S m mover l n listed a m
  | take {n : Nat} {listed : Array Bool} {a : Act} {j i : Nat} {oi : Oper} {v : Value} : ops[i]? = some oi →
      (∀ j oj, ops[j]? = some oj → j ≠ i → listed.getD j true = false → (∀ e ∈ oj.after, Region.binds md e = true → e.on ≠ i) → oi.apart ops oj = true) →
      i ∈ Region.ready md ops listed → YM P ops S m (mover i) j oi v a → up (mover i) j ≤ m → CertM P md ops Q S m mover l n (listed.setIfInBounds i true) (a.put oi.dst v) (up (mover i) j) → CertM P md ops Q S m mover l (n + 1) listed a j

theorem up_comm (x y : Bool) (j : Nat) : up x (up y j) = up y (up x j) := by cases x <;> cases y <;> rfl

theorem CertM.le {n : Nat} {listed : Array Bool} {a : Act} {j : Nat} (h : CertM P md ops Q S m mover l n listed a j) : j ≤ m := by
  cases h with
  | fin => exact Nat.le_refl _
  | take _ _ _ _ h => revert h; unfold up; split <;> omega

theorem CertM.front (hsel : ∀ (j : Nat) (o : Oper) cs b, ops[j]? = some o → o.op ≠ .select cs b)
    (hex : ∀ listed, Closed md ops listed → ∀ i j, i ∈ Region.ready md ops listed → j ∈ Region.ready md ops listed → mover i = true → mover j = true → i = j)
    (hlast : ∀ listed, Closed md ops listed → l ∈ Region.ready md ops listed → ∀ i, i < ops.size → i ≠ l → listed.getD i false = true)
    {n : Nat} {listed : Array Bool} {a : Act} {s : Nat} (h : CertM P md ops Q S m mover l n listed a s) :
    Closed md ops listed → ∀ j, j ∈ Region.ready md ops listed → (∀ i, i < ops.size → i ≠ l → listed.getD i false = true) ∨ ∃ k oj vj, n = k + 1 ∧ ops[j]? = some oj ∧ YM P ops S m (mover j) s oj vj a ∧ up (mover j) s ≤ m ∧ CertM P md ops Q S m mover l k (listed.setIfInBounds j true) (a.put oj.dst vj) (up (mover j) s) := by
  induction h with
  | fin hall _ => intro _ j _; exact .inl hall
  | @take n listed a s i oi v hi hfree hr hy hle hrest ih =>
    intro hcl j hj
    by_cases hji : j = i
    · subst hji; exact .inr ⟨n, oi, v, rfl, hi, hy, hle, hrest⟩
    · right
      have hun : ∀ x, x ∈ Region.ready md ops listed → listed.getD x false = true → False := by
        intro x hx ht
        have h0 := (mem_ready.1 hx).1
        rcases Nat.lt_or_ge x listed.size with h' | h'
        · simp [h'] at h0 ht; rw [h0] at ht; cases ht
        · simp [Array.getElem?_eq_none h'] at h0
      rcases ih (hcl.step hr) j (ready_mono hj hji) with hall | hex0
      · exfalso
        have hjl : j = l := by
          rcases Nat.decEq j l with h | h
          · exfalso
            have hjs : j < ops.size := by obtain ⟨_, o, ho, _⟩ := mem_ready.1 hj; exact (Array.getElem?_eq_some_iff.1 ho).1
            have := hall j hjs h
            rw [getD_set_ne false (Ne.symm hji)] at this
            exact hun j hj this
          · exact h
        subst hjl
        exact hun i hr (hlast listed hcl hj i (Array.getElem?_eq_some_iff.1 hi).1 (Ne.symm hji))
      obtain ⟨k, oj, vj, rfl, hoj, hyj, hlej, hc⟩ := hex0
      obtain ⟨hjun, oj', hoj', hall⟩ := mem_ready.1 hj
      obtain rfl : oj = oj' := Option.some.inj (hoj.symm.trans hoj')
      have hnot : ∀ e ∈ oj.after, Region.binds md e = true → e.on ≠ i := fun e he hb heq => by
        have h1 := hall e he hb
        have h0 := (mem_ready.1 hr).1
        rw [heq] at h1
        rcases Nat.lt_or_ge i listed.size with h' | h'
        · simp [h'] at h0 h1; rw [h0] at h1; cases h1
        · simp [Array.getElem?_eq_none h'] at h1
      obtain ⟨h1, h2, h3⟩ := Oper.apart_spec (hfree j oj hoj hji hjun hnot)
      have hnm : mover i = true → mover j = true → False := fun a b => hji (hex listed hcl j i hj hr b a)
      have hyj0 : YM P ops S m (mover j) s oj vj (a.put oi.dst v) := by
        cases hmj : mover j with
        | false => rw [hmj] at hyj; exact hyj
        | true =>
          cases hmi : mover i with
          | true => exact absurd hmj (fun h => hnm hmi h)
          | false => rw [hmj, hmi] at hyj; exact hyj
      have hy0 : YM P ops S m (mover i) (up (mover j) s) oi v a := by
        cases hmi : mover i with
        | false => rw [hmi] at hy; exact hy
        | true =>
          cases hmj : mover j with
          | true => exact absurd hmj (fun h => hnm hmi h)
          | false => rw [hmi] at hy; exact hy
      have hyj' : YM P ops S m (mover j) s oj vj a := hyj0.of_same (execOp_put oj (fun cs b => hsel j oj cs b hoj) a oi.dst v h1).symm (wanted_put oj a oi.dst v h1).symm
      have hy' : YM P ops S m (mover i) (up (mover j) s) oi v (a.put oj.dst vj) := hy0.of_same (execOp_put oi (fun cs b => hsel i oi cs b hi) a oj.dst vj h3) (wanted_put oi a oj.dst vj h3)
      have hfree' : ∀ k ok, ops[k]? = some ok → k ≠ i → (listed.setIfInBounds j true).getD k true = false →
          (∀ e ∈ ok.after, Region.binds md e = true → e.on ≠ i) → oi.apart ops ok = true := fun k ok hk hki hun hno => by
        refine hfree k ok hk hki ?_ hno
        by_cases hjk : j = k
        · subst hjk; exact hjun
        · rw [getD_set_ne true hjk] at hun; exact hun
      rw [up_comm] at hlej hc
      refine ⟨k + 1, oj, vj, rfl, hoj, hyj', ?_, .take hi hfree' (ready_mono hr (Ne.symm hji)) hy' hlej ?_⟩
      · revert hlej; unfold up; split <;> split <;> omega
      · rw [Array.setIfInBounds_comm _ _ hji, ← Act.put_comm a v vj h2]
        exact hc

theorem CertM.sound (hsel : ∀ (j : Nat) (o : Oper) cs b, ops[j]? = some o → o.op ≠ .select cs b)
    (hex : ∀ listed, Closed md ops listed → ∀ i j, i ∈ Region.ready md ops listed → j ∈ Region.ready md ops listed → mover i = true → mover j = true → i = j)
    (hlast : ∀ listed, Closed md ops listed → l ∈ Region.ready md ops listed → ∀ i, i < ops.size → i ≠ l → listed.getD i false = true) :
    ∀ (n : Nat) (listed : Array Bool) (a : Act) (s : Nat), CertM P md ops Q S m mover l n listed a s → Closed md ops listed → ∀ w, S s w → wpAny P md ops Q n listed a w := by
  intro n
  induction n with
  | zero =>
    intro listed a s h hcl w hS
    cases h with
    | fin _ hf => exact hf w hS
  | succ n ih =>
    intro listed a s h hcl w hS
    have hfr := h.front hsel hex hlast hcl
    have hle0 := h.le
    cases h with
    | fin _ hf => exact hf w hS
    | @take _ _ _ _ i oi v hi hfree hr hy hle hrest =>
      refine ⟨fun h0 => (by rw [h0] at hr; cases hr), fun j hj => ?_⟩
      by_cases hji : j = i
      · subst hji
        exact hy.wpOp hi hle0 hS fun w' hS' => ih _ _ _ hrest (hcl.step hj) w' hS'
      · rcases hfr j hj with hall | ⟨k, oj, vj, hk, hoj, hyj, hle', hc⟩
        · exfalso
          have un : ∀ x, x ∈ Region.ready md ops listed → x = l := by
            intro x hx
            rcases Nat.decEq x l with h | h
            · exfalso
              obtain ⟨h0, o, ho, _⟩ := mem_ready.1 hx
              have ht := hall x (Array.getElem?_eq_some_iff.1 ho).1 h
              rcases Nat.lt_or_ge x listed.size with h' | h'
              · simp [h'] at h0 ht; rw [h0] at ht; cases ht
              · simp [Array.getElem?_eq_none h'] at h0
            · exact h
          exact hji ((un j hj).trans (un i hr).symm)
        · obtain rfl : n = k := by omega
          exact hyj.wpOp hoj hle0 hS fun w' hS' => ih _ _ _ hc (hcl.step hj) w' hS'

/-- Each mover but the first has an edge to the one before it. -/
def chained (md : Region.Mode) (ops : Array Oper) : List Nat → Bool
  | [] => true
  | [_] => true
  | x :: y :: t => Nat.blt x y && (match ops[y]? with | some o => o.after.any (fun e => Region.binds md e && e.on == x) | none => false) && chained md ops (y :: t)

theorem chained_lt : ∀ (l : List Nat) (x : Nat), chained md ops (x :: l) = true → ∀ y ∈ l, x < y
  | [], _, _, y, h => by cases h
  | z :: t, x, h, y, hy => by
    simp only [chained, Bool.and_eq_true, Nat.blt_eq] at h
    rcases List.mem_cons.1 hy with rfl | hy
    · exact h.1.1
    · exact Nat.lt_trans h.1.1 (chained_lt t z h.2 y hy)
theorem chained_before {listed : Array Bool} (hcl : Closed md ops listed) : ∀ (l : List Nat) (x : Nat), chained md ops (x :: l) = true → ∀ y ∈ l, (listed.getD y false = true ∨ y ∈ Region.ready md ops listed) → listed.getD x false = true
  | [], _, _, y, h, _ => by cases h
  | z :: t, x, h, y, hy, hl => by
    simp only [chained, Bool.and_eq_true] at h
    obtain ⟨⟨_, h1⟩, h2⟩ := h
    have hz : listed.getD z false = true ∨ z ∈ Region.ready md ops listed := by
      rcases List.mem_cons.1 hy with rfl | hy
      · exact hl
      · exact .inl (chained_before hcl t z h2 y hy hl)
    cases ho : ops[z]? with
    | none => rw [ho] at h1; cases h1
    | some o =>
      rw [ho] at h1
      obtain ⟨e, he, hb⟩ := Array.any_eq_true'.1 h1
      rw [Bool.and_eq_true, beq_iff_eq] at hb
      rw [← hb.2]
      rcases hz with hz | hz
      · exact hcl z o ho hz e he hb.1
      · obtain ⟨_, o', ho', hall⟩ := mem_ready.1 hz
        obtain rfl : o = o' := Option.some.inj (ho.symm.trans ho')
        exact hall e he hb.1
theorem unlisted_of_ready {listed : Array Bool} {x : Nat} (h : x ∈ Region.ready md ops listed) : listed.getD x false = false := by
  have h0 := (mem_ready.1 h).1
  rcases Nat.lt_or_ge x listed.size with h' | h'
  · simp [h'] at h0 ⊢; exact h0
  · simp [Array.getElem?_eq_none h'] at h0
theorem chained_excl {listed : Array Bool} (hcl : Closed md ops listed) : ∀ (l : List Nat), chained md ops l = true → ∀ i ∈ l, ∀ j ∈ l, i ∈ Region.ready md ops listed → j ∈ Region.ready md ops listed → i = j
  | [], _, i, hi, _, _, _, _ => by cases hi
  | x :: t, h, i, hi, j, hj, hri, hrj => by
    have ht : chained md ops t = true := by
      cases t with
      | nil => rfl
      | cons y t => simp only [chained, Bool.and_eq_true] at h; exact h.2
    rcases List.mem_cons.1 hi with e1 | h1 <;> rcases List.mem_cons.1 hj with e2 | h2
    · rw [e1, e2]
    · subst e1; have := chained_before hcl t i h j h2 (.inr hrj); rw [unlisted_of_ready hri] at this; cases this
    · subst e2; have := chained_before hcl t j h i h1 (.inr hri); rw [unlisted_of_ready hrj] at this; cases this
    · exact chained_excl hcl t ht i h1 j h2 hri hrj

def SeqM (P : Program) (ops : Array Oper) (S : Nat → World → Prop) (m : Nat) (mover : Nat → Bool) (fin : Act → Prop) : List Oper → Nat → Nat → Act → Prop
  | [], _, s, a => s = m ∧ fin a
  | o :: rest, k, s, a => ∃ v, YM P ops S m (mover k) s o v a ∧ up (mover k) s ≤ m ∧ SeqM P ops S m mover fin rest (k + 1) (up (mover k) s) (a.put o.dst v)

theorem pre_getD {n k j : Nat} (d : Bool) (h : j < n) : (pre n k).getD j d = decide (j < k) := by
  have hp : j < (pre n k).size := by simp [pre]; exact h
  rw [Array.getD_eq_getD_getElem?, Array.getElem?_eq_getElem hp]
  simp [pre]

/-- Up to the operation l (all of them, if l is their number). -/
theorem certM_of_seq {fin : Act → Prop} (hok : textOk md ops = true) (hl : l = ops.size ∨ l + 1 = ops.size) (hfin : ∀ n a, n + l = ops.size → fin a → ∀ w, S m w → wpAny P md ops Q n (pre ops.size l) a w) :
    ∀ (rest : List Oper) (k s : Nat) (a : Act), (ops.toList.take l).drop k = rest → k ≤ l → SeqM P ops S m mover fin rest k s a → CertM P md ops Q S m mover l (rest.length + (ops.size - l)) (pre ops.size k) a s := by
  intro rest
  induction rest with
  | nil =>
    intro k s a hd hk h
    obtain ⟨rfl, h⟩ := h
    have hkl : k = l := by
      have := congrArg List.length hd
      simp at this
      omega
    subst hkl
    refine .fin (fun i hi hne => ?_) (fun w hS => hfin _ a (by simp; omega) h w hS)
    rw [pre_getD _ hi, decide_eq_true_eq]; omega
  | cons o rest ih =>
    intro k s a hd hk h
    obtain ⟨v, hy, hle, hrest⟩ := h
    have hkl : k < l := by
      have := congrArg List.length hd; simp at this; omega
    have hlt : k < ops.size := by omega
    have ho : ops[k]? = some o := by
      have h1 : ((ops.toList.take l).drop k)[0]? = some o := by rw [hd]; rfl
      rw [List.getElem?_drop, List.getElem?_take, if_pos (by omega)] at h1
      simpa using h1
    unfold textOk at hok
    rw [Bool.and_eq_true, List.all_eq_true] at hok
    have hc := hok.2 k (List.mem_range.2 hlt)
    rw [Bool.and_eq_true] at hc
    rw [show (o :: rest).length + (ops.size - l) = rest.length + (ops.size - l) + 1 by simp; omega]
    refine .take ho (Region.free_spec ho hc.1) (by simpa using hc.2) hy hle ?_
    rw [pre_succ]
    refine ih (k + 1) _ _ ?_ (by omega) hrest
    rw [← List.drop_drop, hd]; rfl

theorem closed_none (n : Nat) (hn : n = ops.size) : Closed md ops (Array.replicate n false) := by
  intro j o ho hj
  exfalso
  have hlt := (Array.getElem?_eq_some_iff.1 ho).1
  subst hn
  simp [hlt] at hj

/-- THE RULE. movers: the indices of the operations that move the world. -/
theorem wp_region_seqM {id : Nat} {a : Act} {w : World} (S : Nat → World → Prop) (movers : List Nat) (hm : P.follows .mixedOrders = true) (hok' : fastOk .any ops = true) (hch : chained .any ops movers = true) (hS : S 0 w.drew)
    (h : SeqM P ops S movers.length (fun k => movers.contains k) (fun a => ∀ w, S movers.length w → Q .normal a w) ops.toList 0 0 a) : (Code.region id ops true).wp P Q a w := by
  have hok := textOk_of hok'
  refine wp_region_any hm ?_
  have hc := certM_of_seq (l := ops.size) (Q := Q) hok (.inl rfl) (fun n a hn hf w hS => by
    obtain rfl : n = 0 := by omega
    refine ⟨?_, hf w hS⟩
    cases hr : Region.ready .any ops (pre ops.size ops.size) with
    | nil => rfl
    | cons j t =>
      exfalso
      have hj : j ∈ Region.ready .any ops (pre ops.size ops.size) := by rw [hr]; exact List.mem_cons_self
      obtain ⟨h0, o, ho, _⟩ := mem_ready.1 hj
      have hlt := (Array.getElem?_eq_some_iff.1 ho).1
      rw [pre_getD _ hlt] at h0; simp at h0; omega) ops.toList 0 0 a (by rw [← Array.length_toList, List.take_length, List.drop_zero]) (by omega) h
  rw [pre_zero, Nat.sub_self, Nat.add_zero, Array.length_toList] at hc
  have hsel : ∀ (j : Nat) (o : Oper) cs b, ops[j]? = some o → o.op ≠ .select cs b := by
    unfold textOk at hok; rw [Bool.and_eq_true] at hok; exact Region.noSelect_spec hok.1
  exact CertM.sound hsel (fun listed hcl i j hi hj h1 h2 => chained_excl hcl movers hch i (by simpa using h1) j (by simpa using h2) hi hj)
    (fun listed _ h => by obtain ⟨_, o, ho, _⟩ := mem_ready.1 h; have := (Array.getElem?_eq_some_iff.1 ho).1; omega) _ _ _ _ hc (closed_none _ rfl) w.drew hS

/-- Every operation but the last has a later one that waits for it. -/
def waited (md : Region.Mode) (ops : Array Oper) : Bool :=
  (List.range (ops.size - 1)).all fun k => (List.range ops.size).any fun j => Nat.blt k j && (match ops[j]? with | some o => o.after.any (fun e => Region.binds md e && e.on == k) | none => false)
theorem waited_last (h : waited md ops = true) {listed : Array Bool} (hcl : Closed md ops listed) (hr : ops.size - 1 ∈ Region.ready md ops listed) : ∀ d i, i + d = ops.size - 1 → i ≠ ops.size - 1 → listed.getD i false = true := by
  intro d
  induction d using Nat.strongRecOn with
  | ind d ih =>
    intro i hid hne
    unfold waited at h
    have hk := List.all_eq_true.1 h i (List.mem_range.2 (by omega))
    obtain ⟨j, hj, hb⟩ := List.any_eq_true.1 hk
    have hj := List.mem_range.1 hj
    rw [Bool.and_eq_true, Nat.blt_eq] at hb
    cases ho : ops[j]? with
    | none => rw [ho] at hb; cases hb.2
    | some o =>
      rw [ho] at hb
      obtain ⟨e, he, hbe⟩ := Array.any_eq_true'.1 hb.2
      rw [Bool.and_eq_true, beq_iff_eq] at hbe
      rw [← hbe.2]
      by_cases hjl : j = ops.size - 1
      · obtain ⟨_, o', ho', hall⟩ := mem_ready.1 hr
        rw [← hjl] at ho'
        obtain rfl : o = o' := Option.some.inj (ho.symm.trans ho')
        exact hall e he hbe.1
      · exact hcl j o ho (ih (ops.size - 1 - j) (by omega) j (by omega) hjl) e he hbe.1

/-- THE RULE WITH A LAST OPERATION that all others come before: what the others need holds before it. -/
theorem wp_region_seqT {id : Nat} {a : Act} {w : World} (S : Nat → World → Prop) (movers : List Nat) (last : Oper) (hm : P.follows .mixedOrders = true) (hok' : fastOk .any ops = true) (hch : chained .any ops movers = true) (hwt : waited .any ops = true)
    (hlo : ops[ops.size - 1]? = some last) (hS : S 0 w.drew)
    (h : SeqM P ops S movers.length (fun k => movers.contains k) (fun a => ∀ w, S movers.length w → if Region.wanted last (yielded ops a.tmps) then last.wp P a w (fun a' w' => Q .normal a' w') Q else Q .normal (a.put last.dst undef) w) (ops.toList.take (ops.size - 1)) 0 0 a) : (Code.region id ops true).wp P Q a w := by
  have hok := textOk_of hok'
  have hpos : ops.size - 1 < ops.size := (Array.getElem?_eq_some_iff.1 hlo).1
  refine wp_region_any hm ?_
  have hc := certM_of_seq (l := ops.size - 1) (Q := Q) hok (.inr (by omega)) (fun n a hn hf w hS => by
    obtain rfl : n = 1 := by omega
    have hready : ∀ j, j ∈ Region.ready .any ops (pre ops.size (ops.size - 1)) → j = ops.size - 1 := by
      intro j hj
      obtain ⟨h0, o, ho, _⟩ := mem_ready.1 hj
      have hlt := (Array.getElem?_eq_some_iff.1 ho).1
      rw [pre_getD _ hlt] at h0; simp at h0; omega
    have hmem : ops.size - 1 ∈ Region.ready .any ops (pre ops.size (ops.size - 1)) := by
      unfold textOk at hok
      rw [Bool.and_eq_true, List.all_eq_true] at hok
      have hc := hok.2 (ops.size - 1) (List.mem_range.2 hpos)
      rw [Bool.and_eq_true] at hc
      simpa using hc.2
    refine ⟨fun h0 => (by rw [h0] at hmem; cases hmem), fun j hj => ?_⟩
    obtain rfl := hready j hj
    have hnil : Region.ready .any ops ((pre ops.size (ops.size - 1)).setIfInBounds (ops.size - 1) true) = [] := by
      rw [pre_succ]
      cases hr : Region.ready .any ops (pre ops.size (ops.size - 1 + 1)) with
      | nil => rfl
      | cons j t =>
        exfalso
        have hj : j ∈ Region.ready .any ops (pre ops.size (ops.size - 1 + 1)) := by rw [hr]; exact List.mem_cons_self
        obtain ⟨h0, o, ho, _⟩ := mem_ready.1 hj
        have hlt := (Array.getElem?_eq_some_iff.1 ho).1
        rw [pre_getD _ hlt] at h0; simp at h0; omega
    have hq := hf w hS
    unfold wpOp
    simp only [hlo]
    split
    · rename_i hw
      rw [if_pos hw] at hq
      exact .inl (Oper.wp_mono (fun a' w' hq' => ⟨hnil, hq'⟩) hq)
    · rename_i hw
      rw [if_neg hw] at hq
      exact ⟨hnil, hq⟩) (ops.toList.take (ops.size - 1)) 0 0 a (by rw [List.drop_zero]) (by omega) h
  rw [pre_zero, show (ops.toList.take (ops.size - 1)).length = ops.size - 1 by simp, show ops.size - 1 + (ops.size - (ops.size - 1)) = ops.size by omega] at hc
  have hsel : ∀ (j : Nat) (o : Oper) cs b, ops[j]? = some o → o.op ≠ .select cs b := by
    unfold textOk at hok; rw [Bool.and_eq_true] at hok; exact Region.noSelect_spec hok.1
  exact CertM.sound hsel (fun listed hcl i j hi hj h1 h2 => chained_excl hcl movers hch i (by simpa using h1) j (by simpa using h2) hi hj)
    (fun listed hcl h i hi hne => waited_last hwt hcl h (ops.size - 1 - i) i (by omega) hne) _ _ _ _ hc (closed_none _ rfl) w.drew hS

variable {fin : Act → Prop} {o : Oper} {rest : List Oper} {a : Act} {v : Value} {k s : Nat}
theorem seqM_nil (h : fin a) : SeqM P ops S m mover fin [] k m a := ⟨rfl, h⟩
theorem seqM_pure (hm : mover k = false) (hs : s ≤ m) (hw : Region.wanted o (yielded ops a.tmps) = true) (hy : ∀ j, j ≤ m → ∀ w, S j w → (execOp a.eval o).run P w = .ok (.value v) w) (h : SeqM P ops S m mover fin rest (k + 1) s (a.put o.dst v)) : SeqM P ops S m mover fin (o :: rest) k s a := by
  refine ⟨v, ?_, ?_, ?_⟩
  · rw [hm]; exact .inl ⟨hw, fun j hj w hS => by rw [hy j hj w hS]; exact ⟨rfl, hS⟩⟩
  · rw [hm]; exact hs
  · rw [hm]; exact h
theorem seqM_still {f : FuncId} {args : Array Value} (hm : mover k = false) (hs : s ≤ m) (hw : Region.wanted o (yielded ops a.tmps) = true) (hy : ∀ j, j ≤ m → ∀ w, S j w → (execOp a.eval o).run P w = .ok (.enter f args) w)
    (hc : ∀ j, j ≤ m → ∀ w, S j w → Calls P f args w fun e w' => e = .returned v ∧ S j w') (h : SeqM P ops S m mover fin rest (k + 1) s (a.put o.dst v)) : SeqM P ops S m mover fin (o :: rest) k s a := by
  refine ⟨v, ?_, ?_, ?_⟩
  · rw [hm]; exact .inl ⟨hw, fun j hj w hS => by rw [hy j hj w hS]; exact hc j hj w hS⟩
  · rw [hm]; exact hs
  · rw [hm]; exact h
theorem seqM_off (hm : mover k = false) (hs : s ≤ m) (hw : Region.wanted o (yielded ops a.tmps) = false) (h : SeqM P ops S m mover fin rest (k + 1) s (a.put o.dst undef)) : SeqM P ops S m mover fin (o :: rest) k s a := by
  refine ⟨undef, ?_, ?_, ?_⟩
  · rw [hm]; exact .inr ⟨hw, rfl⟩
  · rw [hm]; exact hs
  · rw [hm]; exact h
theorem seqM_call {f : FuncId} {args : Array Value} (hm : mover k = true) (hs : s + 1 ≤ m) (hw : Region.wanted o (yielded ops a.tmps) = true) (hy : ∀ w, S s w → (execOp a.eval o).run P w = .ok (.enter f args) w)
    (hc : ∀ w, S s w → Calls P f args w fun e w' => e = .returned v ∧ S (s + 1) w') (h : SeqM P ops S m mover fin rest (k + 1) (s + 1) (a.put o.dst v)) : SeqM P ops S m mover fin (o :: rest) k s a := by
  refine ⟨v, ?_, ?_, ?_⟩
  · rw [hm]; exact ⟨hw, fun w hS => by rw [hy w hS]; exact hc w hS⟩
  · rw [hm]; exact hs
  · rw [hm]; exact h
/-- A store, an alloc .. -/
theorem seqM_move {f : World → World} (hm : mover k = true) (hs : s + 1 ≤ m) (hw : Region.wanted o (yielded ops a.tmps) = true) (hy : ∀ w, S s w → (execOp a.eval o).run P w = .ok (.value v) (f w) ∧ S (s + 1) (f w))
    (h : SeqM P ops S m mover fin rest (k + 1) (s + 1) (a.put o.dst v)) : SeqM P ops S m mover fin (o :: rest) k s a := by
  refine ⟨v, ?_, ?_, ?_⟩
  · rw [hm]; exact ⟨hw, fun w hS => by rw [(hy w hS).1]; exact ⟨rfl, (hy w hS).2⟩⟩
  · rw [hm]; exact hs
  · rw [hm]; exact h
theorem seqM_store {f : World → World} (hm : mover k = true) (hs : s + 1 ≤ m) (hw : Region.wanted o (yielded ops a.tmps) = true) (hy : ∀ w, S s w → (execOp a.eval o).run P w = .ok .skip (f w) ∧ S (s + 1) (f w))
    (h : SeqM P ops S m mover fin rest (k + 1) (s + 1) (a.put o.dst undef)) : SeqM P ops S m mover fin (o :: rest) k s a := by
  refine ⟨undef, ?_, ?_, ?_⟩
  · rw [hm]; exact ⟨hw, fun w hS => by rw [(hy w hS).1]; exact ⟨rfl, (hy w hS).2⟩⟩
  · rw [hm]; exact hs
  · rw [hm]; exact h
end
end Go.Proofs.Ytdibfjcmgbpnpaa
