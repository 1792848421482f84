/- Plain functions of layer 16, on references and on truth values alike. -/
import Derived.Test.YtanlecgpnknhoaaPlain9
namespace Go.Proofs.Ytanlecgpnknhoaa
set_option linter.unusedSimpArgs false
set_option linter.unusedVariables false

section
variable {ρ : Type} (z o : ρ)
def ureach (u : List ρ) (k : Int) : ρ := if k ≤ 0 then z else if (u.length : Int) < k then o else u.getD (k - 1).toNat z
def addIn (x y : List ρ) (k lo : Nat) : Nat → CM ρ ρ
  | 0 => .ret o
  | n + 1 => (addIn x y k lo n).bind fun acc => .and (ureach z o x ((lo + n : Nat) : Int)) (ureach z o y ((k : Int) + 1 - ((lo + n : Nat) : Int))) fun t => .or acc t .ret
def addLo (ny k : Nat) : Nat := k + 1 - ny
def addCnt (nx ny k : Nat) : Nat := min (k + 1) nx + 1 - addLo ny k
def addTo (x y : List ρ) : Nat → CM ρ (List ρ)
  | 0 => .ret []
  | k + 1 => (addTo x y k).bind fun l => (addIn z o x y k (addLo y.length k) (addCnt x.length y.length k)).bind fun r => .ret (l ++ [r])
def uadd (x y : List ρ) : CM ρ (List ρ) := addTo z o x y (x.length + y.length)
def utotal : Nat → List ρ → CM ρ (List ρ)
  | 0, l => .ret l
  | f + 1, l => if l.length < 2 then .ret l else (utotal f (l.take (l.length / 2))).bind fun u => (utotal f (l.drop (l.length / 2))).bind fun v => uadd z o u v
def ucount (l : List ρ) : Nat → CM ρ (List ρ)
  | 0 => .ret []
  | i + 1 => (ucount l i).bind fun out => uadd z o out [l.getD i z]
def lessTo (neg : ρ → ρ) (x y : List ρ) (by' : Int) : Nat → CM ρ ρ
  | 0 => .ret o
  | j + 1 => (lessTo neg x y by' j).bind fun any => .and (ureach z o y (j : Int)) (neg (ureach z o x ((j : Int) + by'))) fun t => .or any t .ret
def uless (neg : ρ → ρ) (x y : List ρ) (by' : Int) : CM ρ ρ := lessTo z o neg x y by' (y.length + 1)
def uatleast (l : List ρ) (k : Int) : CM ρ ρ := if k ≤ 0 ∨ (l.length : Int) < k then .ret (ureach z o l (min k ((l.length : Int) + 1))) else (utotal z o l.length l).bind fun out => .ret (out.getD (k - 1).toNat z)
def cmpAt (i j : Nat) (l : List ρ) : CM ρ (List ρ) := .or (l.getD i o) (l.getD j o) fun p => .and (l.getD i o) (l.getD j o) fun q => .ret ((l.set i p).set j q)
def mergeLoop (low step : Nat) : Nat → List ρ → CM ρ (List ρ)
  | 0, l => .ret l
  | m + 1, l => (mergeLoop low step m l).bind (cmpAt o (low + step + m * (2 * step)) (low + step + m * (2 * step) + step))
/-- merges 2^(e+1) elements that lie step apart -/
def umerge : Nat → Nat → Nat → List ρ → CM ρ (List ρ)
  | 0, low, step, l => cmpAt o low (low + step) l
  | e + 1, low, step, l => (umerge e low (2 * step) l).bind fun l => (umerge e (low + step) (2 * step) l).bind fun l => mergeLoop o low step (2 ^ (e + 1) - 1) l
/-- sorts 2^e elements -/
def usort : Nat → Nat → List ρ → CM ρ (List ρ)
  | 0, _, l => .ret l
  | e + 1, low, l => (usort e low l).bind fun l => (usort e (low + 2 ^ e) l).bind fun l => umerge o e low 1 l
/-- the exponent of the next power of two -/
def plog (n : Nat) : Nat → Nat → Nat
  | 0, e => e
  | f + 1, e => if 2 ^ e < n then plog n f (e + 1) else e
def usorter (l : List ρ) : CM ρ (List ρ) := (usort o (plog l.length l.length 0) 0 (l ++ List.replicate (2 ^ plog l.length l.length 0 - l.length) o)).bind fun r => .ret (r.take l.length)
end

/- Alike references, alike runs. -/
section
variable {ρ σ : Type} {z o : ρ} {z' o' : σ}
def RV (V : ρ → σ → Prop) (r : ρ) (s : σ) : Prop := V r s
def opsAdd (nx ny : Nat) : Nat := (nx + ny) * (2 * (nx + 1))

theorem ureach_alike {V : ρ → σ → Prop} {x : List ρ} {x' : List σ} (hz : V z z') (ho : V o o') (h : AllV V x x') (k : Int) : V (ureach z o x k) (ureach z' o' x' k) := by
  unfold ureach
  rw [← h.1]
  split
  · exact hz
  · split
    · exact ho
    · exact h.getD hz _

theorem addIn_alike {V : ρ → σ → Prop} {x y : List ρ} {x' y' : List σ} (hz : V z z') (ho : V o o') (hx : AllV V x x') (hy : AllV V y y') (k lo : Nat) :
    ∀ n, Rel (2 * n) V RV (addIn z o x y k lo n) (addIn z' o' x' y' k lo n)
  | 0 => .ret ho
  | n + 1 => (addIn_alike hz ho hx hy k lo n).bind (m := 2) fun V' hV a b hab =>
      .and (hV _ _ (ureach_alike hz ho hx _)) (hV _ _ (ureach_alike hz ho hy _)) fun V'' hV' t t' ht =>
        .or (hV' _ _ hab) ht fun V3 hV3 r s hr => .ret hr

theorem addCnt_le (nx ny k : Nat) : addCnt nx ny k ≤ nx + 1 := by unfold addCnt; omega

theorem addTo_alike {V : ρ → σ → Prop} {x y : List ρ} {x' y' : List σ} (hz : V z z') (ho : V o o') (hx : AllV V x x') (hy : AllV V y y') :
    ∀ k, Rel (k * (2 * (x.length + 1))) V (fun V l l' => AllV V l l' ∧ l.length = k) (addTo z o x y k) (addTo z' o' x' y' k)
  | 0 => .ret ⟨AllV.nil, rfl⟩
  | k + 1 => by
    rw [Nat.succ_mul]
    unfold addTo
    rw [← hx.1, ← hy.1]
    refine (addTo_alike hz ho hx hy k).bind fun V' hV l l' hl => ?_
    have hx' := AllV.mono hV hx
    have hy' := AllV.mono hV hy
    refine Rel.more ?_ _ (Nat.mul_le_mul_left 2 (addCnt_le x.length y.length k))
    exact (addIn_alike (hV _ _ hz) (hV _ _ ho) hx' hy' k _ _).bind (m := 0) fun V'' hV' r s hr => .ret ⟨(AllV.mono hV' hl.1).snoc hr, by simp [hl.2]⟩

/-- What the relation says of lists of a known length. -/
def RL (n : Nat) (V : ρ → σ → Prop) (l : List ρ) (l' : List σ) : Prop := AllV V l l' ∧ l.length = n

theorem uadd_alike {V : ρ → σ → Prop} {x y : List ρ} {x' y' : List σ} (hz : V z z') (ho : V o o') (hx : AllV V x x') (hy : AllV V y y') :
    Rel (opsAdd x.length y.length) V (RL (x.length + y.length)) (uadd z o x y) (uadd z' o' x' y') := by
  unfold uadd opsAdd RL
  rw [← hx.1, ← hy.1]
  exact addTo_alike hz ho hx hy _

/-- operations of a totalizer of at most n inputs -/
def opsTotal (n : Nat) : Nat := n * (n * (2 * (n + 1)))
theorem opsTotal_step (n a b : Nat) (h : a + b = n) (ha : 0 < a) (hb : 0 < b) : opsTotal a + (opsTotal b + opsAdd a b) ≤ opsTotal n := by
  subst h
  unfold opsTotal opsAdd
  have h1 : a * (2 * (a + 1)) ≤ (a + b) * (2 * (a + b + 1)) := Nat.mul_le_mul (by omega) (by omega)
  have h2 : b * (2 * (b + 1)) ≤ (a + b) * (2 * (a + b + 1)) := Nat.mul_le_mul (by omega) (by omega)
  have h3 : (a + b) * (2 * (a + 1)) ≤ (a + b) * (2 * (a + b + 1)) := Nat.mul_le_mul (by omega) (by omega)
  generalize hX : (a + b) * (2 * (a + b + 1)) = X at *
  have h4 : a * (a * (2 * (a + 1))) + b * (b * (2 * (b + 1))) + (a + b) * (2 * (a + 1)) ≤ (a + b) * X := by
    by_cases hab : a = 1 ∧ b = 1
    · obtain ⟨rfl, rfl⟩ := hab
      simp at hX ⊢; omega
    · have k1 : a * (2 * (a + 1)) + (a + b) * (2 * (a + 1)) ≤ X + a * (2 * (a + 1)) := by omega
      have e1 : a * (a * (2 * (a + 1))) ≤ a * (a * (2 * (a + 1))) := Nat.le_refl _
      have hXge : a * (2 * (a + 1)) + (2 * (a + 1)) * b ≤ X := by rw [← hX]; rw [Nat.add_mul]; have : b * (2 * (a + 1)) ≤ b * (2 * (a + b + 1)) := Nat.mul_le_mul_left _ (by omega); have : a * (2 * (a + 1)) ≤ a * (2 * (a + b + 1)) := Nat.mul_le_mul_left _ (by omega); rw [Nat.mul_comm (2 * (a + 1)) b]; omega
      have hXgb : b * (2 * (b + 1)) + (2 * (b + 1)) * a ≤ X := by rw [← hX]; rw [Nat.add_mul]; have : a * (2 * (b + 1)) ≤ a * (2 * (a + b + 1)) := Nat.mul_le_mul_left _ (by omega); have : b * (2 * (b + 1)) ≤ b * (2 * (a + b + 1)) := Nat.mul_le_mul_left _ (by omega); rw [Nat.mul_comm (2 * (b + 1)) a]; omega
      have m1 := Nat.mul_le_mul_left a hXge
      have m2 := Nat.mul_le_mul_left b hXgb
      rw [Nat.mul_add] at m1 m2
      rw [Nat.add_mul a b X]
      have n1 : (a + b) * (2 * (a + 1)) ≤ a * (2 * (a + 1) * b) + b * (2 * (b + 1) * a) := by
        have p1 : a * (2 * (a + 1)) ≤ a * (2 * (a + 1) * b) := Nat.mul_le_mul_left _ (Nat.le_mul_of_pos_right _ hb)
        have p2 : b * (2 * (a + 1)) ≤ b * (2 * (b + 1) * a) := Nat.mul_le_mul_left _ (by
          have : (b + 1) * a ≥ 2 * a := Nat.mul_le_mul_right _ (by omega)
          have h0 : 2 * (b + 1) * a = 2 * ((b + 1) * a) := Nat.mul_assoc _ _ _
          rw [h0]; omega)
        rw [Nat.add_mul]; omega
      omega
  omega

theorem utotal_alike {z' o' : σ} : ∀ (f : Nat) (V : ρ → σ → Prop) (l : List ρ) (l' : List σ), V z z' → V o o' → AllV V l l' → Rel (opsTotal l.length) V (RL l.length) (utotal z o f l) (utotal z' o' f l')
  | 0, V, l, l', _, _, h => .ret ⟨h, rfl⟩
  | f + 1, V, l, l', hz, ho, h => by
    unfold utotal
    rw [← h.1]
    by_cases hl : l.length < 2
    · rw [if_pos hl, if_pos hl]; exact .ret ⟨h, rfl⟩
    · rw [if_neg hl, if_neg hl]
      have l1 : (l.take (l.length / 2)).length = l.length / 2 := by rw [List.length_take]; omega
      have l2 : (l.drop (l.length / 2)).length = l.length - l.length / 2 := List.length_drop
      refine Rel.more ?_ _ (opsTotal_step l.length (l.length / 2) (l.length - l.length / 2) (by omega) (by omega) (by omega))
      have i1 := utotal_alike f V _ _ hz ho (h.take (l.length / 2))
      rw [l1] at i1
      refine i1.bind fun V' hV u u' hu => ?_
      have i2 := utotal_alike f V' _ _ (hV _ _ hz) (hV _ _ ho) (AllV.mono hV (h.drop (l.length / 2)))
      rw [l2] at i2
      refine i2.bind fun V'' hV' v v' hv => ?_
      have i3 := uadd_alike (hV' _ _ (hV _ _ hz)) (hV' _ _ (hV _ _ ho)) (AllV.mono hV' hu.1) hv.1
      rw [hu.2, hv.2, show l.length / 2 + (l.length - l.length / 2) = l.length by omega] at i3
      exact i3

theorem ucount_alike {z' o' : σ} {V : ρ → σ → Prop} {l : List ρ} {l' : List σ} (hz : V z z') (ho : V o o') (h : AllV V l l') : ∀ i, Rel (i * opsAdd i 1) V (RL i) (ucount z o l i) (ucount z' o' l' i)
  | 0 => .ret ⟨AllV.nil, rfl⟩
  | i + 1 => by
    unfold ucount
    refine Rel.more (n := i * opsAdd i 1 + opsAdd i 1) ?_ _ ?_
    · refine (ucount_alike hz ho h i).bind fun V' hV out out' hout => ?_
      have i3 := uadd_alike (x := out) (y := [l.getD i z]) (x' := out') (y' := [l'.getD i z']) (hV _ _ hz) (hV _ _ ho) hout.1 (by
        have := AllV.snoc (V := V') (l := []) (l' := []) AllV.nil (hV _ _ (h.getD hz i))
        exact this)
      rw [hout.2] at i3
      exact i3
    · unfold opsAdd
      have : (i + 1) * (2 * (i + 1)) ≤ (i + 1 + 1) * (2 * (i + 1 + 1)) := Nat.mul_le_mul (by omega) (by omega)
      have h2 := Nat.mul_le_mul_left (i + 1) this
      rw [Nat.succ_mul] at h2
      omega

theorem lessTo_alike {V : ρ → σ → Prop} {neg : ρ → ρ} {neg' : σ → σ} {x y : List ρ} {x' y' : List σ} (hz : V z z') (ho : V o o') (hneg : ∀ r s, V r s → V (neg r) (neg' s)) (hx : AllV V x x') (hy : AllV V y y') (b : Int) :
    ∀ j, Rel (2 * j) V RV (lessTo z o neg x y b j) (lessTo z' o' neg' x' y' b j)
  | 0 => .ret ho
  | j + 1 => (lessTo_alike hz ho hneg hx hy b j).bind (m := 2) fun V' hV a a' haa =>
      .and (hV _ _ (ureach_alike hz ho hy _)) (hV _ _ (hneg _ _ (ureach_alike hz ho hx _))) fun V'' hV' t t' ht =>
        .or (hV' _ _ haa) ht fun V3 hV3 r s hr => .ret hr
theorem uless_alike {V : ρ → σ → Prop} {neg : ρ → ρ} {neg' : σ → σ} {x y : List ρ} {x' y' : List σ} (hz : V z z') (ho : V o o') (hneg : ∀ r s, V r s → V (neg r) (neg' s)) (hx : AllV V x x') (hy : AllV V y y') (b : Int) :
    Rel (2 * (y.length + 1)) V RV (uless z o neg x y b) (uless z' o' neg' x' y' b) := by
  unfold uless; rw [← hy.1]; exact lessTo_alike hz ho hneg hx hy b _

theorem uatleast_alike {V : ρ → σ → Prop} {l : List ρ} {l' : List σ} (hz : V z z') (ho : V o o') (h : AllV V l l') (k : Int) : Rel (opsTotal l.length) V RV (uatleast z o l k) (uatleast z' o' l' k) := by
  unfold uatleast
  rw [← h.1]
  by_cases hk : k ≤ 0 ∨ (l.length : Int) < k
  · rw [if_pos hk, if_pos hk]; exact .ret (ureach_alike hz ho h _)
  · rw [if_neg hk, if_neg hk]
    exact (utotal_alike l.length V l l' hz ho h).bind (m := 0) fun V' hV out out' hout => .ret (hout.1.getD (hV _ _ hz) _)

theorem cmpAt_alike {V : ρ → σ → Prop} {l : List ρ} {l' : List σ} (ho : V o o') (h : AllV V l l') (i j : Nat) : Rel 2 V (RL l.length) (cmpAt o i j l) (cmpAt o' i j l') :=
  .or (h.getD ho i) (h.getD ho j) fun V' hV p p' hp => .and (hV _ _ (h.getD ho i)) (hV _ _ (h.getD ho j)) fun V'' hV' q q' hq =>
    .ret ⟨((AllV.mono (fun r s hh => hV' r s (hV r s hh)) h).set (hV' _ _ hp) i).set hq j, by simp⟩

theorem mergeLoop_alike {o : ρ} {o' : σ} (low step : Nat) : ∀ (m : Nat) (V : ρ → σ → Prop) (l : List ρ) (l' : List σ), V o o' → AllV V l l' → Rel (2 * m) V (RL l.length) (mergeLoop o low step m l) (mergeLoop o' low step m l')
  | 0, V, l, l', _, h => .ret ⟨h, rfl⟩
  | m + 1, V, l, l', ho, h => (mergeLoop_alike low step m V l l' ho h).bind (m := 2) fun V' hV x x' hx => by
      have := cmpAt_alike (hV _ _ ho) hx.1 (low + step + m * (2 * step)) (low + step + m * (2 * step) + step)
      rw [hx.2] at this; exact this

/-- operations of a merge, of a sort -/
def mOps : Nat → Nat
  | 0 => 2
  | e + 1 => mOps e + (mOps e + 2 * (2 ^ (e + 1) - 1))
def sOps : Nat → Nat
  | 0 => 0
  | e + 1 => sOps e + (sOps e + mOps e)
theorem umerge_alike {o : ρ} {o' : σ} : ∀ (e low step : Nat) (V : ρ → σ → Prop) (l : List ρ) (l' : List σ), V o o' → AllV V l l' → Rel (mOps e) V (RL l.length) (umerge o e low step l) (umerge o' e low step l')
  | 0, low, step, V, l, l', ho, h => cmpAt_alike ho h _ _
  | e + 1, low, step, V, l, l', ho, h => by
    unfold umerge mOps
    refine (umerge_alike e low (2 * step) V l l' ho h).bind fun V' hV x x' hx => ?_
    have i2 := umerge_alike e (low + step) (2 * step) V' x x' (hV _ _ ho) hx.1
    rw [hx.2] at i2
    refine i2.bind fun V'' hV' y y' hy => ?_
    have i3 := mergeLoop_alike low step (2 ^ (e + 1) - 1) V'' y y' (hV' _ _ (hV _ _ ho)) hy.1
    rw [hy.2] at i3
    exact i3
theorem usort_alike {o : ρ} {o' : σ} : ∀ (e low : Nat) (V : ρ → σ → Prop) (l : List ρ) (l' : List σ), V o o' → AllV V l l' → Rel (sOps e) V (RL l.length) (usort o e low l) (usort o' e low l')
  | 0, low, V, l, l', _, h => .ret ⟨h, rfl⟩
  | e + 1, low, V, l, l', ho, h => by
    unfold usort sOps
    refine (usort_alike e low V l l' ho h).bind fun V' hV x x' hx => ?_
    have i2 := usort_alike e (low + 2 ^ e) V' x x' (hV _ _ ho) hx.1
    rw [hx.2] at i2
    refine i2.bind fun V'' hV' y y' hy => ?_
    have i3 := umerge_alike e low 1 V'' y y' (hV' _ _ (hV _ _ ho)) hy.1
    rw [hy.2] at i3
    exact i3
theorem AllV.append {V : ρ → σ → Prop} {l m : List ρ} {l' m' : List σ} (h : AllV V l l') (k : AllV V m m') : AllV V (l ++ m) (l' ++ m') := by
  refine ⟨by simp [h.1, k.1], fun i a b ha hb => ?_⟩
  by_cases hi : i < l.length
  · rw [List.getElem?_append_left hi] at ha; rw [List.getElem?_append_left (by rw [← h.1]; exact hi)] at hb; exact h.2 i a b ha hb
  · rw [List.getElem?_append_right (by omega)] at ha; rw [List.getElem?_append_right (by rw [← h.1]; omega), ← h.1] at hb
    exact k.2 _ a b ha hb
theorem AllV.rep {V : ρ → σ → Prop} {r : ρ} {s : σ} (h : V r s) (n : Nat) : AllV V (List.replicate n r) (List.replicate n s) := by
  refine ⟨by simp, fun i a b ha hb => ?_⟩
  rw [List.getElem?_replicate] at ha hb
  split at ha
  · rename_i hi; rw [if_pos hi] at hb; simp at ha hb; rw [← ha, ← hb]; exact h
  · cases ha
theorem plog_ge (n : Nat) : ∀ f e, n ≤ 2 ^ e * 2 ^ f → n ≤ 2 ^ plog n f e
  | 0, e, h => by simpa [plog] using h
  | f + 1, e, h => by
    unfold plog
    split
    · refine plog_ge n f (e + 1) ?_
      rw [Nat.pow_succ, Nat.mul_assoc]; rw [Nat.pow_succ, Nat.mul_comm (2 ^ f)] at h; exact h
    · omega
theorem plog_self (n : Nat) : n ≤ 2 ^ plog n n 0 := plog_ge n n 0 (by rw [Nat.pow_zero, Nat.one_mul]; exact Nat.le_of_lt Nat.lt_two_pow_self)
theorem usorter_alike {V : ρ → σ → Prop} {l : List ρ} {l' : List σ} (ho : V o o') (h : AllV V l l') : Rel (sOps (plog l.length l.length 0)) V (RL l.length) (usorter o l) (usorter o' l') := by
  unfold usorter
  rw [← h.1]
  refine (usort_alike (plog l.length l.length 0) 0 V _ _ ho (h.append (AllV.rep ho _))).bind (m := 0) fun V' hV r r' hr => .ret ⟨hr.1.take _, ?_⟩
  have := plog_self l.length
  rw [List.length_take, hr.2]
  simp
end
end Go.Proofs.Ytanlecgpnknhoaa
