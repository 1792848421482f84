/- The solver in memory: every array lies in a block of its own, tagged by what it is. -/
import Derived.Test.YtdibfjcmgbpnpaaSB
import Derived.Test.YtdibfjcmgbpnpaaS9
import Derived.Maps.AppendAt
namespace Go.Proofs.Ytdibfjcmgbpnpaa
set_option linter.unusedSimpArgs false
set_option linter.unusedVariables false
open Go.RowKit

inductive Role where
  | self | value | level | reason | lits | marks | clauses | cl (k : Nat) | watches | wl (k : Nat) | proof | step (k : Nat) | model | core
deriving DecidableEq
def Role.ty : Role → TypeId
  | .self => 63
  | .clauses => 29
  | .watches => 29
  | .proof => 55
  | _ => 3
def Role.es : Role → Nat
  | .self => 15
  | .proof => 3
  | _ => 1
theorem Role.es_pos (r : Role) : 0 < r.es := by cases r <;> simp [Role.es]
def upd {α : Type} (f : Role → α) (r : Role) (x : α) : Role → α := fun r' => if r' = r then x else f r'
theorem upd_self {α : Type} (f : Role → α) (r : Role) (x : α) : upd f r x r = x := by unfold upd; rw [if_pos rfl]
theorem upd_ne {α : Type} (f : Role → α) {r r' : Role} (x : α) (h : r' ≠ r) : upd f r x r' = f r' := by unfold upd; rw [if_neg h]
/-- the tags, with the block of v tagged r -/
def tagNew (o : Nat → Option Role) (v : Value) (r : Role) : Nat → Option Role := fun g => if v.ownBlock = some g then some r else o g
structure Row (w : World) (o : Nat → Option Role) (r : Role) (v : Value) (xs : List Value) : Prop where
  own : ∃ n, w.ownsRow 0 r.ty r.es v n xs
  tag : ∀ g, v.ownBlock = some g → o g = some r
def Mem (w : World) (o : Nat → Option Role) (hd : Role → Value) (ct : Role → List Value) : Prop := ∀ r, Row w o r (hd r) (ct r)

theorem owns_blk {w : World} {B : Nat} {e : TypeId} {E n : Nat} {v : Value} {xs : List Value} (h : w.ownsRow B e E v n xs) {g : Nat} (hg : v.ownBlock = some g) : ∃ cap cur, v = .slice (some ⟨g, 0, none⟩) n cap ∧ w.heap[g]? = some (.cells cur e (0, 0)) ∧ n ≤ cap ∧ cap ≤ maxLen ∧ cur.size = cap * E ∧ cur.toList.take (n * E) = xs := by
  rcases h.2 with ⟨rfl, -⟩ | ⟨g', cap, cur, rfl, -, h2, h3, h4, h5, h6⟩
  · cases hg
  · simp only [Value.ownBlock, Option.some.injEq] at hg
    subst hg
    exact ⟨cap, cur, rfl, h2, h3, h4, h5, h6⟩
theorem owns_lt {w : World} {B : Nat} {e : TypeId} {E n : Nat} {v : Value} {xs : List Value} (h : w.ownsRow B e E v n xs) {g : Nat} (hg : v.ownBlock = some g) : g < w.heap.size := by
  obtain ⟨cap, cur, -, h2, -⟩ := owns_blk h hg
  exact (Array.getElem?_eq_some_iff.1 h2).1
theorem owns_keep {w w' : World} {B : Nat} {e : TypeId} {E n : Nat} {v : Value} {xs : List Value} (h : w.ownsRow B e E v n xs) (hb : ∀ g, v.ownBlock = some g → w'.heap[g]? = w.heap[g]?) : w'.ownsRow B e E v n xs := by
  refine ⟨h.1, ?_⟩
  rcases h.2 with q | ⟨g', cap, cur, rfl, h1, h2, h3⟩
  · exact .inl q
  · exact .inr ⟨g', cap, cur, rfl, h1, by rw [hb g' rfl]; exact h2, h3⟩
theorem Row.keep {w w' : World} {o o' : Nat → Option Role} {r : Role} {v : Value} {xs : List Value} (h : Row w o r v xs) (hb : ∀ g, v.ownBlock = some g → w'.heap[g]? = w.heap[g]?) (ho : ∀ g, v.ownBlock = some g → o' g = o g) : Row w' o' r v xs := by
  obtain ⟨n, hn⟩ := h.own
  exact ⟨⟨n, owns_keep hn hb⟩, fun g hg => by rw [ho g hg]; exact h.tag g hg⟩
theorem Mem.up {w w' : World} {o : Nat → Option Role} {hd : Role → Value} {ct : Role → List Value} (h : Mem w o hd ct) (hB : Below w.heap.size w w') : Mem w' o hd ct := fun r =>
  (h r).keep (fun g hg => by obtain ⟨n, hn⟩ := (h r).own; exact hB.block g (owns_lt hn hg)) fun _ _ => rfl
theorem Mem.form {w : World} {o : Nat → Option Role} {hd : Role → Value} {ct : Role → List Value} (h : Mem w o hd ct) (r : Role) : ∃ p n c, hd r = .slice p n c ∧ (ct r).length = n * r.es ∧ n ≤ c ∧ c ≤ maxLen ∧ (p = none → c = 0) ∧ ∀ a, p = some a → ∃ g, a = ⟨g, 0, none⟩ ∧ g < w.heap.size ∧ o g = some r := by
  obtain ⟨⟨n, hn⟩, ht⟩ := h r
  rcases hn.2 with ⟨e, e0⟩ | ⟨g, cap, cur, e, h1, h2, h3, h4, h5, h6⟩
  · refine ⟨none, 0, 0, e, by rw [hn.1, e0], Nat.le_refl _, Nat.zero_le _, fun _ => rfl, fun a q => by cases q⟩
  · refine ⟨some ⟨g, 0, none⟩, n, cap, e, hn.1, h3, h4, (fun q => by cases q), fun a q => ?_⟩
    cases q
    exact ⟨g, rfl, (Array.getElem?_eq_some_iff.1 h2).1, ht g (by rw [e]; rfl)⟩
/-- a row that is not empty lies in a block -/
theorem Mem.blk {w : World} {o : Nat → Option Role} {hd : Role → Value} {ct : Role → List Value} (h : Mem w o hd ct) (r : Role) (hl : 0 < (ct r).length) : ∃ g n c, hd r = .slice (some ⟨g, 0, none⟩) n c ∧ (ct r).length = n * r.es ∧ n ≤ c ∧ c ≤ maxLen ∧ g < w.heap.size ∧ o g = some r := by
  obtain ⟨p, n, c, e, h1, h2, h3, h4, h5⟩ := h.form r
  cases p with
  | none =>
    have := h4 rfl
    have : n = 0 := by omega
    subst this; omega
  | some a =>
    obtain ⟨g, rfl, a1, a2⟩ := h5 a rfl
    exact ⟨g, n, c, e, h1, h2, h3, a1, a2⟩
theorem Mem.load {w : World} {o : Nat → Option Role} {hd : Role → Value} {ct : Role → List Value} (h : Mem w o hd ct) {r : Role} {g n c i : Nat} {u : Value} (hv : hd r = .slice (some ⟨g, 0, none⟩) n c) (hi : (ct r)[i]? = some u) : w.cell? ⟨g, i, none⟩ = some u ∧ w.frozen? ⟨g, i, none⟩ = false := by
  obtain ⟨m, hm⟩ := (h r).own
  obtain ⟨cap, cur, e, h2, h3, h4, h5, h6⟩ := owns_blk hm (show (hd r).ownBlock = some g by rw [hv]; rfl)
  have hil := (List.getElem?_eq_some_iff.1 hi).1
  rw [← h6, List.getElem?_take] at hi
  split at hi
  · constructor
    · unfold World.cell?
      rw [show (⟨g, i, none⟩ : Addr).block = g from rfl, h2]
      simpa using hi
    · unfold World.frozen?
      rw [show (⟨g, i, none⟩ : Addr).block = g from rfl, h2]
      simp
  · cases hi
theorem setCell_other (w : World) (a : Addr) (u : Value) {g : Nat} (h : g ≠ a.block) : (w.setCell a u).heap[g]? = w.heap[g]? := by
  unfold World.setCell
  simp only [Array.getElem?_modify]
  rw [if_neg (fun e => h e.symm)]
theorem setCell_same (w : World) (g i : Nat) (u : Value) {cur : Array Value} {e : TypeId} {f : Nat × Nat} (h : w.heap[g]? = some (.cells cur e f)) : (w.setCell ⟨g, i, none⟩ u).heap[g]? = some (.cells (cur.setIfInBounds i u) e f) := by
  unfold World.setCell
  simp only [Array.getElem?_modify, if_true, h]
  rfl
theorem take_set {α : Type} : ∀ (l : List α) (m i : Nat) (u : α), (l.set i u).take m = (l.take m).set i u
  | [], m, i, u => by simp
  | x :: l, 0, i, u => by simp
  | x :: l, m + 1, 0, u => by simp
  | x :: l, m + 1, i + 1, u => by simp [take_set l m i u]
theorem Mem.set {w : World} {o : Nat → Option Role} {hd : Role → Value} {ct : Role → List Value} (h : Mem w o hd ct) {r : Role} {g n c : Nat} (hv : hd r = .slice (some ⟨g, 0, none⟩) n c) (i : Nat) (u : Value) : Mem (w.setCell ⟨g, i, none⟩ u) o hd (upd ct r ((ct r).set i u)) := by
  have hg : (hd r).ownBlock = some g := by rw [hv]; rfl
  have htg := (h r).tag g hg
  intro r'
  by_cases e : r' = r
  · subst e
    rw [upd_self]
    refine ⟨?_, (h r').tag⟩
    obtain ⟨m, hm⟩ := (h r').own
    obtain ⟨cap, cur, e1, h2, h3, h4, h5, h6⟩ := owns_blk hm hg
    refine ⟨m, by rw [List.length_set]; exact hm.1, .inr ⟨g, cap, cur.setIfInBounds i u, e1, Nat.zero_le _, setCell_same w g i u h2, h3, h4, by simpa using h5, ?_⟩⟩
    rw [Array.toList_setIfInBounds, take_set, h6]
  · rw [upd_ne _ _ e]
    refine (h r').keep (fun g' hg' => setCell_other w _ u ?_) fun _ _ => rfl
    intro q
    have h1 := (h r').tag g' hg'
    have q' : g' = g := q
    rw [q', htg] at h1
    exact e (Option.some.inj h1).symm
/-- a row is replaced by one in a block without a tag -/
theorem Mem.new {w : World} {o : Nat → Option Role} {hd : Role → Value} {ct : Role → List Value} (h : Mem w o hd ct) (r : Role) {v : Value} {n : Nat} {xs : List Value} (hv : w.ownsRow 0 r.ty r.es v n xs) (ho : ∀ g, v.ownBlock = some g → o g = none) : Mem w (tagNew o v r) (upd hd r v) (upd ct r xs) := by
  intro r'
  by_cases e : r' = r
  · subst e
    rw [upd_self, upd_self]
    exact ⟨⟨n, hv⟩, fun g hg => by unfold tagNew; rw [if_pos hg]⟩
  · rw [upd_ne _ _ e, upd_ne _ _ e]
    refine (h r').keep (fun _ _ => rfl) fun g hg => ?_
    unfold tagNew
    rw [if_neg]
    intro q
    have h1 := (h r').tag g hg
    rw [ho g q] at h1; cases h1
/-- a row is cut -/
theorem Mem.shrink {w : World} {o : Nat → Option Role} {hd : Role → Value} {ct : Role → List Value} (h : Mem w o hd ct) (r : Role) {p : Option Addr} {n c k : Nat} (hv : hd r = .slice p n c) (hk : k ≤ n) : Mem w o (upd hd r (.slice p k c)) (upd ct r ((ct r).take (k * r.es))) := by
  intro r'
  by_cases e : r' = r
  · subst e
    rw [upd_self, upd_self]
    obtain ⟨⟨m, hm⟩, ht⟩ := h r'
    rcases hm.2 with ⟨e1, e2⟩ | ⟨g, cap, cur, e1, h1, h2, h3, h4, h5, h6⟩
    · rw [hv] at e1
      simp only [Value.slice.injEq] at e1
      obtain ⟨rfl, rfl, rfl⟩ := e1
      have : k = 0 := by omega
      subst this
      refine ⟨⟨0, by simp, .inl ⟨rfl, rfl⟩⟩, fun g hg => by cases hg⟩
    · rw [hv] at e1
      simp only [Value.slice.injEq] at e1
      obtain ⟨rfl, rfl, rfl⟩ := e1
      refine ⟨⟨k, ?_, .inr ⟨g, c, cur, rfl, h1, h2, by omega, h4, h5, ?_⟩⟩, fun g' hg' => ht g' (by rw [hv]; exact hg')⟩
      · rw [List.length_take, hm.1]
        exact Nat.min_eq_left (Nat.mul_le_mul_right _ hk)
      · rw [← h6, List.take_take, Nat.min_eq_left (Nat.mul_le_mul_right _ hk)]
  · rw [upd_ne _ _ e, upd_ne _ _ e]; exact h r'
/-- append to a row -/
theorem Mem.app {P : Program} {w : World} {o : Nat → Option Role} {hd : Role → Value} {ct : Role → List Value} (h : Mem w o hd ct) (r : Role) {p : Option Addr} {n c : Nat} (hv : hd r = .slice p n c) (t ty : TypeId) (i : TypeInfo) (z : Value) (bytes : Nat) (ht : P.underlying t = some (.slice r.ty)) (hi : P.info? r.ty = some i) (hz : i.zero = some z)
    (hsize : i.size = r.es) (hby : i.bytes = bytes) (hzs : z.cells.size = r.es) (a : Addr) (m cc : Nat) (news : List Value) (hl : news.length = m * r.es) (hnews : ∀ j u, news[j]? = some u → w.cell? (a.add j) = some u) (h1 : ∀ u ∈ news, u.oneCell' = true)
    (h63 : n + m ≤ maxLen) (hbytes : (n + m) * bytes ≤ 140737488355328) :
    ∃ v' w', (Builtin.append_ #[t, t] ty #[.slice p n c, .slice (some a) m cc]).run P w = .ok v' w' ∧ Mem w' (tagNew o v' r) (upd hd r v') (upd ct r (ct r ++ news)) ∧ w.grownBy w' (hd r).ownBlock ∧ (v'.ownBlock = (hd r).ownBlock ∨ v'.ownBlock = some w.heap.size) := by
  obtain ⟨⟨n', hn⟩, htag⟩ := h r
  have hnn : n' = n := by
    obtain ⟨p', n2, c2, e1, e2, -⟩ := h.form r
    rw [hv] at e1
    simp only [Value.slice.injEq] at e1
    obtain ⟨rfl, rfl, rfl⟩ := e1
    have := hn.1
    rw [e2] at this
    exact (Nat.mul_right_cancel r.es_pos this).symm
  subst hnn
  obtain ⟨v', w', hr, h2, h3, -, h5⟩ := run_append_own_at (P := P) w 0 t ty r.ty i z r.es bytes ht hi hz hsize hby hzs r.es_pos (hd r) n' (ct r) hn a m cc news hl hnews h1 h63 hbytes (Nat.zero_le _)
  rw [hv] at hr
  refine ⟨v', w', hr, ?_, h3, h5⟩
  intro r'
  by_cases e : r' = r
  · subst e
    rw [upd_self, upd_self]
    exact ⟨⟨_, h2⟩, fun g hg => by unfold tagNew; rw [if_pos hg]⟩
  · rw [upd_ne _ _ e, upd_ne _ _ e]
    obtain ⟨k, hk⟩ := (h r').own
    have hne : ∀ g, (hd r').ownBlock = some g → v'.ownBlock ≠ some g ∧ (hd r).ownBlock ≠ some g := by
      intro g hg
      have t1 := (h r').tag g hg
      have n1 : (hd r).ownBlock ≠ some g := fun q => by
        have := htag g q
        rw [t1] at this
        exact e (Option.some.inj this)
      refine ⟨fun q => ?_, n1⟩
      rcases h5 with w5 | w5
      · exact n1 (w5 ▸ q)
      · rw [w5] at q
        have := owns_lt hk hg
        have := Option.some.inj q
        omega
    refine (h r').keep (fun g hg => h3.block g (owns_lt hk hg) (fun q => (hne g hg).2 q.symm)) fun g hg => ?_
    unfold tagNew
    rw [if_neg (hne g hg).1]

/-- what a call leaves alone: the blocks without a tag (but for X) -/
structure Ext (X : Nat → Prop) (w : World) (o : Nat → Option Role) (w' : World) (o' : Nat → Option Role) : Prop where
  os : w'.os = w.os
  tape : w'.tape = w.tape
  output : w'.output = w.output
  size : w.heap.size ≤ w'.heap.size
  block : ∀ g, g < w.heap.size → o g = none → ¬ X g → w'.heap[g]? = w.heap[g]?
  tag : ∀ g, g < w.heap.size → ¬ X g → o' g = o g
def NoX : Nat → Prop := fun _ => False
theorem Ext.refl (X : Nat → Prop) (w : World) (o : Nat → Option Role) : Ext X w o w o := ⟨rfl, rfl, rfl, Nat.le_refl _, fun _ _ _ _ => rfl, fun _ _ _ => rfl⟩
theorem Ext.trans {X Y : Nat → Prop} {w w1 w2 : World} {o o1 o2 : Nat → Option Role} (h : Ext X w o w1 o1) (k : Ext Y w1 o1 w2 o2) (hY : ∀ g, g < w.heap.size → Y g → X g) : Ext X w o w2 o2 :=
  ⟨k.os.trans h.os, k.tape.trans h.tape, k.output.trans h.output, Nat.le_trans h.size k.size,
   fun g h1 h2 h3 => (k.block g (Nat.lt_of_lt_of_le h1 h.size) (by rw [h.tag g h1 h3]; exact h2) (fun q => h3 (hY g h1 q))).trans (h.block g h1 h2 h3),
   fun g h1 h3 => (k.tag g (Nat.lt_of_lt_of_le h1 h.size) (fun q => h3 (hY g h1 q))).trans (h.tag g h1 h3)⟩
theorem Ext.below {X : Nat → Prop} {w w' : World} {o : Nat → Option Role} (h : Below w.heap.size w w') : Ext X w o w' o := ⟨h.os, h.tape, h.output, h.size, fun g hg _ _ => h.block g hg, fun _ _ _ => rfl⟩
theorem Ext.setCell {X : Nat → Prop} {w : World} {o : Nat → Option Role} {g i : Nat} {r : Role} (ho : o g = some r) (u : Value) : Ext X w o (w.setCell ⟨g, i, none⟩ u) o :=
  ⟨rfl, rfl, rfl, by simp, fun g' _ h2 _ => setCell_other w _ u (fun e => by have e' : g' = g := e; rw [e', ho] at h2; cases h2), fun _ _ _ => rfl⟩
theorem Ext.app {X : Nat → Prop} {w w' : World} {o : Nat → Option Role} {v v' : Value} {r : Role} (hg : w.grownBy w' v.ownBlock) (ht : ∀ g, v.ownBlock = some g → o g = some r) (hb : v'.ownBlock = v.ownBlock ∨ v'.ownBlock = some w.heap.size) : Ext X w o w' (tagNew o v' r) := by
  refine ⟨hg.os, hg.tape, hg.output, hg.size, fun g h1 h2 _ => hg.block g h1 (fun q => by rw [ht g q.symm] at h2; cases h2), fun g h1 _ => ?_⟩
  unfold tagNew
  split
  · rename_i q
    rcases hb with e | e
    · rw [e] at q; exact (ht g q).symm
    · rw [e] at q; have := Option.some.inj q; omega
  · rfl
theorem Ext.cell {X : Nat → Prop} {w w' : World} {o o' : Nat → Option Role} (h : Ext X w o w' o') {g i : Nat} {v : Value} (hc : w.cell? ⟨g, i, none⟩ = some v) (ho : o g = none) (hx : ¬ X g) : w'.cell? ⟨g, i, none⟩ = some v := by
  rw [World.cell?_of_block (h.block g (World.block_lt_of_cell? _ _ hc) ho hx)]; exact hc

/-- the integers of a row -/
def iV (l : List Int) : List Value := l.map fun x => .int .i64 x
def nV (l : List Nat) : List Value := l.map fun (x : Nat) => Value.int .i64 (x : Int)
/-- what the rows hold -/
structure Enc (s : SS) (oc : Int) (hd : Role → Value) (ct : Role → List Value) : Prop where
  self : ct .self = [hd .value, hd .level, hd .reason, hd .lits, hd .marks, .int .i64 s.low, hd .clauses, hd .watches, .int .i64 s.head, .int .i64 s.added, .bool s.broken, hd .proof, .int .i64 oc, hd .model, hd .core]
  value : ct .value = iV s.value
  level : ct .level = nV s.level
  reason : ct .reason = iV s.reason
  lits : ct .lits = iV s.lits
  marks : ct .marks = nV s.marks
  clauses : ct .clauses = (List.range s.clauses.length).map fun k => hd (.cl k)
  cl : ∀ k, ct (.cl k) = iV (s.clauses.getD k [])
  watches : ct .watches = (List.range s.watches.length).map fun k => hd (.wl k)
  wl : ∀ k, ct (.wl k) = nV (s.watches.getD k [])
  proof : ct .proof = (List.range s.proof.length).flatMap fun k => [.int .i64 1, hd (.step k), .int .i64 0]
  step : ∀ k, ct (.step k) = iV (s.proof.getD k [])
  model : ct .model = iV s.model
  core : ct .core = iV s.core
structure SolAt (w : World) (o : Nat → Option Role) (b : Nat) (s : SS) : Prop where
  ex : ∃ oc hd ct, hd .self = .slice (some ⟨b, 0, none⟩) 1 1 ∧ Mem w o hd ct ∧ Enc s oc hd ct
  lt : ∀ g, o g ≠ none → g < w.heap.size
/-- append at the operation, for the walk: onto a row -/
theorem wpList_row {P : Program} {w : World} {ops : Array Oper} {rest : List Oper} {oo : Oper} {a : Act} {Q : Exit → Act → World → Prop} {o : Nat → Option Role} {hd : Role → Value} {ct : Role → List Value} (h : Mem w o hd ct) (r : Role) (hgd : oo.guard = none) (s x : Operand) (t : TypeId)
    (ho : oo.op = .call { callee := .builtin .append, args := #[s, x], argTypes := #[t, t] }) {p : Option Addr} {n c : Nat} (hv : hd r = .slice p n c) (i : TypeInfo) (z : Value) (bytes : Nat) (ht : P.underlying t = some (.slice r.ty)) (hi : P.info? r.ty = some i) (hz : i.zero = some z)
    (hsize : i.size = r.es) (hby : i.bytes = bytes) (hzs : z.cells.size = r.es) (hs : a.eval s = .slice p n c) (ad : Addr) (m cc : Nat) (news : List Value) (hx : a.eval x = .slice (some ad) m cc) (hl : news.length = m * r.es) (hnews : ∀ j u, news[j]? = some u → w.cell? (ad.add j) = some u) (h1 : ∀ u ∈ news, u.oneCell' = true)
    (h63 : n + m ≤ maxLen) (hbytes : (n + m) * bytes ≤ 140737488355328)
    (hk : ∀ p' c' w', Mem w' (tagNew o (.slice p' (n + m) c') r) (upd hd r (.slice p' (n + m) c')) (upd ct r (ct r ++ news)) → w.grownBy w' (hd r).ownBlock → ((Value.slice p' (n + m) c').ownBlock = (hd r).ownBlock ∨ (Value.slice p' (n + m) c').ownBlock = some w.heap.size) → wpList P ops Q rest (a.put oo.dst (.slice p' (n + m) c')) w') :
    wpList P ops Q (oo :: rest) a w := by
  obtain ⟨v', w', hr, h2, h3, h4⟩ := h.app (P := P) r hv t oo.type i z bytes ht hi hz hsize hby hzs ad m cc news hl hnews h1 h63 hbytes
  obtain ⟨p', n', c', e1, e2, -⟩ := h2.form r
  rw [upd_self] at e1 e2
  rw [List.length_append, hl] at e2
  obtain ⟨p2, n2, c2, g1, g2, -⟩ := h.form r
  rw [hv] at g1
  simp only [Value.slice.injEq] at g1
  obtain ⟨rfl, rfl, rfl⟩ := g1
  rw [g2, ← Nat.add_mul] at e2
  have e3 := Nat.mul_right_cancel r.es_pos e2
  subst e1 e3
  exact wpList_run hgd (exec_app ho hs hx hr) (hk p' c' w' h2 h3 h4)
/-- a freshly laid element -/
theorem one_new (w : World) (x : Value) (t : TypeId) : ∀ j u, [x][j]? = some u → (w.alloc (.cells #[x] t)).cell? ((⟨w.heap.size, 0, none⟩ : Addr).add j) = some u := cell_one_new w x t
theorem Ext.app2 {X : Nat → Prop} {w w1 w' : World} {o : Nat → Option Role} {v v' : Value} {r : Role} (hB : Below w.heap.size w w1) (hg : w1.grownBy w' v.ownBlock) (ht : ∀ g, v.ownBlock = some g → o g = some r) (hb : v'.ownBlock = v.ownBlock ∨ v'.ownBlock = some w1.heap.size) : Ext X w o w' (tagNew o v' r) :=
  (Ext.below hB).trans (Ext.app hg ht hb) fun _ _ q => q
theorem tag_lt {w : World} {o : Nat → Option Role} {hd : Role → Value} {ct : Role → List Value} {r : Role} (h : Mem w (tagNew o (hd r) r) hd ct) {k : Nat} (hk : k ≤ w.heap.size) (lt : ∀ g, o g ≠ none → g < k) : ∀ g, tagNew o (hd r) r g ≠ none → g < w.heap.size := by
  intro g hg
  unfold tagNew at hg
  split at hg
  · rename_i q
    obtain ⟨n, hn⟩ := (h r).own
    exact owns_lt hn q
  · have := lt g hg; omega
theorem tag_lt2 {w : World} {o : Nat → Option Role} {hd : Role → Value} {ct : Role → List Value} {r : Role} {v : Value} (h : Mem w (tagNew o v r) hd ct) (hv : hd r = v) {k : Nat} (hk : k ≤ w.heap.size) (lt : ∀ g, o g ≠ none → g < k) : ∀ g, tagNew o v r g ≠ none → g < w.heap.size := by
  subst hv; exact tag_lt h hk lt
end Go.Proofs.Ytdibfjcmgbpnpaa
