/- Words on worlds and values. -/
import Derived.Test.YtdibfjcmgbpnpaaRows
import Derived.WalkKit
import Derived.WalkSpells
import Derived.WalkLawsBesides
import Derived.Handy
import Derived.Deep.QuietTactic
import Derived.Deep.LoopGhost
import Derived.Deep.RegionHeld3
import Derived.BigQuiet
import Derived.Lib.Hide
import Derived.Deep.RegionLawGrows
import Derived.Deep.AppendLies
import Derived.Deep.RegionWith
import Derived.Deep.DeepCutAuto
import Derived.Laws.AppendOwnNone
import Derived.Maps.OwnOps
import Derived.Maps.OwnSet
import Derived.Laws.OwnMore
import Derived.Test.YtdibfjcmgbpnpaaSeqE
import Derived.Shelf.RegionOpen
namespace Go.Proofs.Ytdibfjcmgbpnpaa
set_option linter.unusedSimpArgs false
set_option linter.unusedVariables false
open Go.RowKit

/-- One cell of an older world, still there. -/
theorem oldcell {B : Nat} {W w1 : World} {b o : Nat} {v : Value} (hb : Below B W w1) (h : W.cell? ⟨b, o, none⟩ = some v) (hlt : b < B) : w1.cell? ⟨b, o, none⟩ = some v :=
  (hb.cell (p := ⟨b, o, none⟩) hlt).trans h

theorem Below.drewN {B : Nat} {a w : World} (h : Below B a w) (n : Nat) : Below B a (w.drewN n) := ⟨h.os, h.tape, h.output, h.size, h.block⟩

theorem oldfree {B : Nat} {W w1 : World} {b o : Nat} (hb : Below B W w1) (h : W.frozen? ⟨b, o, none⟩ = false) (hlt : b < B) : w1.frozen? ⟨b, o, none⟩ = false :=
  (hb.frozen (p := ⟨b, o, none⟩) hlt).trans h

theorem keep_far {w : World} {b o : Nat} {v u : Value} {p : Addr} (h : w.cell? ⟨b, o, none⟩ = some v) (hne : p.block ≠ b) : (w.setCell p u).cell? ⟨b, o, none⟩ = some v :=
  (World.cell?_setCell_far w p ⟨b, o, none⟩ u hne).trans h
theorem keep_alloc {w : World} {b o : Nat} {v : Value} {x : Obj} (h : w.cell? ⟨b, o, none⟩ = some v) : (w.alloc x).cell? ⟨b, o, none⟩ = some v :=
  (World.cell?_alloc_some w ⟨b, o, none⟩ x (by rw [h]; rfl)).trans h
/-- The elements xs, E cells each as enc gives them, lie at p. -/
def SlAt {α : Type} (E : Nat) (enc : α → Nat → Value) (w : World) (p : Option Addr) (xs : List α) : Prop :=
  xs = [] ∨ ∃ b off, p = some ⟨b, off, none⟩ ∧ b < w.heap.size ∧ ∀ i x, xs[i]? = some x → ∀ j, j < E → w.cell? ⟨b, off + i * E + j, none⟩ = some (enc x j)

theorem SlAt.mono {α : Type} {E : Nat} {enc : α → Nat → Value} {w w' : World} {p : Option Addr} {xs : List α} (h : SlAt E enc w p xs) (hB : Below w.heap.size w w') : SlAt E enc w' p xs := by
  rcases h with h | ⟨b, off, hp, hb, hc⟩
  · exact .inl h
  · refine .inr ⟨b, off, hp, Nat.lt_of_lt_of_le hb hB.size, fun i x hx j hj => ?_⟩
    exact oldcell hB (hc i x hx j hj) hb

theorem SlAt.setCell {α : Type} {E : Nat} {enc : α → Nat → Value} {w : World} {p : Option Addr} {xs : List α} (h : SlAt E enc w p xs) {q : Addr} (hne : ∀ a, p = some a → q.block ≠ a.block) (u : Value) : SlAt E enc (w.setCell q u) p xs := by
  rcases h with h | ⟨b, off, hp, hb, hc⟩
  · exact .inl h
  · refine .inr ⟨b, off, hp, by simpa using hb, fun i x hx j hj => ?_⟩
    exact keep_far (hc i x hx j hj) (hne _ hp)

/-- The cells of all elements, one after another. -/
def flat {α : Type} (E : Nat) (enc : α → Nat → Value) (xs : List α) : List Value := xs.flatMap fun x => (List.range E).map (enc x)

theorem flat_append {α : Type} (E : Nat) (enc : α → Nat → Value) (xs ys : List α) : flat E enc (xs ++ ys) = flat E enc xs ++ flat E enc ys := by simp [flat]
theorem flat_length {α : Type} (E : Nat) (enc : α → Nat → Value) (xs : List α) : (flat E enc xs).length = xs.length * E := by
  induction xs with
  | nil => simp [flat]
  | cons x t ih =>
    have : flat E enc (x :: t) = (List.range E).map (enc x) ++ flat E enc t := by simp [flat]
    rw [this, List.length_append, ih]; simp [Nat.succ_mul, Nat.add_comm]
theorem flat_get {α : Type} {E : Nat} {enc : α → Nat → Value} {xs : List α} {i j : Nat} {x : α} (h : xs[i]? = some x) (hj : j < E) : (flat E enc xs)[i * E + j]? = some (enc x j) := by
  induction xs generalizing i with
  | nil => simp at h
  | cons y t ih =>
    have e : flat E enc (y :: t) = (List.range E).map (enc y) ++ flat E enc t := by simp [flat]
    rw [e]
    cases i with
    | zero =>
      obtain rfl : y = x := by simpa using h
      rw [List.getElem?_append_left (by simpa using hj)]
      simp [hj]
    | succ i =>
      rw [List.getElem?_append_right (by rw [Nat.succ_mul]; simp; omega)]
      have : (i + 1) * E + j - ((List.range E).map (enc y)).length = i * E + j := by
        simp [Nat.succ_mul]; omega
      rw [this]
      exact ih (by simpa using h)
theorem flat_inv {α : Type} {E : Nat} {enc : α → Nat → Value} {xs : List α} {n : Nat} {u : Value} (h : (flat E enc xs)[n]? = some u) : ∃ i x j, xs[i]? = some x ∧ j < E ∧ n = i * E + j ∧ u = enc x j := by
  have hl : n < xs.length * E := by
    have := (List.getElem?_eq_some_iff.1 h).1
    rwa [flat_length] at this
  have hE : 0 < E := Nat.pos_of_ne_zero fun e => by subst e; simp at hl
  have hi : n / E < xs.length := Nat.div_lt_of_lt_mul (by rw [Nat.mul_comm]; exact hl)
  have hg := flat_get (E := E) (enc := enc) (List.getElem?_eq_getElem hi) (Nat.mod_lt n hE)
  have he : n / E * E + n % E = n := by rw [Nat.mul_comm]; exact Nat.div_add_mod n E
  rw [he, h] at hg
  exact ⟨n / E, _, n % E, List.getElem?_eq_getElem hi, Nat.mod_lt n hE, he.symm, Option.some.inj hg⟩

theorem add_cell (w : World) (b off j : Nat) : w.cell? ((⟨b, off, none⟩ : Addr).add j) = w.cell? ⟨b, off + j, none⟩ := by
  unfold Addr.add
  split
  · simp [*]
  · rfl

theorem SlAt.news {α : Type} {E : Nat} {enc : α → Nat → Value} {w : World} {a : Addr} {xs : List α} (h : SlAt E enc w (some a) xs) : ∀ j u, (flat E enc xs)[j]? = some u → w.cell? (a.add j) = some u := by
  intro n u hu
  rcases h with rfl | ⟨b, off, hp, hb, hc⟩
  · simp [flat] at hu
  · obtain rfl := Option.some.inj hp
    obtain ⟨i, x, j, hx, hj, rfl, rfl⟩ := flat_inv hu
    rw [add_cell, ← Nat.add_assoc]
    exact hc i x hx j hj

theorem SlAt.of_owns {α : Type} {E : Nat} {enc : α → Nat → Value} {w : World} {base n cap : Nat} {e : TypeId} {p : Option Addr} {xs : List α} (hE : 0 < E) (h : w.ownsRow base e E (.slice p n cap) n (flat E enc xs)) : SlAt E enc w p xs := by
  rcases h.2 with ⟨hv, h0⟩ | ⟨g, c, cur, hv, hg, hh, _, _, hs, ht⟩
  · left
    have h1 := h.1
    rw [flat_length] at h1
    cases hv
    cases xs with
    | nil => rfl
    | cons x t =>
      exfalso
      simp [Nat.succ_mul, h0] at h1
      omega
  · cases hv
    refine .inr ⟨g, 0, rfl, ?_, fun i x hx j hj => ?_⟩
    · rcases Nat.lt_or_ge g w.heap.size with hlt | hge
      · exact hlt
      · rw [Array.getElem?_eq_none hge] at hh; cases hh
    · have := h.cells (g := g) rfl (i * E + j) _ (flat_get hx hj)
      rwa [add_cell, ← Nat.add_assoc] at this

def iEnc (n : Int) : Nat → Value := fun _ => .int .i64 n
def bEnc (b : Bool) : Nat → Value := fun _ => .bool b

abbrev IntsAt := SlAt 1 iEnc
abbrev BoolsAt := SlAt 1 bEnc

theorem SlAt.setBox {α : Type} {E : Nat} {enc : α → Nat → Value} {w : World} {p : Option Addr} {xs : List α} (h : SlAt E enc w p xs) {q : Addr} {v0 : Value} (hq : w.cell? q = some v0) (hne : ∀ x j, enc x j ≠ v0) (u : Value) : SlAt E enc (w.setCell q u) p xs := by
  rcases h with h | ⟨b, off, hp, hb, hc⟩
  · exact .inl h
  · refine .inr ⟨b, off, hp, by simpa using hb, fun i x hx j hj => ?_⟩
    have hcc := hc i x hx j hj
    rw [World.cell?_setCell_other w q ⟨b, off + i * E + j, none⟩ u (fun e => ?_)]
    · exact hcc
    · subst e
      rw [hcc] at hq
      exact hne x j (Option.some.inj hq)
theorem int_cell {w : World} {p : Option Addr} {xs : List Int} {i : Nat} {x : Int} (h : IntsAt w p xs) (hi : xs[i]? = some x) : ∃ b off, p = some ⟨b, off, none⟩ ∧ b < w.heap.size ∧ w.cell? ⟨b, off + i, none⟩ = some (.int .i64 x) := by
  rcases h with rfl | ⟨b, off, hp, hb, hc⟩
  · simp at hi
  · exact ⟨b, off, hp, hb, by simpa [iEnc] using hc i x hi 0 (by omega)⟩

theorem int_info : (Try.prog.info? 3).map (fun i => (i.zero, i.size, i.bytes)) = some (some (.int .i64 0), 1, 8) := by kernel_rfl
theorem iEnc_one (n : Int) (j : Nat) : (iEnc n j).oneCell' = true := rfl
theorem SlAt.int1 {w : World} {b : Nat} {x : Int} (h0 : w.cell? ⟨b, 0, none⟩ = some (.int .i64 x)) : IntsAt w (some ⟨b, 0, none⟩) [x] := by
  refine .inr ⟨b, 0, rfl, World.block_lt_of_cell? w _ h0, fun i y hy j hj => ?_⟩
  cases i with
  | zero =>
    obtain rfl : x = y := by simpa using hy
    obtain rfl : j = 0 := by omega
    exact h0
  | succ i => simp at hy

theorem owns_val {α : Type} {E : Nat} {enc : α → Nat → Value} {w : World} {base : Nat} {e : TypeId} {v : Value} {xs : List α} (hE : 0 < E) (h : w.ownsRow base e E v xs.length (flat E enc xs)) :
    ∃ q cq, v = .slice q xs.length cq ∧ xs.length ≤ cq ∧ cq ≤ maxLen ∧ (q = none → cq = 0) ∧ SlAt E enc w q xs := by
  rcases h.2 with ⟨hv, h0⟩ | ⟨g, c, cur, hv, hg, hh, h1, h2, hs, ht⟩
  · have hx : xs = [] := List.eq_nil_of_length_eq_zero h0
    subst hx
    exact ⟨none, 0, hv, Nat.le_refl _, Nat.zero_le _, fun _ => rfl, .inl rfl⟩
  · subst hv
    exact ⟨_, c, rfl, h1, h2, (fun e => by cases e), SlAt.of_owns hE h⟩

theorem owns_below {w w' : World} {base : Nat} {e : TypeId} {size : Nat} {v : Value} {n : Nat} {xs : List Value} (h : w.ownsRow base e size v n xs) (hB : Below w.heap.size w w') : w'.ownsRow base e size v n xs := by
  refine ⟨h.1, ?_⟩
  rcases h.2 with h0 | ⟨g, cap, cur, hv, hb, hg, hr⟩
  · exact .inl h0
  · exact .inr ⟨g, cap, cur, hv, hb, by rw [hB.block g (Array.getElem?_eq_some_iff.1 hg).1]; exact hg, hr⟩

/-- append onto a slice of the call's own; where the new one lies. -/
theorem wpList_app2 {α : Type} {E : Nat} {enc : α → Nat → Value} {P : Program} {w : World} {ops : Array Oper} {rest : List Oper} {o : Oper} {a : Act} {Q : Exit → Act → World → Prop} (hgd : o.guard = none) (s x : Operand) (t : TypeId)
    (ho : o.op = .call { callee := .builtin .append, args := #[s, x], argTypes := #[t, t] })
    (B : Nat) (ty : TypeId) (i : TypeInfo) (z : Value) (bytes : Nat) (ht : P.underlying t = some (.slice ty)) (hi : P.info? ty = some i) (hz : i.zero = some z) (hsize : i.size = E) (hby : i.bytes = bytes) (hzs : z.cells.size = E) (hsz : 0 < E)
    (v : Value) (xs : List α) (hs : a.eval s = v) (hown : w.ownsRow B ty E v xs.length (flat E enc xs)) (p : Option Addr) (ys : List α) (c : Nat) (hx : a.eval x = .slice p ys.length c) (hpc : p = none → c = 0) (hys : SlAt E enc w p ys) (hone : ∀ y j, (enc y j).oneCell' = true)
    (h63 : xs.length + ys.length ≤ maxLen) (hbytes : (xs.length + ys.length) * bytes ≤ 140737488355328) (hbase : B ≤ w.heap.size)
    (h : ∀ v' w', w'.ownsRow B ty E v' (xs ++ ys).length (flat E enc (xs ++ ys)) → w.grownBy w' v.ownBlock → Below B w w' → (v'.ownBlock = v.ownBlock ∨ v'.ownBlock = some w.heap.size) → wpList P ops Q rest (a.put o.dst v') w') : wpList P ops Q (o :: rest) a w := by
  cases p with
  | none =>
    obtain rfl := hpc rfl
    have hy : ys = [] := by
      rcases hys with h | ⟨b, off, hp, _⟩
      · exact h
      · cases hp
    subst hy
    refine wpList_append_own_none hgd s x t ho B ty i E ht hi v xs.length _ hs hown hx ?_
    refine h v w (by simpa using hown) ⟨rfl, rfl, rfl, Nat.le_refl _, fun _ _ _ => rfl⟩ (Below.refl _ _) (.inl rfl)
  | some ad =>
    refine wpList_append_own_at w hgd s x t ho B ty i z E bytes ht hi hz hsize hby hzs hsz v xs.length _ hs hown ad ys.length c (flat E enc ys) hx (flat_length _ _ _) hys.news ?_ h63 hbytes hbase ?_
    · intro u hu
      obtain ⟨n, hn⟩ := List.getElem?_of_mem hu
      obtain ⟨i, y, j, hy, hj, _, rfl⟩ := flat_inv hn
      exact hone y j
    · intro v' w' h1 h2 _ h4
      exact h v' w' (by rw [flat_append, List.length_append]; exact h1) h2 (Below.grown (Below.refl _ _) h2 hbase (fun k hk => (hown.lt k hk).1)) h4

theorem SlAt.grown {α : Type} {E : Nat} {enc : α → Nat → Value} {w w' : World} {p : Option Addr} {xs : List α} {row : Option Nat} (h : SlAt E enc w p xs) (hg : w.grownBy w' row) (hne : ∀ a, p = some a → some a.block ≠ row) : SlAt E enc w' p xs := by
  rcases h with h | ⟨b, off, hp, hb, hc⟩
  · exact .inl h
  · refine .inr ⟨b, off, hp, Nat.lt_of_lt_of_le hb hg.size, fun i x hx j hj => ?_⟩
    rw [World.cell?_of_block (w := w) (hg.block b hb (hne _ hp))]
    exact hc i x hx j hj

theorem free_alloc {w : World} {b o : Nat} {x : Obj} (h : w.frozen? ⟨b, o, none⟩ = false) (hb : b < w.heap.size) : (w.alloc x).frozen? ⟨b, o, none⟩ = false := by
  rw [World.frozen?_alloc_past _ _ _ hb]; exact h
def RetB (w : World) (b : Bool) (e : Ending) (w' : World) : Prop := e = .returned (.bool b) ∧ Below w.heap.size w w'
theorem SlAt.block {α : Type} {E : Nat} {enc : α → Nat → Value} {w : World} {xs : List α} {t : TypeId} {cs : Array Value} (h : cs.toList = flat E enc xs) : SlAt E enc (w.alloc (.cells cs t)) (some ⟨w.heap.size, 0, none⟩) xs := by
  refine .inr ⟨_, 0, rfl, by simp, fun i x hx j hj => ?_⟩
  have := flat_get (E := E) (enc := enc) hx hj
  rw [← h] at this
  have h2 : cs[i * E + j]? = some (enc x j) := by simpa using this
  have h3 := (Array.getElem?_eq_some_iff.1 h2).1
  have h4 : (w.alloc (Obj.cells cs t)).heap[w.heap.size]? = some (.cells cs t) := by show (w.heap.push _)[w.heap.size]? = _; simp
  unfold World.cell?
  simp only [Nat.zero_add]
  rw [h4]
  exact h2
/-- One operation by its run. -/
theorem btr {w w1 w2 : World} (h1 : Below w.heap.size w w1) (h2 : Below w1.heap.size w1 w2) : Below w.heap.size w w2 := h1.trans (h2.mono h1.size)
theorem bal {w w1 : World} (h1 : Below w.heap.size w w1) (x : Obj) : Below w.heap.size w (w1.alloc x) := btr h1 (by go_grown)
/-- Nothing that was there is changed but what lies in the blocks X. -/
structure KeepX (X : List Nat) (w w' : World) : Prop where
  os : w'.os = w.os
  tape : w'.tape = w.tape
  output : w'.output = w.output
  size : w.heap.size ≤ w'.heap.size
  block : ∀ k, k < w.heap.size → k ∉ X → w'.heap[k]? = w.heap[k]?
theorem KeepX.of_below {X : List Nat} {w w' : World} (h : Below w.heap.size w w') : KeepX X w w' := ⟨h.os, h.tape, h.output, h.size, fun k hk _ => h.block k hk⟩
theorem KeepX.refl (X : List Nat) (w : World) : KeepX X w w := KeepX.of_below (Below.refl _ _)
theorem KeepX.trans {X : List Nat} {w w1 w2 : World} (h : KeepX X w w1) (k : KeepX X w1 w2) : KeepX X w w2 :=
  ⟨k.os.trans h.os, k.tape.trans h.tape, k.output.trans h.output, Nat.le_trans h.size k.size, fun i hi hx => (k.block i (Nat.lt_of_lt_of_le hi h.size) hx).trans (h.block i hi hx)⟩
theorem KeepX.sub {X Y : List Nat} {w w' : World} (h : KeepX X w w') (hs : ∀ k ∈ X, k ∈ Y) : KeepX Y w w' := ⟨h.os, h.tape, h.output, h.size, fun k hk hy => h.block k hk fun hx => hy (hs k hx)⟩
theorem KeepX.below {X : List Nat} {w w' : World} (h : KeepX X w w') {B : Nat} (hB : B ≤ w.heap.size) (hs : ∀ k ∈ X, B ≤ k) : Below B w w' :=
  ⟨h.os, h.tape, h.output, h.size, fun k hk => h.block k (by omega) fun hx => by have := hs k hx; omega⟩
theorem KeepX.cell {X : List Nat} {w w' : World} (h : KeepX X w w') {b o : Nat} {v : Value} (hc : w.cell? ⟨b, o, none⟩ = some v) (hx : b ∉ X) : w'.cell? ⟨b, o, none⟩ = some v := by
  rw [World.cell?_of_block (w := w) (h.block b (World.block_lt_of_cell? w _ hc) hx)]; exact hc
theorem KeepX.setCell {X : List Nat} {w w' : World} (h : KeepX X w w') {a : Addr} (ha : a.block ∈ X) (v : Value) : KeepX X w (w'.setCell a v) := by
  refine h.trans ⟨rfl, rfl, rfl, by simp, fun k hk hx => ?_⟩
  exact heap_setCell_other w' a k v (fun e => hx (by rw [e]; exact ha))
theorem KeepX.of_grown {X : List Nat} {w w' : World} {row : Option Nat} (h : w.grownBy w' row) (hX : ∀ g, row = some g → g ∈ X) : KeepX X w w' :=
  ⟨h.os, h.tape, h.output, h.size, fun k hk hx => h.block k hk fun e => hx (hX k e.symm)⟩
/-- A slice of ints in memory. -/
structure SI (w : World) (q : Option Addr) (cq : Nat) (xs : List Int) : Prop where
  le : xs.length ≤ cq
  cm : cq ≤ maxLen
  q0 : q = none → cq = 0
  at' : IntsAt w q xs
  lt : xs ≠ [] → ∀ a, q = some a → a.block < w.heap.size
theorem SI.up {w w' : World} {q : Option Addr} {cq : Nat} {xs : List Int} (h : SI w q cq xs) (hB : Below w.heap.size w w') : SI w' q cq xs := ⟨h.le, h.cm, h.q0, h.at'.mono hB, fun hx a ha => Nat.lt_of_lt_of_le (h.lt hx a ha) hB.size⟩
/-- What lies in cells that may be written. -/
def Cells (W : World) : List (Nat × Nat × Value) → Prop
  | [] => True
  | (b, o, v) :: t => (W.cell? ⟨b, o, none⟩ = some v ∧ W.frozen? ⟨b, o, none⟩ = false) ∧ Cells W t
theorem Cells.up {W W' : World} : ∀ {L : List (Nat × Nat × Value)}, Cells W L → Below W.heap.size W W' → Cells W' L
  | [], _, _ => trivial
  | (b, o, v) :: t, h, hB => ⟨⟨oldcell hB h.1.1 (World.block_lt_of_cell? _ _ h.1.1), oldfree hB h.1.2 (World.block_lt_of_cell? _ _ h.1.1)⟩, Cells.up h.2 hB⟩
theorem Cells.far {W : World} {b o : Nat} {v : Value} : ∀ {L : List (Nat × Nat × Value)}, Cells W L → (∀ x ∈ L, b ≠ x.1) → Cells (W.setCell ⟨b, o, none⟩ v) L
  | [], _, _ => trivial
  | (b1, o1, v1) :: t, h, hb => ⟨⟨keep_far h.1.1 (hb _ (List.mem_cons_self ..)), by rw [World.frozen?_setCell]; exact h.1.2⟩, Cells.far h.2 fun x hx => hb x (List.mem_cons_of_mem _ hx)⟩
theorem Cells.below {B : Nat} {W W' : World} : ∀ {L : List (Nat × Nat × Value)}, Cells W L → Below B W W' → (∀ x ∈ L, x.1 < B) → Cells W' L
  | [], _, _, _ => trivial
  | (b, o, v) :: t, h, hB, hb => ⟨⟨oldcell hB h.1.1 (hb _ (List.mem_cons_self ..)), oldfree hB h.1.2 (hb _ (List.mem_cons_self ..))⟩, Cells.below h.2 hB fun x hx => hb x (List.mem_cons_of_mem _ hx)⟩
theorem fz {W : World} {a p : Addr} {v : Value} (h : W.frozen? p = false) : (W.setCell a v).frozen? p = false := by rw [World.frozen?_setCell]; exact h
theorem SI.box {w : World} {p a : Option Addr} {cap b o n c : Nat} {m : List Int} (h : SI w p cap m) (h1 : w.cell? ⟨b, o, none⟩ = some (.slice a n c)) (v : Value) : SI (w.setCell ⟨b, o, none⟩ v) p cap m := ⟨h.le, h.cm, h.q0, h.at'.setBox h1 (fun x j => by simp [iEnc]) _, fun h0 x hx => by have := h.lt h0 x hx; simpa using this⟩
theorem SI.set {w : World} {p : Option Addr} {cap b o : Nat} {m : List Int} (h : SI w p cap m) (hn : ∀ a, p = some a → b ≠ a.block) (v : Value) : SI (w.setCell ⟨b, o, none⟩ v) p cap m := ⟨h.le, h.cm, h.q0, h.at'.setCell hn v, fun h0 a ha => by have := h.lt h0 a ha; simpa using this⟩
/-- v is a slice that reads as l, in a block of its own at or above B (or nil) -/
def OwnG {α : Type} (E : Nat) (enc : α → Nat → Value) (T : TypeId) (w : World) (B : Nat) (v : Value) (l : List α) : Prop := w.ownsRow B T E v l.length (flat E enc l)
section
variable {α : Type} {E : Nat} {enc : α → Nat → Value} {T : TypeId} {w w' : World} {B : Nat} {v : Value} {l : List α}
theorem OwnG.nil : OwnG E enc T w B (.slice none 0 0) ([] : List α) := World.ownsRow_nil _ _ _ _
theorem OwnG.up (h : OwnG E enc T w B v l) (hB : Below w.heap.size w w') : OwnG E enc T w' B v l := owns_below h hB
theorem OwnG.set (h : OwnG E enc T w B v l) {a : Addr} (ha : a.block < B) (u : Value) : OwnG E enc T (w.setCell a u) B v l := ownsRow_setCell_below (a := a) h ha u
theorem OwnG.val (h : OwnG E enc T w B v l) (hE : 0 < E) : ∃ q cq, v = .slice q l.length cq ∧ l.length ≤ cq ∧ cq ≤ maxLen ∧ (q = none → cq = 0) ∧ SlAt E enc w q l ∧ ∀ ad, q = some ad → B ≤ ad.block ∧ ad.block < w.heap.size := by
  obtain ⟨q, cq, rfl, h1, h2, h3, h4⟩ := owns_val hE h
  exact ⟨q, cq, rfl, h1, h2, h3, h4, fun ad e => World.ownsRow.lt h ad.block (by rw [e]; rfl)⟩
theorem OwnG.app {P : Program} (h : OwnG E enc T w B v l) (t ty : TypeId) (i : TypeInfo) (z : Value) (bytes : Nat) (ht : P.underlying t = some (.slice T)) (hi : P.info? T = some i) (hz : i.zero = some z) (hsize : i.size = E) (hby : i.bytes = bytes) (hzs : z.cells.size = E) (hE : 0 < E)
    (ad : Addr) (ys : List α) (c : Nat) (hys : SlAt E enc w (some ad) ys) (hone : ∀ y j, (enc y j).oneCell' = true) (h63 : l.length + ys.length ≤ maxLen) (hbytes : (l.length + ys.length) * bytes ≤ 140737488355328) (hbase : B ≤ w.heap.size) :
    ∃ v' w', (Builtin.append_ #[t, t] ty #[v, .slice (some ad) ys.length c]).run P w = .ok v' w' ∧ OwnG E enc T w' B v' (l ++ ys) ∧ w.grownBy w' v.ownBlock ∧ Below B w w' ∧ (v'.ownBlock = v.ownBlock ∨ v'.ownBlock = some w.heap.size) := by
  have hone' : ∀ u ∈ flat E enc ys, u.oneCell' = true := fun u hu => by
    obtain ⟨n, hn⟩ := List.getElem?_of_mem hu
    obtain ⟨i, y, j, hy, hj, _, rfl⟩ := flat_inv hn
    exact hone y j
  obtain ⟨v', w', hr, h2, h3, -, h5⟩ := run_append_own_at (P := P) w B t ty T i z E bytes ht hi hz hsize hby hzs hE v l.length _ h ad ys.length c (flat E enc ys) (flat_length _ _ _) hys.news hone' h63 hbytes hbase
  exact ⟨v', w', hr, by unfold OwnG; rw [flat_append, List.length_append]; exact h2, h3, Below.grown (Below.refl _ _) h3 hbase (fun k hk => (World.ownsRow.lt h k hk).1), h5⟩
end
theorem exec_app {P : Program} {o : Oper} {a : Act} {w w' : World} {v' v y : Value} {s x : Operand} {t : TypeId} (ho : o.op = .call { callee := .builtin .append, args := #[s, x], argTypes := #[t, t] }) (hs : a.eval s = v) (hx : a.eval x = y)
    (hr : (Builtin.append_ #[t, t] o.type #[v, y]).run P w = .ok v' w') : (execOp a.eval o).run P w = .ok (.value v') w' := by
  unfold execOp
  simp only [ho, resolve, invoke, builtin, Sem.run_bind, Sem.run_pure, Result.andThen_ok, List.map_toArray, List.map_cons, List.map_nil, hs, hx, hr]
theorem SI.one (x : Int) (w : World) (t : TypeId) : SI (w.alloc (.cells #[.int .i64 x] t)) (some ⟨w.heap.size, 0, none⟩) 1 [x] :=
  ⟨by simp, by simp [maxLen], (fun h => by cases h), .inr ⟨w.heap.size, 0, rfl, by simp, fun i y hy j hj => by
    cases i with
    | zero =>
      simp at hy; subst hy
      match j, hj with
      | 0, _ => show World.cell? _ ⟨_, 0, none⟩ = some (.int .i64 x); go_cell
    | succ i => simp at hy⟩, fun _ a h => by cases h; simp⟩
@[go_sem] theorem run_store_func {P : Program} {w : World} {a : Addr} {m : Mode} (f : Fn) (x c : Array Value) : Sem.run P (store a (.func f x c) m) w = stored P w a (.func f x c) m := run_store P w a _ m rfl
end Go.Proofs.Ytdibfjcmgbpnpaa
