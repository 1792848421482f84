/- A map from gates to true that the call itself makes: asked, written, counted. -/
import Derived.Test.YtanlecgpnknhoaaBase
import Derived.Maps.OwnOps
import Derived.Maps.OwnSet
namespace Go.Proofs.Ytanlecgpnknhoaa
set_option linter.unusedSimpArgs false
set_option linter.unusedVariables false
open Go.RowKit

def gv (k a b : Int) : Value := .agg #[.int .i64 k, .int .i64 a, .int .i64 b]
def MapIs (w : World) (b : Nat) (gs : List Gate) : Prop :=
  ∃ es clock, w.heap[b]? = some (.map es clock) ∧ es.toList.map (fun e => (e.key, e.val)) = gs.map (fun g => (gv g.k g.a g.b, Value.bool true))

theorem zero_bool (w : World) : (zeroValue 4).run Try.prog w = .ok (.bool false) w := by kernel_rfl

theorem gate_equal (a b c x y z : Int) (w : World) : (Op.equal 47 (gv a b c) (gv x y z)).run Try.prog w = .ok (gEq a b c x y z) w := by
  have h1 := gate_held
  simp [gv, Op.equal, Op.maxDepth, go_sem, h1]
  by_cases h : a = x <;> by_cases h' : b = y <;> by_cases h'' : c = z <;> simp [h, h', h'', gEq]

theorem int_checkKey (e : Bool) (n : Nat) (a : Int) (w : World) : (Instr.checkKey e (n + 1) 3 (.int .i64 a)).run Try.prog w = .ok () w := by
  simp [Instr.checkKey, run_underlying Try.underlying3]

theorem gate_checkKey (e : Bool) (a b c : Int) (w : World) : (Instr.checkKey e 10000 47 (gv a b c)).run Try.prog w = .ok () w := by
  unfold Instr.checkKey
  simp [gv, run_underlying Try.underlying47, go_sem, int_checkKey]

theorem gEq_iff {a b c : Int} {g : Gate} : gEq a b c g.k g.a g.b = true ↔ (⟨a, b, c⟩ : Gate) = g := by
  cases g; simp [gEq]

theorem run_findAsking (x y z : Int) (w : World) : ∀ (es : List MapEntry) (gs : List Gate) (i : Nat), es.map (fun e => (e.key, e.val)) = gs.map (fun g => (gv g.k g.a g.b, Value.bool true)) →
    (∃ j, (Instr.findAsking 47 (gv x y z) es i).run Try.prog w = .ok (some (j, .bool true)) w ∧ gs.contains ⟨x, y, z⟩ = true) ∨
    ((Instr.findAsking 47 (gv x y z) es i).run Try.prog w = .ok none w ∧ gs.contains ⟨x, y, z⟩ = false) := by
  intro es
  induction es with
  | nil =>
    intro gs i h
    cases gs with
    | nil => right; exact ⟨by simp [Instr.findAsking], rfl⟩
    | cons g t => simp at h
  | cons e es ih =>
    intro gs i h
    cases gs with
    | nil => simp at h
    | cons g t =>
      simp only [List.map_cons, List.cons.injEq, Prod.mk.injEq] at h
      obtain ⟨⟨hk, hv⟩, ht⟩ := h
      cases hq : gEq x y z g.k g.a g.b with
      | true =>
        left
        refine ⟨i, ?_, ?_⟩
        · simp [Instr.findAsking, hk, gate_equal, hq, hv]
        · have := gEq_iff.1 hq
          simp [this]
      | false =>
        have hne : (⟨x, y, z⟩ : Gate) ≠ g := fun e => by rw [gEq_iff.2 e] at hq; cases hq
        have hne' : ((⟨x, y, z⟩ : Gate) == g) = false := by simpa using hne
        have e1 : (Instr.findAsking 47 (gv x y z) (e :: es) i).run Try.prog w = (Instr.findAsking 47 (gv x y z) es (i + 1)).run Try.prog w := by
          simp [Instr.findAsking, hk, gate_equal, hq]
        rw [e1]
        have e2 : (g :: t).contains (⟨x, y, z⟩ : Gate) = t.contains ⟨x, y, z⟩ := by rw [List.contains_cons, hne', Bool.false_or]
        rw [e2]
        exact ih t (i + 1) ht

theorem run_findKey (x y z : Int) (w : World) (es : List MapEntry) (gs : List Gate) (h : es.map (fun e => (e.key, e.val)) = gs.map (fun g => (gv g.k g.a g.b, Value.bool true))) :
    (∃ j, (Instr.findKey 47 (gv x y z) es).run Try.prog w = .ok (some (j, .bool true)) w ∧ gs.contains ⟨x, y, z⟩ = true) ∨
    ((Instr.findKey 47 (gv x y z) es).run Try.prog w = .ok none w ∧ gs.contains ⟨x, y, z⟩ = false) := by
  cases es with
  | nil =>
    cases gs with
    | nil => right; exact ⟨by simp [Instr.findKey, run_underlying Try.underlying47, Instr.findNow], rfl⟩
    | cons g t => simp at h
  | cons e es =>
    cases gs with
    | nil => simp at h
    | cons g t =>
      have h' := h
      simp only [List.map_cons, List.cons.injEq, Prod.mk.injEq] at h'
      have e1 : (Instr.findKey 47 (gv x y z) (e :: es)).run Try.prog w = (Instr.findAsking 47 (gv x y z) (e :: es) 0).run Try.prog w := by
        simp [Instr.findKey, run_underlying Try.underlying47, Instr.findNow, h'.1.1, gv, Instr.sameNow]
      rw [e1]
      exact run_findAsking x y z w (e :: es) (g :: t) 0 h

/-- is a gate among these: a Bool that the walk does not lay open -/
def gHas (l : List Gate) (x y z : Int) : Bool := l.contains ⟨x, y, z⟩

theorem run_lookup_gate {w : World} {b : Nat} {gs : List Gate} (h : MapIs w b gs) (x y z : Int) : (Instr.lookup 75 (.map (some b)) (gv x y z) false).run Try.prog w = .ok (.bool (gHas gs x y z)) w := by
  unfold gHas
  obtain ⟨es, clock, hb, hes⟩ := h
  rcases run_findKey x y z w es.toList gs hes with ⟨j, h1, h2⟩ | ⟨h1, h2⟩
  · rw [h2]; simp [Instr.lookup, run_underlying Try.underlying75, getObj, Sem.run, hb, gate_checkKey, h1, h2]
  · rw [h2]; simp [Instr.lookup, run_underlying Try.underlying75, getObj, Sem.run, hb, gate_checkKey, h1, h2, zero_bool]

theorem run_update_gate {w : World} {b : Nat} {gs : List Gate} (h : MapIs w b gs) (x y z : Int) (hn : gs.contains ⟨x, y, z⟩ = false) :
    ∃ w', (Instr.mapUpdate 75 (.map (some b)) (gv x y z) (.bool true)).run Try.prog w = .ok () w' ∧ MapIs w' b (gs ++ [⟨x, y, z⟩]) ∧ w'.os = w.os ∧ w'.tape = w.tape ∧ w'.output = w.output ∧ w'.heap.size = w.heap.size ∧ ∀ k, k ≠ b → w'.heap[k]? = w.heap[k]? := by
  obtain ⟨es, clock, hb, hes⟩ := h
  rcases run_findKey x y z w es.toList gs hes with ⟨j, h1, h2⟩ | ⟨h1, _⟩
  · rw [h2] at hn; cases hn
  · refine ⟨{ w with heap := w.heap.setIfInBounds b (.map (es.push { key := gv x y z, val := .bool true, born := clock }) (clock + 1)) }, ?_, ?_, rfl, rfl, rfl, by simp, ?_⟩
    · simp [Instr.mapUpdate, run_underlying Try.underlying75, getObj, setObj, Sem.run, hb, gate_checkKey, h1]
    · have hlt : b < w.heap.size := (Array.getElem?_eq_some_iff.1 hb).1
      refine ⟨es.push { key := gv x y z, val := .bool true, born := clock }, clock + 1, by simp [hlt], ?_⟩
      simp [hes]
    · intro k hk
      simp only [Array.getElem?_setIfInBounds]
      rw [if_neg (by omega)]


/-- At the operation. -/
theorem wpList_lookup_gate {w : World} {ops : Array Oper} {rest : List Oper} {o : Oper} {a : Act} {Q : Exit → Act → World → Prop} (hg : o.guard = none) (m x : Operand)
    (hop : o.op = Op.lookup 75 m x false) (b : Nat) (gs : List Gate) (hm : a.eval m = .map (some b)) (h : MapIs w b gs) (k1 k2 k3 : Int) (hx : a.eval x = gv k1 k2 k3)
    (hK : wpList Try.prog ops Q rest (a.put o.dst (.bool (gHas gs k1 k2 k3))) w) : wpList Try.prog ops Q (o :: rest) a w := by
  refine wpList_plain hg fun K' hK' => ?_
  have hrun := run_lookup_gate h k1 k2 k3
  unfold Oper.wp
  simp only [execOp, hop, hm, hx, Sem.run_bind, Sem.run_pure, hrun, Result.andThen_ok]
  exact hK' _ _ hK

theorem wpList_update_gate {w : World} {ops : Array Oper} {rest : List Oper} {o : Oper} {a : Act} {Q : Exit → Act → World → Prop} (hg : o.guard = none) (m x v : Operand)
    (hop : o.op = Op.mapUpdate 75 m x v) (b : Nat) (gs : List Gate) (hm : a.eval m = .map (some b)) (h : MapIs w b gs) (k1 k2 k3 : Int) (hx : a.eval x = gv k1 k2 k3) (hv : a.eval v = .bool true) (hn : gHas gs k1 k2 k3 = false)
    (hK : ∀ w', MapIs w' b (gs ++ [⟨k1, k2, k3⟩]) → w'.os = w.os → w'.tape = w.tape → w'.output = w.output → w'.heap.size = w.heap.size → (∀ k, k ≠ b → w'.heap[k]? = w.heap[k]?) → wpList Try.prog ops Q rest (a.put o.dst undef) w') : wpList Try.prog ops Q (o :: rest) a w := by
  refine wpList_plain hg fun K' hK' => ?_
  obtain ⟨w', hrun, h1, h2, h3, h4, h5, h6⟩ := run_update_gate h k1 k2 k3 hn
  unfold Oper.wp
  simp only [execOp, hop, hm, hx, hv, Sem.run_bind, Sem.run_pure, hrun, Result.andThen_ok]
  exact hK' _ _ (hK w' h1 h2 h3 h4 h5 h6)

theorem wpList_len_gate {w : World} {ops : Array Oper} {rest : List Oper} {o : Oper} {a : Act} {Q : Exit → Act → World → Prop} (hg : o.guard = none) (m : Operand)
    (hop : o.op = Op.call { callee := .builtin .len, args := #[m], argTypes := #[75] }) (b : Nat) (gs : List Gate) (hm : a.eval m = .map (some b)) (h : MapIs w b gs) (n : Nat) (hn : gs.length = n)
    (hK : wpList Try.prog ops Q rest (a.put o.dst (.int .i64 n)) w) : wpList Try.prog ops Q (o :: rest) a w := by
  subst hn
  refine wpList_plain hg fun K' hK' => ?_
  obtain ⟨es, clock, hb, hes⟩ := h
  have hsz : es.size = gs.length := by have := congrArg List.length hes; simpa using this
  have hrun : (Builtin.len_ #[75] o.type #[.map (some b)]).run Try.prog w = .ok (.int .i64 gs.length) w := by
    simp [Builtin.len_, run_underlying Try.underlying75, getObj, Sem.run, hb, goInt, hsz]
  unfold Oper.wp
  simp [execOp, hop, hm, resolve, invoke, builtin, hrun, Result.andThen]
  exact hK' _ _ hK

end Go.Proofs.Ytanlecgpnknhoaa
