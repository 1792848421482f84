import Derived.Test.YtadilppdlbhjnaaMH
namespace Go.Proofs.Ytadilppdlbhjnaa
set_option linter.unusedSimpArgs false
set_option linter.unusedVariables false
open Go.RowKit
def OwnG {α : Type} (E : Nat) (enc : α → Nat → Value) (T : TypeId) (w : World) (B : Nat) (v : Value) (l : List α) : Prop := w.ownsRow B T E v l.length (flat E enc l)
section
variable {α : Type} {E : Nat} {enc : α → Nat → Value} {T : TypeId} {w w' : World} {B : Nat} {v : Value} {l : List α}
theorem OwnG.nil : OwnG E enc T w B (.slice none 0 0) ([] : List α) := World.ownsRow_nil _ _ _ _
theorem OwnG.up (h : OwnG E enc T w B v l) (hB : Below w.heap.size w w') : OwnG E enc T w' B v l := owns_below h hB
theorem OwnG.set (h : OwnG E enc T w B v l) {a : Addr} (ha : a.block < B) (u : Value) : OwnG E enc T (w.setCell a u) B v l := ownsRow_setCell_below (a := a) h ha u
theorem OwnG.val (h : OwnG E enc T w B v l) (hE : 0 < E) : ∃ q cq, v = .slice q l.length cq ∧ l.length ≤ cq ∧ cq ≤ maxLen ∧ (q = none → cq = 0) ∧ SlAt E enc w q l ∧ ∀ ad, q = some ad → B ≤ ad.block ∧ ad.block < w.heap.size := by
 obtain ⟨q, cq, rfl, h1, h2, h3, h4⟩ := owns_val hE h
 exact ⟨q, cq, rfl, h1, h2, h3, h4, fun ad e => World.ownsRow.lt h ad.block (by rw [e]; rfl)⟩
theorem OwnG.app {P : Program} (h : OwnG E enc T w B v l) (t ty : TypeId) (i : TypeInfo) (z : Value) (bytes : Nat) (ht : P.underlying t = some (.slice T)) (hi : P.info? T = some i) (hz : i.zero = some z) (hsize : i.size = E) (hby : i.bytes = bytes) (hzs : z.cells.size = E) (hE : 0 < E)
 (ad : Addr) (ys : List α) (c : Nat) (hys : SlAt E enc w (some ad) ys) (hone : ∀ y j, (enc y j).oneCell' = true) (h63 : l.length + ys.length ≤ maxLen) (hbytes : (l.length + ys.length) * bytes ≤ 140737488355328) (hbase : B ≤ w.heap.size) :
 ∃ v' w', (Builtin.append_ #[t, t] ty #[v, .slice (some ad) ys.length c]).run P w = .ok v' w' ∧ OwnG E enc T w' B v' (l ++ ys) ∧ w.grownBy w' v.ownBlock ∧ Below B w w' ∧ (v'.ownBlock = v.ownBlock ∨ v'.ownBlock = some w.heap.size) := by
 have hone' : ∀ u ∈ flat E enc ys, u.oneCell' = true := fun u hu => by
  obtain ⟨n, hn⟩ := List.getElem?_of_mem hu
  obtain ⟨i, y, j, hy, hj, _, rfl⟩ := flat_inv hn
  exact hone y j
 obtain ⟨v', w', hr, h2, h3, -, h5⟩ := run_append_own_at (P := P) w B t ty T i z E bytes ht hi hz hsize hby hzs hE v l.length _ h ad ys.length c (flat E enc ys) (flat_length _ _ _) hys.news hone' h63 hbytes hbase
 exact ⟨v', w', hr, by unfold OwnG; rw [flat_append, List.length_append]; exact h2, h3, Below.grown (Below.refl _ _) h3 hbase (fun k hk => (World.ownsRow.lt h k hk).1), h5⟩
end
theorem exec_app {P : Program} {o : Oper} {a : Act} {w w' : World} {v' v y : Value} {s x : Operand} {t : TypeId} (ho : o.op = .call { callee := .builtin .append, args := #[s, x], argTypes := #[t, t] }) (hs : a.eval s = v) (hx : a.eval x = y)
 (hr : (Builtin.append_ #[t, t] o.type #[v, y]).run P w = .ok v' w') : (execOp a.eval o).run P w = .ok (.value v') w' := by
 unfold execOp
 simp only [ho, resolve, invoke, builtin, Sem.run_bind, Sem.run_pure, Result.andThen_ok, List.map_toArray, List.map_cons, List.map_nil, hs, hx, hr]
theorem MxAt.one (x : Cell) (w : World) (t : TypeId) : MxAt (w.alloc (.cells #[.int .i64 x.rank, .int .i64 x.ref] t)) (some ⟨w.heap.size, 0, none⟩) 1 [x] :=
 ⟨by simp, by simp [maxLen], (fun h => by cases h), .inr ⟨w.heap.size, 0, rfl, by simp, fun i y hy j hj => by
  cases i with
  | zero =>
   simp at hy; subst hy
   match j, hj with
   | 0, _ => show World.cell? _ ⟨_, 0, none⟩ = some (.int .i64 x.rank); go_cell
   | 1, _ => show World.cell? _ ⟨_, 1, none⟩ = some (.int .i64 x.ref); go_cell
  | succ i => simp at hy⟩, fun a h => by cases h; simp⟩
theorem SI.one (x : Int) (w : World) (t : TypeId) : SI (w.alloc (.cells #[.int .i64 x] t)) (some ⟨w.heap.size, 0, none⟩) 1 [x] :=
 ⟨by simp, by simp [maxLen], (fun h => by cases h), .inr ⟨w.heap.size, 0, rfl, by simp, fun i y hy j hj => by
  cases i with
  | zero =>
   simp at hy; subst hy
   match j, hj with
   | 0, _ => show World.cell? _ ⟨_, 0, none⟩ = some (.int .i64 x); go_cell
  | succ i => simp at hy⟩, fun a h => by cases h; simp⟩
theorem Cells.low {B : Nat} {w w' : World} (hB : Below B w w') : ∀ {l : List (Nat × Nat × Value)}, Cells w l → (∀ x ∈ l, x.1 < B) → Cells w' l
 | [], _, _ => trivial
 | (b, o, v) :: l, h, hl => ⟨⟨oldcell hB h.1.1 (hl _ (List.mem_cons_self ..)), oldfree hB h.1.2 (hl _ (List.mem_cons_self ..))⟩, Cells.low hB h.2 fun x hx => hl x (List.mem_cons_of_mem _ hx)⟩
end Go.Proofs.Ytadilppdlbhjnaa
