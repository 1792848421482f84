/- The solver in memory, as a function of its state; one law per change of memory. -/
import Derived.Test.YtdibfjcmgbpnpaaK1
namespace Go.Proofs.Ytdibfjcmgbpnpaa
set_option linter.unusedSimpArgs false
set_option linter.unusedVariables false
open Go.RowKit

/-- what the rows hold, as a function -/
def E (s : SS) (oc : Int) (hd : Role → Value) : Role → List Value
  | .self => [hd .value, hd .level, hd .reason, hd .lits, hd .marks, .int .i64 s.low, hd .clauses, hd .watches, .int .i64 s.head, .int .i64 s.added, .bool s.broken, hd .proof, .int .i64 oc, hd .model, hd .core]
  | .value => iV s.value
  | .level => nV s.level
  | .reason => iV s.reason
  | .lits => iV s.lits
  | .marks => nV s.marks
  | .clauses => (List.range s.clauses.length).map fun k => hd (.cl k)
  | .cl k => iV (s.clauses.getD k [])
  | .watches => (List.range s.watches.length).map fun k => hd (.wl k)
  | .wl k => nV (s.watches.getD k [])
  | .proof => (List.range s.proof.length).flatMap fun k => [.int .i64 1, hd (.step k), .int .i64 0]
  | .step k => iV (s.proof.getD k [])
  | .model => iV s.model
  | .core => iV s.core
theorem E.enc (s : SS) (oc : Int) (hd : Role → Value) : Enc s oc hd (E s oc hd) := ⟨rfl, rfl, rfl, rfl, rfl, rfl, rfl, fun _ => rfl, rfl, fun _ => rfl, rfl, fun _ => rfl, rfl, rfl⟩
theorem Enc.eq {s : SS} {oc : Int} {hd : Role → Value} {ct : Role → List Value} (h : Enc s oc hd ct) : ct = E s oc hd := by
  funext r
  cases r
  · exact h.self
  · exact h.value
  · exact h.level
  · exact h.reason
  · exact h.lits
  · exact h.marks
  · exact h.clauses
  · exact h.cl _
  · exact h.watches
  · exact h.wl _
  · exact h.proof
  · exact h.step _
  · exact h.model
  · exact h.core
structure Sl (w : World) (o : Nat → Option Role) (b : Nat) (s : SS) (oc : Int) (hd : Role → Value) : Prop where
  hb : hd .self = .slice (some ⟨b, 0, none⟩) 1 1
  mem : Mem w o hd (E s oc hd)
  lt : ∀ g, o g ≠ none → g < w.heap.size
theorem SolAt.sl {w : World} {o : Nat → Option Role} {b : Nat} {s : SS} (h : SolAt w o b s) : ∃ oc hd, Sl w o b s oc hd := by
  obtain ⟨⟨oc, hd, ct, hb, hm, he⟩, lt⟩ := h
  rw [he.eq] at hm
  exact ⟨oc, hd, hb, hm, lt⟩
section
variable {w : World} {o : Nat → Option Role} {b : Nat} {s : SS} {oc : Int} {hd : Role → Value}
theorem Sl.at (h : Sl w o b s oc hd) : SolAt w o b s := ⟨⟨oc, hd, _, h.hb, h.mem, E.enc _ _ _⟩, h.lt⟩
theorem Sl.up (h : Sl w o b s oc hd) {w' : World} (hB : Below w.heap.size w w') : Sl w' o b s oc hd := ⟨h.hb, h.mem.up hB, fun g hg => Nat.lt_of_lt_of_le (h.lt g hg) hB.size⟩
theorem Sl.fld (h : Sl w o b s oc hd) (i : Nat) {u : Value} (hu : (E s oc hd .self)[i]? = some u) : w.cell? ⟨b, i, none⟩ = some u ∧ w.frozen? ⟨b, i, none⟩ = false := h.mem.load h.hb hu
theorem Sl.ob (h : Sl w o b s oc hd) : o b = some .self := (h.mem .self).tag b (by rw [h.hb]; rfl)
theorem Sl.cell (h : Sl w o b s oc hd) {r : Role} {g n c i : Nat} {u : Value} (hv : hd r = .slice (some ⟨g, 0, none⟩) n c) (hu : (E s oc hd r)[i]? = some u) : w.cell? ⟨g, i, none⟩ = some u ∧ w.frozen? ⟨g, i, none⟩ = false := h.mem.load hv hu
/-- a cell is set -/
theorem Sl.set (h : Sl w o b s oc hd) {r : Role} {g n c : Nat} (hv : hd r = .slice (some ⟨g, 0, none⟩) n c) (i : Nat) (u : Value) {s' : SS} {oc' : Int} (hE : upd (E s oc hd) r ((E s oc hd r).set i u) = E s' oc' hd) :
    Sl (w.setCell ⟨g, i, none⟩ u) o b s' oc' hd ∧ Ext NoX w o (w.setCell ⟨g, i, none⟩ u) o := by
  have h2 := h.mem.set hv i u
  rw [hE] at h2
  exact ⟨⟨h.hb, h2, fun g hg => by rw [World.size_setCell]; exact h.lt g hg⟩, Ext.setCell ((h.mem r).tag g (by rw [hv]; rfl)) u⟩
/-- a value is appended to a row, in the middle of an operation's order; its header is stored behind that -/
theorem Sl.app1 {P : Program} (h : Sl w o b s oc hd) (r : Role) (hes : r.es = 1) {p : Option Addr} {n c : Nat} (hv : hd r = .slice p n c) (t ty : TypeId) (i : TypeInfo) (z : Value) (ht : P.underlying t = some (.slice r.ty)) (hi : P.info? r.ty = some i) (hz : i.zero = some z)
    (hsize : i.size = 1) {bytes : Nat} (hby : i.bytes = bytes) (hb24 : bytes ≤ 24) (hzs : z.cells.size = 1) (x : Value) (hx : x.oneCell' = true) (te : TypeId) {wb wa : World} (h1 : Below w.heap.size w wb) (h2 : Below (wb.alloc (.cells #[x] te)).heap.size (wb.alloc (.cells #[x] te)) wa) (hn : n ≤ 1000000)
    {q : Role} (hqr : q ≠ r) {gq nq cq j : Nat} (hq : hd q = .slice (some ⟨gq, 0, none⟩) nq cq) (hj : (E s oc hd q)[j]? = some (hd r)) (hrs : r ≠ .self) {s' : SS}
    (hE : ∀ V, upd (upd (E s oc hd) r (E s oc hd r ++ [x])) q ((E s oc hd q).set j V) = E s' oc (upd hd r V)) :
    ∃ p' c' w', (Builtin.append_ #[t, t] ty #[.slice p n c, .slice (some ⟨wb.heap.size, 0, none⟩) 1 1]).run P wa = .ok (.slice p' (n + 1) c') w' ∧ w'.cell? ⟨gq, j, none⟩ = some (hd r) ∧ w'.frozen? ⟨gq, j, none⟩ = false ∧ Mem w' (tagNew o (.slice p' (n + 1) c') r) (upd hd r (.slice p' (n + 1) c')) (upd (E s oc hd) r (E s oc hd r ++ [x])) ∧
      ∀ w2, Below w'.heap.size w' w2 → Sl (w2.setCell ⟨gq, j, none⟩ (.slice p' (n + 1) c')) (tagNew o (.slice p' (n + 1) c') r) b s' oc (upd hd r (.slice p' (n + 1) c')) ∧ Ext NoX w o (w2.setCell ⟨gq, j, none⟩ (.slice p' (n + 1) c')) (tagNew o (.slice p' (n + 1) c') r) := by
  have hB0 : Below wb.heap.size wb (wb.alloc (.cells #[x] te)) := by go_grown
  have hB : Below w.heap.size w wa := btr (btr h1 hB0) h2
  have hm := h.mem.up hB
  obtain ⟨v', w', hr, hm2, hg, hbk⟩ := hm.app (P := P) r hv t ty i z bytes ht hi hz (by rw [hes]; exact hsize) hby (by rw [hes]; exact hzs) (⟨wb.heap.size, 0, none⟩) 1 1 [x] (by rw [hes]; rfl) (fun j u hu => by
    have e := one_new wb x te j u hu
    rw [World.cell?_of_block (h2.block _ (World.block_lt_of_cell? _ _ e))]; exact e) (fun u hu => by simp only [List.mem_singleton] at hu; subst hu; exact hx) (by simp only [maxLen]; omega)
    (by have h3 : (n + 1) * bytes ≤ 1000001 * 24 := Nat.mul_le_mul (by omega) hb24
        omega)
  obtain ⟨p', n', c', e1, e2, -⟩ := hm2.form r
  rw [upd_self] at e1 e2
  obtain ⟨p2, n2, c2, g1, g2, -⟩ := hm.form r
  rw [hv] at g1
  simp only [Value.slice.injEq] at g1
  obtain ⟨rfl, rfl, rfl⟩ := g1
  rw [List.length_append, g2, hes] at e2
  have e3 : n + 1 = n' := by simpa using e2
  subst e1 e3
  have hx2 : Ext NoX w o w' (tagNew o (.slice p' (n + 1) c') r) := (Ext.below hB).trans (Ext.app hg (hm r).tag hbk) fun _ _ q => q
  have hbq : upd hd r (.slice p' (n + 1) c') q = .slice (some ⟨gq, 0, none⟩) nq cq := by rw [upd_ne _ _ hqr]; exact hq
  obtain ⟨a1, a2⟩ := hm2.load hbq (i := j) (u := hd r) (by rw [upd_ne _ _ hqr]; exact hj)
  refine ⟨p', c', w', hr, a1, a2, hm2, fun w2 hw2 => ?_⟩
  have hm3 := (hm2.up hw2).set hbq j (.slice p' (n + 1) c')
  rw [upd_ne (E s oc hd) _ hqr, hE] at hm3
  have hx3 := (hx2.trans (Ext.below hw2) fun _ _ q => q).trans (Ext.setCell (X := NoX) ((hm2 q).tag gq (by rw [hbq]; rfl)) (i := j) (.slice p' (n + 1) c')) fun _ _ q => q
  exact ⟨⟨by rw [upd_ne _ _ hrs.symm]; exact h.hb, hm3, tag_lt2 hm3 (upd_self _ _ _) hx3.size h.lt⟩, hx3⟩
/-- a row is cut and its header stored -/
theorem Sl.cut (h : Sl w o b s oc hd) (r : Role) (hes : r.es = 1) {p : Option Addr} {n c k : Nat} (hv : hd r = .slice p n c) (hk : k ≤ n) {q : Role} (hqr : q ≠ r) {gq nq cq j : Nat} (hq : hd q = .slice (some ⟨gq, 0, none⟩) nq cq) (hrs : r ≠ .self) {s' : SS}
    (hE : ∀ V, upd (upd (E s oc hd) r ((E s oc hd r).take k)) q ((E s oc hd q).set j V) = E s' oc (upd hd r V)) :
    Sl (w.setCell ⟨gq, j, none⟩ (.slice p k c)) o b s' oc (upd hd r (.slice p k c)) ∧ Ext NoX w o (w.setCell ⟨gq, j, none⟩ (.slice p k c)) o := by
  have hm2 := h.mem.shrink r hv hk
  rw [hes, Nat.mul_one] at hm2
  have hbq : upd hd r (.slice p k c) q = .slice (some ⟨gq, 0, none⟩) nq cq := by rw [upd_ne _ _ hqr]; exact hq
  have hm3 := hm2.set hbq j (.slice p k c)
  rw [upd_ne (E s oc hd) _ hqr, hE] at hm3
  exact ⟨⟨by rw [upd_ne _ _ hrs.symm]; exact h.hb, hm3, fun g hg => by rw [World.size_setCell]; exact h.lt g hg⟩, Ext.setCell ((hm2 q).tag gq (by rw [hbq]; rfl)) _⟩
theorem Sl.arr (h : Sl w o b s oc hd) (r : Role) (h1 : r.es = 1) (hl : 0 < (E s oc hd r).length) : ∃ g c, hd r = .slice (some ⟨g, 0, none⟩) (E s oc hd r).length c := by
  obtain ⟨g, c, e, -⟩ := h.mem.arr r h1 hl
  exact ⟨g, c, e⟩
theorem Sl.sl (h : Sl w o b s oc hd) (r : Role) (h1 : r.es = 1) : ∃ p c, hd r = .slice p (E s oc hd r).length c := by
  obtain ⟨p, c, e, -⟩ := h.mem.sl r h1
  exact ⟨p, c, e⟩
theorem Sl.value_arr (h : Sl w o b s oc hd) (hl : 0 < s.value.length) : ∃ g c, hd .value = .slice (some ⟨g, 0, none⟩) s.value.length c := by
  obtain ⟨g, c, e⟩ := h.arr .value rfl (by show 0 < (iV s.value).length; rw [iV_len]; exact hl)
  exact ⟨g, c, by rw [e]; show Value.slice _ (iV s.value).length _ = _; rw [iV_len]⟩
theorem Sl.level_arr (h : Sl w o b s oc hd) (hl : 0 < s.level.length) : ∃ g c, hd .level = .slice (some ⟨g, 0, none⟩) s.level.length c := by
  obtain ⟨g, c, e⟩ := h.arr .level rfl (by show 0 < (nV s.level).length; rw [nV_len]; exact hl)
  exact ⟨g, c, by rw [e]; show Value.slice _ (nV s.level).length _ = _; rw [nV_len]⟩
theorem Sl.reason_arr (h : Sl w o b s oc hd) (hl : 0 < s.reason.length) : ∃ g c, hd .reason = .slice (some ⟨g, 0, none⟩) s.reason.length c := by
  obtain ⟨g, c, e⟩ := h.arr .reason rfl (by show 0 < (iV s.reason).length; rw [iV_len]; exact hl)
  exact ⟨g, c, by rw [e]; show Value.slice _ (iV s.reason).length _ = _; rw [iV_len]⟩
theorem Sl.lits_sl (h : Sl w o b s oc hd) : ∃ p c, hd .lits = .slice p s.lits.length c := by
  obtain ⟨p, c, e⟩ := h.sl .lits rfl
  exact ⟨p, c, by rw [e]; show Value.slice _ (iV s.lits).length _ = _; rw [iV_len]⟩
theorem Sl.lits_arr (h : Sl w o b s oc hd) (hl : 0 < s.lits.length) : ∃ g c, hd .lits = .slice (some ⟨g, 0, none⟩) s.lits.length c := by
  obtain ⟨g, c, e⟩ := h.arr .lits rfl (by show 0 < (iV s.lits).length; rw [iV_len]; exact hl)
  exact ⟨g, c, by rw [e]; show Value.slice _ (iV s.lits).length _ = _; rw [iV_len]⟩
theorem Sl.marks_sl (h : Sl w o b s oc hd) : ∃ p c, hd .marks = .slice p s.marks.length c := by
  obtain ⟨p, c, e⟩ := h.sl .marks rfl
  exact ⟨p, c, by rw [e]; show Value.slice _ (nV s.marks).length _ = _; rw [nV_len]⟩
theorem Sl.marks_arr (h : Sl w o b s oc hd) (hl : 0 < s.marks.length) : ∃ g c, hd .marks = .slice (some ⟨g, 0, none⟩) s.marks.length c := by
  obtain ⟨g, c, e⟩ := h.arr .marks rfl (by show 0 < (nV s.marks).length; rw [nV_len]; exact hl)
  exact ⟨g, c, by rw [e]; show Value.slice _ (nV s.marks).length _ = _; rw [nV_len]⟩
theorem Sl.watches_arr (h : Sl w o b s oc hd) (hl : 0 < s.watches.length) : ∃ g c, hd .watches = .slice (some ⟨g, 0, none⟩) s.watches.length c := by
  obtain ⟨g, c, e⟩ := h.arr .watches rfl (by show 0 < ((List.range s.watches.length).map _).length; simpa using hl)
  exact ⟨g, c, by rw [e]; show Value.slice _ ((List.range s.watches.length).map _).length _ = _; simp⟩
theorem Sl.clauses_sl (h : Sl w o b s oc hd) : ∃ p c, hd .clauses = .slice p s.clauses.length c := by
  obtain ⟨p, c, e⟩ := h.sl .clauses rfl
  exact ⟨p, c, by rw [e]; show Value.slice _ ((List.range s.clauses.length).map _).length _ = _; simp⟩
theorem Sl.clauses_arr (h : Sl w o b s oc hd) (hl : 0 < s.clauses.length) : ∃ g c, hd .clauses = .slice (some ⟨g, 0, none⟩) s.clauses.length c := by
  obtain ⟨g, c, e⟩ := h.arr .clauses rfl (by show 0 < ((List.range s.clauses.length).map _).length; simpa using hl)
  exact ⟨g, c, by rw [e]; show Value.slice _ ((List.range s.clauses.length).map _).length _ = _; simp⟩
theorem Sl.cl_sl (h : Sl w o b s oc hd) (k : Nat) : ∃ p c, hd (.cl k) = .slice p (s.clauses.getD k []).length c := by
  obtain ⟨p, c, e⟩ := h.sl (.cl k) rfl
  exact ⟨p, c, by rw [e]; show Value.slice _ (iV (s.clauses.getD k [])).length _ = _; rw [iV_len]⟩
theorem Sl.cl_arr (h : Sl w o b s oc hd) (k : Nat) (hl : 0 < (s.clauses.getD k []).length) : ∃ g c, hd (.cl k) = .slice (some ⟨g, 0, none⟩) (s.clauses.getD k []).length c := by
  obtain ⟨g, c, e⟩ := h.arr (.cl k) rfl (by show 0 < (iV (s.clauses.getD k [])).length; rw [iV_len]; exact hl)
  exact ⟨g, c, by rw [e]; show Value.slice _ (iV (s.clauses.getD k [])).length _ = _; rw [iV_len]⟩
theorem Sl.wl_sl (h : Sl w o b s oc hd) (k : Nat) : ∃ p c, hd (.wl k) = .slice p (s.watches.getD k []).length c := by
  obtain ⟨p, c, e⟩ := h.sl (.wl k) rfl
  exact ⟨p, c, by rw [e]; show Value.slice _ (nV (s.watches.getD k [])).length _ = _; rw [nV_len]⟩
theorem Sl.wl_arr (h : Sl w o b s oc hd) (k : Nat) (hl : 0 < (s.watches.getD k []).length) : ∃ g c, hd (.wl k) = .slice (some ⟨g, 0, none⟩) (s.watches.getD k []).length c := by
  obtain ⟨g, c, e⟩ := h.arr (.wl k) rfl (by show 0 < (nV (s.watches.getD k [])).length; rw [nV_len]; exact hl)
  exact ⟨g, c, by rw [e]; show Value.slice _ (nV (s.watches.getD k [])).length _ = _; rw [nV_len]⟩
end
theorem rows_set (f : Nat → Value) (n k : Nat) (V : Value) : ((List.range n).map f).set k V = (List.range n).map fun j => if j = k then V else f j := by
  apply List.ext_getElem
  · simp
  · intro i h1 h2
    simp only [List.getElem_set, List.getElem_map, List.getElem_range]
    by_cases e : k = i
    · subst e; simp
    · rw [if_neg e, if_neg (fun q => e q.symm)]
theorem rows_get (f : Nat → Value) {n k : Nat} (h : k < n) : ((List.range n).map f)[k]? = some (f k) := by
  rw [List.getElem?_map, List.getElem?_range h]; rfl
end Go.Proofs.Ytdibfjcmgbpnpaa
