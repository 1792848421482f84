/- Laws of the solver's memory: watch lists, clauses. -/
import Derived.Test.YtdibfjcmgbpnpaaSE
namespace Go.Proofs.Ytdibfjcmgbpnpaa
set_option linter.unusedSimpArgs false
set_option linter.unusedVariables false
open Go.RowKit

theorem E_wl (s : SS) (oc : Int) (hd : Role → Value) {i : Nat} (hi : i < s.watches.length) (l : List Nat) (V : Value) :
    upd (upd (E s oc hd) (.wl i) (nV l)) .watches ((E s oc hd .watches).set i V) = E { s with watches := s.watches.set i l } oc (upd hd (.wl i) V) := by
  funext r
  cases r with
  | watches =>
    show ((List.range s.watches.length).map _).set i V = (List.range (s.watches.set i l).length).map _
    rw [rows_set, List.length_set]
    refine List.map_congr_left fun j _ => ?_
    by_cases e : j = i
    · subst e; rw [if_pos rfl, upd_self]
    · rw [if_neg e, upd_ne _ _ (fun q => e (by cases q; rfl))]
  | wl k =>
    show upd (upd _ (Role.wl i) (nV l)) Role.watches _ (Role.wl k) = nV ((s.watches.set i l).getD k [])
    rw [upd_ne _ _ (by intro q; cases q), List.getD_eq_getElem?_getD, List.getElem?_set]
    by_cases e : k = i
    · subst e; rw [upd_self, if_pos rfl, if_pos hi]; rfl
    · rw [upd_ne _ _ (fun q => e (by cases q; rfl)), if_neg (fun q => e q.symm), ← List.getD_eq_getElem?_getD]; rfl
  | self | value | level | reason | lits | marks | clauses | cl k | proof | step k | model | core => rfl
/-- a clause's own cells are written -/
theorem E_cl (s : SS) (oc : Int) (hd : Role → Value) {k : Nat} (hk : k < s.clauses.length) (l : List Int) :
    upd (E s oc hd) (.cl k) (iV l) = E { s with clauses := s.clauses.set k l } oc hd := by
  funext r
  cases r with
  | clauses =>
    show (List.range s.clauses.length).map _ = (List.range (s.clauses.set k l).length).map _
    rw [List.length_set]
  | cl j =>
    show upd _ (Role.cl k) (iV l) (Role.cl j) = iV ((s.clauses.set k l).getD j [])
    rw [List.getD_eq_getElem?_getD, List.getElem?_set]
    by_cases e : j = k
    · subst e; rw [upd_self, if_pos rfl, if_pos hk]; rfl
    · rw [upd_ne _ _ (fun q => e (by cases q; rfl)), if_neg (fun q => e q.symm), ← List.getD_eq_getElem?_getD]; rfl
  | self | value | level | reason | lits | marks | watches | wl k | proof | step k | model | core => rfl
theorem E_cl_new (s : SS) (oc : Int) (hd : Role → Value) (l : List Int) (v V : Value) :
    upd (upd (upd (E s oc hd) (.cl s.clauses.length) (iV l)) .clauses (E s oc hd .clauses ++ [v])) .self ((E s oc (upd hd (.cl s.clauses.length) v) .self).set 6 V) = E { s with clauses := s.clauses ++ [l] } oc (upd (upd hd (.cl s.clauses.length) v) .clauses V) := by
  funext r
  cases r with
  | clauses =>
    show (List.range s.clauses.length).map (fun k => hd (.cl k)) ++ [v] = (List.range (s.clauses ++ [l]).length).map _
    rw [List.length_append, List.length_singleton, List.range_succ, List.map_append]
    congr 1
    · refine List.map_congr_left fun j hj => ?_
      have := List.mem_range.1 hj
      rw [upd_ne _ _ (by intro q; cases q), upd_ne _ _ (fun q => by cases q; omega)]
    · show [v] = [upd (upd hd (Role.cl s.clauses.length) v) Role.clauses V (Role.cl s.clauses.length)]
      rw [upd_ne _ _ (by intro q; cases q), upd_self]
  | cl j =>
    show upd (upd (upd _ (Role.cl s.clauses.length) (iV l)) Role.clauses _) Role.self _ (Role.cl j) = iV ((s.clauses ++ [l]).getD j [])
    rw [upd_ne _ _ (by intro q; cases q), upd_ne _ _ (by intro q; cases q), List.getD_eq_getElem?_getD, List.getElem?_append]
    by_cases e : j = s.clauses.length
    · subst e; rw [upd_self, if_neg (by omega), Nat.sub_self]; rfl
    · rw [upd_ne _ _ (fun q => e (by cases q; rfl))]
      show iV (s.clauses.getD j []) = _
      rw [List.getD_eq_getElem?_getD]
      split
      · rfl
      · rw [List.getElem?_eq_none (by omega), List.getElem?_eq_none (by simp; omega)]
  | self | value | level | reason | lits | marks | watches | wl k | proof | step k | model | core => rfl
theorem E_step_new (s : SS) (oc : Int) (hd : Role → Value) (l : List Int) (v V : Value) :
    upd (upd (upd (E s oc hd) (.step s.proof.length) (iV l)) .proof (E s oc hd .proof ++ [.int .i64 1, v, .int .i64 0])) .self ((E s oc (upd hd (.step s.proof.length) v) .self).set 11 V) = E (s.learn l) oc (upd (upd hd (.step s.proof.length) v) .proof V) := by
  funext r
  cases r with
  | proof =>
    show (List.range s.proof.length).flatMap (fun k => [.int .i64 1, hd (.step k), .int .i64 0]) ++ [.int .i64 1, v, .int .i64 0] = (List.range (s.proof ++ [l]).length).flatMap _
    rw [List.length_append, List.length_singleton, List.range_succ, List.flatMap_append]
    congr 1
    · rw [List.flatMap_def, List.flatMap_def]
      congr 1
      refine List.map_congr_left fun j hj => ?_
      have := List.mem_range.1 hj
      rw [upd_ne _ _ (by intro q; cases q), upd_ne _ _ (fun q => by cases q; omega)]
    · show _ = [Value.int .i64 1, upd (upd hd (Role.step s.proof.length) v) Role.proof V (Role.step s.proof.length), .int .i64 0] ++ []
      rw [upd_ne _ _ (by intro q; cases q), upd_self]; rfl
  | step j =>
    show upd (upd (upd _ (Role.step s.proof.length) (iV l)) Role.proof _) Role.self _ (Role.step j) = iV ((s.proof ++ [l]).getD j [])
    rw [upd_ne _ _ (by intro q; cases q), upd_ne _ _ (by intro q; cases q), List.getD_eq_getElem?_getD, List.getElem?_append]
    by_cases e : j = s.proof.length
    · subst e; rw [upd_self, if_neg (by omega), Nat.sub_self]; rfl
    · rw [upd_ne _ _ (fun q => e (by cases q; rfl))]
      show iV (s.proof.getD j []) = _
      rw [List.getD_eq_getElem?_getD]
      split
      · rfl
      · rw [List.getElem?_eq_none (by omega), List.getElem?_eq_none (by simp; omega)]
  | self | value | level | reason | lits | marks | watches | wl k | clauses | cl k | model | core => rfl
/-- a state under way: rows of any content -/
structure Mm (w : World) (o : Nat → Option Role) (b : Nat) (hd : Role → Value) (ct : Role → List Value) : Prop where
  hb : hd .self = .slice (some ⟨b, 0, none⟩) 1 1
  mem : Mem w o hd ct
  lt : ∀ g, o g ≠ none → g < w.heap.size
theorem Sl.mm {w : World} {o : Nat → Option Role} {b : Nat} {s : SS} {oc : Int} {hd : Role → Value} (h : Sl w o b s oc hd) : Mm w o b hd (E s oc hd) := ⟨h.hb, h.mem, h.lt⟩
theorem Mm.sl {w : World} {o : Nat → Option Role} {b : Nat} {hd : Role → Value} {ct : Role → List Value} (h : Mm w o b hd ct) {s : SS} {oc : Int} (e : ct = E s oc hd) : Sl w o b s oc hd := ⟨h.hb, e ▸ h.mem, h.lt⟩
/-- an untagged block becomes a row -/
theorem Mm.new {w : World} {o : Nat → Option Role} {b : Nat} {hd : Role → Value} {ct : Role → List Value} (h : Mm w o b hd ct) (r : Role) (hr : r ≠ .self) {v : Value} {n : Nat} {xs : List Value} (hv : w.ownsRow 0 r.ty r.es v n xs) (ho : ∀ g, v.ownBlock = some g → o g = none) :
    Mm w (tagNew o v r) b (upd hd r v) (upd ct r xs) ∧ Ext (fun g => v.ownBlock = some g) w o w (tagNew o v r) := by
  have hm := h.mem.new r hv ho
  refine ⟨⟨by rw [upd_ne _ _ hr.symm]; exact h.hb, hm, tag_lt2 hm (upd_self _ _ _) (Nat.le_refl _) h.lt⟩, rfl, rfl, rfl, Nat.le_refl _, fun _ _ _ _ => rfl, fun g _ hx => ?_⟩
  unfold tagNew; rw [if_neg hx]
theorem Mm.app1 {P : Program} {w : World} {o : Nat → Option Role} {b : Nat} {hd : Role → Value} {ct : Role → List Value} (h : Mm w o b hd ct) (r : Role) {m : Nat} {news : List Value} (hnl : news.length = m * r.es) {p : Option Addr} {n c : Nat} (hv : hd r = .slice p n c) (t ty : TypeId) (i : TypeInfo) (z : Value) (ht : P.underlying t = some (.slice r.ty)) (hi : P.info? r.ty = some i) (hz : i.zero = some z)
    (hsize : i.size = r.es) {bytes : Nat} (hby : i.bytes = bytes) (hb24 : bytes ≤ 40) (hzs : z.cells.size = r.es) (hx : ∀ u ∈ news, u.oneCell' = true) {wa : World} (h1 : Below w.heap.size w wa) {ad : Addr} {cc : Nat} (hnews : ∀ j u, news[j]? = some u → wa.cell? (ad.add j) = some u) (hn : n ≤ 1000000) (hm1 : m ≤ 1000000)
    {q : Role} (hqr : q ≠ r) {gq nq cq j : Nat} (hq : hd q = .slice (some ⟨gq, 0, none⟩) nq cq) {old : Value} (hj : (ct q)[j]? = some old) (hrs : r ≠ .self) :
    ∃ p' c' w', (Builtin.append_ #[t, t] ty #[.slice p n c, .slice (some ad) m cc]).run P wa = .ok (.slice p' (n + m) c') w' ∧ w'.cell? ⟨gq, j, none⟩ = some old ∧ w'.frozen? ⟨gq, j, none⟩ = false ∧
      ∀ w2, Below w'.heap.size w' w2 → Mm (w2.setCell ⟨gq, j, none⟩ (.slice p' (n + m) c')) (tagNew o (.slice p' (n + m) c') r) b (upd hd r (.slice p' (n + m) c')) (upd (upd ct r (ct r ++ news)) q ((ct q).set j (.slice p' (n + m) c'))) ∧ Ext NoX w o (w2.setCell ⟨gq, j, none⟩ (.slice p' (n + m) c')) (tagNew o (.slice p' (n + m) c') r) := by
  have hm := h.mem.up h1
  obtain ⟨v', w', hr, hm2, hg, hbk⟩ := hm.app (P := P) r hv t ty i z bytes ht hi hz hsize hby hzs ad m cc news hnl hnews hx (by simp only [maxLen]; omega)
    (by have h3 : (n + m) * bytes ≤ 2000000 * 40 := Nat.mul_le_mul (by omega) hb24
        omega)
  obtain ⟨p', n', c', e1, e2, -⟩ := hm2.form r
  rw [upd_self] at e1 e2
  obtain ⟨p2, n2, c2, g1, g2, -⟩ := hm.form r
  rw [hv] at g1
  simp only [Value.slice.injEq] at g1
  obtain ⟨rfl, rfl, rfl⟩ := g1
  rw [List.length_append, g2, hnl, ← Nat.add_mul] at e2
  have e3 := Nat.mul_right_cancel r.es_pos e2
  subst e1 e3
  have hx2 : Ext NoX w o w' (tagNew o (.slice p' (n + m) c') r) := (Ext.below h1).trans (Ext.app hg (hm r).tag hbk) fun _ _ q => q
  have hbq : upd hd r (.slice p' (n + m) c') q = .slice (some ⟨gq, 0, none⟩) nq cq := by rw [upd_ne _ _ hqr]; exact hq
  obtain ⟨a1, a2⟩ := hm2.load hbq (i := j) (u := old) (by rw [upd_ne _ _ hqr]; exact hj)
  refine ⟨p', c', w', hr, a1, a2, fun w2 hw2 => ?_⟩
  have hm3 := (hm2.up hw2).set hbq j (.slice p' (n + m) c')
  rw [upd_ne ct _ hqr] at hm3
  have hx3 := (hx2.trans (Ext.below hw2) fun _ _ q => q).trans (Ext.setCell (X := NoX) ((hm2 q).tag gq (by rw [hbq]; rfl)) (i := j) (.slice p' (n + m) c')) fun _ _ q => q
  exact ⟨⟨by rw [upd_ne _ _ hrs.symm]; exact h.hb, hm3, tag_lt2 hm3 (upd_self _ _ _) hx3.size h.lt⟩, hx3⟩
end Go.Proofs.Ytdibfjcmgbpnpaa
