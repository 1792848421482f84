/- Laws of the solver's memory: a watch list is rewritten in place. -/
import Derived.Test.YtdibfjcmgbpnpaaKK
namespace Go.Proofs.Ytdibfjcmgbpnpaa
set_option linter.unusedSimpArgs false
set_option linter.unusedVariables false
open Go.RowKit

theorem E_wl0 (s : SS) (oc : Int) (hd : Role → Value) {i : Nat} (hi : i < s.watches.length) (l : List Nat) :
    upd (E s oc hd) (.wl i) (nV l) = E { s with watches := s.watches.set i l } oc hd := by
  funext r
  cases r with
  | watches =>
    show (List.range s.watches.length).map _ = (List.range (s.watches.set i l).length).map _
    rw [List.length_set]
  | wl j =>
    show upd _ (Role.wl i) (nV l) (Role.wl j) = nV ((s.watches.set i l).getD j [])
    rw [List.getD_eq_getElem?_getD, List.getElem?_set]
    by_cases e : j = i
    · subst e; rw [upd_self, if_pos rfl, if_pos hi]; rfl
    · rw [upd_ne _ _ (fun q => e (by cases q; rfl)), if_neg (fun q => e q.symm), ← List.getD_eq_getElem?_getD]; rfl
  | self | value | level | reason | lits | marks | clauses | cl k | proof | step k | model | core => rfl
/-- append in place, over what a watch list held -/
theorem Sl.over {P : Program} {w : World} {o : Nat → Option Role} {b : Nat} {s : SS} {oc : Int} {hd : Role → Value} (h : Sl w o b s oc hd) {i : Nat} (hi : i < s.watches.length) {g n c : Nat} (hv : hd (.wl i) = .slice (some ⟨g, 0, none⟩) n c) (m : Nat) (news : List Nat) {q : Nat} (hq : news.length = q) (hm : m + q ≤ n)
    (t ty : TypeId) (it : TypeInfo) (ht : P.underlying t = some (.slice 3)) (hit : P.info? 3 = some it) (hsz : it.size = 1) {wa : World} (hB : Below w.heap.size w wa) (ad : Addr) (cc : Nat) (hnews : ∀ j u, (nV news)[j]? = some u → wa.cell? (ad.add j) = some u) :
    ∃ w', (Builtin.append_ #[t, t] ty #[.slice (some ⟨g, 0, none⟩) m c, .slice (some ad) q cc]).run P wa = .ok (.slice (some ⟨g, 0, none⟩) (m + q) c) w' ∧ Sl w' o b { s with watches := s.watches.set i ((s.watches.getD i []).take m ++ news ++ (s.watches.getD i []).drop (m + q)) } oc hd ∧ Ext NoX w o w' o := by
  have h1 := h.up hB
  have hg : (hd (.wl i)).ownBlock = some g := by rw [hv]; rfl
  obtain ⟨n', hn⟩ := (h1.mem (.wl i)).own
  obtain ⟨cap, cur, e, h2, h3, h4, h5, h6⟩ := owns_blk hn hg
  rw [hv] at e
  simp only [Value.slice.injEq, true_and] at e
  obtain ⟨rfl, rfl⟩ := e
  change cur.size = c * 1 at h5
  change cur.toList.take (n * 1) = nV (s.watches.getD i []) at h6
  rw [Nat.mul_one] at h5 h6
  have hlen : (s.watches.getD i []).length = n := by
    have := congrArg List.length h6
    rw [List.length_take, nV_len, Array.length_toList, h5] at this
    omega
  have htg := (h1.mem (.wl i)).tag g hg
  have hr := run_append_room (P := P) wa t ty 3 it ht hit g m c cur h2 ad q cc (nV news) (by rw [nV_len, hsz, Nat.mul_one]; exact hq) hnews (fun u hu => by
    unfold nV at hu
    obtain ⟨x, -, rfl⟩ := List.mem_map.1 hu
    rfl) (by omega) (by rw [hsz, nV_len, hq, h5, Nat.mul_one]; omega)
  rw [hsz, Nat.mul_one, nV_len, hq] at hr
  refine ⟨_, hr, ⟨h1.hb, ?_, fun g' hg' => ?_⟩, ?_⟩
  · rw [← E_wl0 s oc hd hi]
    intro r'
    by_cases e : r' = .wl i
    · subst e
      rw [upd_self]
      refine ⟨⟨n, ?_, .inr ⟨g, c, _, hv, Nat.zero_le _, setRow_heap wa g cur _ _ _ h2, h3, h4, ?_, ?_⟩⟩, (h1.mem _).tag⟩
      · show (nV _).length = n * 1
        rw [nV_len]
        simp only [List.length_append, List.length_take, List.length_drop]
        omega
      · show _ = c * 1
        simp only [List.size_toArray, List.length_append, List.length_take, List.length_drop, Array.length_toList, nV_len]
        omega
      · show List.take (n * 1) _ = nV _
        rw [Nat.mul_one]
        simp only []
        have e1 : cur.toList.take m = (nV (s.watches.getD i [])).take m := by rw [← h6, List.take_take, Nat.min_eq_left (by omega)]
        have e2 : (cur.toList.drop (m + q)).take (n - (m + q)) = (nV (s.watches.getD i [])).drop (m + q) := by rw [← h6, List.drop_take]
        rw [List.take_append, List.take_of_length_le (by simp only [List.length_append, List.length_take, Array.length_toList, nV_len]; omega)]
        have e3 : n - (cur.toList.take m ++ nV news).length = n - (m + q) := by
          simp only [List.length_append, List.length_take, Array.length_toList, nV_len]; omega
        rw [e3, e2, e1]
        unfold nV
        rw [List.map_append, List.map_append, List.map_take, List.map_drop]
    · rw [upd_ne _ _ e]
      refine (h1.mem r').keep (fun g' hg' => setRow_other wa g g' _ ?_) fun _ _ => rfl
      intro q'
      have t1 := (h1.mem r').tag g' hg'
      rw [q', htg] at t1
      exact e (Option.some.inj t1).symm
  · have := h1.lt g' hg'; simpa using this
  · refine (Ext.below hB).trans (Y := NoX) ⟨rfl, rfl, rfl, by simp, fun g' _ hg2 _ => setRow_other wa g g' _ (fun q' => by rw [q', htg] at hg2; cases hg2), fun _ _ _ => rfl⟩ fun _ _ q' => q'
/-- append of one: what is appended, and that the old slice still reads as it did -/
theorem own_app_two {P : Program} (w : World) (base : Nat) (t ty e : TypeId) (i : TypeInfo) (z : Value) (bytes : Nat) (ht : P.underlying t = some (.slice e)) (hi : P.info? e = some i) (hz : i.zero = some z)
    (hsize : i.size = 1) (hby : i.bytes = bytes) (hzs : z.cells.size = 1) (v : Value) (n : Nat) (xs : List Value) (hown : w.ownsRow base e 1 v n xs) (b c : Nat) (u : Value) (hu : w.cell? ⟨b, 0, none⟩ = some u) (h1 : u.oneCell' = true)
    (h63 : n + 1 ≤ maxLen) (hbytes : (n + 1) * bytes ≤ 140737488355328) (hbase : base ≤ w.heap.size) :
    ∃ v' w', (Builtin.append_ #[t, t] ty #[v, .slice (some ⟨b, 0, none⟩) 1 c]).run P w = .ok v' w' ∧ w'.ownsRow base e 1 v' (n + 1) (xs ++ [u]) ∧ w'.ownsRow base e 1 v n xs ∧ w.grownBy w' v.ownBlock ∧ (v'.ownBlock = v.ownBlock ∨ v'.ownBlock = some w.heap.size) := by
  subst hby
  have hnews : ∀ j x, [u][j]? = some x → w.cell? ((⟨b, 0, none⟩ : Addr).add j) = some x := by
    intro j x hj
    cases j with
    | zero => simp at hj; subst hj; simpa [Addr.add_lit] using hu
    | succ j => simp at hj
  have hl : [u].length = 1 * i.size := by rw [hsize]; rfl
  have hone : ∀ x ∈ [u], x.oneCell' = true := fun x hx => by rw [List.mem_singleton.1 hx]; exact h1
  have hsmall : n + 1 ≤ 9223372036854775807 := by simp only [maxLen] at h63; omega
  have hlen : (xs ++ [u]).length = (n + 1) * 1 := by rw [List.length_append, hown.1]; simp
  have grown : ∀ (old : Nat), old < n + 1 → ∀ (row : Option Nat),
      (w.drew.alloc (.cells (xs.toArray ++ [u].toArray ++ Builtin.zeroCells z.cells (grownCap w (n + 1) old e - (n + 1))) e)).ownsRow base e 1
        (.slice (some ⟨w.heap.size, 0, none⟩) (n + 1) (grownCap w (n + 1) old e)) (n + 1) (xs ++ [u]) ∧
      w.grownBy (w.drew.alloc (.cells (xs.toArray ++ [u].toArray ++ Builtin.zeroCells z.cells (grownCap w (n + 1) old e - (n + 1))) e)) row := by
    intro old ho row
    have hge := grownCap_ge w (n + 1) old e
    have hcm : grownCap w (n + 1) old e ≤ maxLen := grownCap_le_maxLen w (n + 1) old e h63
    refine ⟨⟨hlen, .inr ⟨w.heap.size, _, _, rfl, hbase, heap_alloc_new w.drew _, hge, hcm, ?_, ?_⟩⟩, ⟨rfl, rfl, rfl, by simp, fun k hk hne => (World.grownBy_alloc w.drew _ row).block k hk hne⟩⟩
    · simp only [Array.size_append, List.size_toArray, size_zeroCells, hzs, hown.1, List.length_singleton]
      omega
    · simp only [Array.toList_append, List.append_assoc]
      rw [← List.append_assoc, ← hlen]
      exact List.take_left
  rcases hown.2 with ⟨rfl, rfl⟩ | ⟨g, cap, cur, rfl, hbg, hg, hnc, hcm, hcs, htake⟩
  · have hx : xs = [] := List.eq_nil_of_length_eq_zero (by simpa using hown.1)
    subst hx
    have hr := run_append_nil (P := P) w t ty e i z ht hi hz ⟨b, 0, none⟩ 1 c [u] hl hnews (by omega) (by omega) (by have hb := hbytes; simp only [Nat.zero_add] at hb; omega)
    have hgr := grown 0 (by omega) (Value.ownBlock (.slice none 0 0))
    simp only [Nat.zero_add, List.nil_append, Array.empty_append] at hgr ⊢
    exact ⟨_, _, hr, hgr.1, World.ownsRow_nil _ _ _ _, hgr.2, .inr rfl⟩
  · by_cases hroom : n + 1 ≤ cap
    · have hfit : n * i.size + [u].length ≤ cur.size := by rw [hcs, hsize]; simp; omega
      have hr := run_append_room (P := P) w t ty e i ht hi g n cap cur hg ⟨b, 0, none⟩ 1 c [u] hl hnews hone hroom hfit
      rw [hsize] at hr
      have hsz : ((List.take (n * 1) cur.toList ++ [u] ++ List.drop (n * 1 + [u].length) cur.toList).toArray).size = cap * 1 := by
        simp only [List.size_toArray, List.length_append, List.length_take, List.length_drop, Array.length_toList, List.length_singleton]
        omega
      refine ⟨_, _, hr, ⟨hlen, .inr ⟨g, cap, _, rfl, hbg, setRow_heap w g cur _ e _ hg, hroom, hcm, hsz, ?_⟩⟩, ⟨hown.1, .inr ⟨g, cap, _, rfl, hbg, setRow_heap w g cur _ e _ hg, hnc, hcm, hsz, ?_⟩⟩, ⟨rfl, rfl, rfl, by simp, fun k _ hk => setRow_other w g k _ (fun e => hk (by simp [Value.ownBlock, e]))⟩, .inl rfl⟩
      · rw [htake, ← hlen]
        exact List.take_left
      · rw [htake, List.append_assoc, ← hown.1]
        exact List.take_left
    · have holds : ∀ j x, xs[j]? = some x → w.cell? ((⟨g, 0, none⟩ : Addr).add j) = some x := hown.cells (g := g) rfl
      have hr := run_append_grow (P := P) w t ty e i z ht hi hz ⟨g, 0, none⟩ n cap xs (by rw [hsize]; exact hown.1) holds ⟨b, 0, none⟩ 1 c [u] hl hnews (by omega) (by omega) (growslice_fits (by omega) hbytes)
      have hgr := grown cap (by omega) (Value.ownBlock (.slice (some ⟨g, 0, none⟩) n cap))
      refine ⟨_, _, hr, hgr.1, ?_, hgr.2, .inr rfl⟩
      exact (show w.drew.ownsRow base e 1 (.slice (some ⟨g, 0, none⟩) n cap) n xs from hown).alloc _
theorem Ext.grown {X : Nat → Prop} {w w' : World} {o : Nat → Option Role} {v : Value} {r : Role} (hg : w.grownBy w' v.ownBlock) (ht : ∀ g, v.ownBlock = some g → o g = some r) : Ext X w o w' o :=
  ⟨hg.os, hg.tape, hg.output, hg.size, fun g h1 h2 _ => hg.block g h1 (fun q => by rw [ht g q.symm] at h2; cases h2), fun g h1 _ => rfl⟩
/-- append of one to a row: the old rows still read as they did -/
theorem Mem.app_two {P : Program} {w : World} {o : Nat → Option Role} {hd : Role → Value} {ct : Role → List Value} (h : Mem w o hd ct) (r : Role) (hes : r.es = 1) {p : Option Addr} {n c : Nat} (hv : hd r = .slice p n c) (t ty : TypeId) (i : TypeInfo) (z : Value) (bytes : Nat) (ht : P.underlying t = some (.slice r.ty)) (hi : P.info? r.ty = some i) (hz : i.zero = some z)
    (hsize : i.size = 1) (hby : i.bytes = bytes) (hb24 : bytes ≤ 24) (hzs : z.cells.size = 1) (nb cc : Nat) (x : Value) (hx : w.cell? ⟨nb, 0, none⟩ = some x) (h1 : x.oneCell' = true) (hn : n ≤ 1000000) :
    ∃ v' w', (Builtin.append_ #[t, t] ty #[.slice p n c, .slice (some ⟨nb, 0, none⟩) 1 cc]).run P w = .ok v' w' ∧ Mem w' o hd ct ∧ Mem w' (tagNew o v' r) (upd hd r v') (upd ct r (ct r ++ [x])) ∧ w.grownBy w' (hd r).ownBlock ∧ (v'.ownBlock = (hd r).ownBlock ∨ v'.ownBlock = some w.heap.size) := by
  obtain ⟨⟨n', hn'⟩, htag⟩ := h r
  have hnn : n' = n := by
    obtain ⟨p', n2, c2, e1, e2, -⟩ := h.form r
    rw [hv] at e1
    simp only [Value.slice.injEq] at e1
    obtain ⟨rfl, rfl, rfl⟩ := e1
    have := hn'.1
    rw [e2] at this
    exact (Nat.mul_right_cancel r.es_pos this).symm
  subst hnn
  rw [hes] at hn'
  obtain ⟨v', w', hr, h2, h2', h3, h5⟩ := own_app_two (P := P) w 0 t ty r.ty i z bytes ht hi hz hsize hby hzs (hd r) n' (ct r) hn' nb cc x hx h1 (by simp only [maxLen]; omega)
    (by have h3 : (n' + 1) * bytes ≤ 1000001 * 24 := Nat.mul_le_mul (by omega) hb24
        omega) (Nat.zero_le _)
  rw [hv] at hr
  have hne : ∀ r', r' ≠ r → ∀ g, (hd r').ownBlock = some g → v'.ownBlock ≠ some g ∧ (hd r).ownBlock ≠ some g := by
    intro r' e g hg
    have t1 := (h r').tag g hg
    have n1 : (hd r).ownBlock ≠ some g := fun q => by
      have := htag g q
      rw [t1] at this
      exact e (Option.some.inj this)
    refine ⟨fun q => ?_, n1⟩
    rcases h5 with w5 | w5
    · exact n1 (w5 ▸ q)
    · rw [w5] at q
      obtain ⟨k, hk⟩ := (h r').own
      have := owns_lt hk hg
      have := Option.some.inj q
      omega
  have hold : ∀ r', r' ≠ r → ∀ g, (hd r').ownBlock = some g → w'.heap[g]? = w.heap[g]? := fun r' e g hg => by
    obtain ⟨k, hk⟩ := (h r').own
    exact h3.block g (owns_lt hk hg) (fun q => (hne r' e g hg).2 q.symm)
  refine ⟨v', w', hr, ?_, ?_, h3, h5⟩
  · intro r'
    by_cases e : r' = r
    · subst e
      exact ⟨⟨n', by rw [hes]; exact h2'⟩, htag⟩
    · exact (h r').keep (hold r' e) fun _ _ => rfl
  · intro r'
    by_cases e : r' = r
    · subst e
      rw [upd_self, upd_self]
      exact ⟨⟨_, by rw [hes]; exact h2⟩, fun g hg => by unfold tagNew; rw [if_pos hg]⟩
    · rw [upd_ne _ _ e, upd_ne _ _ e]
      refine (h r').keep (hold r' e) fun g hg => ?_
      unfold tagNew
      rw [if_neg (hne r' e g hg).1]
theorem Sl.cset {w : World} {o : Nat → Option Role} {b : Nat} {s : SS} {oc : Int} {hd : Role → Value} (h : Sl w o b s oc hd) {k : Nat} (hk : k < s.clauses.length) {g n c : Nat} (hv : hd (.cl k) = .slice (some ⟨g, 0, none⟩) n c) {l : List Int} (hl : s.clauses.getD k [] = l) (i : Nat) (x : Int) :
    Sl (w.setCell ⟨g, i, none⟩ (.int .i64 x)) o b { s with clauses := s.clauses.set k (l.set i x) } oc hd ∧ Ext NoX w o (w.setCell ⟨g, i, none⟩ (.int .i64 x)) o := by
  refine h.set hv i (.int .i64 x) ?_
  rw [← E_cl s oc hd hk]
  have e : E s oc hd (.cl k) = iV l := by show iV (s.clauses.getD k []) = _; rw [hl]
  rw [e, iV_set]
theorem setW_self {s : SS} {g : Int} {L : List Nat} (h : s.wl g = L) (hi : idx g < s.watches.length) : setW s g L = s := by
  have e : s.watches.set (idx g) L = s.watches := by
    rw [← h]; unfold SS.wl
    apply List.ext_getElem?
    intro i
    rw [List.getElem?_set]
    split
    · rename_i q; subst q
      rw [List.getD_eq_getElem?_getD, List.getElem?_eq_getElem hi]; rfl
    · rfl
  unfold setW; rw [e]
theorem setW_get {s : SS} {g : Int} {K : List Nat} (hi : idx g < s.watches.length) : (setW s g K).watches.getD (idx g) [] = K := by
  show (s.watches.set (idx g) K).getD (idx g) [] = K
  rw [List.getD_eq_getElem?_getD, List.getElem?_set, if_pos rfl, if_pos hi]; rfl
theorem setW_set {s : SS} {g : Int} {K K' : List Nat} : { setW s g K with watches := (setW s g K).watches.set (idx g) K' } = setW s g K' := by
  unfold setW; simp only [List.set_set]
theorem Tr.setW {n : Nat} {s : SS} (h : Tr n s) (g : Int) (K : List Nat) : Tr n (setW s g K) := ⟨h.vl, h.ll, h.rl, h.ok, h.nd, h.val, h.srt, h.ml, h.lev, h.low1, h.low2, h.lowA⟩
theorem set_same {α : Type} {l : List α} {k : Nat} {c : α} (h : l[k]? = some c) : l.set k c = l := by
  apply List.ext_getElem?
  intro i
  rw [List.getElem?_set]
  split
  · rename_i q; subst q
    rw [if_pos (List.getElem?_eq_some_iff.1 h).1, h]
  · rfl
section
variable {g : Int} {s : SS} {k : Nat} {a b o : Int} {t : List Int}
theorem visit_sat (hk : s.clauses.getD k [] = a :: b :: t) (ho : (if a = g then b else a) = o) (h : 0 < s.of o) : visit g s k = ({ s with clauses := s.clauses.set k (o :: g :: t) }, true, none) := by
  unfold visit; rw [hk]; dsimp only; rw [ho, if_pos h]
theorem visit_move (hk : s.clauses.getD k [] = a :: b :: t) (ho : (if a = g then b else a) = o) (h : ¬ 0 < s.of o) {q : Nat} {z : Int} (hq : q < t.length) (hz : t.getD q 0 = z) (hz0 : ¬ s.of z < 0) (hlt : ∀ i, i < q → s.of (t.getD i 0) < 0) :
    visit g s k = ({ s with clauses := s.clauses.set k (o :: z :: t.set q g), watches := s.watches.set (idx z) (s.wl z ++ [k]) }, false, none) := by
  have hf : t.findIdx (fun y => Decidable.decide (0 ≤ s.of y)) = q := by
    rw [List.findIdx_eq hq]
    have e : t.getD q 0 = t[q] := by rw [List.getD_eq_getElem?_getD, List.getElem?_eq_getElem hq]; rfl
    refine ⟨by rw [← e, hz]; simp; omega, fun j hj => ?_⟩
    have e2 : t.getD j 0 = t[j] := by rw [List.getD_eq_getElem?_getD, List.getElem?_eq_getElem (by omega)]; rfl
    have := hlt j hj
    rw [e2] at this
    simp; omega
  unfold visit; rw [hk]; dsimp only; rw [ho, if_neg h, hf, if_pos hq, hz]
theorem visit_all (hall : ∀ i, i < t.length → s.of (t.getD i 0) < 0) : ¬ t.findIdx (fun y => Decidable.decide (0 ≤ s.of y)) < t.length := by
  intro q
  have := List.findIdx_getElem (w := q)
  have h2 := hall _ q
  rw [List.getD_eq_getElem?_getD, List.getElem?_eq_getElem q] at h2
  simp at this h2
  omega
theorem visit_conf (hk : s.clauses.getD k [] = a :: b :: t) (ho : (if a = g then b else a) = o) (h : s.of o < 0) (hall : ∀ i, i < t.length → s.of (t.getD i 0) < 0) :
    visit g s k = ({ s with clauses := s.clauses.set k (o :: g :: t) }, true, some k) := by
  unfold visit; rw [hk]; dsimp only; rw [ho, if_neg (by omega), if_neg (visit_all hall), if_pos h]
theorem visit_push (hk : s.clauses.getD k [] = a :: b :: t) (ho : (if a = g then b else a) = o) (h : ¬ 0 < s.of o) (h2 : ¬ s.of o < 0) (hall : ∀ i, i < t.length → s.of (t.getD i 0) < 0) :
    visit g s k = (SS.push { s with clauses := s.clauses.set k (o :: g :: t) } o k, true, none) := by
  unfold visit; rw [hk]; dsimp only; rw [ho, if_neg h, if_neg (visit_all hall), if_neg h2]
end
section
variable {g : Int} {s s' : SS} {k : Nat} {rest kept : List Nat}
theorem scan_keep (h : visit g s k = (s', true, none)) : scan g (k :: rest) s kept = scan g rest s' (kept ++ [k]) := by
  rw [scan, h]
theorem scan_drop (h : visit g s k = (s', false, none)) : scan g (k :: rest) s kept = scan g rest s' kept := by
  rw [scan, h]
theorem scan_hit {c : Nat} (h : visit g s k = (s', true, some c)) : scan g (k :: rest) s kept = (s', kept ++ [k] ++ rest, some c) := by
  rw [scan, h]
end
theorem pstep_go {s s2 : SS} {g : Int} {L kp : List Nat} (hg : -(s.lits.getD s.head 0) = g) (hL : s.wl g = L) (e : scan g L s [] = (s2, kp, none)) : pstep s = ({ setW s2 g kp with head := s.head + 1 }, none) := by
  unfold pstep; rw [hg, hL, e]
theorem pstep_hit {s s2 : SS} {g : Int} {L kp : List Nat} {c : Nat} (hg : -(s.lits.getD s.head 0) = g) (hL : s.wl g = L) (e : scan g L s [] = (s2, kp, some c)) : pstep s = (setW s2 g kp, some c) := by
  unfold pstep; rw [hg, hL, e]
end Go.Proofs.Ytdibfjcmgbpnpaa
