/- Walk of CountPermuted. -/
import Derived.Test.YtanlecgpnknhoaaC18
namespace Go.Proofs.Ytanlecgpnknhoaa
set_option linter.unusedSimpArgs false
set_option linter.unusedVariables false
open Go.RowKit


theorem raw_plain (L : List Step) (A B : List Nat) (h0 : L.length ≤ 40) (h1 : A.length ≤ 9) (h2 : B.length ≤ 9) :
    ∃ c refs a b, cbuild L = (c, refs) ∧ A.map (cpick refs) = a ∧ B.map (cpick refs) = b ∧ Good c ∧ c.length ≤ 121 ∧ RefsIn a c.length ∧ RefsIn b c.length ∧ a.length = A.length ∧ b.length = B.length := by
  have HB := built L (by omega)
  obtain ⟨c, refs, hcb⟩ : ∃ c refs, cbuild L = (c, refs) := ⟨_, _, rfl⟩
  have hg := HB.good; have hr := HB.refs; have hl := HB.len
  rw [hcb] at hg hr hl
  dsimp only at hg hr hl
  have hp : ∀ n, 0 ≤ cpick refs n ∧ cpick refs n < 2 * (c.length : Int) := fun n => cpick_in hr hg.ne n
  refine ⟨c, refs, _, _, hcb, rfl, rfl, hg, by omega, fun r h => ?_, fun r h => ?_, by simp, by simp⟩
  · obtain ⟨n, _, rfl⟩ := List.mem_map.1 h; exact hp n
  · obtain ⟨n, _, rfl⟩ := List.mem_map.1 h; exact hp n
theorem inputs_is {x : RawV} {q : RawP} {w : World} {c : List Gate} {refs a b : List Int} {na nb : Nat} (hx : RawOk w x q) (h0 : x.L.length ≤ 40) (h1 : x.A.length ≤ 9) (h2 : x.B.length ≤ 9) (hcb : cbuild x.L = (c, refs)) (ha : x.A.map (cpick refs) = a) (hb : x.B.map (cpick refs) = b) (hna : x.A.length = na) (hnb : x.B.length = nb) :
    Calls Try.prog 41 #[.agg #[.slice q.pL x.L.length q.cL, .slice q.pA x.A.length q.cA, .slice q.pB x.B.length q.cB, .slice q.pV x.V.length q.cV, .int .i8 x.by']] w (RetIn w c a b na nb) := by
  subst ha hb hna hnb
  exact inputs_any x q w hx h0 h1 h2 c refs hcb
theorem btr' {B : Nat} {w w1 w2 : World} (h : Below B w w1) (k : Below B w1 w2) : Below B w w2 := h.trans k
theorem sops9 {n : Nat} (h : n ≤ 9) : sOps (plog n n 0) ≤ 126 := by
  match n, h with
  | 0, _ | 1, _ | 2, _ | 3, _ | 4, _ | 5, _ | 6, _ | 7, _ | 8, _ | 9, _ => decide
theorem total_ops {n m : Nat} (h : n ≤ m) : opsTotal n ≤ opsTotal m := Nat.mul_le_mul h (Nat.mul_le_mul h (by omega))
theorem add_ops {x y x' y' : Nat} (h : x ≤ x') (k : y ≤ y') : opsAdd x y ≤ opsAdd x' y' := Nat.mul_le_mul (by omega) (by omega)
theorem cntv_append (c : List Gate) (a b : List Int) (vals : List Bool) : cntv c (a ++ b) vals = cntv c a vals + cntv c b vals := by unfold cntv; rw [List.map_append, cnt_append]
theorem RefsIn.append {a b : List Int} {n : Nat} (h : RefsIn a n) (k : RefsIn b n) : RefsIn (a ++ b) n := fun r hr => (List.mem_append.1 hr).elim (h r) (k r)
theorem SA.of_owns {w : World} {B n : Nat} {v : Value} {xs : List Int} (h : w.ownsRow B 3 1 v xs.length (flat 1 iEnc xs)) (hn : xs.length = n) : ∃ q cq, v = .slice q n cq ∧ SA w q n cq xs := by
  obtain ⟨q, cq, hv, h1, h2, h3, h4⟩ := owns_val (by omega) h
  subst hn
  exact ⟨q, cq, hv, ⟨rfl, h1, h2, h3, h4, fun a ha => (h.lt a.block (by rw [hv, ha]; rfl)).2⟩⟩
/-- The values of a raw input. -/
theorem RawOk.va {w w' : World} {x : RawV} {q : RawP} (h : RawOk w x q) (hB : Below w.heap.size w w') : VA w' q.pV x.V.length x.V := ⟨rfl, h.l3, h.a3.mono hB⟩

theorem cnt_not (l : List Bool) : cnt (l.map (fun b => !b)) + cnt l = l.length := by
  induction l with
  | nil => rfl
  | cons b l ih => cases b <;> simp [cnt] at ih ⊢ <;> omega
theorem refs_not {a : List Int} {n : Nat} (h : RefsIn a n) : RefsIn (a.map cnot) n := by
  intro r hr
  obtain ⟨x, hx, rfl⟩ := List.mem_map.1 hr
  exact cnot_bounds (h x hx).1 (h x hx).2
theorem map_cv_not {c : List Gate} {a : List Int} (hr : RefsIn a c.length) (V : List Bool) : (a.map cnot).map (cv c V) = (a.map (cv c V)).map (fun b => !b) := by
  rw [List.map_map, List.map_map]
  exact List.map_congr_left fun r h => cv_not (hr r h).1
theorem cntv_not {c : List Gate} {a : List Int} (hr : RefsIn a c.length) (V : List Bool) : cntv c (a.map cnot) V + cntv c a V = a.length := by
  unfold cntv
  rw [map_cv_not hr, cnt_not, List.length_map]
/-- The list of the first K elements that a selection of indices gives. -/
def sel (f : Nat → Int) (K : Nat) : List Int := (List.range K).map f
theorem sel_len (f : Nat → Int) (K : Nat) : (sel f K).length = K := by simp [sel]
theorem sel_snoc (f : Nat → Int) (K : Nat) : sel f (K + 1) = sel f K ++ [f K] := by simp [sel, List.range_succ]
def rotAt (a : List Int) (k n : Nat) (i : Nat) : Int := a.getD ((i + k) % n) 0
def revAt (a : List Int) (n : Nat) (i : Nat) : Int := a.getD (n - 1 - i) 0
def notAt (a : List Int) (i : Nat) : Int := cnot (a.getD i 0)
theorem sel_rev (a : List Int) : sel (revAt a a.length) a.length = a.reverse := by
  refine List.ext_getElem (by simp [sel]) fun i h1 h2 => ?_
  have hi : i < a.length := by simpa [sel] using h1
  have hj : a.length - 1 - i < a.length := by omega
  simp [sel, revAt]
  rw [List.getElem?_eq_getElem hj]; rfl
theorem sel_not (a : List Int) : sel (notAt a) a.length = a.map cnot := by
  refine List.ext_getElem (by simp [sel]) fun i h1 h2 => ?_
  have hi : i < a.length := by simpa [sel] using h1
  simp [sel, notAt]
  rw [List.getElem?_eq_getElem hi]; rfl
theorem sel_rot (a : List Int) (k : Nat) (h0 : 0 < a.length) : sel (rotAt a k a.length) a.length = a.drop (k % a.length) ++ a.take (k % a.length) := by
  obtain ⟨b, hb⟩ : ∃ b, k % a.length = b := ⟨_, rfl⟩
  have hbn : b < a.length := by rw [← hb]; exact Nat.mod_lt _ h0
  rw [hb]
  refine List.ext_getElem (by simp [sel]; omega) fun i h1 h2 => ?_
  have hi : i < a.length := by simpa [sel] using h1
  have hm : (i + k) % a.length = if i + b < a.length then i + b else i + b - a.length := by
    rw [Nat.add_mod, hb, Nat.mod_eq_of_lt hi]
    split
    · rename_i h; exact Nat.mod_eq_of_lt h
    · rename_i h
      rw [Nat.mod_eq_sub_mod (by omega), Nat.mod_eq_of_lt (by omega)]
  have hl : (sel (rotAt a k a.length) a.length)[i] = a.getD ((i + k) % a.length) 0 := by simp [sel, rotAt]
  rw [hl, hm]
  by_cases h : i + b < a.length
  · rw [if_pos h, List.getElem_append_left (by simp; omega), List.getElem_drop, List.getD_eq_getElem?_getD, List.getElem?_eq_getElem h]
    simp [Nat.add_comm]
  · rw [if_neg h, List.getElem_append_right (by simp; omega), List.getElem_take, List.getD_eq_getElem?_getD, List.getElem?_eq_getElem (by omega)]
    simp
    congr 1
    omega
theorem sel_refs {f : Nat → Int} {a b : List Int} {n : Nat} (e : sel f a.length = b) (h : RefsIn b n) : RefsIn (sel f a.length) n := by rw [e]; exact h
theorem cntv_rev (c : List Gate) (a : List Int) (V : List Bool) : cntv c a.reverse V = cntv c a V := by unfold cntv cnt; rw [List.map_reverse, List.count_reverse]
theorem cntv_rot (c : List Gate) (a : List Int) (b : Nat) (V : List Bool) : cntv c (a.drop b ++ a.take b) V = cntv c a V := by
  rw [cntv_append, Nat.add_comm, ← cntv_append, List.take_append_drop]
/-- A slice of the call's own. -/
abbrev OwnL (w : World) (B : Nat) (v : Value) (xs : List Int) : Prop := w.ownsRow B 3 1 v xs.length (flat 1 iEnc xs)
def Apart (u v : Value) : Prop := ∀ g, u.ownBlock = some g → v.ownBlock ≠ some g
theorem Apart.symm {u v : Value} (h : Apart u v) : Apart v u := fun g hg hu => h g hu hg
theorem own_other {w1 w2 : World} {B : Nat} {u v v' : Value} {ys : List Int} (hu : OwnL w1 B u ys) (ap : Apart u v) (hg : w1.grownBy w2 v.ownBlock) (hat : v'.ownBlock = v.ownBlock ∨ v'.ownBlock = some w1.heap.size) : OwnL w2 B u ys ∧ Apart u v' := by
  refine ⟨owns_grown hu hg fun g h1 h2 => ap g h1 h2.symm, fun g h1 => ?_⟩
  rcases hat with h | h
  · rw [h]; exact ap g h1
  · rw [h]
    have := (hu.lt g h1).2
    intro hh; cases hh; omega
theorem int_cells {w : World} {p : Option Addr} {xs : List Int} (h : IntsAt w p xs) (h0 : 0 < xs.length) : ∃ b off, p = some ⟨b, off, none⟩ ∧ b < w.heap.size ∧ ∀ i x, xs[i]? = some x → w.cell? ⟨b, off + i, none⟩ = some (.int .i64 x) := by
  obtain ⟨b, off, hp, hb, _⟩ := int_cell h (List.getElem?_eq_getElem h0)
  refine ⟨b, off, hp, hb, fun i x hx => ?_⟩
  obtain ⟨b', off', hp', _, hc⟩ := int_cell h hx
  rw [hp] at hp'
  cases hp'
  exact hc
theorem getD_in {a : List Int} {n i : Nat} (la : a.length = n) (h : i < n) : a[i]? = some (a.getD i 0) := by
  rw [List.getD_eq_getElem?_getD, List.getElem?_eq_getElem (by omega)]; rfl

set_option maxRecDepth 100000 in
set_option maxHeartbeats 8000000 in
theorem permuted_any (x : RawV) (q : RawP) (k : Nat) (w : World) (hx : RawOk w x q) (hk : k < 256) :
    Calls Try.prog 13 #[.agg #[.slice q.pL x.L.length q.cL, .slice q.pA x.A.length q.cA, .slice q.pB x.B.length q.cB, .slice q.pV x.V.length q.cV, .int .i8 x.by'], .int .u8 k] w (RetB w true) := by
  obtain ⟨L, A, B, V, by'⟩ := x
  obtain ⟨pL, cL, pA, cA, pB, cB, pV, cV⟩ := q
  dsimp only
  have HX := Lib.hid hx; clear hx
  obtain ⟨W0, hW0, hX, hW⟩ : ∃ W0, w.alloc (.cells #[.slice pL L.length cL, .slice pA A.length cA, .slice pB B.length cB, .slice pV V.length cV, .int .i8 by'] 56) = W0 ∧ RawAt W0 w.heap.size ⟨L, A, B, V, by'⟩ ⟨pL, cL, pA, cA, pB, cB, pV, cV⟩ ∧ Below w.heap.size w W0 := ⟨_, rfl, ⟨by go_cell, by go_cell, by go_cell, by go_cell, by go_cell⟩, by go_grown⟩
  have HW0 := Lib.hid hW0; clear hW0
  obtain ⟨G, hG⟩ : ∃ G, great ⟨L, A, B, V, by'⟩ = G := ⟨_, rfl⟩
  have HG := Lib.hid hG
  cases G
  case true =>
    clear hG
    go_enter Try.func13, Try.ntmps13
    go_upto_region 1 with fail
    rw [HW0.out]
    go_upto_region 1 with fail
    go_cut [5] from 26 to 26 (fun s5 wx => (s5 = .bool true) ∧ Below W0.heap.size W0 wx)
    case first =>
      as_aux_lemma =>
        go_wp2_with (first | (go_at_call 39; refine (head16_any _).mono ?_; rintro e w2 ⟨rfl, hbl⟩))
        go_meet
        exact ⟨rfl, (by first | exact hbl | exact btr (by go_grown) hbl)⟩
    case rest =>
      obtain ⟨rfl, hst⟩ := hcut
      replace hX := hX.up hst
      replace hW := btr hW hst
      clear hst
      obtain ⟨x0, x1, x2, x3, x4⟩ := id hX
      dsimp only at x0 x1 x2 x3 x4
      go_wp2_with (first | (go_at_call 40; refine (great_any ⟨L, A, B, V, by'⟩ ⟨pL, cL, pA, cA, pB, cB, pV, cV⟩ _ HX.out.l0 HX.out.l1 HX.out.l2 HX.out.l3).mono ?_; rw [HG.out]; rintro e w1 ⟨rfl, hb1⟩))
      go_ret
      exact ⟨rfl, btr hW hb1⟩
  case false =>
    obtain ⟨h0, h1, h2, h3⟩ := great_no hG
    dsimp only at h0 h1 h2 h3
    clear hG
    obtain ⟨c, refs, a, b, hcb, ha, hb, gc, hcl, ra, rb, la, lb⟩ := raw_plain L A B h0 h1 h2
    have hl : c.length ≤ 20000 := by omega
    have hc : 0 < c.length := gc.ne
    obtain ⟨na, hna⟩ : ∃ n, A.length = n := ⟨_, rfl⟩
    obtain ⟨nb, hnb⟩ : ∃ n, B.length = n := ⟨_, rfl⟩
    have hna9 : na ≤ 9 := by omega
    have hnb9 : nb ≤ 9 := by omega
    rw [hna] at la; rw [hnb] at lb
    have HAL := Lib.hid (allLe_of ra hl); have HBL := Lib.hid (allLe_of rb hl)
    obtain ⟨tn, htn⟩ : ∃ x, sel (rotAt a k na) na = x := ⟨_, rfl⟩
    obtain ⟨bk, hbk⟩ : ∃ x, sel (revAt a na) na = x := ⟨_, rfl⟩
    obtain ⟨nt, hnt⟩ : ∃ x, sel (notAt a) na = x := ⟨_, rfl⟩
    have en : nt = a.map cnot := by rw [← hnt, ← la]; exact sel_not a
    have eb : bk = a.reverse := by rw [← hbk, ← la]; exact sel_rev a
    have lt : tn.length = na := by rw [← htn]; exact sel_len _ _
    have lb' : bk.length = na := by rw [← hbk]; exact sel_len _ _
    have ln : nt.length = na := by rw [← hnt]; exact sel_len _ _
    have et : cntv c tn V = cntv c a V ∧ RefsIn tn c.length := by
      by_cases h0 : 0 < na
      · have e0 : tn = a.drop (k % na) ++ a.take (k % na) := by rw [← htn, ← la]; exact sel_rot a k (by omega)
        rw [e0]
        exact ⟨cntv_rot c a _ V, fun r hr => ra r ((List.mem_append.1 hr).elim List.mem_of_mem_drop List.mem_of_mem_take)⟩
      · have h1 : tn = [] := List.eq_nil_of_length_eq_zero (by omega)
        have h2 : a = [] := List.eq_nil_of_length_eq_zero (by omega)
        rw [h1, h2]; exact ⟨rfl, fun r hr => by cases hr⟩
    have rt := et.2
    have rb' : RefsIn bk c.length := by rw [eb]; intro r hr; exact ra r (List.mem_reverse.1 hr)
    have rn : RefsIn nt c.length := by rw [en]; exact refs_not ra
    have cb : cntv c bk V = cntv c a V := by rw [eb]; exact cntv_rev c a V
    have cn : cntv c nt V + cntv c a V = na := by rw [en, ← la]; exact cntv_not ra V
    have ct := et.1
    clear et en eb
    obtain ⟨d, s, e1⟩ : ∃ d' u', (usorter 1 a).run c = (d', u') := ⟨_, _, rfl⟩
    obtain ⟨e, t, e2⟩ : ∃ d' u', (usorter 1 tn).run c = (d', u') := ⟨_, _, rfl⟩
    obtain ⟨f, u, e3⟩ : ∃ d' u', (utotal 0 1 na bk).run c = (d', u') := ⟨_, _, rfl⟩
    obtain ⟨g, v, e4⟩ : ∃ d' u', (usorter 1 nt).run c = (d', u') := ⟨_, _, rfl⟩
    obtain ⟨h, y, e5⟩ : ∃ d' u', (utotal 0 1 na nt).run c = (d', u') := ⟨_, _, rfl⟩
    have o1 := sops9 hna9
    have o2 : opsTotal na ≤ 1620 := Nat.le_trans (total_ops hna9) (by decide)
    obtain ⟨g1, N1⟩ := sorter_num gc ra la (by omega) e1
    obtain ⟨g2, N2⟩ := sorter_num gc rt lt (by omega) e2
    obtain ⟨g3, N3⟩ := total_num gc rb' lb' (by omega) e3
    obtain ⟨g4, N4⟩ := sorter_num gc rn ln (by omega) e4
    obtain ⟨g5, N5⟩ := total_num gc rn ln (by omega) e5
    have k1 := g1.len; have k2 := g2.len; have k3 := g3.len; have k4 := g4.len; have k5 := g5.len
    have FF : ∀ K < na, ∃ sv tv uv vv yv Y, s[K]? = some sv ∧ t[K]? = some tv ∧ u[K]? = some uv ∧ v[na - 1 - K]? = some vv ∧ y[na - 1 - K]? = some yv ∧ ceval d V sv = Y ∧ ceval e V tv = Y ∧ ceval f V uv = Y ∧ ceval g V vv = !Y ∧ ceval h V yv = !Y := by
      intro K hK
      have j1 : s[K]? = some (s.getD K 0) := getD_in N1.len hK
      have j2 : t[K]? = some (t.getD K 0) := getD_in N2.len hK
      have j3 : u[K]? = some (u.getD K 0) := getD_in N3.len hK
      have j4 : v[na - 1 - K]? = some (v.getD (na - 1 - K) 0) := getD_in N4.len (by omega)
      have j5 : y[na - 1 - K]? = some (y.getD (na - 1 - K) 0) := getD_in N5.len (by omega)
      have z1 := (N1.unary V).2 _ _ j1; have z2 := (N2.unary V).2 _ _ j2; have z3 := (N3.unary V).2 _ _ j3; have z4 := (N4.unary V).2 _ _ j4; have z5 := (N5.unary V).2 _ _ j5
      rw [ct] at z2; rw [cb] at z3
      have hn : decide (((na - 1 - K : Nat) : Int) < (cntv c nt V : Int)) = !decide ((K : Int) < (cntv c a V : Int)) := by
        rw [← decide_not]; exact decide_eq_decide.2 (by omega)
      rw [hn] at z4 z5
      exact ⟨_, _, _, _, _, _, j1, j2, j3, j4, j5, z1, z2, z3, z4, z5⟩
    have hdl : d.length ≤ 20000 := by omega
    have hel : e.length ≤ 20000 := by omega
    have hfl : f.length ≤ 20000 := by omega
    have hgl : g.length ≤ 20000 := by omega
    have hhl : h.length ≤ 20000 := by omega
    have HTN := Lib.hid htn; have HBK := Lib.hid hbk; have HNT := Lib.hid hnt
    have LT := Lib.hid lt; have LB' := Lib.hid lb'; have LN := Lib.hid ln
    have ALT := Lib.hid (allLe_of rt hl); have ALB := Lib.hid (allLe_of rb' hl); have ALN := Lib.hid (allLe_of rn hl)
    have E1 := Lib.hid e1; have E2 := Lib.hid e2; have E3 := Lib.hid e3; have E4 := Lib.hid e4; have E5 := Lib.hid e5
    have G1 := Lib.hid g1.good.wf; have G2 := Lib.hid g2.good.wf; have G3 := Lib.hid g3.good.wf; have G4 := Lib.hid g4.good.wf; have G5 := Lib.hid g5.good.wf
    have M1 := Lib.hid N1.len; have M2 := Lib.hid N2.len; have M3 := Lib.hid N3.len; have M4 := Lib.hid N4.len; have M5 := Lib.hid N5.len
    have HF := Lib.hid FF
    have h3' : V.length ≤ maxLen := HX.out.l3
    clear htn hbk hnt lt lb' ln rt rb' rn cb cn ct e1 e2 e3 e4 e5 g1 g2 g3 g4 g5 N1 N2 N3 N4 N5 o1 o2 k1 k2 k3 k4 k5 FF
    have HCB := Lib.hid hcb; have HA := Lib.hid ha; have HB := Lib.hid hb; have HNA := Lib.hid hna; have HNB := Lib.hid hnb; have RA := Lib.hid ra; have RB := Lib.hid rb; have LA := Lib.hid la; have LB := Lib.hid lb; have GC := Lib.hid gc
    clear hcb ha hb hna hnb ra rb la lb gc
    go_enter Try.func13, Try.ntmps13
    go_upto_region 1 with fail
    rw [HW0.out]
    go_upto_region 1 with fail
    go_cut [5] from 26 to 26 (fun s5 wx => (s5 = .bool true) ∧ Below W0.heap.size W0 wx)
    case first =>
      as_aux_lemma =>
        go_wp2_with (first | (go_at_call 39; refine (head16_any _).mono ?_; rintro e w2 ⟨rfl, hbl⟩))
        go_meet
        exact ⟨rfl, (by first | exact hbl | exact btr (by go_grown) hbl)⟩
    case rest =>
      obtain ⟨rfl, hst⟩ := hcut
      replace hX := hX.up hst
      replace hW := btr hW hst
      clear hst
      obtain ⟨x0, x1, x2, x3, x4⟩ := id hX
      dsimp only at x0 x1 x2 x3 x4
      go_upto_region 4 with (first | (go_at_call 40; refine (great_any ⟨L, A, B, V, by'⟩ ⟨pL, cL, pA, cA, pB, cB, pV, cV⟩ _ HX.out.l0 HX.out.l1 HX.out.l2 HX.out.l3).mono ?_; rw [HG.out]; rintro e w1 ⟨rfl, hb1⟩))
      have hst1 : Below wc.heap.size wc _ := hb1
      replace hX := hX.up hb1
      replace hW := btr hW hb1
      clear hst1 hb1 x0 x1 x2 x3 x4
      obtain ⟨x0, x1, x2, x3, x4⟩ := id hX
      dsimp only at x0 x1 x2 x3 x4
      go_upto_region 4 with fail
      go_cut [6, 7, 8] from 30 to 35 (fun s6 s7 s8 wx => (∃ (b0 : Nat) (q5 : Option Addr) (c5 : Nat) (q6 : Option Addr) (c6 : Nat), s6 = .pointer (some ⟨b0, 0, none⟩) ∧ s7 = .slice q5 na c5 ∧ s8 = .slice q6 nb c6 ∧ Bx wx b0 c ∧ SA wx q5 na c5 a ∧ SA wx q6 nb c6 b) ∧ Below w1.heap.size w1 wx)
      case first =>
        as_aux_lemma =>
          go_wp2_with (first | (go_at_call 41; refine (inputs_is (x := ⟨L, A, B, V, by'⟩) (q := ⟨pL, cL, pA, cA, pB, cB, pV, cV⟩) (HX.out.up (by exact hW)) h0 h1 h2 HCB.out HA.out HB.out HNA.out HNB.out).mono ?_; rintro e w2 ⟨p2, cap2, q5, c5, q6, c6, rfl, hC2, hSa, hSb, hbl⟩))
          go_meet
          exact ⟨⟨_, _, _, _, _, rfl, rfl, rfl, Bx.new hC2 _, hSa.up (bal (Below.refl _ _) _), hSb.up (bal (Below.refl _ _) _)⟩, bal hbl _⟩
      case rest =>
        obtain ⟨⟨b6, q7, cq7, q8, cq8, rfl, rfl, rfl, hB6, hS7, hS8⟩, hst⟩ := hcut
        replace hX := hX.up hst
        replace hW := btr hW hst
        clear hst
        clear x0 x1 x2 x3 x4
        obtain ⟨i0, hi0, hz0, hz1, hz2⟩ := info_parts int_info
        obtain ⟨B0, hB0⟩ : ∃ B0, wc.heap.size = B0 := ⟨_, rfl⟩
        obtain ⟨W2, hW2⟩ : ∃ W2, ((wc.alloc (.cells #[] 3)).alloc (.cells #[] 3)).alloc (.cells #[] 3) = W2 := ⟨_, rfl⟩
        have K2 := Lib.hid (show Below wc.heap.size wc W2 from by rw [← hW2]; go_grown)
        have z2 : W2.heap.size = B0 + 1 + 1 + 1 := by rw [← hW2, ← hB0]; simp
        have O9 : OwnL W2 B0 (.slice (some ⟨B0, 0, none⟩) 0 0) [] := by
          have := World.ownsRow_lit (e := 3) (size := 1) (base := B0) wc #[] 0 (by omega) (by decide) rfl
          rw [hB0] at this
          rw [← hW2]; exact (this.alloc _).alloc _
        have O10 : OwnL W2 B0 (.slice (some ⟨B0 + 1, 0, none⟩) 0 0) [] := by
          have := World.ownsRow_lit (e := 3) (size := 1) (base := B0) (wc.alloc (.cells #[] 3)) #[] 0 (by simp; omega) (by decide) rfl
          rw [show (wc.alloc (.cells #[] 3)).heap.size = B0 + 1 by simp; omega] at this
          rw [← hW2]; exact this.alloc _
        have O11 : OwnL W2 B0 (.slice (some ⟨B0 + 1 + 1, 0, none⟩) 0 0) [] := by
          have := World.ownsRow_lit (e := 3) (size := 1) (base := B0) ((wc.alloc (.cells #[] 3)).alloc (.cells #[] 3)) #[] 0 (by simp; omega) (by decide) rfl
          rw [show ((wc.alloc (.cells #[] 3)).alloc (.cells #[] 3)).heap.size = B0 + 1 + 1 by simp; omega] at this
          rw [← hW2]; exact this
        have HO9 := Lib.hid O9; have HO10 := Lib.hid O10; have HO11 := Lib.hid O11
        have HW2 := Lib.hid hW2; have HB0 := Lib.hid hB0
        clear hW2 O9 O10 O11
        simp only [hB0] at K2
        clear hB0
        go_wp2_with fail
        rw [HW2.out]
        try simp only [HB0.out]
        go_loopg [9, 10, 11, 12] na (fun N s9 s10 s11 v12 wr => ∃ (K : Nat) (v9 v10 v11 : Value), v12 = .int .i64 K ∧ v9 = s9 ∧ v10 = s10 ∧ v11 = s11 ∧ K ≤ na ∧ N = na - K ∧ OwnL wr B0 v9 (sel (rotAt a k na) K) ∧ OwnL wr B0 v10 (sel (revAt a na) K) ∧ OwnL wr B0 v11 (sel (notAt a) K) ∧ Apart v10 v9 ∧ Apart v11 v9 ∧ Apart v11 v10 ∧ Below B0 W2 wr)
        case atStart => exact ⟨0, _, _, _, rfl, rfl, rfl, rfl, by omega, rfl, HO9.out, HO10.out, HO11.out, (fun g hg => by simp [Value.ownBlock] at hg ⊢; omega), (fun g hg => by simp [Value.ownBlock] at hg ⊢; omega), (fun g hg => by simp [Value.ownBlock] at hg ⊢; omega), Below.refl _ _⟩
        case round =>
          obtain ⟨K, v9, v10, v11, rfl, rfl, rfl, rfl, hK, hN, ho9, ho10, ho11, ap1, ap2, ap3, hB⟩ := hrel
          have HNk := Lib.hid hN; clear hN
          have H9 := Lib.hid ho9; have H10 := Lib.hid ho10; have H11 := Lib.hid ho11; have A1 := Lib.hid ap1; have A2 := Lib.hid ap2; have A3 := Lib.hid ap3; have HBR := Lib.hid hB
          have hst : Below wc.heap.size wc wr := by rw [HB0.out]; exact K2.out.trans hB
          have hsz : B0 + 1 + 1 + 1 ≤ wr.heap.size := by have := hB.size; omega
          clear hB ho9 ho10 ho11 ap1 ap2 ap3
          by_cases hlt : K < na
          case pos =>
            have hlt0 : (0 : Int) ≤ (K : Int) := by omega
            have hlt1 : (K : Int) < (na : Int) := by omega
            have hna0 : 0 < na := by omega
            obtain ⟨b, off, rfl, hb, hcs⟩ := int_cells hS7.at' (by rw [LA.out]; exact hna0)
            obtain ⟨i1, hi1⟩ : ∃ i, (K + k) % na = i := ⟨_, rfl⟩
            have hi1n : i1 < na := by rw [← hi1]; exact Nat.mod_lt _ hna0
            obtain ⟨i2, hi2⟩ : ∃ i, na - 1 - K = i := ⟨_, rfl⟩
            obtain ⟨r1, hr1⟩ : ∃ r, a.getD i1 0 = r := ⟨_, rfl⟩
            obtain ⟨r2, hr2⟩ : ∃ r, a.getD i2 0 = r := ⟨_, rfl⟩
            obtain ⟨r3, hr3⟩ : ∃ r, a.getD K 0 = r := ⟨_, rfl⟩
            have c1 := oldcell hst (hcs i1 r1 (by rw [← hr1]; exact getD_in LA.out hi1n)) hb
            have c2 := oldcell hst (hcs i2 r2 (by rw [← hr2]; exact getD_in LA.out (by omega))) hb
            have c3 := oldcell hst (hcs K r3 (by rw [← hr3]; exact getD_in LA.out hlt)) hb
            have hr9 : r3 ≤ 9223372036854775807 := by (have := HAL.out r3 (List.mem_of_getElem? (show a[K]? = some r3 by rw [← hr3]; exact getD_in LA.out hlt)); omega)
            have S1 := Lib.hid (show sel (rotAt a k na) (K + 1) = sel (rotAt a k na) K ++ [r1] by rw [sel_snoc, ← hr1, ← hi1]; rfl)
            have S2 := Lib.hid (show sel (revAt a na) (K + 1) = sel (revAt a na) K ++ [r2] by rw [sel_snoc, ← hr2, ← hi2]; rfl)
            have S3 := Lib.hid (show sel (notAt a) (K + 1) = sel (notAt a) K ++ [cnot r3] by rw [sel_snoc, ← hr3]; rfl)
            have hrw : Int.tmod ((K : Int) + (k : Int)) (na : Int) = (i1 : Int) := by (rw [Int.tmod_eq_emod_of_nonneg (by omega)]; exact congrArg Int.ofNat hi1)
            have hrw2 : (na : Int) - 1 - (K : Int) = (i2 : Int) := by omega
            have hw1 : IntKind.i64.wrap (i1 : Int) = (i1 : Int) := by (rw [IntWalk.i64_in]; omega)
            have hw2 : IntKind.i64.wrap (i2 : Int) = (i2 : Int) := by (rw [IntWalk.i64_in]; omega)
            have hi1a : (0 : Int) ≤ (i1 : Int) := by omega
            have hi1b : (i1 : Int) < (na : Int) := by omega
            have hi2a : (0 : Int) ≤ (i2 : Int) := by omega
            have hi2b : (i2 : Int) < (na : Int) := by omega
            have hna' : ((na : Int) == 0) = false := by simp; omega
            have hna'' : ¬ na = 0 := by omega
            have hb0 : b < B0 := by rw [← HB0.out]; exact hb
            clear hcs hr1 hr2 hr3 hi1 hi2
            go_wp2_with (first | (go_at_call 33; refine (rnot_any _ _ hr9).mono ?_; rintro e w' ⟨rfl, hw⟩; replace hw := hw.symm; subst hw) | (at_builtin; (refine wpList_app2 (enc := iEnc) rfl _ _ _ rfl B0 3 i0 _ 8 Try.underlying28 hi0 hz0 hz1 hz2 rfl (by omega) _ (sel (rotAt a k na) K) rfl (H9.out.alloc _) (some ⟨_, 0, none⟩) [r1] 1 rfl (fun h => by cases h) (SlAt.int1 (by go_cell)) iEnc_one (by rw [sel_len]; simp [maxLen]; omega) (by rw [sel_len]; simp; omega) (by simp; omega) ?_); intro u9 w3 hown hgr hbl hat; have N9 := Lib.hid hown; have p10 := own_other (H10.out.alloc _) A1.out hgr hat; have p11 := own_other (H11.out.alloc _) A2.out hgr hat; have P10 := Lib.hid p10; have P11 := Lib.hid p11; clear p10 p11; have BL1 := Lib.hid (show Below B0 wr w3 from (Below.alloc (Below.refl _ _) (by omega) _).trans hbl); have sz1 : B0 + 1 ≤ w3.heap.size := (by have := BL1.out.size; omega); have c2 := oldcell BL1.out c2 hb0; have c3 := oldcell BL1.out c3 hb0; clear hown hgr hbl hat) | (at_builtin; (refine wpList_app2 (enc := iEnc) rfl _ _ _ rfl B0 3 i0 _ 8 Try.underlying28 hi0 hz0 hz1 hz2 rfl (by omega) _ (sel (revAt a na) K) rfl (P10.out.1.alloc _) (some ⟨_, 0, none⟩) [r2] 1 rfl (fun h => by cases h) (SlAt.int1 (by go_cell)) iEnc_one (by rw [sel_len]; simp [maxLen]; omega) (by rw [sel_len]; simp; omega) (by simp; omega) ?_); intro u10 w4 hown hgr hbl hat; have N10 := Lib.hid hown; have p9 := own_other (N9.out.alloc _) P10.out.2.symm hgr hat; have p11 := own_other (P11.out.1.alloc _) A3.out hgr hat; have P9 := Lib.hid p9; have P11b := Lib.hid p11; clear p9 p11; have BL2 := Lib.hid (show Below B0 w3 w4 from (Below.alloc (Below.refl _ _) (by omega) _).trans hbl); have sz2 : B0 + 1 ≤ w4.heap.size := (by have := BL2.out.size; omega); have c3 := oldcell BL2.out c3 hb0; clear hown hgr hbl hat) | (at_builtin; (refine wpList_app2 (enc := iEnc) rfl _ _ _ rfl B0 3 i0 _ 8 Try.underlying28 hi0 hz0 hz1 hz2 rfl (by omega) _ (sel (notAt a) K) rfl (P11b.out.1.alloc _) (some ⟨_, 0, none⟩) [cnot r3] 1 rfl (fun h => by cases h) (SlAt.int1 (by go_cell)) iEnc_one (by rw [sel_len]; simp [maxLen]; omega) (by rw [sel_len]; simp; omega) (by simp; omega) ?_); intro u11 w5 hown hgr hbl hat; have N11 := Lib.hid hown; have p9 := own_other (P9.out.1.alloc _) P11.out.2.symm hgr hat; have p10 := own_other (N10.out.alloc _) P11b.out.2.symm hgr hat; have P9b := Lib.hid p9; have P10b := Lib.hid p10; clear p9 p10; have BL3 := Lib.hid (show Below B0 w4 w5 from (Below.alloc (Below.refl _ _) (by omega) _).trans hbl); clear hown hgr hbl hat))
            go_roundg (na - (K + 1))
            case measure => (have := HNk.out; omega)
            case rel =>
              refine ⟨K + 1, _, _, _, by go_num, rfl, rfl, rfl, by omega, rfl, ?_, ?_, ?_, P9.out.2.symm, P9b.out.2.symm, P10b.out.2.symm, HBR.out.trans (BL1.out.trans (BL2.out.trans BL3.out))⟩
              · rw [S1.out]; exact P9b.out.1
              · rw [S2.out]; exact P10b.out.1
              · rw [S3.out]; exact N11.out
          case neg =>
            have hkA : K = na := by omega
            obtain ⟨q9, c9, hv9, hS9⟩ := SA.of_owns (xs := tn) (n := na) (by have := H9.out; rw [hkA, HTN.out] at this; exact this) LT.out
            obtain ⟨q10, c10, hv10, hS10⟩ := SA.of_owns (xs := bk) (n := na) (by have := H10.out; rw [hkA, HBK.out] at this; exact this) LB'.out
            obtain ⟨q11, c11, hv11, hS11⟩ := SA.of_owns (xs := nt) (n := na) (by have := H11.out; rw [hkA, HNT.out] at this; exact this) LN.out
            subst hv9 hv10 hv11
            replace hX := hX.up hst
            replace hB6 := hB6.up hst
            replace hS7 := hS7.up hst
            replace hS8 := hS8.up hst
            replace hW := btr hW hst
            clear hst
            clear hkA HNk H9 H10 H11 A1 A2 A3 HBR HO9 HO10 HO11 K2 z2 HW2 HB0 hsz
            go_upto_region 14 with fail
            obtain ⟨p6, c6, k6, k6f, hC6⟩ := id hB6
            go_cut [13, 14] from 77 to 82 (fun s13 s14 wx => (∃ (b : Nat) (q : Option Addr) (cq : Nat), s13 = .pointer (some ⟨b, 0, none⟩) ∧ s14 = .slice q na cq ∧ Bx wx b d ∧ SA wx q na cq s) ∧ Below wr.heap.size wr wx)
            case first =>
              as_aux_lemma =>
                go_wp2_with (first | (go_at_call 43; refine (sorter_is hC6 hS7 (Below.refl _ _) (by omega) HAL.out hl hc E1.out M1.out).mono ?_; rintro e w2 ⟨p2, cap2, q2, cq2, rfl, hC2, hS2, hbl⟩))
                go_meet
                exact ⟨⟨_, _, _, rfl, rfl, Bx.new hC2 _, hS2.up (bal (Below.refl _ _) _)⟩, (by first | exact bal hbl _ | exact bal (btr (by go_grown) hbl) _)⟩
            case rest =>
              clear k6 k6f hC6
              obtain ⟨⟨b13, q14, cq14, rfl, rfl, hB13, hS14⟩, hst⟩ := hcut
              replace hX := hX.up hst
              replace hB6 := hB6.up hst
              replace hS7 := hS7.up hst
              replace hS8 := hS8.up hst
              replace hS9 := hS9.up hst
              replace hS10 := hS10.up hst
              replace hS11 := hS11.up hst
              replace hW := btr hW hst
              clear hst
              go_upto_region 15 with fail
              obtain ⟨p6, c6, k6, k6f, hC6⟩ := id hB6
              go_cut [15, 16] from 83 to 88 (fun s15 s16 wx => (∃ (b : Nat) (q : Option Addr) (cq : Nat), s15 = .pointer (some ⟨b, 0, none⟩) ∧ s16 = .slice q na cq ∧ Bx wx b e ∧ SA wx q na cq t) ∧ Below wc.heap.size wc wx)
              case first =>
                as_aux_lemma =>
                  go_wp2_with (first | (go_at_call 43; refine (sorter_is hC6 hS9 (Below.refl _ _) (by omega) ALT.out hl hc E2.out M2.out).mono ?_; rintro e w2 ⟨p2, cap2, q2, cq2, rfl, hC2, hS2, hbl⟩))
                  go_meet
                  exact ⟨⟨_, _, _, rfl, rfl, Bx.new hC2 _, hS2.up (bal (Below.refl _ _) _)⟩, (by first | exact bal hbl _ | exact bal (btr (by go_grown) hbl) _)⟩
              case rest =>
                clear k6 k6f hC6
                obtain ⟨⟨b15, q16, cq16, rfl, rfl, hB15, hS16⟩, hst⟩ := hcut
                replace hX := hX.up hst
                replace hB6 := hB6.up hst
                replace hS7 := hS7.up hst
                replace hS8 := hS8.up hst
                replace hS9 := hS9.up hst
                replace hS10 := hS10.up hst
                replace hS11 := hS11.up hst
                replace hB13 := hB13.up hst
                replace hS14 := hS14.up hst
                replace hW := btr hW hst
                clear hst
                go_upto_region 16 with fail
                obtain ⟨p6, c6, k6, k6f, hC6⟩ := id hB6
                go_cut [17, 18] from 89 to 94 (fun s17 s18 wx => (∃ (b : Nat) (q : Option Addr) (cq : Nat), s17 = .pointer (some ⟨b, 0, none⟩) ∧ s18 = .slice q na cq ∧ Bx wx b f ∧ SA wx q na cq u) ∧ Below wc.heap.size wc wx)
                case first =>
                  as_aux_lemma =>
                    go_wp2_with (first | (go_at_call 44; refine (totalizer_is hC6 hS10 (Below.refl _ _) (by omega) ALB.out hl hc E3.out M3.out).mono ?_; rintro e w2 ⟨p2, cap2, q2, cq2, rfl, hC2, hS2, hbl⟩))
                    go_meet
                    exact ⟨⟨_, _, _, rfl, rfl, Bx.new hC2 _, hS2.up (bal (Below.refl _ _) _)⟩, (by first | exact bal hbl _ | exact bal (btr (by go_grown) hbl) _)⟩
                case rest =>
                  clear k6 k6f hC6
                  obtain ⟨⟨b17, q18, cq18, rfl, rfl, hB17, hS18⟩, hst⟩ := hcut
                  replace hX := hX.up hst
                  replace hB6 := hB6.up hst
                  replace hS7 := hS7.up hst
                  replace hS8 := hS8.up hst
                  replace hS9 := hS9.up hst
                  replace hS10 := hS10.up hst
                  replace hS11 := hS11.up hst
                  replace hB13 := hB13.up hst
                  replace hS14 := hS14.up hst
                  replace hB15 := hB15.up hst
                  replace hS16 := hS16.up hst
                  replace hW := btr hW hst
                  clear hst
                  go_upto_region 17 with fail
                  obtain ⟨p6, c6, k6, k6f, hC6⟩ := id hB6
                  go_cut [19, 20] from 95 to 100 (fun s19 s20 wx => (∃ (b : Nat) (q : Option Addr) (cq : Nat), s19 = .pointer (some ⟨b, 0, none⟩) ∧ s20 = .slice q na cq ∧ Bx wx b g ∧ SA wx q na cq v) ∧ Below wc.heap.size wc wx)
                  case first =>
                    as_aux_lemma =>
                      go_wp2_with (first | (go_at_call 43; refine (sorter_is hC6 hS11 (Below.refl _ _) (by omega) ALN.out hl hc E4.out M4.out).mono ?_; rintro e w2 ⟨p2, cap2, q2, cq2, rfl, hC2, hS2, hbl⟩))
                      go_meet
                      exact ⟨⟨_, _, _, rfl, rfl, Bx.new hC2 _, hS2.up (bal (Below.refl _ _) _)⟩, (by first | exact bal hbl _ | exact bal (btr (by go_grown) hbl) _)⟩
                  case rest =>
                    clear k6 k6f hC6
                    obtain ⟨⟨b19, q20, cq20, rfl, rfl, hB19, hS20⟩, hst⟩ := hcut
                    replace hX := hX.up hst
                    replace hB6 := hB6.up hst
                    replace hS7 := hS7.up hst
                    replace hS8 := hS8.up hst
                    replace hS9 := hS9.up hst
                    replace hS10 := hS10.up hst
                    replace hS11 := hS11.up hst
                    replace hB13 := hB13.up hst
                    replace hS14 := hS14.up hst
                    replace hB15 := hB15.up hst
                    replace hS16 := hS16.up hst
                    replace hB17 := hB17.up hst
                    replace hS18 := hS18.up hst
                    replace hW := btr hW hst
                    clear hst
                    go_upto_region 18 with fail
                    obtain ⟨p6, c6, k6, k6f, hC6⟩ := id hB6
                    go_cut [21, 22] from 101 to 106 (fun s21 s22 wx => (∃ (b : Nat) (q : Option Addr) (cq : Nat), s21 = .pointer (some ⟨b, 0, none⟩) ∧ s22 = .slice q na cq ∧ Bx wx b h ∧ SA wx q na cq y) ∧ Below wc.heap.size wc wx)
                    case first =>
                      as_aux_lemma =>
                        go_wp2_with (first | (go_at_call 44; refine (totalizer_is hC6 hS11 (Below.refl _ _) (by omega) ALN.out hl hc E5.out M5.out).mono ?_; rintro e w2 ⟨p2, cap2, q2, cq2, rfl, hC2, hS2, hbl⟩))
                        go_meet
                        exact ⟨⟨_, _, _, rfl, rfl, Bx.new hC2 _, hS2.up (bal (Below.refl _ _) _)⟩, (by first | exact bal hbl _ | exact bal (btr (by go_grown) hbl) _)⟩
                    case rest =>
                      clear k6 k6f hC6
                      obtain ⟨⟨b21, q22, cq22, rfl, rfl, hB21, hS22⟩, hst⟩ := hcut
                      replace hX := hX.up hst
                      replace hB6 := hB6.up hst
                      replace hS7 := hS7.up hst
                      replace hS8 := hS8.up hst
                      replace hS9 := hS9.up hst
                      replace hS10 := hS10.up hst
                      replace hS11 := hS11.up hst
                      replace hB13 := hB13.up hst
                      replace hS14 := hS14.up hst
                      replace hB15 := hB15.up hst
                      replace hS16 := hS16.up hst
                      replace hB17 := hB17.up hst
                      replace hS18 := hS18.up hst
                      replace hB19 := hB19.up hst
                      replace hS20 := hS20.up hst
                      replace hW := btr hW hst
                      clear hst
                      go_wp2_with fail
                      go_loopg [23] na (fun N v23 wr => ∃ (K : Nat), v23 = .int .i64 K ∧ K ≤ na ∧ N = na - K ∧ Below wc.heap.size wc wr)
                      case atStart => exact ⟨0, rfl, by omega, rfl, Below.refl _ _⟩
                      case round =>
                        obtain ⟨K, rfl, hK, hN, hst⟩ := hrel
                        have HNk := Lib.hid hN; clear hN
                        have HST := Lib.hid hst
                        replace hX := hX.up hst
                        replace hB6 := hB6.up hst
                        replace hS7 := hS7.up hst
                        replace hS8 := hS8.up hst
                        replace hS9 := hS9.up hst
                        replace hS10 := hS10.up hst
                        replace hS11 := hS11.up hst
                        replace hB13 := hB13.up hst
                        replace hS14 := hS14.up hst
                        replace hB15 := hB15.up hst
                        replace hS16 := hS16.up hst
                        replace hB17 := hB17.up hst
                        replace hS18 := hS18.up hst
                        replace hB19 := hB19.up hst
                        replace hS20 := hS20.up hst
                        replace hB21 := hB21.up hst
                        replace hS22 := hS22.up hst
                        replace hW := btr hW hst
                        clear hst
                        by_cases hlt : K < na
                        case neg =>
                          go_wp2_with fail
                          go_ret
                          exact ⟨rfl, hW⟩
                        case pos =>
                          obtain ⟨p13, c13, k13, k13f, hC13⟩ := id hB13
                          obtain ⟨p15, c15, k15, k15f, hC15⟩ := id hB15
                          obtain ⟨p17, c17, k17, k17f, hC17⟩ := id hB17
                          obtain ⟨p19, c19, k19, k19f, hC19⟩ := id hB19
                          obtain ⟨p21, c21, k21, k21f, hC21⟩ := id hB21
                          obtain ⟨x0, x1, x2, x3, x4⟩ := id hX; dsimp only at x0 x1 x2 x3 x4
                          obtain ⟨sv, tv, uv, vv, yv, Y, j1, j2, j3, j4, j5, y1, y2, y3, y4, y5⟩ := HF.out K hlt
                          have hlt0 : (0 : Int) ≤ (K : Int) := by omega
                          have hlt1 : (K : Int) < (na : Int) := by omega
                          obtain ⟨i2, hi2⟩ : ∃ i, na - 1 - K = i := ⟨_, rfl⟩
                          rw [hi2] at j4 j5
                          have hrw2 : (na : Int) - 1 - (K : Int) = (i2 : Int) := by omega
                          have hw2 : IntKind.i64.wrap (i2 : Int) = (i2 : Int) := by (rw [IntWalk.i64_in]; omega)
                          have hi2a : (0 : Int) ≤ (i2 : Int) := by omega
                          have hi2b : (i2 : Int) < (na : Int) := by omega
                          obtain ⟨b1, o1, rfl, hb1, d1⟩ := int_cell hS14.at' j1
                          obtain ⟨b2, o2, rfl, hb2, d2⟩ := int_cell hS16.at' j2
                          obtain ⟨b3, o3, rfl, hb3, d3⟩ := int_cell hS18.at' j3
                          obtain ⟨b4, o4, rfl, hb4, d4⟩ := int_cell hS20.at' j4
                          obtain ⟨b5, o5, rfl, hb5, d5⟩ := int_cell hS22.at' j5
                          have Y1 := Lib.hid y1; have Y2 := Lib.hid y2; have Y3 := Lib.hid y3; have Y4 := Lib.hid y4; have Y5 := Lib.hid y5
                          clear j1 j2 j3 j4 j5 y1 y2 y3 y4 y5 hi2
                          have T1 := Lib.hid (fun (w' : World) (hB' : Below wr.heap.size wr w') => reval_is (cv := cV) (vals := V) hC13 hB' ((HX.out.va hW).at'.mono hB') G1.out Y1.out rfl hdl h3')
                          have T2 := Lib.hid (fun (w' : World) (hB' : Below wr.heap.size wr w') => reval_is (cv := cV) (vals := V) hC15 hB' ((HX.out.va hW).at'.mono hB') G2.out Y2.out rfl hel h3')
                          have T3 := Lib.hid (fun (w' : World) (hB' : Below wr.heap.size wr w') => reval_is (cv := cV) (vals := V) hC17 hB' ((HX.out.va hW).at'.mono hB') G3.out Y3.out rfl hfl h3')
                          have T4 := Lib.hid (fun (w' : World) (hB' : Below wr.heap.size wr w') => reval_is (cv := cV) (vals := V) hC19 hB' ((HX.out.va hW).at'.mono hB') G4.out Y4.out rfl hgl h3')
                          have T5 := Lib.hid (fun (w' : World) (hB' : Below wr.heap.size wr w') => reval_is (cv := cV) (vals := V) hC21 hB' ((HX.out.va hW).at'.mono hB') G5.out Y5.out rfl hhl h3')
                          go_upto_region 24 with fail
                          go_cut [24] from 146 to 153 (fun s24 wx => s24 = .bool Y ∧ Below wr.heap.size wr wx)
                          case first =>
                            as_aux_lemma =>
                              refine wp_region_seq (fun w' => Below wr.heap.size wr w') (by kernel_rfl) (by kernel_rfl) (by first | assumption | go_grown) ?_
                              refine seq_pure (v := ?_) (by rfl) ?_ ?_
                              rotate_left
                              · (intro w hS; have kk := oldcell hS k13 (World.block_lt_of_cell? _ _ k13); go_simp; try with_reducible rfl)
                              (try simp only [Act.put, List.setIfInBounds_toArray, List.set_cons_zero, List.set_cons_succ])
                              refine seq_pure (v := ?_) (by rfl) ?_ ?_
                              rotate_left
                              · (intro w hS; go_simp; try with_reducible rfl)
                              (try simp only [Act.put, List.setIfInBounds_toArray, List.set_cons_zero, List.set_cons_succ])
                              refine seq_pure (v := ?_) (by rfl) ?_ ?_
                              rotate_left
                              · (intro w hS; have kk := oldcell hS x3 (World.block_lt_of_cell? _ _ x3); go_simp; try with_reducible rfl)
                              (try simp only [Act.put, List.setIfInBounds_toArray, List.set_cons_zero, List.set_cons_succ])
                              refine seq_pure (v := ?_) (by rfl) ?_ ?_
                              rotate_left
                              · (intro w hS; go_simp; try with_reducible rfl)
                              (try simp only [Act.put, List.setIfInBounds_toArray, List.set_cons_zero, List.set_cons_succ])
                              refine seq_pure (v := ?_) (by rfl) ?_ ?_
                              rotate_left
                              · (intro w hS; go_simp; try with_reducible rfl)
                              (try simp only [Act.put, List.setIfInBounds_toArray, List.set_cons_zero, List.set_cons_succ])
                              refine seq_pure (v := ?_) (by rfl) ?_ ?_
                              rotate_left
                              · (intro w hS; go_simp; try with_reducible rfl)
                              (try simp only [Act.put, List.setIfInBounds_toArray, List.set_cons_zero, List.set_cons_succ])
                              refine seq_pure (v := ?_) (by rfl) ?_ ?_
                              rotate_left
                              · (intro w hS; have kk := oldcell hS d1 hb1; go_simp; try with_reducible rfl)
                              (try simp only [Act.put, List.setIfInBounds_toArray, List.set_cons_zero, List.set_cons_succ])
                              refine seq_call (v := .bool Y) (f := ?_) (args := ?_) (by rfl) ?_ ?_ ?_
                              rotate_left 2
                              · (intro w hS; go_simp; first | done | with_reducible rfl | (refine ⟨?_, ?_⟩ <;> with_reducible rfl))
                              · (intro w hS; refine (T1.out w hS).mono ?_; rintro e w' ⟨he, hb⟩; exact ⟨he, btr hS hb⟩)
                              (try simp only [Act.put, List.setIfInBounds_toArray, List.set_cons_zero, List.set_cons_succ])
                              refine seq_pure (v := ?_) (by rfl) ?_ ?_
                              rotate_left
                              · (intro w hS; go_simp; try with_reducible rfl)
                              (try simp only [Act.put, List.setIfInBounds_toArray, List.set_cons_zero, List.set_cons_succ])
                              refine seq_nil ?_
                              intro w2 HB0
                              go_wp2_with fail
                              go_meet
                              exact ⟨rfl, HB0⟩
                          case rest =>
                            obtain ⟨rfl, hst2⟩ := hcut
                            go_upto_region 26 with fail
                            cases Y
                            ·
                              as_aux_lemma =>
                                refine wp_region_seq (fun w' => Below wr.heap.size wr w') (by kernel_rfl) (by kernel_rfl) (by first | assumption | go_grown) ?_
                                refine seq_pure (v := ?_) (by rfl) ?_ ?_
                                rotate_left
                                · (intro w hS; have kk := oldcell hS k15 (World.block_lt_of_cell? _ _ k15); go_simp; try with_reducible rfl)
                                (try simp only [Act.put, List.setIfInBounds_toArray, List.set_cons_zero, List.set_cons_succ])
                                refine seq_pure (v := ?_) (by rfl) ?_ ?_
                                rotate_left
                                · (intro w hS; go_simp; try with_reducible rfl)
                                (try simp only [Act.put, List.setIfInBounds_toArray, List.set_cons_zero, List.set_cons_succ])
                                refine seq_pure (v := ?_) (by rfl) ?_ ?_
                                rotate_left
                                · (intro w hS; have kk := oldcell hS x3 (World.block_lt_of_cell? _ _ x3); go_simp; try with_reducible rfl)
                                (try simp only [Act.put, List.setIfInBounds_toArray, List.set_cons_zero, List.set_cons_succ])
                                refine seq_pure (v := ?_) (by rfl) ?_ ?_
                                rotate_left
                                · (intro w hS; go_simp; try with_reducible rfl)
                                (try simp only [Act.put, List.setIfInBounds_toArray, List.set_cons_zero, List.set_cons_succ])
                                refine seq_pure (v := ?_) (by rfl) ?_ ?_
                                rotate_left
                                · (intro w hS; go_simp; try with_reducible rfl)
                                (try simp only [Act.put, List.setIfInBounds_toArray, List.set_cons_zero, List.set_cons_succ])
                                refine seq_pure (v := ?_) (by rfl) ?_ ?_
                                rotate_left
                                · (intro w hS; go_simp; try with_reducible rfl)
                                (try simp only [Act.put, List.setIfInBounds_toArray, List.set_cons_zero, List.set_cons_succ])
                                refine seq_pure (v := ?_) (by rfl) ?_ ?_
                                rotate_left
                                · (intro w hS; have kk := oldcell hS d2 hb2; go_simp; try with_reducible rfl)
                                (try simp only [Act.put, List.setIfInBounds_toArray, List.set_cons_zero, List.set_cons_succ])
                                refine seq_call (v := .bool false) (f := ?_) (args := ?_) (by rfl) ?_ ?_ ?_
                                rotate_left 2
                                · (intro w hS; go_simp; first | done | with_reducible rfl | (refine ⟨?_, ?_⟩ <;> with_reducible rfl))
                                · (intro w hS; refine (T2.out w hS).mono ?_; rintro e w' ⟨he, hb⟩; exact ⟨he, btr hS hb⟩)
                                (try simp only [Act.put, List.setIfInBounds_toArray, List.set_cons_zero, List.set_cons_succ])
                                refine seq_pure (v := ?_) (by rfl) ?_ ?_
                                rotate_left
                                · (intro w hS; go_simp; try with_reducible rfl)
                                (try simp only [Act.put, List.setIfInBounds_toArray, List.set_cons_zero, List.set_cons_succ])
                                refine seq_pure (v := ?_) (by rfl) ?_ ?_
                                rotate_left
                                · (intro w hS; go_simp; try with_reducible rfl)
                                (try simp only [Act.put, List.setIfInBounds_toArray, List.set_cons_zero, List.set_cons_succ])
                                refine seq_pure (v := ?_) (by rfl) ?_ ?_
                                rotate_left
                                · (intro w hS; go_simp; try with_reducible rfl)
                                (try simp only [Act.put, List.setIfInBounds_toArray, List.set_cons_zero, List.set_cons_succ])
                                refine seq_pure (v := ?_) (by rfl) ?_ ?_
                                rotate_left
                                · (intro w hS; have kk := oldcell hS k17 (World.block_lt_of_cell? _ _ k17); go_simp; try with_reducible rfl)
                                (try simp only [Act.put, List.setIfInBounds_toArray, List.set_cons_zero, List.set_cons_succ])
                                refine seq_pure (v := ?_) (by rfl) ?_ ?_
                                rotate_left
                                · (intro w hS; go_simp; try with_reducible rfl)
                                (try simp only [Act.put, List.setIfInBounds_toArray, List.set_cons_zero, List.set_cons_succ])
                                refine seq_pure (v := ?_) (by rfl) ?_ ?_
                                rotate_left
                                · (intro w hS; have kk := oldcell hS x3 (World.block_lt_of_cell? _ _ x3); go_simp; try with_reducible rfl)
                                (try simp only [Act.put, List.setIfInBounds_toArray, List.set_cons_zero, List.set_cons_succ])
                                refine seq_pure (v := ?_) (by rfl) ?_ ?_
                                rotate_left
                                · (intro w hS; go_simp; try with_reducible rfl)
                                (try simp only [Act.put, List.setIfInBounds_toArray, List.set_cons_zero, List.set_cons_succ])
                                refine seq_pure (v := ?_) (by rfl) ?_ ?_
                                rotate_left
                                · (intro w hS; go_simp; try with_reducible rfl)
                                (try simp only [Act.put, List.setIfInBounds_toArray, List.set_cons_zero, List.set_cons_succ])
                                refine seq_pure (v := ?_) (by rfl) ?_ ?_
                                rotate_left
                                · (intro w hS; go_simp; try with_reducible rfl)
                                (try simp only [Act.put, List.setIfInBounds_toArray, List.set_cons_zero, List.set_cons_succ])
                                refine seq_pure (v := ?_) (by rfl) ?_ ?_
                                rotate_left
                                · (intro w hS; have kk := oldcell hS d3 hb3; go_simp; try with_reducible rfl)
                                (try simp only [Act.put, List.setIfInBounds_toArray, List.set_cons_zero, List.set_cons_succ])
                                refine seq_call (v := .bool false) (f := ?_) (args := ?_) (by rfl) ?_ ?_ ?_
                                rotate_left 2
                                · (intro w hS; go_simp; first | done | with_reducible rfl | (refine ⟨?_, ?_⟩ <;> with_reducible rfl))
                                · (intro w hS; refine (T3.out w hS).mono ?_; rintro e w' ⟨he, hb⟩; exact ⟨he, btr hS hb⟩)
                                (try simp only [Act.put, List.setIfInBounds_toArray, List.set_cons_zero, List.set_cons_succ])
                                refine seq_pure (v := ?_) (by rfl) ?_ ?_
                                rotate_left
                                · (intro w hS; go_simp; try with_reducible rfl)
                                (try simp only [Act.put, List.setIfInBounds_toArray, List.set_cons_zero, List.set_cons_succ])
                                refine seq_pure (v := ?_) (by rfl) ?_ ?_
                                rotate_left
                                · (intro w hS; go_simp; try with_reducible rfl)
                                (try simp only [Act.put, List.setIfInBounds_toArray, List.set_cons_zero, List.set_cons_succ])
                                refine seq_pure (v := ?_) (by rfl) ?_ ?_
                                rotate_left
                                · (intro w hS; go_simp; try with_reducible rfl)
                                (try simp only [Act.put, List.setIfInBounds_toArray, List.set_cons_zero, List.set_cons_succ])
                                refine seq_pure (v := ?_) (by rfl) ?_ ?_
                                rotate_left
                                · (intro w hS; go_simp; try with_reducible rfl)
                                (try simp only [Act.put, List.setIfInBounds_toArray, List.set_cons_zero, List.set_cons_succ])
                                refine seq_pure (v := ?_) (by rfl) ?_ ?_
                                rotate_left
                                · (intro w hS; have kk := oldcell hS k19 (World.block_lt_of_cell? _ _ k19); go_simp; try with_reducible rfl)
                                (try simp only [Act.put, List.setIfInBounds_toArray, List.set_cons_zero, List.set_cons_succ])
                                refine seq_pure (v := ?_) (by rfl) ?_ ?_
                                rotate_left
                                · (intro w hS; go_simp; try with_reducible rfl)
                                (try simp only [Act.put, List.setIfInBounds_toArray, List.set_cons_zero, List.set_cons_succ])
                                refine seq_pure (v := ?_) (by rfl) ?_ ?_
                                rotate_left
                                · (intro w hS; have kk := oldcell hS x3 (World.block_lt_of_cell? _ _ x3); go_simp; try with_reducible rfl)
                                (try simp only [Act.put, List.setIfInBounds_toArray, List.set_cons_zero, List.set_cons_succ])
                                refine seq_pure (v := ?_) (by rfl) ?_ ?_
                                rotate_left
                                · (intro w hS; go_simp; try with_reducible rfl)
                                (try simp only [Act.put, List.setIfInBounds_toArray, List.set_cons_zero, List.set_cons_succ])
                                refine seq_pure (v := ?_) (by rfl) ?_ ?_
                                rotate_left
                                · (intro w hS; go_simp; try with_reducible rfl)
                                (try simp only [Act.put, List.setIfInBounds_toArray, List.set_cons_zero, List.set_cons_succ])
                                refine seq_pure (v := ?_) (by rfl) ?_ ?_
                                rotate_left
                                · (intro w hS; go_simp; try with_reducible rfl)
                                (try simp only [Act.put, List.setIfInBounds_toArray, List.set_cons_zero, List.set_cons_succ])
                                refine seq_pure (v := ?_) (by rfl) ?_ ?_
                                rotate_left
                                · (intro w hS; have kk := oldcell hS d4 hb4; go_simp; try with_reducible rfl)
                                (try simp only [Act.put, List.setIfInBounds_toArray, List.set_cons_zero, List.set_cons_succ])
                                refine seq_call (v := .bool true) (f := ?_) (args := ?_) (by rfl) ?_ ?_ ?_
                                rotate_left 2
                                · (intro w hS; go_simp; first | done | with_reducible rfl | (refine ⟨?_, ?_⟩ <;> with_reducible rfl))
                                · (intro w hS; refine (T4.out w hS).mono ?_; rintro e w' ⟨he, hb⟩; exact ⟨he, btr hS hb⟩)
                                (try simp only [Act.put, List.setIfInBounds_toArray, List.set_cons_zero, List.set_cons_succ])
                                refine seq_pure (v := ?_) (by rfl) ?_ ?_
                                rotate_left
                                · (intro w hS; go_simp; try with_reducible rfl)
                                (try simp only [Act.put, List.setIfInBounds_toArray, List.set_cons_zero, List.set_cons_succ])
                                refine seq_pure (v := ?_) (by rfl) ?_ ?_
                                rotate_left
                                · (intro w hS; go_simp; try with_reducible rfl)
                                (try simp only [Act.put, List.setIfInBounds_toArray, List.set_cons_zero, List.set_cons_succ])
                                refine seq_pure (v := ?_) (by rfl) ?_ ?_
                                rotate_left
                                · (intro w hS; go_simp; try with_reducible rfl)
                                (try simp only [Act.put, List.setIfInBounds_toArray, List.set_cons_zero, List.set_cons_succ])
                                refine seq_pure (v := ?_) (by rfl) ?_ ?_
                                rotate_left
                                · (intro w hS; go_simp; try with_reducible rfl)
                                (try simp only [Act.put, List.setIfInBounds_toArray, List.set_cons_zero, List.set_cons_succ])
                                refine seq_pure (v := ?_) (by rfl) ?_ ?_
                                rotate_left
                                · (intro w hS; have kk := oldcell hS k21 (World.block_lt_of_cell? _ _ k21); go_simp; try with_reducible rfl)
                                (try simp only [Act.put, List.setIfInBounds_toArray, List.set_cons_zero, List.set_cons_succ])
                                refine seq_pure (v := ?_) (by rfl) ?_ ?_
                                rotate_left
                                · (intro w hS; go_simp; try with_reducible rfl)
                                (try simp only [Act.put, List.setIfInBounds_toArray, List.set_cons_zero, List.set_cons_succ])
                                refine seq_pure (v := ?_) (by rfl) ?_ ?_
                                rotate_left
                                · (intro w hS; have kk := oldcell hS x3 (World.block_lt_of_cell? _ _ x3); go_simp; try with_reducible rfl)
                                (try simp only [Act.put, List.setIfInBounds_toArray, List.set_cons_zero, List.set_cons_succ])
                                refine seq_pure (v := ?_) (by rfl) ?_ ?_
                                rotate_left
                                · (intro w hS; go_simp; try with_reducible rfl)
                                (try simp only [Act.put, List.setIfInBounds_toArray, List.set_cons_zero, List.set_cons_succ])
                                refine seq_pure (v := ?_) (by rfl) ?_ ?_
                                rotate_left
                                · (intro w hS; go_simp; try with_reducible rfl)
                                (try simp only [Act.put, List.setIfInBounds_toArray, List.set_cons_zero, List.set_cons_succ])
                                refine seq_pure (v := ?_) (by rfl) ?_ ?_
                                rotate_left
                                · (intro w hS; go_simp; try with_reducible rfl)
                                (try simp only [Act.put, List.setIfInBounds_toArray, List.set_cons_zero, List.set_cons_succ])
                                refine seq_pure (v := ?_) (by rfl) ?_ ?_
                                rotate_left
                                · (intro w hS; have kk := oldcell hS d5 hb5; go_simp; try with_reducible rfl)
                                (try simp only [Act.put, List.setIfInBounds_toArray, List.set_cons_zero, List.set_cons_succ])
                                refine seq_call (v := .bool true) (f := ?_) (args := ?_) (by rfl) ?_ ?_ ?_
                                rotate_left 2
                                · (intro w hS; go_simp; first | done | with_reducible rfl | (refine ⟨?_, ?_⟩ <;> with_reducible rfl))
                                · (intro w hS; refine (T5.out w hS).mono ?_; rintro e w' ⟨he, hb⟩; exact ⟨he, btr hS hb⟩)
                                (try simp only [Act.put, List.setIfInBounds_toArray, List.set_cons_zero, List.set_cons_succ])
                                refine seq_pure (v := ?_) (by rfl) ?_ ?_
                                rotate_left
                                · (intro w hS; go_simp; try with_reducible rfl)
                                (try simp only [Act.put, List.setIfInBounds_toArray, List.set_cons_zero, List.set_cons_succ])
                                refine seq_pure (v := ?_) (by rfl) ?_ ?_
                                rotate_left
                                · (intro w hS; go_simp; try with_reducible rfl)
                                (try simp only [Act.put, List.setIfInBounds_toArray, List.set_cons_zero, List.set_cons_succ])
                                refine seq_pure (v := ?_) (by rfl) ?_ ?_
                                rotate_left
                                · (intro w hS; go_simp; try with_reducible rfl)
                                (try simp only [Act.put, List.setIfInBounds_toArray, List.set_cons_zero, List.set_cons_succ])
                                refine seq_nil ?_
                                intro w2 HB0
                                go_wp2_with fail
                                go_roundg (na - (K + 1))
                                case measure => (have := HNk.out; omega)
                                case rel => exact ⟨K + 1, by go_num, by omega, rfl, btr HST.out HB0⟩
                            ·
                              as_aux_lemma =>
                                refine wp_region_seq (fun w' => Below wr.heap.size wr w') (by kernel_rfl) (by kernel_rfl) (by first | assumption | go_grown) ?_
                                refine seq_pure (v := ?_) (by rfl) ?_ ?_
                                rotate_left
                                · (intro w hS; have kk := oldcell hS k15 (World.block_lt_of_cell? _ _ k15); go_simp; try with_reducible rfl)
                                (try simp only [Act.put, List.setIfInBounds_toArray, List.set_cons_zero, List.set_cons_succ])
                                refine seq_pure (v := ?_) (by rfl) ?_ ?_
                                rotate_left
                                · (intro w hS; go_simp; try with_reducible rfl)
                                (try simp only [Act.put, List.setIfInBounds_toArray, List.set_cons_zero, List.set_cons_succ])
                                refine seq_pure (v := ?_) (by rfl) ?_ ?_
                                rotate_left
                                · (intro w hS; have kk := oldcell hS x3 (World.block_lt_of_cell? _ _ x3); go_simp; try with_reducible rfl)
                                (try simp only [Act.put, List.setIfInBounds_toArray, List.set_cons_zero, List.set_cons_succ])
                                refine seq_pure (v := ?_) (by rfl) ?_ ?_
                                rotate_left
                                · (intro w hS; go_simp; try with_reducible rfl)
                                (try simp only [Act.put, List.setIfInBounds_toArray, List.set_cons_zero, List.set_cons_succ])
                                refine seq_pure (v := ?_) (by rfl) ?_ ?_
                                rotate_left
                                · (intro w hS; go_simp; try with_reducible rfl)
                                (try simp only [Act.put, List.setIfInBounds_toArray, List.set_cons_zero, List.set_cons_succ])
                                refine seq_pure (v := ?_) (by rfl) ?_ ?_
                                rotate_left
                                · (intro w hS; go_simp; try with_reducible rfl)
                                (try simp only [Act.put, List.setIfInBounds_toArray, List.set_cons_zero, List.set_cons_succ])
                                refine seq_pure (v := ?_) (by rfl) ?_ ?_
                                rotate_left
                                · (intro w hS; have kk := oldcell hS d2 hb2; go_simp; try with_reducible rfl)
                                (try simp only [Act.put, List.setIfInBounds_toArray, List.set_cons_zero, List.set_cons_succ])
                                refine seq_call (v := .bool true) (f := ?_) (args := ?_) (by rfl) ?_ ?_ ?_
                                rotate_left 2
                                · (intro w hS; go_simp; first | done | with_reducible rfl | (refine ⟨?_, ?_⟩ <;> with_reducible rfl))
                                · (intro w hS; refine (T2.out w hS).mono ?_; rintro e w' ⟨he, hb⟩; exact ⟨he, btr hS hb⟩)
                                (try simp only [Act.put, List.setIfInBounds_toArray, List.set_cons_zero, List.set_cons_succ])
                                refine seq_pure (v := ?_) (by rfl) ?_ ?_
                                rotate_left
                                · (intro w hS; go_simp; try with_reducible rfl)
                                (try simp only [Act.put, List.setIfInBounds_toArray, List.set_cons_zero, List.set_cons_succ])
                                refine seq_pure (v := ?_) (by rfl) ?_ ?_
                                rotate_left
                                · (intro w hS; go_simp; try with_reducible rfl)
                                (try simp only [Act.put, List.setIfInBounds_toArray, List.set_cons_zero, List.set_cons_succ])
                                refine seq_pure (v := ?_) (by rfl) ?_ ?_
                                rotate_left
                                · (intro w hS; go_simp; try with_reducible rfl)
                                (try simp only [Act.put, List.setIfInBounds_toArray, List.set_cons_zero, List.set_cons_succ])
                                refine seq_pure (v := ?_) (by rfl) ?_ ?_
                                rotate_left
                                · (intro w hS; have kk := oldcell hS k17 (World.block_lt_of_cell? _ _ k17); go_simp; try with_reducible rfl)
                                (try simp only [Act.put, List.setIfInBounds_toArray, List.set_cons_zero, List.set_cons_succ])
                                refine seq_pure (v := ?_) (by rfl) ?_ ?_
                                rotate_left
                                · (intro w hS; go_simp; try with_reducible rfl)
                                (try simp only [Act.put, List.setIfInBounds_toArray, List.set_cons_zero, List.set_cons_succ])
                                refine seq_pure (v := ?_) (by rfl) ?_ ?_
                                rotate_left
                                · (intro w hS; have kk := oldcell hS x3 (World.block_lt_of_cell? _ _ x3); go_simp; try with_reducible rfl)
                                (try simp only [Act.put, List.setIfInBounds_toArray, List.set_cons_zero, List.set_cons_succ])
                                refine seq_pure (v := ?_) (by rfl) ?_ ?_
                                rotate_left
                                · (intro w hS; go_simp; try with_reducible rfl)
                                (try simp only [Act.put, List.setIfInBounds_toArray, List.set_cons_zero, List.set_cons_succ])
                                refine seq_pure (v := ?_) (by rfl) ?_ ?_
                                rotate_left
                                · (intro w hS; go_simp; try with_reducible rfl)
                                (try simp only [Act.put, List.setIfInBounds_toArray, List.set_cons_zero, List.set_cons_succ])
                                refine seq_pure (v := ?_) (by rfl) ?_ ?_
                                rotate_left
                                · (intro w hS; go_simp; try with_reducible rfl)
                                (try simp only [Act.put, List.setIfInBounds_toArray, List.set_cons_zero, List.set_cons_succ])
                                refine seq_pure (v := ?_) (by rfl) ?_ ?_
                                rotate_left
                                · (intro w hS; have kk := oldcell hS d3 hb3; go_simp; try with_reducible rfl)
                                (try simp only [Act.put, List.setIfInBounds_toArray, List.set_cons_zero, List.set_cons_succ])
                                refine seq_call (v := .bool true) (f := ?_) (args := ?_) (by rfl) ?_ ?_ ?_
                                rotate_left 2
                                · (intro w hS; go_simp; first | done | with_reducible rfl | (refine ⟨?_, ?_⟩ <;> with_reducible rfl))
                                · (intro w hS; refine (T3.out w hS).mono ?_; rintro e w' ⟨he, hb⟩; exact ⟨he, btr hS hb⟩)
                                (try simp only [Act.put, List.setIfInBounds_toArray, List.set_cons_zero, List.set_cons_succ])
                                refine seq_pure (v := ?_) (by rfl) ?_ ?_
                                rotate_left
                                · (intro w hS; go_simp; try with_reducible rfl)
                                (try simp only [Act.put, List.setIfInBounds_toArray, List.set_cons_zero, List.set_cons_succ])
                                refine seq_pure (v := ?_) (by rfl) ?_ ?_
                                rotate_left
                                · (intro w hS; go_simp; try with_reducible rfl)
                                (try simp only [Act.put, List.setIfInBounds_toArray, List.set_cons_zero, List.set_cons_succ])
                                refine seq_pure (v := ?_) (by rfl) ?_ ?_
                                rotate_left
                                · (intro w hS; go_simp; try with_reducible rfl)
                                (try simp only [Act.put, List.setIfInBounds_toArray, List.set_cons_zero, List.set_cons_succ])
                                refine seq_pure (v := ?_) (by rfl) ?_ ?_
                                rotate_left
                                · (intro w hS; go_simp; try with_reducible rfl)
                                (try simp only [Act.put, List.setIfInBounds_toArray, List.set_cons_zero, List.set_cons_succ])
                                refine seq_pure (v := ?_) (by rfl) ?_ ?_
                                rotate_left
                                · (intro w hS; have kk := oldcell hS k19 (World.block_lt_of_cell? _ _ k19); go_simp; try with_reducible rfl)
                                (try simp only [Act.put, List.setIfInBounds_toArray, List.set_cons_zero, List.set_cons_succ])
                                refine seq_pure (v := ?_) (by rfl) ?_ ?_
                                rotate_left
                                · (intro w hS; go_simp; try with_reducible rfl)
                                (try simp only [Act.put, List.setIfInBounds_toArray, List.set_cons_zero, List.set_cons_succ])
                                refine seq_pure (v := ?_) (by rfl) ?_ ?_
                                rotate_left
                                · (intro w hS; have kk := oldcell hS x3 (World.block_lt_of_cell? _ _ x3); go_simp; try with_reducible rfl)
                                (try simp only [Act.put, List.setIfInBounds_toArray, List.set_cons_zero, List.set_cons_succ])
                                refine seq_pure (v := ?_) (by rfl) ?_ ?_
                                rotate_left
                                · (intro w hS; go_simp; try with_reducible rfl)
                                (try simp only [Act.put, List.setIfInBounds_toArray, List.set_cons_zero, List.set_cons_succ])
                                refine seq_pure (v := ?_) (by rfl) ?_ ?_
                                rotate_left
                                · (intro w hS; go_simp; try with_reducible rfl)
                                (try simp only [Act.put, List.setIfInBounds_toArray, List.set_cons_zero, List.set_cons_succ])
                                refine seq_pure (v := ?_) (by rfl) ?_ ?_
                                rotate_left
                                · (intro w hS; go_simp; try with_reducible rfl)
                                (try simp only [Act.put, List.setIfInBounds_toArray, List.set_cons_zero, List.set_cons_succ])
                                refine seq_pure (v := ?_) (by rfl) ?_ ?_
                                rotate_left
                                · (intro w hS; have kk := oldcell hS d4 hb4; go_simp; try with_reducible rfl)
                                (try simp only [Act.put, List.setIfInBounds_toArray, List.set_cons_zero, List.set_cons_succ])
                                refine seq_call (v := .bool false) (f := ?_) (args := ?_) (by rfl) ?_ ?_ ?_
                                rotate_left 2
                                · (intro w hS; go_simp; first | done | with_reducible rfl | (refine ⟨?_, ?_⟩ <;> with_reducible rfl))
                                · (intro w hS; refine (T4.out w hS).mono ?_; rintro e w' ⟨he, hb⟩; exact ⟨he, btr hS hb⟩)
                                (try simp only [Act.put, List.setIfInBounds_toArray, List.set_cons_zero, List.set_cons_succ])
                                refine seq_pure (v := ?_) (by rfl) ?_ ?_
                                rotate_left
                                · (intro w hS; go_simp; try with_reducible rfl)
                                (try simp only [Act.put, List.setIfInBounds_toArray, List.set_cons_zero, List.set_cons_succ])
                                refine seq_pure (v := ?_) (by rfl) ?_ ?_
                                rotate_left
                                · (intro w hS; go_simp; try with_reducible rfl)
                                (try simp only [Act.put, List.setIfInBounds_toArray, List.set_cons_zero, List.set_cons_succ])
                                refine seq_pure (v := ?_) (by rfl) ?_ ?_
                                rotate_left
                                · (intro w hS; go_simp; try with_reducible rfl)
                                (try simp only [Act.put, List.setIfInBounds_toArray, List.set_cons_zero, List.set_cons_succ])
                                refine seq_pure (v := ?_) (by rfl) ?_ ?_
                                rotate_left
                                · (intro w hS; go_simp; try with_reducible rfl)
                                (try simp only [Act.put, List.setIfInBounds_toArray, List.set_cons_zero, List.set_cons_succ])
                                refine seq_pure (v := ?_) (by rfl) ?_ ?_
                                rotate_left
                                · (intro w hS; have kk := oldcell hS k21 (World.block_lt_of_cell? _ _ k21); go_simp; try with_reducible rfl)
                                (try simp only [Act.put, List.setIfInBounds_toArray, List.set_cons_zero, List.set_cons_succ])
                                refine seq_pure (v := ?_) (by rfl) ?_ ?_
                                rotate_left
                                · (intro w hS; go_simp; try with_reducible rfl)
                                (try simp only [Act.put, List.setIfInBounds_toArray, List.set_cons_zero, List.set_cons_succ])
                                refine seq_pure (v := ?_) (by rfl) ?_ ?_
                                rotate_left
                                · (intro w hS; have kk := oldcell hS x3 (World.block_lt_of_cell? _ _ x3); go_simp; try with_reducible rfl)
                                (try simp only [Act.put, List.setIfInBounds_toArray, List.set_cons_zero, List.set_cons_succ])
                                refine seq_pure (v := ?_) (by rfl) ?_ ?_
                                rotate_left
                                · (intro w hS; go_simp; try with_reducible rfl)
                                (try simp only [Act.put, List.setIfInBounds_toArray, List.set_cons_zero, List.set_cons_succ])
                                refine seq_pure (v := ?_) (by rfl) ?_ ?_
                                rotate_left
                                · (intro w hS; go_simp; try with_reducible rfl)
                                (try simp only [Act.put, List.setIfInBounds_toArray, List.set_cons_zero, List.set_cons_succ])
                                refine seq_pure (v := ?_) (by rfl) ?_ ?_
                                rotate_left
                                · (intro w hS; go_simp; try with_reducible rfl)
                                (try simp only [Act.put, List.setIfInBounds_toArray, List.set_cons_zero, List.set_cons_succ])
                                refine seq_pure (v := ?_) (by rfl) ?_ ?_
                                rotate_left
                                · (intro w hS; have kk := oldcell hS d5 hb5; go_simp; try with_reducible rfl)
                                (try simp only [Act.put, List.setIfInBounds_toArray, List.set_cons_zero, List.set_cons_succ])
                                refine seq_call (v := .bool false) (f := ?_) (args := ?_) (by rfl) ?_ ?_ ?_
                                rotate_left 2
                                · (intro w hS; go_simp; first | done | with_reducible rfl | (refine ⟨?_, ?_⟩ <;> with_reducible rfl))
                                · (intro w hS; refine (T5.out w hS).mono ?_; rintro e w' ⟨he, hb⟩; exact ⟨he, btr hS hb⟩)
                                (try simp only [Act.put, List.setIfInBounds_toArray, List.set_cons_zero, List.set_cons_succ])
                                refine seq_pure (v := ?_) (by rfl) ?_ ?_
                                rotate_left
                                · (intro w hS; go_simp; try with_reducible rfl)
                                (try simp only [Act.put, List.setIfInBounds_toArray, List.set_cons_zero, List.set_cons_succ])
                                refine seq_pure (v := ?_) (by rfl) ?_ ?_
                                rotate_left
                                · (intro w hS; go_simp; try with_reducible rfl)
                                (try simp only [Act.put, List.setIfInBounds_toArray, List.set_cons_zero, List.set_cons_succ])
                                refine seq_pure (v := ?_) (by rfl) ?_ ?_
                                rotate_left
                                · (intro w hS; go_simp; try with_reducible rfl)
                                (try simp only [Act.put, List.setIfInBounds_toArray, List.set_cons_zero, List.set_cons_succ])
                                refine seq_nil ?_
                                intro w2 HB0
                                go_wp2_with fail
                                go_roundg (na - (K + 1))
                                case measure => (have := HNk.out; omega)
                                case rel => exact ⟨K + 1, by go_num, by omega, rfl, btr HST.out HB0⟩
end Go.Proofs.Ytanlecgpnknhoaa
