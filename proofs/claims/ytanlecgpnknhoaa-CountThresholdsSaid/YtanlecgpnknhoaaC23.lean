/- Walk of CountThresholds. -/
import Derived.Test.YtanlecgpnknhoaaC18
namespace Go.Proofs.Ytanlecgpnknhoaa
set_option linter.unusedSimpArgs false
set_option linter.unusedVariables false
open Go.RowKit


theorem raw_plain (L : List Step) (A B : List Nat) (h0 : L.length ≤ 40) (h1 : A.length ≤ 9) (h2 : B.length ≤ 9) :
    ∃ c refs a b, cbuild L = (c, refs) ∧ A.map (cpick refs) = a ∧ B.map (cpick refs) = b ∧ Good c ∧ c.length ≤ 121 ∧ RefsIn a c.length ∧ RefsIn b c.length ∧ a.length = A.length ∧ b.length = B.length := by
  have HB := built L (by omega)
  obtain ⟨c, refs, hcb⟩ : ∃ c refs, cbuild L = (c, refs) := ⟨_, _, rfl⟩
  have hg := HB.good; have hr := HB.refs; have hl := HB.len
  rw [hcb] at hg hr hl
  dsimp only at hg hr hl
  have hp : ∀ n, 0 ≤ cpick refs n ∧ cpick refs n < 2 * (c.length : Int) := fun n => cpick_in hr hg.ne n
  refine ⟨c, refs, _, _, hcb, rfl, rfl, hg, by omega, fun r h => ?_, fun r h => ?_, by simp, by simp⟩
  · obtain ⟨n, _, rfl⟩ := List.mem_map.1 h; exact hp n
  · obtain ⟨n, _, rfl⟩ := List.mem_map.1 h; exact hp n
theorem inputs_is {x : RawV} {q : RawP} {w : World} {c : List Gate} {refs a b : List Int} {na nb : Nat} (hx : RawOk w x q) (h0 : x.L.length ≤ 40) (h1 : x.A.length ≤ 9) (h2 : x.B.length ≤ 9) (hcb : cbuild x.L = (c, refs)) (ha : x.A.map (cpick refs) = a) (hb : x.B.map (cpick refs) = b) (hna : x.A.length = na) (hnb : x.B.length = nb) :
    Calls Try.prog 41 #[.agg #[.slice q.pL x.L.length q.cL, .slice q.pA x.A.length q.cA, .slice q.pB x.B.length q.cB, .slice q.pV x.V.length q.cV, .int .i8 x.by']] w (RetIn w c a b na nb) := by
  subst ha hb hna hnb
  exact inputs_any x q w hx h0 h1 h2 c refs hcb
theorem btr' {B : Nat} {w w1 w2 : World} (h : Below B w w1) (k : Below B w1 w2) : Below B w w2 := h.trans k
theorem sops9 {n : Nat} (h : n ≤ 9) : sOps (plog n n 0) ≤ 126 := by
  match n, h with
  | 0, _ | 1, _ | 2, _ | 3, _ | 4, _ | 5, _ | 6, _ | 7, _ | 8, _ | 9, _ => decide
theorem total_ops {n m : Nat} (h : n ≤ m) : opsTotal n ≤ opsTotal m := Nat.mul_le_mul h (Nat.mul_le_mul h (by omega))
theorem add_ops {x y x' y' : Nat} (h : x ≤ x') (k : y ≤ y') : opsAdd x y ≤ opsAdd x' y' := Nat.mul_le_mul (by omega) (by omega)
theorem cntv_append (c : List Gate) (a b : List Int) (vals : List Bool) : cntv c (a ++ b) vals = cntv c a vals + cntv c b vals := by unfold cntv; rw [List.map_append, cnt_append]
theorem RefsIn.append {a b : List Int} {n : Nat} (h : RefsIn a n) (k : RefsIn b n) : RefsIn (a ++ b) n := fun r hr => (List.mem_append.1 hr).elim (h r) (k r)
theorem SA.of_owns {w : World} {B n : Nat} {v : Value} {xs : List Int} (h : w.ownsRow B 3 1 v xs.length (flat 1 iEnc xs)) (hn : xs.length = n) : ∃ q cq, v = .slice q n cq ∧ SA w q n cq xs := by
  obtain ⟨q, cq, hv, h1, h2, h3, h4⟩ := owns_val (by omega) h
  subst hn
  exact ⟨q, cq, hv, ⟨rfl, h1, h2, h3, h4, fun a ha => (h.lt a.block (by rw [hv, ha]; rfl)).2⟩⟩
/-- The values of a raw input. -/
theorem RawOk.va {w w' : World} {x : RawV} {q : RawP} (h : RawOk w x q) (hB : Below w.heap.size w w') : VA w' q.pV x.V.length x.V := ⟨rfl, h.l3, h.a3.mono hB⟩

theorem cnt_not (l : List Bool) : cnt (l.map (fun b => !b)) + cnt l = l.length := by
  induction l with
  | nil => rfl
  | cons b l ih => cases b <;> simp [cnt] at ih ⊢ <;> omega
theorem refs_not {a : List Int} {n : Nat} (h : RefsIn a n) : RefsIn (a.map cnot) n := by
  intro r hr
  obtain ⟨x, hx, rfl⟩ := List.mem_map.1 hr
  exact cnot_bounds (h x hx).1 (h x hx).2
theorem map_cv_not {c : List Gate} {a : List Int} (hr : RefsIn a c.length) (V : List Bool) : (a.map cnot).map (cv c V) = (a.map (cv c V)).map (fun b => !b) := by
  rw [List.map_map, List.map_map]
  exact List.map_congr_left fun r h => cv_not (hr r h).1
theorem cntv_not {c : List Gate} {a : List Int} (hr : RefsIn a c.length) (V : List Bool) : cntv c (a.map cnot) V + cntv c a V = a.length := by
  unfold cntv
  rw [map_cv_not hr, cnt_not, List.length_map]
theorem map_take_snoc' {α β : Type} (f : α → β) (l : List α) {K : Nat} {r : α} (h : l[K]? = some r) : (l.take (K + 1)).map f = (l.take K).map f ++ [f r] := by
  obtain ⟨hk, he⟩ := List.getElem?_eq_some_iff.1 h
  rw [List.take_succ_eq_append_getElem hk, he, List.map_append]; rfl

set_option maxRecDepth 100000 in
set_option maxHeartbeats 8000000 in
theorem thresholds_any (x : RawV) (q : RawP) (k : Nat) (w : World) (hx : RawOk w x q) (hk : k < 256) :
    Calls Try.prog 14 #[.agg #[.slice q.pL x.L.length q.cL, .slice q.pA x.A.length q.cA, .slice q.pB x.B.length q.cB, .slice q.pV x.V.length q.cV, .int .i8 x.by'], .int .u8 k] w (RetB w true) := by
  obtain ⟨L, A, B, V, by'⟩ := x
  obtain ⟨pL, cL, pA, cA, pB, cB, pV, cV⟩ := q
  dsimp only
  have HX := Lib.hid hx; clear hx
  obtain ⟨W0, hW0, hX, hW⟩ : ∃ W0, w.alloc (.cells #[.slice pL L.length cL, .slice pA A.length cA, .slice pB B.length cB, .slice pV V.length cV, .int .i8 by'] 56) = W0 ∧ RawAt W0 w.heap.size ⟨L, A, B, V, by'⟩ ⟨pL, cL, pA, cA, pB, cB, pV, cV⟩ ∧ Below w.heap.size w W0 := ⟨_, rfl, ⟨by go_cell, by go_cell, by go_cell, by go_cell, by go_cell⟩, by go_grown⟩
  have HW0 := Lib.hid hW0; clear hW0
  obtain ⟨G, hG⟩ : ∃ G, great ⟨L, A, B, V, by'⟩ = G := ⟨_, rfl⟩
  have HG := Lib.hid hG
  cases G
  case true =>
    clear hG
    go_enter Try.func14, Try.ntmps14
    go_upto_region 1 with fail
    rw [HW0.out]
    go_upto_region 1 with fail
    go_cut [5] from 24 to 24 (fun s5 wx => (s5 = .bool true) ∧ Below W0.heap.size W0 wx)
    case first =>
      as_aux_lemma =>
        go_wp2_with (first | (go_at_call 39; refine (head16_any _).mono ?_; rintro e w2 ⟨rfl, hbl⟩))
        go_meet
        exact ⟨rfl, (by first | exact hbl | exact btr (by go_grown) hbl)⟩
    case rest =>
      obtain ⟨rfl, hst⟩ := hcut
      replace hX := hX.up hst
      replace hW := btr hW hst
      clear hst
      obtain ⟨x0, x1, x2, x3, x4⟩ := id hX
      dsimp only at x0 x1 x2 x3 x4
      go_wp2_with (first | (go_at_call 40; refine (great_any ⟨L, A, B, V, by'⟩ ⟨pL, cL, pA, cA, pB, cB, pV, cV⟩ _ HX.out.l0 HX.out.l1 HX.out.l2 HX.out.l3).mono ?_; rw [HG.out]; rintro e w1 ⟨rfl, hb1⟩; have x1 := oldcell hb1 x1 (World.block_lt_of_cell? _ _ x1)))
      go_ret
      exact ⟨rfl, btr hW hb1⟩
  case false =>
    obtain ⟨h0, h1, h2, h3⟩ := great_no hG
    dsimp only at h0 h1 h2 h3
    clear hG
    by_cases hA0 : A.length = 0
    case pos =>
      have hA1 : ((A.length : Int) == 0) = true := by simp [hA0]
      have hA2 : (A.length == 0) = true := by simp [hA0]
      have hA3 : decide (A.length = 0) = true := by simp [hA0]
      clear hA0
      go_enter Try.func14, Try.ntmps14
      go_upto_region 1 with fail
      rw [HW0.out]
      go_upto_region 1 with fail
      go_cut [5] from 24 to 24 (fun s5 wx => (s5 = .bool true) ∧ Below W0.heap.size W0 wx)
      case first =>
        as_aux_lemma =>
          go_wp2_with (first | (go_at_call 39; refine (head16_any _).mono ?_; rintro e w2 ⟨rfl, hbl⟩))
          go_meet
          exact ⟨rfl, (by first | exact hbl | exact btr (by go_grown) hbl)⟩
      case rest =>
        obtain ⟨rfl, hst⟩ := hcut
        replace hX := hX.up hst
        replace hW := btr hW hst
        clear hst
        obtain ⟨x0, x1, x2, x3, x4⟩ := id hX
        dsimp only at x0 x1 x2 x3 x4
        go_wp2_with (first | (go_at_call 40; refine (great_any ⟨L, A, B, V, by'⟩ ⟨pL, cL, pA, cA, pB, cB, pV, cV⟩ _ HX.out.l0 HX.out.l1 HX.out.l2 HX.out.l3).mono ?_; rw [HG.out]; rintro e w1 ⟨rfl, hb1⟩; have x1 := oldcell hb1 x1 (World.block_lt_of_cell? _ _ x1)))
        go_ret
        exact ⟨rfl, btr hW hb1⟩
    case neg =>
      have hA1 : ((A.length : Int) == 0) = false := by simp [hA0]
      have hA2 : (A.length == 0) = false := by simp [hA0]
      have hA3 : decide (A.length = 0) = false := by simp [hA0]
      obtain ⟨c, refs, a, b, hcb, ha, hb, gc, hcl, ra, rb, la, lb⟩ := raw_plain L A B h0 h1 h2
      have hl : c.length ≤ 20000 := by omega
      have hc : 0 < c.length := gc.ne
      obtain ⟨na, hna⟩ : ∃ n, A.length = n := ⟨_, rfl⟩
      obtain ⟨nb, hnb⟩ : ∃ n, B.length = n := ⟨_, rfl⟩
      have hna9 : na ≤ 9 := by omega
      have hnb9 : nb ≤ 9 := by omega
      rw [hna] at la; rw [hnb] at lb
      have HAL := Lib.hid (allLe_of ra hl); have HBL := Lib.hid (allLe_of rb hl)
      have hna0 : 0 < na := by omega
      obtain ⟨j, hj⟩ : ∃ j, k % na = j := ⟨_, rfl⟩
      have hjn : j < na := by rw [← hj]; exact Nat.mod_lt _ hna0
      obtain ⟨mm, hmm⟩ : ∃ mm, mm = j + 1 := ⟨_, rfl⟩
      obtain ⟨a', ha'⟩ : ∃ x, a.map cnot = x := ⟨_, rfl⟩
      have ra' : RefsIn a' c.length := by rw [← ha']; exact refs_not ra
      have la' : a'.length = na := by rw [← ha']; simp [la]
      obtain ⟨d, r, e1⟩ : ∃ d' u', (uatleast 0 1 a (mm : Int)).run c = (d', u') := ⟨_, _, rfl⟩
      obtain ⟨e, q, e2⟩ : ∃ d' u', (uatleast 0 1 a' ((na : Int) - (mm : Int) + 1)).run c = (d', u') := ⟨_, _, rfl⟩
      obtain ⟨f, p, e3⟩ : ∃ d' u', (uatleast 0 1 a (j : Int)).run c = (d', u') := ⟨_, _, rfl⟩
      obtain ⟨g, s, e4⟩ : ∃ d' u', (usorter 1 a).run c = (d', u') := ⟨_, _, rfl⟩
      obtain ⟨h, t, e5⟩ : ∃ d' u', (utotal 0 1 na a).run c = (d', u') := ⟨_, _, rfl⟩
      have o1 := sops9 hna9
      have o2 : opsTotal na ≤ 1620 := Nat.le_trans (total_ops hna9) (by decide)
      obtain ⟨g1, R1⟩ := atleast_rf gc ra la (by omega) e1
      obtain ⟨g2, R2⟩ := atleast_rf gc ra' la' (by omega) e2
      obtain ⟨g3, R3⟩ := atleast_rf gc ra la (by omega) e3
      obtain ⟨g4, N4⟩ := sorter_num gc ra la (by omega) e4
      obtain ⟨g5, N5⟩ := total_num gc ra la (by omega) e5
      have k1 := g1.len; have k2 := g2.len; have k3 := g3.len; have k4 := g4.len; have k5 := g5.len
      have z1 := R1.ceval V; have z2 := R2.ceval V; have z3 := R3.ceval V
      obtain ⟨sv, hsv⟩ : ∃ x, s[j]? = some x := ⟨_, List.getElem?_eq_getElem (by rw [N4.len]; exact hjn)⟩
      obtain ⟨tv, htv⟩ : ∃ x, t[j]? = some x := ⟨_, List.getElem?_eq_getElem (by rw [N5.len]; exact hjn)⟩
      have z4 := (N4.unary V).2 j sv hsv
      have z5 := (N5.unary V).2 j tv htv
      have bn := cntv_not ra V
      rw [ha', la] at bn
      try dsimp only at z1 z2 z3
      obtain ⟨n, hn⟩ : ∃ n, cntv c a V = n := ⟨_, rfl⟩
      obtain ⟨n', hn'⟩ : ∃ n, cntv c a' V = n := ⟨_, rfl⟩
      rw [hn] at z1 z3 z4 z5 bn; rw [hn'] at z2 bn
      obtain ⟨Y, hY⟩ : ∃ P, decide ((mm : Int) ≤ (n : Int)) = P := ⟨_, rfl⟩
      rw [hY] at z1
      have hY2 : decide ((j : Int) < (n : Int)) = Y := by rw [← hY]; exact decide_eq_decide.2 (by omega)
      rw [hY2] at z4 z5
      have hY3 : decide ((na : Int) - (mm : Int) + 1 ≤ (n' : Int)) = !Y := by
        rw [← hY, ← decide_not]; exact decide_eq_decide.2 (by omega)
      rw [hY3] at z2
      have z3' : Y = true → ceval f V p = true := fun h => by rw [z3]; subst h; have := of_decide_eq_true hY; exact decide_eq_true (by omega)
      have hdl : d.length ≤ 20000 := by omega
      have hel : e.length ≤ 20000 := by omega
      have hfl : f.length ≤ 20000 := by omega
      have hgl : g.length ≤ 20000 := by omega
      have hhl : h.length ≤ 20000 := by omega
      have hna' : ((na : Int) == 0) = false := by simp; omega
      have hna'' : ¬ na = 0 := by omega
      have HJ := Lib.hid hj; have HMM := Lib.hid hmm; have HA' := Lib.hid ha'; have LA' := Lib.hid la'
      have HAL' := Lib.hid (allLe_of ra' hl)
      have E1 := Lib.hid e1; have E2 := Lib.hid e2; have E3 := Lib.hid e3; have E4 := Lib.hid e4; have E5 := Lib.hid e5
      have G1 := Lib.hid g1.good.wf; have G2 := Lib.hid g2.good.wf; have G3 := Lib.hid g3.good.wf; have G4 := Lib.hid g4.good.wf; have G5 := Lib.hid g5.good.wf
      have M4 := Lib.hid N4.len; have M5 := Lib.hid N5.len
      have Z1 := Lib.hid z1; have Z2 := Lib.hid z2; have Z3 := Lib.hid z3'; have Z4 := Lib.hid z4; have Z5 := Lib.hid z5; have HSV := Lib.hid hsv; have HTV := Lib.hid htv
      have h3' : V.length ≤ maxLen := HX.out.l3
      have hm1 : 1 ≤ mm := by omega
      have hmn : mm ≤ na := by omega
      clear hmm hj ha' ra' la' e1 e2 e3 e4 e5 g1 g2 g3 g4 g5 R1 R2 R3 N4 N5 o1 o2 k1 k2 k3 k4 k5 z1 z2 z3 z3' z4 z5 hsv htv bn hn hn' hY hY2 hY3
      have HCB := Lib.hid hcb; have HA := Lib.hid ha; have HB := Lib.hid hb; have HNA := Lib.hid hna; have HNB := Lib.hid hnb; have RA := Lib.hid ra; have RB := Lib.hid rb; have LA := Lib.hid la; have LB := Lib.hid lb; have GC := Lib.hid gc
      clear hcb ha hb hna hnb ra rb la lb gc
      go_enter Try.func14, Try.ntmps14
      go_upto_region 1 with fail
      rw [HW0.out]
      go_upto_region 1 with fail
      go_cut [5] from 24 to 24 (fun s5 wx => (s5 = .bool true) ∧ Below W0.heap.size W0 wx)
      case first =>
        as_aux_lemma =>
          go_wp2_with (first | (go_at_call 39; refine (head16_any _).mono ?_; rintro e w2 ⟨rfl, hbl⟩))
          go_meet
          exact ⟨rfl, (by first | exact hbl | exact btr (by go_grown) hbl)⟩
      case rest =>
        obtain ⟨rfl, hst⟩ := hcut
        replace hX := hX.up hst
        replace hW := btr hW hst
        clear hst
        obtain ⟨x0, x1, x2, x3, x4⟩ := id hX
        dsimp only at x0 x1 x2 x3 x4
        go_upto_region 4 with (first | (go_at_call 40; refine (great_any ⟨L, A, B, V, by'⟩ ⟨pL, cL, pA, cA, pB, cB, pV, cV⟩ _ HX.out.l0 HX.out.l1 HX.out.l2 HX.out.l3).mono ?_; rw [HG.out]; rintro e w1 ⟨rfl, hb1⟩; have x1 := oldcell hb1 x1 (World.block_lt_of_cell? _ _ x1)))
        have hst1 : Below wc.heap.size wc _ := hb1
        replace hX := hX.up hb1
        replace hW := btr hW hb1
        clear hst1 hb1 x0 x1 x2 x3 x4
        obtain ⟨x0, x1, x2, x3, x4⟩ := id hX
        dsimp only at x0 x1 x2 x3 x4
        go_upto_region 4 with fail
        go_cut [6, 7, 8] from 34 to 39 (fun s6 s7 s8 wx => (∃ (b0 : Nat) (q5 : Option Addr) (c5 : Nat) (q6 : Option Addr) (c6 : Nat), s6 = .pointer (some ⟨b0, 0, none⟩) ∧ s7 = .slice q5 na c5 ∧ s8 = .slice q6 nb c6 ∧ Bx wx b0 c ∧ SA wx q5 na c5 a ∧ SA wx q6 nb c6 b) ∧ Below w1.heap.size w1 wx)
        case first =>
          as_aux_lemma =>
            go_wp2_with (first | (go_at_call 41; refine (inputs_is (x := ⟨L, A, B, V, by'⟩) (q := ⟨pL, cL, pA, cA, pB, cB, pV, cV⟩) (HX.out.up (by exact hW)) h0 h1 h2 HCB.out HA.out HB.out HNA.out HNB.out).mono ?_; rintro e w2 ⟨p2, cap2, q5, c5, q6, c6, rfl, hC2, hSa, hSb, hbl⟩))
            go_meet
            exact ⟨⟨_, _, _, _, _, rfl, rfl, rfl, Bx.new hC2 _, hSa.up (bal (Below.refl _ _) _), hSb.up (bal (Below.refl _ _) _)⟩, bal hbl _⟩
        case rest =>
          obtain ⟨⟨b6, q7, cq7, q8, cq8, rfl, rfl, rfl, hB6, hS7, hS8⟩, hst⟩ := hcut
          replace hX := hX.up hst
          replace hW := btr hW hst
          clear hst
          clear x0 x1 x2 x3 x4
          go_upto_region 5 with fail
          go_cut [9] from 40 to 41 (fun s9 wx => (s9 = .int .i64 (na : Int)) ∧ Below wc.heap.size wc wx)
          case first =>
            as_aux_lemma =>
              go_wp2_with fail
              go_meet
              exact ⟨rfl, Below.refl _ _⟩
          case rest =>
            obtain ⟨rfl, hst⟩ := hcut
            replace hX := hX.up hst
            replace hB6 := hB6.up hst
            replace hS7 := hS7.up hst
            replace hS8 := hS8.up hst
            replace hW := btr hW hst
            clear hst
            go_upto_region 6 with fail
            have hrw : Int.tmod (k : Int) (na : Int) = (j : Int) := by (rw [Int.tmod_eq_emod_of_nonneg (by omega)]; exact congrArg Int.ofNat HJ.out)
            go_cut [10] from 42 to 46 (fun s10 wx => (s10 = .int .i64 (mm : Int)) ∧ Below wc.heap.size wc wx)
            case first =>
              as_aux_lemma =>
                go_wp2_with fail
                go_meet
                exact ⟨congrArg (Value.int .i64) (by have h2 := HMM.out; omega), Below.refl _ _⟩
            case rest =>
              obtain ⟨rfl, hst⟩ := hcut
              replace hX := hX.up hst
              replace hB6 := hB6.up hst
              replace hS7 := hS7.up hst
              replace hS8 := hS8.up hst
              replace hW := btr hW hst
              clear hst
              obtain ⟨i0, hi0, hz0, hz1, hz2⟩ := info_parts int_info
              obtain ⟨W2, hW2⟩ : ∃ W2, wc.alloc (.cells #[] 3) = W2 := ⟨_, rfl⟩
              have K2 := Lib.hid (show Below wc.heap.size wc W2 from by rw [← hW2]; go_grown)
              have z2 : W2.heap.size = wc.heap.size + 1 := by rw [← hW2]; simp
              have O7 := Lib.hid (show W2.ownsRow wc.heap.size 3 1 (.slice (some ⟨wc.heap.size, 0, none⟩) 0 0) 0 (flat 1 iEnc []) by
                have := World.ownsRow_lit (e := 3) (size := 1) (base := wc.heap.size) wc #[] 0 (by simp) (by decide) rfl
                rw [← hW2]; exact this)
              have HW2 := Lib.hid hW2; clear hW2
              go_wp2_with fail
              rw [HW2.out]
              go_loopg [11, 12] na (fun N s11 v12 wr => ∃ (K : Nat) (v11 : Value), v12 = .int .i64 K ∧ v11 = s11 ∧ K ≤ na ∧ N = na - K ∧ wr.ownsRow wc.heap.size 3 1 v11 ((a.take K).map cnot).length (flat 1 iEnc ((a.take K).map cnot)) ∧ Below wc.heap.size W2 wr)
              case atStart => exact ⟨0, _, rfl, rfl, by omega, rfl, O7.out, Below.refl _ _⟩
              case round =>
                obtain ⟨K, v11, rfl, rfl, hK, hN, ho7, hB⟩ := hrel
                have HNk := Lib.hid hN; clear hN
                have hml : ((a.take K).map cnot).length = K := by have := LA.out; simp; omega
                have HML := Lib.hid hml
                have HO := Lib.hid ho7; have HBR := Lib.hid hB
                have hst := K2.out.trans hB
                have hsz := hst.size
                clear hB ho7 hml
                replace hX := hX.up hst
                replace hB6 := hB6.up hst
                replace hS7 := hS7.up hst
                replace hS8 := hS8.up hst
                replace hW := btr hW hst
                clear hst
                by_cases hlt : K < na
                case pos =>
                  have hlt0 : (0 : Int) ≤ (K : Int) := by omega
                  have hlt1 : (K : Int) < (na : Int) := by omega
                  obtain ⟨r, hr⟩ : ∃ r, a[K]? = some r := ⟨_, List.getElem?_eq_getElem (by rw [LA.out]; exact hlt)⟩
                  have HSN := Lib.hid (map_take_snoc' cnot a hr)
                  have hr9 : r ≤ 9223372036854775807 := by (have := HAL.out r (List.mem_of_getElem? hr); omega)
                  obtain ⟨b, off, rfl, hb, hcl⟩ := int_cell hS7.at' hr
                  clear hr
                  go_wp2_with (first | (go_at_call 33; refine (rnot_any _ _ hr9).mono ?_; rintro e w' ⟨rfl, rfl⟩) | (at_builtin; go_must (refine wpList_app2 (enc := iEnc) rfl _ _ _ rfl wc.heap.size 3 i0 _ 8 Try.underlying28 hi0 hz0 hz1 hz2 rfl (by omega) _ ((a.take K).map cnot) rfl (HO.out.alloc _) (some ⟨w'.heap.size, 0, none⟩) [cnot r] 1 rfl (fun h => by cases h) (SlAt.int1 (by go_cell)) iEnc_one (by rw [HML.out]; simp [maxLen]; omega) (by rw [HML.out]; simp; omega) (by simp; omega) ?_); intro v2 w3 hown2 hgr2 hbl2 hat2; have HOW2 := Lib.hid hown2; have HBL2 := Lib.hid hbl2; clear hown2 hgr2 hbl2 hat2))
                  go_roundg (na - (K + 1))
                  case measure => (have := HNk.out; omega)
                  case rel =>
                    refine ⟨K + 1, _, by go_num, rfl, by omega, rfl, ?_, HBR.out.trans (Below.trans (Below.alloc (Below.refl _ _) (by omega) _) HBL2.out)⟩
                    rw [HSN.out]; exact HOW2.out
                case neg =>
                  have hkA : K = na := by omega
                  have htk : a.take K = a := by rw [hkA, ← LA.out]; exact List.take_length
                  obtain ⟨qn, cn, hvn, hSn⟩ := SA.of_owns (xs := a') (n := na) (by have := HO.out; rw [htk, HA'.out] at this; exact this) LA'.out
                  subst hvn
                  clear hkA htk HO HML HNk HBR O7 K2 z2 HW2 hsz
                  go_upto_region 12 with fail
                  obtain ⟨p6, c6, k6, k6f, hC6⟩ := id hB6
                  go_cut [13, 14] from 61 to 67 (fun s13 s14 wx => (∃ (b : Nat), s13 = .pointer (some ⟨b, 0, none⟩) ∧ s14 = .int .i64 r ∧ Bx wx b d) ∧ Below wr.heap.size wr wx)
                  case first =>
                    as_aux_lemma =>
                      go_wp2_with (first | (go_at_call 46; refine (atleast_is (k := (mm : Int)) hC6 hS7 (Below.refl _ _) (by omega) (by omega) HAL.out hl hc E1.out).mono ?_; rintro e w2 ⟨p2, cap2, rfl, hC2, hbl⟩))
                      go_meet
                      exact ⟨⟨_, rfl, rfl, Bx.new hC2 _⟩, (by first | exact bal hbl _ | exact bal (btr (by go_grown) hbl) _)⟩
                  case rest =>
                    clear k6 k6f hC6
                    obtain ⟨⟨b13, rfl, rfl, hB13⟩, hst⟩ := hcut
                    replace hX := hX.up hst
                    replace hB6 := hB6.up hst
                    replace hS7 := hS7.up hst
                    replace hS8 := hS8.up hst
                    replace hSn := hSn.up hst
                    replace hW := btr hW hst
                    clear hst
                    go_upto_region 13 with fail
                    obtain ⟨p6, c6, k6, k6f, hC6⟩ := id hB6
                    go_cut [15, 16] from 68 to 77 (fun s15 s16 wx => (∃ (b : Nat), s15 = .pointer (some ⟨b, 0, none⟩) ∧ s16 = .int .i64 q ∧ Bx wx b e) ∧ Below wc.heap.size wc wx)
                    case first =>
                      as_aux_lemma =>
                        go_wp2_with (first | (go_at_call 46; refine (atleast_is (k := (na : Int) - (mm : Int) + 1) hC6 hSn (Below.refl _ _) (by omega) (by omega) HAL'.out hl hc E2.out).mono ?_; rintro e w2 ⟨p2, cap2, rfl, hC2, hbl⟩))
                        go_meet
                        exact ⟨⟨_, rfl, rfl, Bx.new hC2 _⟩, (by first | exact bal hbl _ | exact bal (btr (by go_grown) hbl) _)⟩
                    case rest =>
                      clear k6 k6f hC6
                      obtain ⟨⟨b15, rfl, rfl, hB15⟩, hst⟩ := hcut
                      replace hX := hX.up hst
                      replace hB6 := hB6.up hst
                      replace hS7 := hS7.up hst
                      replace hS8 := hS8.up hst
                      replace hSn := hSn.up hst
                      replace hB13 := hB13.up hst
                      replace hW := btr hW hst
                      clear hst
                      go_upto_region 14 with fail
                      obtain ⟨p6, c6, k6, k6f, hC6⟩ := id hB6
                      have hmj : (mm : Int) - 1 = (j : Int) := by (have := HMM.out; omega)
                      go_cut [17, 18] from 78 to 85 (fun s17 s18 wx => (∃ (b : Nat), s17 = .pointer (some ⟨b, 0, none⟩) ∧ s18 = .int .i64 p ∧ Bx wx b f) ∧ Below wc.heap.size wc wx)
                      case first =>
                        as_aux_lemma =>
                          go_wp2_with (first | (go_at_call 46; refine (atleast_is (k := (j : Int)) hC6 hS7 (Below.refl _ _) (by omega) (by omega) HAL.out hl hc E3.out).mono ?_; rintro e w2 ⟨p2, cap2, rfl, hC2, hbl⟩))
                          go_meet
                          exact ⟨⟨_, rfl, rfl, Bx.new hC2 _⟩, (by first | exact bal hbl _ | exact bal (btr (by go_grown) hbl) _)⟩
                      case rest =>
                        clear k6 k6f hC6
                        obtain ⟨⟨b17, rfl, rfl, hB17⟩, hst⟩ := hcut
                        replace hX := hX.up hst
                        replace hB6 := hB6.up hst
                        replace hS7 := hS7.up hst
                        replace hS8 := hS8.up hst
                        replace hSn := hSn.up hst
                        replace hB13 := hB13.up hst
                        replace hB15 := hB15.up hst
                        replace hW := btr hW hst
                        clear hst
                        go_upto_region 15 with fail
                        obtain ⟨p6, c6, k6, k6f, hC6⟩ := id hB6
                        go_cut [19, 20] from 86 to 91 (fun s19 s20 wx => (∃ (b : Nat) (q : Option Addr) (cq : Nat), s19 = .pointer (some ⟨b, 0, none⟩) ∧ s20 = .slice q na cq ∧ Bx wx b g ∧ SA wx q na cq s) ∧ Below wc.heap.size wc wx)
                        case first =>
                          as_aux_lemma =>
                            go_wp2_with (first | (go_at_call 43; refine (sorter_is hC6 hS7 (Below.refl _ _) (by omega) HAL.out hl hc E4.out M4.out).mono ?_; rintro e w2 ⟨p2, cap2, q2, cq2, rfl, hC2, hS2, hbl⟩))
                            go_meet
                            exact ⟨⟨_, _, _, rfl, rfl, Bx.new hC2 _, hS2.up (bal (Below.refl _ _) _)⟩, (by first | exact bal hbl _ | exact bal (btr (by go_grown) hbl) _)⟩
                        case rest =>
                          clear k6 k6f hC6
                          obtain ⟨⟨b19, q20, cq20, rfl, rfl, hB19, hS20⟩, hst⟩ := hcut
                          replace hX := hX.up hst
                          replace hB6 := hB6.up hst
                          replace hS7 := hS7.up hst
                          replace hS8 := hS8.up hst
                          replace hSn := hSn.up hst
                          replace hB13 := hB13.up hst
                          replace hB15 := hB15.up hst
                          replace hB17 := hB17.up hst
                          replace hW := btr hW hst
                          clear hst
                          go_upto_region 16 with fail
                          obtain ⟨p6, c6, k6, k6f, hC6⟩ := id hB6
                          go_cut [21, 22] from 92 to 97 (fun s21 s22 wx => (∃ (b : Nat) (q : Option Addr) (cq : Nat), s21 = .pointer (some ⟨b, 0, none⟩) ∧ s22 = .slice q na cq ∧ Bx wx b h ∧ SA wx q na cq t) ∧ Below wc.heap.size wc wx)
                          case first =>
                            as_aux_lemma =>
                              go_wp2_with (first | (go_at_call 44; refine (totalizer_is hC6 hS7 (Below.refl _ _) (by omega) HAL.out hl hc E5.out M5.out).mono ?_; rintro e w2 ⟨p2, cap2, q2, cq2, rfl, hC2, hS2, hbl⟩))
                              go_meet
                              exact ⟨⟨_, _, _, rfl, rfl, Bx.new hC2 _, hS2.up (bal (Below.refl _ _) _)⟩, (by first | exact bal hbl _ | exact bal (btr (by go_grown) hbl) _)⟩
                          case rest =>
                            clear k6 k6f hC6
                            obtain ⟨⟨b21, q22, cq22, rfl, rfl, hB21, hS22⟩, hst⟩ := hcut
                            replace hX := hX.up hst
                            replace hB6 := hB6.up hst
                            replace hS7 := hS7.up hst
                            replace hS8 := hS8.up hst
                            replace hSn := hSn.up hst
                            replace hB13 := hB13.up hst
                            replace hB15 := hB15.up hst
                            replace hB17 := hB17.up hst
                            replace hB19 := hB19.up hst
                            replace hS20 := hS20.up hst
                            replace hW := btr hW hst
                            clear hst
                            go_upto_region 19 with fail
                            obtain ⟨p13, c13, k13, k13f, hC13⟩ := id hB13
                            obtain ⟨x0, x1, x2, x3, x4⟩ := id hX; dsimp only at x0 x1 x2 x3 x4
                            go_cut [23] from 108 to 112 (fun s23 wx => (s23 = .bool Y) ∧ Below wc.heap.size wc wx)
                            case first =>
                              as_aux_lemma =>
                                go_wp2_with (first | (go_at_call 31; refine (reval_is (cv := cV) (vals := V) hC13 (Below.refl _ _) (HX.out.va hW).at' G1.out Z1.out rfl hdl h3').mono ?_; rintro e w2 ⟨rfl, hbl⟩))
                                go_meet
                                exact ⟨rfl, (by first | exact hbl | exact btr (by go_grown) hbl)⟩
                            case rest =>
                              clear k13 k13f hC13
                              obtain ⟨rfl, hst⟩ := hcut
                              replace hX := hX.up hst
                              replace hB6 := hB6.up hst
                              replace hS7 := hS7.up hst
                              replace hS8 := hS8.up hst
                              replace hSn := hSn.up hst
                              replace hB13 := hB13.up hst
                              replace hB15 := hB15.up hst
                              replace hB17 := hB17.up hst
                              replace hB19 := hB19.up hst
                              replace hS20 := hS20.up hst
                              replace hB21 := hB21.up hst
                              replace hS22 := hS22.up hst
                              replace hW := btr hW hst
                              clear hst
                              clear x0 x1 x2 x3 x4
                              go_upto_region 20 with fail
                              obtain ⟨p15, c15, k15, k15f, hC15⟩ := id hB15
                              obtain ⟨p17, c17, k17, k17f, hC17⟩ := id hB17
                              obtain ⟨p19, c19, k19, k19f, hC19⟩ := id hB19
                              obtain ⟨p21, c21, k21, k21f, hC21⟩ := id hB21
                              obtain ⟨x0, x1, x2, x3, x4⟩ := id hX; dsimp only at x0 x1 x2 x3 x4
                              have hmj : (mm : Int) - 1 = (j : Int) := by (have := HMM.out; omega)
                              have T1 := Lib.hid (fun (w' : World) (hB' : Below wc.heap.size wc w') => reval_is (cv := cV) (vals := V) hC19 hB' ((HX.out.va hW).at'.mono hB') G4.out Z4.out rfl hgl h3')
                              have T2 := Lib.hid (fun (w' : World) (hB' : Below wc.heap.size wc w') => reval_is (cv := cV) (vals := V) hC21 hB' ((HX.out.va hW).at'.mono hB') G5.out Z5.out rfl hhl h3')
                              have T3 := Lib.hid (fun (w' : World) (hB' : Below wc.heap.size wc w') => reval_is (cv := cV) (vals := V) hC15 hB' ((HX.out.va hW).at'.mono hB') G2.out Z2.out rfl hel h3')
                              obtain ⟨bs, os, rfl, hbs, hcs⟩ := int_cell hS20.at' HSV.out
                              obtain ⟨bt, ot, rfl, hbt, hct⟩ := int_cell hS22.at' HTV.out
                              have hwj : IntKind.i64.wrap (j : Int) = (j : Int) := by (rw [IntWalk.i64_in]; omega)
                              have hj0 : (0 : Int) ≤ (j : Int) := by omega
                              have hj1 : (j : Int) < (na : Int) := by omega
                              cases Y
                              case false =>
                                as_aux_lemma =>
                                  refine wp_region_seq (fun w' => Below wc.heap.size wc w') (by kernel_rfl) (by kernel_rfl) (by first | assumption | go_grown) ?_
                                  refine seq_pure (v := ?_) (by rfl) ?_ ?_
                                  rotate_left
                                  · (intro w hS; go_simp; try with_reducible rfl)
                                  (try simp only [Act.put, List.setIfInBounds_toArray, List.set_cons_zero, List.set_cons_succ])
                                  refine seq_pure (v := ?_) (by rfl) ?_ ?_
                                  rotate_left
                                  · (intro w hS; go_simp; try with_reducible rfl)
                                  (try simp only [Act.put, List.setIfInBounds_toArray, List.set_cons_zero, List.set_cons_succ])
                                  refine seq_pure (v := ?_) (by rfl) ?_ ?_
                                  rotate_left
                                  · (intro w hS; have kk := oldcell hS k19 (World.block_lt_of_cell? _ _ k19); go_simp; try with_reducible rfl)
                                  (try simp only [Act.put, List.setIfInBounds_toArray, List.set_cons_zero, List.set_cons_succ])
                                  refine seq_pure (v := ?_) (by rfl) ?_ ?_
                                  rotate_left
                                  · (intro w hS; go_simp; try with_reducible rfl)
                                  (try simp only [Act.put, List.setIfInBounds_toArray, List.set_cons_zero, List.set_cons_succ])
                                  refine seq_pure (v := ?_) (by rfl) ?_ ?_
                                  rotate_left
                                  · (intro w hS; have kk := oldcell hS x3 (World.block_lt_of_cell? _ _ x3); go_simp; try with_reducible rfl)
                                  (try simp only [Act.put, List.setIfInBounds_toArray, List.set_cons_zero, List.set_cons_succ])
                                  refine seq_pure (v := ?_) (by rfl) ?_ ?_
                                  rotate_left
                                  · (intro w hS; go_simp; try with_reducible rfl)
                                  (try simp only [Act.put, List.setIfInBounds_toArray, List.set_cons_zero, List.set_cons_succ])
                                  refine seq_pure (v := ?_) (by rfl) ?_ ?_
                                  rotate_left
                                  · (intro w hS; go_simp; try with_reducible rfl)
                                  (try simp only [Act.put, List.setIfInBounds_toArray, List.set_cons_zero, List.set_cons_succ])
                                  refine seq_pure (v := ?_) (by rfl) ?_ ?_
                                  rotate_left
                                  · (intro w hS; go_simp; try with_reducible rfl)
                                  (try simp only [Act.put, List.setIfInBounds_toArray, List.set_cons_zero, List.set_cons_succ])
                                  refine seq_pure (v := ?_) (by rfl) ?_ ?_
                                  rotate_left
                                  · (intro w hS; go_simp; try with_reducible rfl)
                                  (try simp only [Act.put, List.setIfInBounds_toArray, List.set_cons_zero, List.set_cons_succ])
                                  refine seq_pure (v := ?_) (by rfl) ?_ ?_
                                  rotate_left
                                  · (intro w hS; have kk := oldcell hS hcs hbs; go_simp; try with_reducible rfl)
                                  (try simp only [Act.put, List.setIfInBounds_toArray, List.set_cons_zero, List.set_cons_succ])
                                  refine seq_call (v := .bool false) (f := ?_) (args := ?_) (by rfl) ?_ ?_ ?_
                                  rotate_left 2
                                  · (intro w hS; go_simp; first | done | with_reducible rfl | (refine ⟨?_, ?_⟩ <;> with_reducible rfl))
                                  · (intro w hS; refine (T1.out w hS).mono ?_; rintro e w' ⟨he, hb⟩; exact ⟨he, btr hS hb⟩)
                                  (try simp only [Act.put, List.setIfInBounds_toArray, List.set_cons_zero, List.set_cons_succ])
                                  refine seq_pure (v := ?_) (by rfl) ?_ ?_
                                  rotate_left
                                  · (intro w hS; go_simp; try with_reducible rfl)
                                  (try simp only [Act.put, List.setIfInBounds_toArray, List.set_cons_zero, List.set_cons_succ])
                                  refine seq_pure (v := ?_) (by rfl) ?_ ?_
                                  rotate_left
                                  · (intro w hS; go_simp; try with_reducible rfl)
                                  (try simp only [Act.put, List.setIfInBounds_toArray, List.set_cons_zero, List.set_cons_succ])
                                  refine seq_pure (v := ?_) (by rfl) ?_ ?_
                                  rotate_left
                                  · (intro w hS; go_simp; try with_reducible rfl)
                                  (try simp only [Act.put, List.setIfInBounds_toArray, List.set_cons_zero, List.set_cons_succ])
                                  refine seq_pure (v := ?_) (by rfl) ?_ ?_
                                  rotate_left
                                  · (intro w hS; go_simp; try with_reducible rfl)
                                  (try simp only [Act.put, List.setIfInBounds_toArray, List.set_cons_zero, List.set_cons_succ])
                                  refine seq_pure (v := ?_) (by rfl) ?_ ?_
                                  rotate_left
                                  · (intro w hS; have kk := oldcell hS k21 (World.block_lt_of_cell? _ _ k21); go_simp; try with_reducible rfl)
                                  (try simp only [Act.put, List.setIfInBounds_toArray, List.set_cons_zero, List.set_cons_succ])
                                  refine seq_pure (v := ?_) (by rfl) ?_ ?_
                                  rotate_left
                                  · (intro w hS; go_simp; try with_reducible rfl)
                                  (try simp only [Act.put, List.setIfInBounds_toArray, List.set_cons_zero, List.set_cons_succ])
                                  refine seq_pure (v := ?_) (by rfl) ?_ ?_
                                  rotate_left
                                  · (intro w hS; have kk := oldcell hS x3 (World.block_lt_of_cell? _ _ x3); go_simp; try with_reducible rfl)
                                  (try simp only [Act.put, List.setIfInBounds_toArray, List.set_cons_zero, List.set_cons_succ])
                                  refine seq_pure (v := ?_) (by rfl) ?_ ?_
                                  rotate_left
                                  · (intro w hS; go_simp; try with_reducible rfl)
                                  (try simp only [Act.put, List.setIfInBounds_toArray, List.set_cons_zero, List.set_cons_succ])
                                  refine seq_pure (v := ?_) (by rfl) ?_ ?_
                                  rotate_left
                                  · (intro w hS; go_simp; try with_reducible rfl)
                                  (try simp only [Act.put, List.setIfInBounds_toArray, List.set_cons_zero, List.set_cons_succ])
                                  refine seq_pure (v := ?_) (by rfl) ?_ ?_
                                  rotate_left
                                  · (intro w hS; go_simp; try with_reducible rfl)
                                  (try simp only [Act.put, List.setIfInBounds_toArray, List.set_cons_zero, List.set_cons_succ])
                                  refine seq_pure (v := ?_) (by rfl) ?_ ?_
                                  rotate_left
                                  · (intro w hS; go_simp; try with_reducible rfl)
                                  (try simp only [Act.put, List.setIfInBounds_toArray, List.set_cons_zero, List.set_cons_succ])
                                  refine seq_pure (v := ?_) (by rfl) ?_ ?_
                                  rotate_left
                                  · (intro w hS; have kk := oldcell hS hct hbt; go_simp; try with_reducible rfl)
                                  (try simp only [Act.put, List.setIfInBounds_toArray, List.set_cons_zero, List.set_cons_succ])
                                  refine seq_call (v := .bool false) (f := ?_) (args := ?_) (by rfl) ?_ ?_ ?_
                                  rotate_left 2
                                  · (intro w hS; go_simp; first | done | with_reducible rfl | (refine ⟨?_, ?_⟩ <;> with_reducible rfl))
                                  · (intro w hS; refine (T2.out w hS).mono ?_; rintro e w' ⟨he, hb⟩; exact ⟨he, btr hS hb⟩)
                                  (try simp only [Act.put, List.setIfInBounds_toArray, List.set_cons_zero, List.set_cons_succ])
                                  refine seq_pure (v := ?_) (by rfl) ?_ ?_
                                  rotate_left
                                  · (intro w hS; go_simp; try with_reducible rfl)
                                  (try simp only [Act.put, List.setIfInBounds_toArray, List.set_cons_zero, List.set_cons_succ])
                                  refine seq_pure (v := ?_) (by rfl) ?_ ?_
                                  rotate_left
                                  · (intro w hS; go_simp; try with_reducible rfl)
                                  (try simp only [Act.put, List.setIfInBounds_toArray, List.set_cons_zero, List.set_cons_succ])
                                  refine seq_pure (v := ?_) (by rfl) ?_ ?_
                                  rotate_left
                                  · (intro w hS; go_simp; try with_reducible rfl)
                                  (try simp only [Act.put, List.setIfInBounds_toArray, List.set_cons_zero, List.set_cons_succ])
                                  refine seq_pure (v := ?_) (by rfl) ?_ ?_
                                  rotate_left
                                  · (intro w hS; go_simp; try with_reducible rfl)
                                  (try simp only [Act.put, List.setIfInBounds_toArray, List.set_cons_zero, List.set_cons_succ])
                                  refine seq_pure (v := ?_) (by rfl) ?_ ?_
                                  rotate_left
                                  · (intro w hS; have kk := oldcell hS k15 (World.block_lt_of_cell? _ _ k15); go_simp; try with_reducible rfl)
                                  (try simp only [Act.put, List.setIfInBounds_toArray, List.set_cons_zero, List.set_cons_succ])
                                  refine seq_pure (v := ?_) (by rfl) ?_ ?_
                                  rotate_left
                                  · (intro w hS; go_simp; try with_reducible rfl)
                                  (try simp only [Act.put, List.setIfInBounds_toArray, List.set_cons_zero, List.set_cons_succ])
                                  refine seq_pure (v := ?_) (by rfl) ?_ ?_
                                  rotate_left
                                  · (intro w hS; have kk := oldcell hS x3 (World.block_lt_of_cell? _ _ x3); go_simp; try with_reducible rfl)
                                  (try simp only [Act.put, List.setIfInBounds_toArray, List.set_cons_zero, List.set_cons_succ])
                                  refine seq_pure (v := ?_) (by rfl) ?_ ?_
                                  rotate_left
                                  · (intro w hS; go_simp; try with_reducible rfl)
                                  (try simp only [Act.put, List.setIfInBounds_toArray, List.set_cons_zero, List.set_cons_succ])
                                  refine seq_call (v := .bool true) (f := ?_) (args := ?_) (by rfl) ?_ ?_ ?_
                                  rotate_left 2
                                  · (intro w hS; go_simp; first | done | with_reducible rfl | (refine ⟨?_, ?_⟩ <;> with_reducible rfl))
                                  · (intro w hS; refine (T3.out w hS).mono ?_; rintro e w' ⟨he, hb⟩; exact ⟨he, btr hS hb⟩)
                                  (try simp only [Act.put, List.setIfInBounds_toArray, List.set_cons_zero, List.set_cons_succ])
                                  refine seq_pure (v := ?_) (by rfl) ?_ ?_
                                  rotate_left
                                  · (intro w hS; go_simp; try with_reducible rfl)
                                  (try simp only [Act.put, List.setIfInBounds_toArray, List.set_cons_zero, List.set_cons_succ])
                                  refine seq_pure (v := ?_) (by rfl) ?_ ?_
                                  rotate_left
                                  · (intro w hS; go_simp; try with_reducible rfl)
                                  (try simp only [Act.put, List.setIfInBounds_toArray, List.set_cons_zero, List.set_cons_succ])
                                  refine seq_pure (v := ?_) (by rfl) ?_ ?_
                                  rotate_left
                                  · (intro w hS; go_simp; try with_reducible rfl)
                                  (try simp only [Act.put, List.setIfInBounds_toArray, List.set_cons_zero, List.set_cons_succ])
                                  refine seq_pure (v := ?_) (by rfl) ?_ ?_
                                  rotate_left
                                  · (intro w hS; go_simp; try with_reducible rfl)
                                  (try simp only [Act.put, List.setIfInBounds_toArray, List.set_cons_zero, List.set_cons_succ])
                                  refine seq_pure (v := ?_) (by rfl) ?_ ?_
                                  rotate_left
                                  · (intro w hS; go_simp; try with_reducible rfl)
                                  (try simp only [Act.put, List.setIfInBounds_toArray, List.set_cons_zero, List.set_cons_succ])
                                  refine seq_pure (v := ?_) (by rfl) ?_ ?_
                                  rotate_left
                                  · (intro w hS; go_simp; try with_reducible rfl)
                                  (try simp only [Act.put, List.setIfInBounds_toArray, List.set_cons_zero, List.set_cons_succ])
                                  refine seq_pure (v := ?_) (by rfl) ?_ ?_
                                  rotate_left
                                  · (intro w hS; go_simp; try with_reducible rfl)
                                  (try simp only [Act.put, List.setIfInBounds_toArray, List.set_cons_zero, List.set_cons_succ])
                                  refine seq_off (by rfl) ?_
                                  (try simp only [Act.put, List.setIfInBounds_toArray, List.set_cons_zero, List.set_cons_succ])
                                  refine seq_off (by rfl) ?_
                                  (try simp only [Act.put, List.setIfInBounds_toArray, List.set_cons_zero, List.set_cons_succ])
                                  refine seq_off (by rfl) ?_
                                  (try simp only [Act.put, List.setIfInBounds_toArray, List.set_cons_zero, List.set_cons_succ])
                                  refine seq_off (by rfl) ?_
                                  (try simp only [Act.put, List.setIfInBounds_toArray, List.set_cons_zero, List.set_cons_succ])
                                  refine seq_off (by rfl) ?_
                                  (try simp only [Act.put, List.setIfInBounds_toArray, List.set_cons_zero, List.set_cons_succ])
                                  refine seq_pure (v := ?_) (by rfl) ?_ ?_
                                  rotate_left
                                  · (intro w hS; go_simp; try with_reducible rfl)
                                  (try simp only [Act.put, List.setIfInBounds_toArray, List.set_cons_zero, List.set_cons_succ])
                                  refine seq_pure (v := ?_) (by rfl) ?_ ?_
                                  rotate_left
                                  · (intro w hS; go_simp; try with_reducible rfl)
                                  (try simp only [Act.put, List.setIfInBounds_toArray, List.set_cons_zero, List.set_cons_succ])
                                  refine seq_pure (v := ?_) (by rfl) ?_ ?_
                                  rotate_left
                                  · (intro w hS; go_simp; try with_reducible rfl)
                                  (try simp only [Act.put, List.setIfInBounds_toArray, List.set_cons_zero, List.set_cons_succ])
                                  refine seq_nil ?_
                                  intro w2 HB0
                                  go_wp2_with fail
                                  go_ret
                                  exact ⟨rfl, btr hW HB0⟩
                              case true =>
                                have T4 := Lib.hid (fun (w' : World) (hB' : Below wc.heap.size wc w') => reval_is (cv := cV) (vals := V) hC17 hB' ((HX.out.va hW).at'.mono hB') G3.out (Z3.out rfl) rfl hfl h3')
                                as_aux_lemma =>
                                  refine wp_region_seq (fun w' => Below wc.heap.size wc w') (by kernel_rfl) (by kernel_rfl) (by first | assumption | go_grown) ?_
                                  refine seq_pure (v := ?_) (by rfl) ?_ ?_
                                  rotate_left
                                  · (intro w hS; go_simp; try with_reducible rfl)
                                  (try simp only [Act.put, List.setIfInBounds_toArray, List.set_cons_zero, List.set_cons_succ])
                                  refine seq_pure (v := ?_) (by rfl) ?_ ?_
                                  rotate_left
                                  · (intro w hS; go_simp; try with_reducible rfl)
                                  (try simp only [Act.put, List.setIfInBounds_toArray, List.set_cons_zero, List.set_cons_succ])
                                  refine seq_pure (v := ?_) (by rfl) ?_ ?_
                                  rotate_left
                                  · (intro w hS; have kk := oldcell hS k19 (World.block_lt_of_cell? _ _ k19); go_simp; try with_reducible rfl)
                                  (try simp only [Act.put, List.setIfInBounds_toArray, List.set_cons_zero, List.set_cons_succ])
                                  refine seq_pure (v := ?_) (by rfl) ?_ ?_
                                  rotate_left
                                  · (intro w hS; go_simp; try with_reducible rfl)
                                  (try simp only [Act.put, List.setIfInBounds_toArray, List.set_cons_zero, List.set_cons_succ])
                                  refine seq_pure (v := ?_) (by rfl) ?_ ?_
                                  rotate_left
                                  · (intro w hS; have kk := oldcell hS x3 (World.block_lt_of_cell? _ _ x3); go_simp; try with_reducible rfl)
                                  (try simp only [Act.put, List.setIfInBounds_toArray, List.set_cons_zero, List.set_cons_succ])
                                  refine seq_pure (v := ?_) (by rfl) ?_ ?_
                                  rotate_left
                                  · (intro w hS; go_simp; try with_reducible rfl)
                                  (try simp only [Act.put, List.setIfInBounds_toArray, List.set_cons_zero, List.set_cons_succ])
                                  refine seq_pure (v := ?_) (by rfl) ?_ ?_
                                  rotate_left
                                  · (intro w hS; go_simp; try with_reducible rfl)
                                  (try simp only [Act.put, List.setIfInBounds_toArray, List.set_cons_zero, List.set_cons_succ])
                                  refine seq_pure (v := ?_) (by rfl) ?_ ?_
                                  rotate_left
                                  · (intro w hS; go_simp; try with_reducible rfl)
                                  (try simp only [Act.put, List.setIfInBounds_toArray, List.set_cons_zero, List.set_cons_succ])
                                  refine seq_pure (v := ?_) (by rfl) ?_ ?_
                                  rotate_left
                                  · (intro w hS; go_simp; try with_reducible rfl)
                                  (try simp only [Act.put, List.setIfInBounds_toArray, List.set_cons_zero, List.set_cons_succ])
                                  refine seq_pure (v := ?_) (by rfl) ?_ ?_
                                  rotate_left
                                  · (intro w hS; have kk := oldcell hS hcs hbs; go_simp; try with_reducible rfl)
                                  (try simp only [Act.put, List.setIfInBounds_toArray, List.set_cons_zero, List.set_cons_succ])
                                  refine seq_call (v := .bool true) (f := ?_) (args := ?_) (by rfl) ?_ ?_ ?_
                                  rotate_left 2
                                  · (intro w hS; go_simp; first | done | with_reducible rfl | (refine ⟨?_, ?_⟩ <;> with_reducible rfl))
                                  · (intro w hS; refine (T1.out w hS).mono ?_; rintro e w' ⟨he, hb⟩; exact ⟨he, btr hS hb⟩)
                                  (try simp only [Act.put, List.setIfInBounds_toArray, List.set_cons_zero, List.set_cons_succ])
                                  refine seq_pure (v := ?_) (by rfl) ?_ ?_
                                  rotate_left
                                  · (intro w hS; go_simp; try with_reducible rfl)
                                  (try simp only [Act.put, List.setIfInBounds_toArray, List.set_cons_zero, List.set_cons_succ])
                                  refine seq_pure (v := ?_) (by rfl) ?_ ?_
                                  rotate_left
                                  · (intro w hS; go_simp; try with_reducible rfl)
                                  (try simp only [Act.put, List.setIfInBounds_toArray, List.set_cons_zero, List.set_cons_succ])
                                  refine seq_pure (v := ?_) (by rfl) ?_ ?_
                                  rotate_left
                                  · (intro w hS; go_simp; try with_reducible rfl)
                                  (try simp only [Act.put, List.setIfInBounds_toArray, List.set_cons_zero, List.set_cons_succ])
                                  refine seq_pure (v := ?_) (by rfl) ?_ ?_
                                  rotate_left
                                  · (intro w hS; go_simp; try with_reducible rfl)
                                  (try simp only [Act.put, List.setIfInBounds_toArray, List.set_cons_zero, List.set_cons_succ])
                                  refine seq_pure (v := ?_) (by rfl) ?_ ?_
                                  rotate_left
                                  · (intro w hS; have kk := oldcell hS k21 (World.block_lt_of_cell? _ _ k21); go_simp; try with_reducible rfl)
                                  (try simp only [Act.put, List.setIfInBounds_toArray, List.set_cons_zero, List.set_cons_succ])
                                  refine seq_pure (v := ?_) (by rfl) ?_ ?_
                                  rotate_left
                                  · (intro w hS; go_simp; try with_reducible rfl)
                                  (try simp only [Act.put, List.setIfInBounds_toArray, List.set_cons_zero, List.set_cons_succ])
                                  refine seq_pure (v := ?_) (by rfl) ?_ ?_
                                  rotate_left
                                  · (intro w hS; have kk := oldcell hS x3 (World.block_lt_of_cell? _ _ x3); go_simp; try with_reducible rfl)
                                  (try simp only [Act.put, List.setIfInBounds_toArray, List.set_cons_zero, List.set_cons_succ])
                                  refine seq_pure (v := ?_) (by rfl) ?_ ?_
                                  rotate_left
                                  · (intro w hS; go_simp; try with_reducible rfl)
                                  (try simp only [Act.put, List.setIfInBounds_toArray, List.set_cons_zero, List.set_cons_succ])
                                  refine seq_pure (v := ?_) (by rfl) ?_ ?_
                                  rotate_left
                                  · (intro w hS; go_simp; try with_reducible rfl)
                                  (try simp only [Act.put, List.setIfInBounds_toArray, List.set_cons_zero, List.set_cons_succ])
                                  refine seq_pure (v := ?_) (by rfl) ?_ ?_
                                  rotate_left
                                  · (intro w hS; go_simp; try with_reducible rfl)
                                  (try simp only [Act.put, List.setIfInBounds_toArray, List.set_cons_zero, List.set_cons_succ])
                                  refine seq_pure (v := ?_) (by rfl) ?_ ?_
                                  rotate_left
                                  · (intro w hS; go_simp; try with_reducible rfl)
                                  (try simp only [Act.put, List.setIfInBounds_toArray, List.set_cons_zero, List.set_cons_succ])
                                  refine seq_pure (v := ?_) (by rfl) ?_ ?_
                                  rotate_left
                                  · (intro w hS; have kk := oldcell hS hct hbt; go_simp; try with_reducible rfl)
                                  (try simp only [Act.put, List.setIfInBounds_toArray, List.set_cons_zero, List.set_cons_succ])
                                  refine seq_call (v := .bool true) (f := ?_) (args := ?_) (by rfl) ?_ ?_ ?_
                                  rotate_left 2
                                  · (intro w hS; go_simp; first | done | with_reducible rfl | (refine ⟨?_, ?_⟩ <;> with_reducible rfl))
                                  · (intro w hS; refine (T2.out w hS).mono ?_; rintro e w' ⟨he, hb⟩; exact ⟨he, btr hS hb⟩)
                                  (try simp only [Act.put, List.setIfInBounds_toArray, List.set_cons_zero, List.set_cons_succ])
                                  refine seq_pure (v := ?_) (by rfl) ?_ ?_
                                  rotate_left
                                  · (intro w hS; go_simp; try with_reducible rfl)
                                  (try simp only [Act.put, List.setIfInBounds_toArray, List.set_cons_zero, List.set_cons_succ])
                                  refine seq_pure (v := ?_) (by rfl) ?_ ?_
                                  rotate_left
                                  · (intro w hS; go_simp; try with_reducible rfl)
                                  (try simp only [Act.put, List.setIfInBounds_toArray, List.set_cons_zero, List.set_cons_succ])
                                  refine seq_pure (v := ?_) (by rfl) ?_ ?_
                                  rotate_left
                                  · (intro w hS; go_simp; try with_reducible rfl)
                                  (try simp only [Act.put, List.setIfInBounds_toArray, List.set_cons_zero, List.set_cons_succ])
                                  refine seq_pure (v := ?_) (by rfl) ?_ ?_
                                  rotate_left
                                  · (intro w hS; go_simp; try with_reducible rfl)
                                  (try simp only [Act.put, List.setIfInBounds_toArray, List.set_cons_zero, List.set_cons_succ])
                                  refine seq_pure (v := ?_) (by rfl) ?_ ?_
                                  rotate_left
                                  · (intro w hS; have kk := oldcell hS k15 (World.block_lt_of_cell? _ _ k15); go_simp; try with_reducible rfl)
                                  (try simp only [Act.put, List.setIfInBounds_toArray, List.set_cons_zero, List.set_cons_succ])
                                  refine seq_pure (v := ?_) (by rfl) ?_ ?_
                                  rotate_left
                                  · (intro w hS; go_simp; try with_reducible rfl)
                                  (try simp only [Act.put, List.setIfInBounds_toArray, List.set_cons_zero, List.set_cons_succ])
                                  refine seq_pure (v := ?_) (by rfl) ?_ ?_
                                  rotate_left
                                  · (intro w hS; have kk := oldcell hS x3 (World.block_lt_of_cell? _ _ x3); go_simp; try with_reducible rfl)
                                  (try simp only [Act.put, List.setIfInBounds_toArray, List.set_cons_zero, List.set_cons_succ])
                                  refine seq_pure (v := ?_) (by rfl) ?_ ?_
                                  rotate_left
                                  · (intro w hS; go_simp; try with_reducible rfl)
                                  (try simp only [Act.put, List.setIfInBounds_toArray, List.set_cons_zero, List.set_cons_succ])
                                  refine seq_call (v := .bool false) (f := ?_) (args := ?_) (by rfl) ?_ ?_ ?_
                                  rotate_left 2
                                  · (intro w hS; go_simp; first | done | with_reducible rfl | (refine ⟨?_, ?_⟩ <;> with_reducible rfl))
                                  · (intro w hS; refine (T3.out w hS).mono ?_; rintro e w' ⟨he, hb⟩; exact ⟨he, btr hS hb⟩)
                                  (try simp only [Act.put, List.setIfInBounds_toArray, List.set_cons_zero, List.set_cons_succ])
                                  refine seq_pure (v := ?_) (by rfl) ?_ ?_
                                  rotate_left
                                  · (intro w hS; go_simp; try with_reducible rfl)
                                  (try simp only [Act.put, List.setIfInBounds_toArray, List.set_cons_zero, List.set_cons_succ])
                                  refine seq_pure (v := ?_) (by rfl) ?_ ?_
                                  rotate_left
                                  · (intro w hS; go_simp; try with_reducible rfl)
                                  (try simp only [Act.put, List.setIfInBounds_toArray, List.set_cons_zero, List.set_cons_succ])
                                  refine seq_pure (v := ?_) (by rfl) ?_ ?_
                                  rotate_left
                                  · (intro w hS; go_simp; try with_reducible rfl)
                                  (try simp only [Act.put, List.setIfInBounds_toArray, List.set_cons_zero, List.set_cons_succ])
                                  refine seq_pure (v := ?_) (by rfl) ?_ ?_
                                  rotate_left
                                  · (intro w hS; go_simp; try with_reducible rfl)
                                  (try simp only [Act.put, List.setIfInBounds_toArray, List.set_cons_zero, List.set_cons_succ])
                                  refine seq_pure (v := ?_) (by rfl) ?_ ?_
                                  rotate_left
                                  · (intro w hS; go_simp; try with_reducible rfl)
                                  (try simp only [Act.put, List.setIfInBounds_toArray, List.set_cons_zero, List.set_cons_succ])
                                  refine seq_pure (v := ?_) (by rfl) ?_ ?_
                                  rotate_left
                                  · (intro w hS; go_simp; try with_reducible rfl)
                                  (try simp only [Act.put, List.setIfInBounds_toArray, List.set_cons_zero, List.set_cons_succ])
                                  refine seq_pure (v := ?_) (by rfl) ?_ ?_
                                  rotate_left
                                  · (intro w hS; go_simp; try with_reducible rfl)
                                  (try simp only [Act.put, List.setIfInBounds_toArray, List.set_cons_zero, List.set_cons_succ])
                                  refine seq_pure (v := ?_) (by rfl) ?_ ?_
                                  rotate_left
                                  · (intro w hS; have kk := oldcell hS k17 (World.block_lt_of_cell? _ _ k17); go_simp; try with_reducible rfl)
                                  (try simp only [Act.put, List.setIfInBounds_toArray, List.set_cons_zero, List.set_cons_succ])
                                  refine seq_pure (v := ?_) (by rfl) ?_ ?_
                                  rotate_left
                                  · (intro w hS; go_simp; try with_reducible rfl)
                                  (try simp only [Act.put, List.setIfInBounds_toArray, List.set_cons_zero, List.set_cons_succ])
                                  refine seq_pure (v := ?_) (by rfl) ?_ ?_
                                  rotate_left
                                  · (intro w hS; have kk := oldcell hS x3 (World.block_lt_of_cell? _ _ x3); go_simp; try with_reducible rfl)
                                  (try simp only [Act.put, List.setIfInBounds_toArray, List.set_cons_zero, List.set_cons_succ])
                                  refine seq_pure (v := ?_) (by rfl) ?_ ?_
                                  rotate_left
                                  · (intro w hS; go_simp; try with_reducible rfl)
                                  (try simp only [Act.put, List.setIfInBounds_toArray, List.set_cons_zero, List.set_cons_succ])
                                  refine seq_call (v := .bool true) (f := ?_) (args := ?_) (by rfl) ?_ ?_ ?_
                                  rotate_left 2
                                  · (intro w hS; go_simp; first | done | with_reducible rfl | (refine ⟨?_, ?_⟩ <;> with_reducible rfl))
                                  · (intro w hS; refine (T4.out w hS).mono ?_; rintro e w' ⟨he, hb⟩; exact ⟨he, btr hS hb⟩)
                                  (try simp only [Act.put, List.setIfInBounds_toArray, List.set_cons_zero, List.set_cons_succ])
                                  refine seq_pure (v := ?_) (by rfl) ?_ ?_
                                  rotate_left
                                  · (intro w hS; go_simp; try with_reducible rfl)
                                  (try simp only [Act.put, List.setIfInBounds_toArray, List.set_cons_zero, List.set_cons_succ])
                                  refine seq_pure (v := ?_) (by rfl) ?_ ?_
                                  rotate_left
                                  · (intro w hS; go_simp; try with_reducible rfl)
                                  (try simp only [Act.put, List.setIfInBounds_toArray, List.set_cons_zero, List.set_cons_succ])
                                  refine seq_pure (v := ?_) (by rfl) ?_ ?_
                                  rotate_left
                                  · (intro w hS; go_simp; try with_reducible rfl)
                                  (try simp only [Act.put, List.setIfInBounds_toArray, List.set_cons_zero, List.set_cons_succ])
                                  refine seq_nil ?_
                                  intro w2 HB0
                                  go_wp2_with fail
                                  go_ret
                                  exact ⟨rfl, btr hW HB0⟩
end Go.Proofs.Ytanlecgpnknhoaa
