/- Walk of CountMatchesReference. -/
import Derived.Test.YtanlecgpnknhoaaC18
namespace Go.Proofs.Ytanlecgpnknhoaa
set_option linter.unusedSimpArgs false
set_option linter.unusedVariables false
open Go.RowKit


theorem raw_plain (L : List Step) (A B : List Nat) (h0 : L.length ≤ 40) (h1 : A.length ≤ 9) (h2 : B.length ≤ 9) :
    ∃ c refs a b, cbuild L = (c, refs) ∧ A.map (cpick refs) = a ∧ B.map (cpick refs) = b ∧ Good c ∧ c.length ≤ 121 ∧ RefsIn a c.length ∧ RefsIn b c.length ∧ a.length = A.length ∧ b.length = B.length := by
  have HB := built L (by omega)
  obtain ⟨c, refs, hcb⟩ : ∃ c refs, cbuild L = (c, refs) := ⟨_, _, rfl⟩
  have hg := HB.good; have hr := HB.refs; have hl := HB.len
  rw [hcb] at hg hr hl
  dsimp only at hg hr hl
  have hp : ∀ n, 0 ≤ cpick refs n ∧ cpick refs n < 2 * (c.length : Int) := fun n => cpick_in hr hg.ne n
  refine ⟨c, refs, _, _, hcb, rfl, rfl, hg, by omega, fun r h => ?_, fun r h => ?_, by simp, by simp⟩
  · obtain ⟨n, _, rfl⟩ := List.mem_map.1 h; exact hp n
  · obtain ⟨n, _, rfl⟩ := List.mem_map.1 h; exact hp n
theorem inputs_is {x : RawV} {q : RawP} {w : World} {c : List Gate} {refs a b : List Int} {na nb : Nat} (hx : RawOk w x q) (h0 : x.L.length ≤ 40) (h1 : x.A.length ≤ 9) (h2 : x.B.length ≤ 9) (hcb : cbuild x.L = (c, refs)) (ha : x.A.map (cpick refs) = a) (hb : x.B.map (cpick refs) = b) (hna : x.A.length = na) (hnb : x.B.length = nb) :
    Calls Try.prog 41 #[.agg #[.slice q.pL x.L.length q.cL, .slice q.pA x.A.length q.cA, .slice q.pB x.B.length q.cB, .slice q.pV x.V.length q.cV, .int .i8 x.by']] w (RetIn w c a b na nb) := by
  subst ha hb hna hnb
  exact inputs_any x q w hx h0 h1 h2 c refs hcb
theorem btr' {B : Nat} {w w1 w2 : World} (h : Below B w w1) (k : Below B w1 w2) : Below B w w2 := h.trans k
theorem sops9 {n : Nat} (h : n ≤ 9) : sOps (plog n n 0) ≤ 126 := by
  match n, h with
  | 0, _ | 1, _ | 2, _ | 3, _ | 4, _ | 5, _ | 6, _ | 7, _ | 8, _ | 9, _ => decide
theorem total_ops {n m : Nat} (h : n ≤ m) : opsTotal n ≤ opsTotal m := Nat.mul_le_mul h (Nat.mul_le_mul h (by omega))
theorem add_ops {x y x' y' : Nat} (h : x ≤ x') (k : y ≤ y') : opsAdd x y ≤ opsAdd x' y' := Nat.mul_le_mul (by omega) (by omega)
theorem cntv_append (c : List Gate) (a b : List Int) (vals : List Bool) : cntv c (a ++ b) vals = cntv c a vals + cntv c b vals := by unfold cntv; rw [List.map_append, cnt_append]
theorem RefsIn.append {a b : List Int} {n : Nat} (h : RefsIn a n) (k : RefsIn b n) : RefsIn (a ++ b) n := fun r hr => (List.mem_append.1 hr).elim (h r) (k r)
theorem SA.of_owns {w : World} {B n : Nat} {v : Value} {xs : List Int} (h : w.ownsRow B 3 1 v xs.length (flat 1 iEnc xs)) (hn : xs.length = n) : ∃ q cq, v = .slice q n cq ∧ SA w q n cq xs := by
  obtain ⟨q, cq, hv, h1, h2, h3, h4⟩ := owns_val (by omega) h
  subst hn
  exact ⟨q, cq, hv, ⟨rfl, h1, h2, h3, h4, fun a ha => (h.lt a.block (by rw [hv, ha]; rfl)).2⟩⟩
/-- The values of a raw input. -/
theorem RawOk.va {w w' : World} {x : RawV} {q : RawP} (h : RawOk w x q) (hB : Below w.heap.size w w') : VA w' q.pV x.V.length x.V := ⟨rfl, h.l3, h.a3.mono hB⟩

theorem atleast_low {l : List Int} {k : Int} {c d : List Gate} {r : Int} (hk : k ≤ 0) (e : (uatleast 0 1 l k).run c = (d, r)) : r = 0 := by
  unfold uatleast at e
  rw [if_pos (.inl hk)] at e
  have := congrArg Prod.snd e
  rw [← show _ = r from this]
  show ureach 0 1 l _ = 0
  unfold ureach
  rw [if_pos (by omega)]
theorem atleast_high {l : List Int} {k : Int} {c d : List Gate} {r : Int} (hk : (l.length : Int) < k) (e : (uatleast 0 1 l k).run c = (d, r)) : r = 1 := by
  unfold uatleast at e
  rw [if_pos (.inr hk)] at e
  have := congrArg Prod.snd e
  rw [← show _ = r from this]
  show ureach 0 1 l _ = 1
  unfold ureach
  rw [if_neg (by omega), if_pos (by omega)]

set_option maxRecDepth 100000 in
set_option maxHeartbeats 8000000 in
theorem matches16_any (x : RawV) (q : RawP) (k : Int) (w : World) (hx : RawOk w x q) (hk : k ≤ 9223372036854775807) :
    Calls Try.prog 10 #[.agg #[.slice q.pL x.L.length q.cL, .slice q.pA x.A.length q.cA, .slice q.pB x.B.length q.cB, .slice q.pV x.V.length q.cV, .int .i8 x.by'], .int .i64 k] w (RetB w true) := by
  obtain ⟨L, A, B, V, by'⟩ := x
  obtain ⟨pL, cL, pA, cA, pB, cB, pV, cV⟩ := q
  dsimp only
  have HX := Lib.hid hx; clear hx
  obtain ⟨W0, hW0, hX, hW⟩ : ∃ W0, w.alloc (.cells #[.slice pL L.length cL, .slice pA A.length cA, .slice pB B.length cB, .slice pV V.length cV, .int .i8 by'] 56) = W0 ∧ RawAt W0 w.heap.size ⟨L, A, B, V, by'⟩ ⟨pL, cL, pA, cA, pB, cB, pV, cV⟩ ∧ Below w.heap.size w W0 := ⟨_, rfl, ⟨by go_cell, by go_cell, by go_cell, by go_cell, by go_cell⟩, by go_grown⟩
  have HW0 := Lib.hid hW0; clear hW0
  obtain ⟨G, hG⟩ : ∃ G, great ⟨L, A, B, V, by'⟩ = G := ⟨_, rfl⟩
  have HG := Lib.hid hG
  cases G
  case true =>
    clear hG
    go_enter Try.func10, Try.ntmps10
    go_upto_region 1 with fail
    rw [HW0.out]
    go_upto_region 1 with fail
    go_cut [5] from 27 to 27 (fun s5 wx => (s5 = .bool true) ∧ Below W0.heap.size W0 wx)
    case first =>
      as_aux_lemma =>
        go_wp2_with (first | (go_at_call 39; refine (head16_any _).mono ?_; rintro e w2 ⟨rfl, hbl⟩))
        go_meet
        exact ⟨rfl, (by first | exact hbl | exact btr (by go_grown) hbl)⟩
    case rest =>
      obtain ⟨rfl, hst⟩ := hcut
      replace hX := hX.up hst
      replace hW := btr hW hst
      clear hst
      obtain ⟨x0, x1, x2, x3, x4⟩ := id hX
      dsimp only at x0 x1 x2 x3 x4
      go_wp2_with (first | (go_at_call 40; refine (great_any ⟨L, A, B, V, by'⟩ ⟨pL, cL, pA, cA, pB, cB, pV, cV⟩ _ HX.out.l0 HX.out.l1 HX.out.l2 HX.out.l3).mono ?_; rw [HG.out]; rintro e w1 ⟨rfl, hb1⟩))
      go_ret
      exact ⟨rfl, btr hW hb1⟩
  case false =>
    obtain ⟨h0, h1, h2, h3⟩ := great_no hG
    dsimp only at h0 h1 h2 h3
    clear hG
    obtain ⟨c, refs, a, b, hcb, ha, hb, gc, hcl, ra, rb, la, lb⟩ := raw_plain L A B h0 h1 h2
    have hl : c.length ≤ 20000 := by omega
    have hc : 0 < c.length := gc.ne
    obtain ⟨na, hna⟩ : ∃ n, A.length = n := ⟨_, rfl⟩
    obtain ⟨nb, hnb⟩ : ∃ n, B.length = n := ⟨_, rfl⟩
    have hna9 : na ≤ 9 := by omega
    have hnb9 : nb ≤ 9 := by omega
    rw [hna] at la; rw [hnb] at lb
    have HAL := Lib.hid (allLe_of ra hl); have HBL := Lib.hid (allLe_of rb hl)
    obtain ⟨d, s, e1⟩ : ∃ d' u', (usorter 1 a).run c = (d', u') := ⟨_, _, rfl⟩
    obtain ⟨e, t, e2⟩ : ∃ d' u', (utotal 0 1 na a).run c = (d', u') := ⟨_, _, rfl⟩
    obtain ⟨f, r, e3⟩ : ∃ d' u', (uatleast 0 1 a k).run c = (d', u') := ⟨_, _, rfl⟩
    obtain ⟨g, q, e4⟩ : ∃ d' u', (uatleast 0 1 a (nb : Int)).run c = (d', u') := ⟨_, _, rfl⟩
    obtain ⟨h, u, e5⟩ : ∃ d' u', (ucount 0 1 a na).run c = (d', u') := ⟨_, _, rfl⟩
    have o1 := sops9 hna9
    have o2 : opsTotal na ≤ 1620 := Nat.le_trans (total_ops hna9) (by decide)
    have o5 : na * opsAdd na 1 ≤ 1800 := Nat.le_trans (Nat.mul_le_mul hna9 (add_ops hna9 (Nat.le_refl 1))) (by decide)
    have o6 : nb * opsAdd nb 1 ≤ 1800 := Nat.le_trans (Nat.mul_le_mul hnb9 (add_ops hnb9 (Nat.le_refl 1))) (by decide)
    have o7 : opsAdd na nb ≤ 360 := Nat.le_trans (add_ops hna9 hnb9) (by decide)
    obtain ⟨g1, N1⟩ := sorter_num gc ra la (by omega) e1
    obtain ⟨g2, N2⟩ := total_num gc ra la (by omega) e2
    obtain ⟨g3, R3⟩ := atleast_rf gc ra la (by omega) e3
    obtain ⟨g4, R4⟩ := atleast_rf gc ra la (by omega) e4
    obtain ⟨g5, N5⟩ := count_num gc ra la (by omega) e5
    have k5 := g5.len
    obtain ⟨i, v, e6⟩ : ∃ d' u', (ucount 0 1 b nb).run h = (d', u') := ⟨_, _, rfl⟩
    obtain ⟨g6, N6⟩ := count_num g5.good (rb.up g5.ge) lb (by omega) e6
    have k6 := g6.len
    have N5' := N5.up g6
    obtain ⟨j, sum, e7⟩ : ∃ d' u', (uadd 0 1 u v).run i = (d', u') := ⟨_, _, rfl⟩
    obtain ⟨y, less, e8⟩ : ∃ d' u', (uless 0 1 cnot u v by').run i = (d', u') := ⟨_, _, rfl⟩
    obtain ⟨g7, N7⟩ := add_num g6.good N5' N6 (by omega) e7
    obtain ⟨g8, R8⟩ := less_rf g6.good N5' N6 (by omega) e8
    have k1 := g1.len; have k2 := g2.len; have k3 := g3.len; have k4 := g4.len; have k7 := g7.len; have k8 := g8.len
    have hm : cntv h b V = cntv c b V := cntv_up g5.pre rb V
    have z3 := R3.ceval V; have z4 := R4.ceval V; have z8 := R8.ceval V
    have y1 : cnum c V a = cntv c a V := cntv_ceval ra V
    have y2 : cnum c V b = cntv c b V := cntv_ceval rb V
    have y3 : cnum i V v = cntv c b V := (N6.count V).trans hm
    have bn := cntv_le c a V
    have bm := cntv_le c b V
    rw [la] at bn; rw [lb] at bm
    try dsimp only at z8
    rw [hm] at z8
    have U1 : ((cntv c a V : Nat) : Int) = ((cntv c a V : Nat) : Int) := rfl
    have U7 : (((fun vals => cntv c a vals + cntv h b vals) V : Nat) : Int) = (cntv c a V : Int) + (cntv c b V : Int) := by show ((cntv c a V + cntv h b V : Nat) : Int) = _; rw [hm]; omega
    obtain ⟨X, hXb⟩ : ∃ P, decide (k ≤ (cntv c a V : Int)) = P := ⟨_, rfl⟩
    obtain ⟨X2, hX2⟩ : ∃ P, decide ((nb : Int) ≤ (cntv c a V : Int)) = P := ⟨_, rfl⟩
    obtain ⟨Y, hY⟩ : ∃ P, decide ((cntv c a V : Int) < (cntv c b V : Int) + by') = P := ⟨_, rfl⟩
    rw [hXb] at z3; rw [hX2] at z4; rw [hY] at z8
    have rlow : k ≤ 0 → r = 0 := fun h => atleast_low h e3
    have rhigh : (na : Int) < k → r = 1 := fun h => atleast_high (by rw [la]; exact h) e3
    obtain ⟨n, hn⟩ : ∃ n, cntv c a V = n := ⟨_, rfl⟩
    obtain ⟨o, ho⟩ : ∃ n, cntv c b V = n := ⟨_, rfl⟩
    have U1 : ((cntv c a V : Nat) : Int) = ((n : Nat) : Int) := by rw [hn]
    rw [hn] at y1 U7 hXb hX2 hY bn; rw [ho] at y2 y3 U7 hY bm
    have hX2' : decide (nb ≤ n) = X2 := by rw [← hX2]; exact decide_eq_decide.2 (by omega)
    have hdl : d.length ≤ 20000 := by omega
    have hel : e.length ≤ 20000 := by omega
    have hfl : f.length ≤ 20000 := by omega
    have hgl : g.length ≤ 20000 := by omega
    have hhl : h.length ≤ 20000 := by omega
    have hil : i.length ≤ 20000 := by omega
    have hjl : j.length ≤ 20000 := by omega
    have hyl : y.length ≤ 20000 := by omega
    have hhp : 0 < h.length := g5.good.ne
    have hip : 0 < i.length := g6.good.ne
    have E1 := Lib.hid e1; have E2 := Lib.hid e2; have E3 := Lib.hid e3; have E4 := Lib.hid e4; have E5 := Lib.hid e5; have E6 := Lib.hid e6; have E7 := Lib.hid e7; have E8 := Lib.hid e8
    have G1 := Lib.hid g1; have G2 := Lib.hid g2; have G3 := Lib.hid g3; have G4 := Lib.hid g4; have G5 := Lib.hid g5; have G6 := Lib.hid g6; have G7 := Lib.hid g7; have G8 := Lib.hid g8
    have M1 := Lib.hid N1; have M2 := Lib.hid N2; have M5 := Lib.hid N5; have M6 := Lib.hid N6; have M7 := Lib.hid N7
    have Y1 := Lib.hid y1; have Y2 := Lib.hid y2; have Y3 := Lib.hid y3; have Z3 := Lib.hid z3; have Z4 := Lib.hid z4; have Z8 := Lib.hid z8
    have HU1 := Lib.hid U1; have HU7 := Lib.hid U7; have HXb := Lib.hid hXb; have HX2 := Lib.hid hX2; have HX2' := Lib.hid hX2'; have HY := Lib.hid hY; have HLO := Lib.hid rlow; have HHI := Lib.hid rhigh
    have AU := Lib.hid (allLe_of N5'.refs hil); have AV := Lib.hid (allLe_of N6.refs hil); have ABh := Lib.hid (allLe_of (rb.up g5.ge) hhl)
    have h3' : V.length ≤ maxLen := HX.out.l3
    have hby0 := HX.out.b0; have hby1 := HX.out.b1
    dsimp only at hby0 hby1
    have GCW := Lib.hid gc.wf
    clear e1 e2 e3 e4 e5 e6 e7 e8 g1 g2 g3 g4 g5 g6 g7 g8 N1 N2 N5 N5' N6 N7 R3 R4 R8 o1 o2 o5 o6 o7 k1 k2 k3 k4 k5 k6 k7 k8 hm z3 z4 z8 y1 y2 y3 hn ho U1 U7 hXb hX2 hX2' hY rlow rhigh
    have HCB := Lib.hid hcb; have HA := Lib.hid ha; have HB := Lib.hid hb; have HNA := Lib.hid hna; have HNB := Lib.hid hnb; have RA := Lib.hid ra; have RB := Lib.hid rb; have LA := Lib.hid la; have LB := Lib.hid lb; have GC := Lib.hid gc
    clear hcb ha hb hna hnb ra rb la lb gc
    go_enter Try.func10, Try.ntmps10
    go_upto_region 1 with fail
    rw [HW0.out]
    go_upto_region 1 with fail
    go_cut [5] from 27 to 27 (fun s5 wx => (s5 = .bool true) ∧ Below W0.heap.size W0 wx)
    case first =>
      as_aux_lemma =>
        go_wp2_with (first | (go_at_call 39; refine (head16_any _).mono ?_; rintro e w2 ⟨rfl, hbl⟩))
        go_meet
        exact ⟨rfl, (by first | exact hbl | exact btr (by go_grown) hbl)⟩
    case rest =>
      obtain ⟨rfl, hst⟩ := hcut
      replace hX := hX.up hst
      replace hW := btr hW hst
      clear hst
      obtain ⟨x0, x1, x2, x3, x4⟩ := id hX
      dsimp only at x0 x1 x2 x3 x4
      go_upto_region 4 with (first | (go_at_call 40; refine (great_any ⟨L, A, B, V, by'⟩ ⟨pL, cL, pA, cA, pB, cB, pV, cV⟩ _ HX.out.l0 HX.out.l1 HX.out.l2 HX.out.l3).mono ?_; rw [HG.out]; rintro e w1 ⟨rfl, hb1⟩))
      have hst1 : Below wc.heap.size wc _ := hb1
      replace hX := hX.up hb1
      replace hW := btr hW hb1
      clear hst1 hb1 x0 x1 x2 x3 x4
      obtain ⟨x0, x1, x2, x3, x4⟩ := id hX
      dsimp only at x0 x1 x2 x3 x4
      go_upto_region 4 with fail
      go_cut [6, 7, 8] from 31 to 36 (fun s6 s7 s8 wx => (∃ (b0 : Nat) (q5 : Option Addr) (c5 : Nat) (q6 : Option Addr) (c6 : Nat), s6 = .pointer (some ⟨b0, 0, none⟩) ∧ s7 = .slice q5 na c5 ∧ s8 = .slice q6 nb c6 ∧ Bx wx b0 c ∧ SA wx q5 na c5 a ∧ SA wx q6 nb c6 b) ∧ Below w1.heap.size w1 wx)
      case first =>
        as_aux_lemma =>
          go_wp2_with (first | (go_at_call 41; refine (inputs_is (x := ⟨L, A, B, V, by'⟩) (q := ⟨pL, cL, pA, cA, pB, cB, pV, cV⟩) (HX.out.up (by exact hW)) h0 h1 h2 HCB.out HA.out HB.out HNA.out HNB.out).mono ?_; rintro e w2 ⟨p2, cap2, q5, c5, q6, c6, rfl, hC2, hSa, hSb, hbl⟩))
          go_meet
          exact ⟨⟨_, _, _, _, _, rfl, rfl, rfl, Bx.new hC2 _, hSa.up (bal (Below.refl _ _) _), hSb.up (bal (Below.refl _ _) _)⟩, bal hbl _⟩
      case rest =>
        obtain ⟨⟨b6, q7, cq7, q8, cq8, rfl, rfl, rfl, hB6, hS7, hS8⟩, hst⟩ := hcut
        replace hX := hX.up hst
        replace hW := btr hW hst
        clear hst
        clear x0 x1 x2 x3 x4
        go_upto_region 5 with fail
        obtain ⟨p6, c6, k6, k6f, hC6⟩ := id hB6
        obtain ⟨x0, x1, x2, x3, x4⟩ := id hX; dsimp only at x0 x1 x2 x3 x4
        go_cut [9] from 37 to 41 (fun s9 wx => (s9 = .int .i64 ((n : Nat) : Int)) ∧ Below wc.heap.size wc wx)
        case first =>
          as_aux_lemma =>
            go_wp2_with (first | (go_at_call 42; refine (number_is (cv := cV) hC6 hS7 (HX.out.va hW) (Below.refl _ _) (by omega) hl GCW.out Y1.out).mono ?_; rintro e w2 ⟨rfl, hbl⟩))
            go_meet
            exact ⟨rfl, (by first | exact hbl | exact btr (by go_grown) hbl)⟩
        case rest =>
          clear k6 k6f hC6
          obtain ⟨rfl, hst⟩ := hcut
          replace hX := hX.up hst
          replace hB6 := hB6.up hst
          replace hS7 := hS7.up hst
          replace hS8 := hS8.up hst
          replace hW := btr hW hst
          clear hst
          clear x0 x1 x2 x3 x4
          go_upto_region 6 with fail
          obtain ⟨p6, c6, k6, k6f, hC6⟩ := id hB6
          obtain ⟨x0, x1, x2, x3, x4⟩ := id hX; dsimp only at x0 x1 x2 x3 x4
          go_cut [10] from 42 to 46 (fun s10 wx => (s10 = .int .i64 ((o : Nat) : Int)) ∧ Below wc.heap.size wc wx)
          case first =>
            as_aux_lemma =>
              go_wp2_with (first | (go_at_call 42; refine (number_is (cv := cV) hC6 hS8 (HX.out.va hW) (Below.refl _ _) (by omega) hl GCW.out Y2.out).mono ?_; rintro e w2 ⟨rfl, hbl⟩))
              go_meet
              exact ⟨rfl, (by first | exact hbl | exact btr (by go_grown) hbl)⟩
          case rest =>
            clear k6 k6f hC6
            obtain ⟨rfl, hst⟩ := hcut
            replace hX := hX.up hst
            replace hB6 := hB6.up hst
            replace hS7 := hS7.up hst
            replace hS8 := hS8.up hst
            replace hW := btr hW hst
            clear hst
            clear x0 x1 x2 x3 x4
            go_upto_region 7 with fail
            obtain ⟨p6, c6, k6, k6f, hC6⟩ := id hB6
            go_cut [11, 12] from 47 to 52 (fun s11 s12 wx => (∃ (b : Nat) (q : Option Addr) (cq : Nat), s11 = .pointer (some ⟨b, 0, none⟩) ∧ s12 = .slice q na cq ∧ Bx wx b d ∧ SA wx q na cq s) ∧ Below wc.heap.size wc wx)
            case first =>
              as_aux_lemma =>
                go_wp2_with (first | (go_at_call 43; refine (sorter_is hC6 hS7 (Below.refl _ _) (by omega) HAL.out hl hc E1.out M1.out.len).mono ?_; rintro e w2 ⟨p2, cap2, q2, cq2, rfl, hC2, hS2, hbl⟩))
                go_meet
                exact ⟨⟨_, _, _, rfl, rfl, Bx.new hC2 _, hS2.up (bal (Below.refl _ _) _)⟩, (by first | exact bal hbl _ | exact bal (btr (by go_grown) hbl) _)⟩
            case rest =>
              clear k6 k6f hC6
              obtain ⟨⟨b11, q12, cq12, rfl, rfl, hB11, hS12⟩, hst⟩ := hcut
              replace hX := hX.up hst
              replace hB6 := hB6.up hst
              replace hS7 := hS7.up hst
              replace hS8 := hS8.up hst
              replace hW := btr hW hst
              clear hst
              go_upto_region 8 with fail
              obtain ⟨p6, c6, k6, k6f, hC6⟩ := id hB6
              go_cut [13, 14] from 53 to 58 (fun s13 s14 wx => (∃ (b : Nat) (q : Option Addr) (cq : Nat), s13 = .pointer (some ⟨b, 0, none⟩) ∧ s14 = .slice q na cq ∧ Bx wx b e ∧ SA wx q na cq t) ∧ Below wc.heap.size wc wx)
              case first =>
                as_aux_lemma =>
                  go_wp2_with (first | (go_at_call 44; refine (totalizer_is hC6 hS7 (Below.refl _ _) (by omega) HAL.out hl hc E2.out M2.out.len).mono ?_; rintro e w2 ⟨p2, cap2, q2, cq2, rfl, hC2, hS2, hbl⟩))
                  go_meet
                  exact ⟨⟨_, _, _, rfl, rfl, Bx.new hC2 _, hS2.up (bal (Below.refl _ _) _)⟩, (by first | exact bal hbl _ | exact bal (btr (by go_grown) hbl) _)⟩
              case rest =>
                clear k6 k6f hC6
                obtain ⟨⟨b13, q14, cq14, rfl, rfl, hB13, hS14⟩, hst⟩ := hcut
                replace hX := hX.up hst
                replace hB6 := hB6.up hst
                replace hS7 := hS7.up hst
                replace hS8 := hS8.up hst
                replace hB11 := hB11.up hst
                replace hS12 := hS12.up hst
                replace hW := btr hW hst
                clear hst
                go_upto_region 9 with fail
                obtain ⟨p11, c11, k11, k11f, hC11⟩ := id hB11
                obtain ⟨p13, c13, k13, k13f, hC13⟩ := id hB13
                obtain ⟨x0, x1, x2, x3, x4⟩ := id hX; dsimp only at x0 x1 x2 x3 x4
                have T1 := Lib.hid (fun (w' : World) (hB' : Below wc.heap.size wc w') => unary_is (cv := cV) hC11 hS12 (HX.out.va hW) hB' (by omega) hdl G1.out.good.wf M1.out HU1.out)
                have T2 := Lib.hid (fun (w' : World) (hB' : Below wc.heap.size wc w') => unary_is (cv := cV) hC13 hS14 (HX.out.va hW) hB' (by omega) hel G2.out.good.wf M2.out HU1.out)
                go_cut [88] from 59 to 87 (fun s88 wx => (s88 = .bool false) ∧ Below wc.heap.size wc wx)
                case first =>
                  as_aux_lemma =>
                    go_wp2_with (first | (go_at_call 45; (with_reducible refine (T1.out _ (by first | exact Below.refl _ _ | assumption)).mono ?_); rintro e w1 ⟨rfl, hb1⟩; have k13 := oldcell hb1 k13 (World.block_lt_of_cell? _ _ k13); have x3 := oldcell hb1 x3 (World.block_lt_of_cell? _ _ x3)) | (go_at_call 45; (with_reducible refine (T2.out _ (by first | exact Below.refl _ _ | assumption)).mono ?_); rintro e w2 ⟨rfl, hb2⟩))
                    go_meet
                    exact ⟨rfl, btr hb1 hb2⟩
                case rest =>
                  clear k11 k11f hC11 k13 k13f hC13
                  obtain ⟨rfl, hst⟩ := hcut
                  replace hX := hX.up hst
                  replace hB6 := hB6.up hst
                  replace hS7 := hS7.up hst
                  replace hS8 := hS8.up hst
                  replace hB11 := hB11.up hst
                  replace hS12 := hS12.up hst
                  replace hB13 := hB13.up hst
                  replace hS14 := hS14.up hst
                  replace hW := btr hW hst
                  clear hst
                  clear x0 x1 x2 x3 x4 T1 T2
                  go_upto_region 11 with fail
                  obtain ⟨p6, c6, k6, k6f, hC6⟩ := id hB6
                  go_cut [15, 16] from 89 to 95 (fun s15 s16 wx => (∃ (b : Nat), s15 = .pointer (some ⟨b, 0, none⟩) ∧ s16 = .int .i64 r ∧ Bx wx b f) ∧ Below wc.heap.size wc wx)
                  case first =>
                    as_aux_lemma =>
                      go_wp2_with (first | (go_at_call 46; refine (atleast_is hC6 hS7 (Below.refl _ _) (by omega) hk HAL.out hl hc E3.out).mono ?_; rintro e w2 ⟨p2, cap2, rfl, hC2, hbl⟩))
                      go_meet
                      exact ⟨⟨_, rfl, rfl, Bx.new hC2 _⟩, (by first | exact bal hbl _ | exact bal (btr (by go_grown) hbl) _)⟩
                  case rest =>
                    clear k6 k6f hC6
                    obtain ⟨⟨b15, rfl, rfl, hB15⟩, hst⟩ := hcut
                    replace hX := hX.up hst
                    replace hB6 := hB6.up hst
                    replace hS7 := hS7.up hst
                    replace hS8 := hS8.up hst
                    replace hB11 := hB11.up hst
                    replace hS12 := hS12.up hst
                    replace hB13 := hB13.up hst
                    replace hS14 := hS14.up hst
                    replace hW := btr hW hst
                    clear hst
                    go_upto_region 12 with fail
                    obtain ⟨p6, c6, k6, k6f, hC6⟩ := id hB6
                    obtain ⟨x0, x1, x2, x3, x4⟩ := id hX; dsimp only at x0 x1 x2 x3 x4
                    go_cut [17, 18] from 96 to 104 (fun s17 s18 wx => (∃ (b : Nat), s17 = .pointer (some ⟨b, 0, none⟩) ∧ s18 = .int .i64 q ∧ Bx wx b g) ∧ Below wc.heap.size wc wx)
                    case first =>
                      as_aux_lemma =>
                        go_wp2_with (first | (go_at_call 46; refine (atleast_is (d := g) (r := q) (k := (B.length : Int)) hC6 hS7 (Below.refl _ _) (by omega) (by omega) HAL.out hl hc (by rw [HNB.out]; exact E4.out)).mono ?_; rintro e w2 ⟨p2, cap2, rfl, hC2, hbl⟩))
                        go_meet
                        exact ⟨⟨_, rfl, rfl, Bx.new hC2 _⟩, (by first | exact bal hbl _ | exact bal (btr (by go_grown) hbl) _)⟩
                    case rest =>
                      clear k6 k6f hC6
                      obtain ⟨⟨b17, rfl, rfl, hB17⟩, hst⟩ := hcut
                      replace hX := hX.up hst
                      replace hB6 := hB6.up hst
                      replace hS7 := hS7.up hst
                      replace hS8 := hS8.up hst
                      replace hB11 := hB11.up hst
                      replace hS12 := hS12.up hst
                      replace hB13 := hB13.up hst
                      replace hS14 := hS14.up hst
                      replace hB15 := hB15.up hst
                      replace hW := btr hW hst
                      clear hst
                      clear x0 x1 x2 x3 x4
                      go_upto_region 13 with fail
                      obtain ⟨p15, c15, k15, k15f, hC15⟩ := id hB15
                      obtain ⟨p17, c17, k17, k17f, hC17⟩ := id hB17
                      obtain ⟨x0, x1, x2, x3, x4⟩ := id hX; dsimp only at x0 x1 x2 x3 x4
                      go_cut [144] from 105 to 143 (fun s144 wx => (s144 = .bool false) ∧ Below wc.heap.size wc wx)
                      case first =>
                        have T1 := Lib.hid (fun (w' : World) (hB' : Below wc.heap.size wc w') => reval_is (cv := cV) (vals := V) hC15 hB' ((HX.out.va hW).at'.mono hB') G3.out.good.wf Z3.out rfl hfl h3')
                        have T2 := Lib.hid (fun (w' : World) (hB' : Below wc.heap.size wc w') => reval_is (cv := cV) (vals := V) hC17 hB' ((HX.out.va hW).at'.mono hB') G4.out.good.wf Z4.out rfl hgl h3')
                        by_cases c1 : k ≤ 0
                        case pos =>
                          have hr0 := HLO.out c1
                          subst hr0
                          have c2 : ¬ (na : Int) < k := by omega
                          as_aux_lemma =>
                            refine wp_region_seq (fun w' => Below wc.heap.size wc w') (by kernel_rfl) (by kernel_rfl) (by go_grown) ?_
                            refine seq_pure (v := ?_) (by rfl) ?_ ?_
                            rotate_left
                            · (intro w hS; have kk := oldcell hS k15 (World.block_lt_of_cell? _ _ k15); go_simp; try with_reducible rfl)
                            (try simp only [Act.put, List.setIfInBounds_toArray, List.set_cons_zero, List.set_cons_succ])
                            refine seq_pure (v := ?_) (by rfl) ?_ ?_
                            rotate_left
                            · (intro w hS; go_simp; try with_reducible rfl)
                            (try simp only [Act.put, List.setIfInBounds_toArray, List.set_cons_zero, List.set_cons_succ])
                            refine seq_pure (v := ?_) (by rfl) ?_ ?_
                            rotate_left
                            · (intro w hS; have kk := oldcell hS x3 (World.block_lt_of_cell? _ _ x3); go_simp; try with_reducible rfl)
                            (try simp only [Act.put, List.setIfInBounds_toArray, List.set_cons_zero, List.set_cons_succ])
                            refine seq_pure (v := ?_) (by rfl) ?_ ?_
                            rotate_left
                            · (intro w hS; go_simp; try with_reducible rfl)
                            (try simp only [Act.put, List.setIfInBounds_toArray, List.set_cons_zero, List.set_cons_succ])
                            refine seq_call (v := .bool X) (f := ?_) (args := ?_) (by rfl) ?_ ?_ ?_
                            rotate_left 2
                            · (intro w hS; go_simp; first | done | with_reducible rfl | (refine ⟨?_, ?_⟩ <;> with_reducible rfl))
                            · (intro w hS; refine (T1.out w hS).mono ?_; rintro e w' ⟨he, hb⟩; exact ⟨he, btr hS hb⟩)
                            (try simp only [Act.put, List.setIfInBounds_toArray, List.set_cons_zero, List.set_cons_succ])
                            refine seq_pure (v := ?_) (by rfl) ?_ ?_
                            rotate_left
                            · (intro w hS; go_simp; try with_reducible rfl)
                            (try simp only [Act.put, List.setIfInBounds_toArray, List.set_cons_zero, List.set_cons_succ])
                            refine seq_pure (v := ?_) (by rfl) ?_ ?_
                            rotate_left
                            · (intro w hS; go_simp; try with_reducible rfl)
                            (try simp only [Act.put, List.setIfInBounds_toArray, List.set_cons_zero, List.set_cons_succ])
                            refine seq_pure (v := ?_) (by rfl) ?_ ?_
                            rotate_left
                            · (intro w hS; have hx := HXb.out; go_simp; try with_reducible rfl)
                            (try simp only [Act.put, List.setIfInBounds_toArray, List.set_cons_zero, List.set_cons_succ])
                            refine seq_pure (v := ?_) (by rfl) ?_ ?_
                            rotate_left
                            · (intro w hS; go_simp; try with_reducible rfl)
                            (try simp only [Act.put, List.setIfInBounds_toArray, List.set_cons_zero, List.set_cons_succ])
                            refine seq_pure (v := ?_) (by rfl) ?_ ?_
                            rotate_left
                            · (intro w hS; go_simp; try with_reducible rfl)
                            (try simp only [Act.put, List.setIfInBounds_toArray, List.set_cons_zero, List.set_cons_succ])
                            refine seq_pure (v := ?_) (by rfl) ?_ ?_
                            rotate_left
                            · (intro w hS; have kk := oldcell hS k17 (World.block_lt_of_cell? _ _ k17); go_simp; try with_reducible rfl)
                            (try simp only [Act.put, List.setIfInBounds_toArray, List.set_cons_zero, List.set_cons_succ])
                            refine seq_pure (v := ?_) (by rfl) ?_ ?_
                            rotate_left
                            · (intro w hS; go_simp; try with_reducible rfl)
                            (try simp only [Act.put, List.setIfInBounds_toArray, List.set_cons_zero, List.set_cons_succ])
                            refine seq_pure (v := ?_) (by rfl) ?_ ?_
                            rotate_left
                            · (intro w hS; have kk := oldcell hS x3 (World.block_lt_of_cell? _ _ x3); go_simp; try with_reducible rfl)
                            (try simp only [Act.put, List.setIfInBounds_toArray, List.set_cons_zero, List.set_cons_succ])
                            refine seq_pure (v := ?_) (by rfl) ?_ ?_
                            rotate_left
                            · (intro w hS; go_simp; try with_reducible rfl)
                            (try simp only [Act.put, List.setIfInBounds_toArray, List.set_cons_zero, List.set_cons_succ])
                            refine seq_call (v := .bool X2) (f := ?_) (args := ?_) (by rfl) ?_ ?_ ?_
                            rotate_left 2
                            · (intro w hS; go_simp; first | done | with_reducible rfl | (refine ⟨?_, ?_⟩ <;> with_reducible rfl))
                            · (intro w hS; refine (T2.out w hS).mono ?_; rintro e w' ⟨he, hb⟩; exact ⟨he, btr hS hb⟩)
                            (try simp only [Act.put, List.setIfInBounds_toArray, List.set_cons_zero, List.set_cons_succ])
                            refine seq_pure (v := ?_) (by rfl) ?_ ?_
                            rotate_left
                            · (intro w hS; go_simp; try with_reducible rfl)
                            (try simp only [Act.put, List.setIfInBounds_toArray, List.set_cons_zero, List.set_cons_succ])
                            refine seq_pure (v := ?_) (by rfl) ?_ ?_
                            rotate_left
                            · (intro w hS; go_simp; try with_reducible rfl)
                            (try simp only [Act.put, List.setIfInBounds_toArray, List.set_cons_zero, List.set_cons_succ])
                            refine seq_pure (v := ?_) (by rfl) ?_ ?_
                            rotate_left
                            · (intro w hS; have kk := oldcell hS x2 (World.block_lt_of_cell? _ _ x2); go_simp; try with_reducible rfl)
                            (try simp only [Act.put, List.setIfInBounds_toArray, List.set_cons_zero, List.set_cons_succ])
                            refine seq_pure (v := ?_) (by rfl) ?_ ?_
                            rotate_left
                            · (intro w hS; go_simp; try with_reducible rfl)
                            (try simp only [Act.put, List.setIfInBounds_toArray, List.set_cons_zero, List.set_cons_succ])
                            refine seq_pure (v := ?_) (by rfl) ?_ ?_
                            rotate_left
                            · (intro w hS; have hx := HX2.out; have hx2 := HX2'.out; have hnb2 := HNB.out; go_simp; try with_reducible rfl)
                            (try simp only [Act.put, List.setIfInBounds_toArray, List.set_cons_zero, List.set_cons_succ])
                            refine seq_pure (v := ?_) (by rfl) ?_ ?_
                            rotate_left
                            · (intro w hS; go_simp; try with_reducible rfl)
                            (try simp only [Act.put, List.setIfInBounds_toArray, List.set_cons_zero, List.set_cons_succ])
                            refine seq_pure (v := ?_) (by rfl) ?_ ?_
                            rotate_left
                            · (intro w hS; go_simp; try with_reducible rfl)
                            (try simp only [Act.put, List.setIfInBounds_toArray, List.set_cons_zero, List.set_cons_succ])
                            refine seq_pure (v := ?_) (by rfl) ?_ ?_
                            rotate_left
                            · (intro w hS; go_simp; try with_reducible rfl)
                            (try simp only [Act.put, List.setIfInBounds_toArray, List.set_cons_zero, List.set_cons_succ])
                            refine seq_pure (v := ?_) (by rfl) ?_ ?_
                            rotate_left
                            · (intro w hS; go_simp; try with_reducible rfl)
                            (try simp only [Act.put, List.setIfInBounds_toArray, List.set_cons_zero, List.set_cons_succ])
                            refine seq_pure (v := ?_) (by rfl) ?_ ?_
                            rotate_left
                            · (intro w hS; go_simp; try with_reducible rfl)
                            (try simp only [Act.put, List.setIfInBounds_toArray, List.set_cons_zero, List.set_cons_succ])
                            refine seq_pure (v := ?_) (by rfl) ?_ ?_
                            rotate_left
                            · (intro w hS; go_simp; try with_reducible rfl)
                            (try simp only [Act.put, List.setIfInBounds_toArray, List.set_cons_zero, List.set_cons_succ])
                            refine seq_pure (v := ?_) (by rfl) ?_ ?_
                            rotate_left
                            · (intro w hS; go_simp; try with_reducible rfl)
                            (try simp only [Act.put, List.setIfInBounds_toArray, List.set_cons_zero, List.set_cons_succ])
                            refine seq_pure (v := ?_) (by rfl) ?_ ?_
                            rotate_left
                            · (intro w hS; go_simp; try with_reducible rfl)
                            (try simp only [Act.put, List.setIfInBounds_toArray, List.set_cons_zero, List.set_cons_succ])
                            refine seq_pure (v := ?_) (by rfl) ?_ ?_
                            rotate_left
                            · (intro w hS; go_simp; try with_reducible rfl)
                            (try simp only [Act.put, List.setIfInBounds_toArray, List.set_cons_zero, List.set_cons_succ])
                            refine seq_pure (v := ?_) (by rfl) ?_ ?_
                            rotate_left
                            · (intro w hS; go_simp; try with_reducible rfl)
                            (try simp only [Act.put, List.setIfInBounds_toArray, List.set_cons_zero, List.set_cons_succ])
                            refine seq_pure (v := ?_) (by rfl) ?_ ?_
                            rotate_left
                            · (intro w hS; go_simp; try with_reducible rfl)
                            (try simp only [Act.put, List.setIfInBounds_toArray, List.set_cons_zero, List.set_cons_succ])
                            refine seq_pure (v := ?_) (by rfl) ?_ ?_
                            rotate_left
                            · (intro w hS; go_simp; try with_reducible rfl)
                            (try simp only [Act.put, List.setIfInBounds_toArray, List.set_cons_zero, List.set_cons_succ])
                            refine seq_pure (v := ?_) (by rfl) ?_ ?_
                            rotate_left
                            · (intro w hS; go_simp; try with_reducible rfl)
                            (try simp only [Act.put, List.setIfInBounds_toArray, List.set_cons_zero, List.set_cons_succ])
                            refine seq_pure (v := ?_) (by rfl) ?_ ?_
                            rotate_left
                            · (intro w hS; go_simp; try with_reducible rfl)
                            (try simp only [Act.put, List.setIfInBounds_toArray, List.set_cons_zero, List.set_cons_succ])
                            refine seq_pure (v := ?_) (by rfl) ?_ ?_
                            rotate_left
                            · (intro w hS; go_simp; try with_reducible rfl)
                            (try simp only [Act.put, List.setIfInBounds_toArray, List.set_cons_zero, List.set_cons_succ])
                            refine seq_pure (v := ?_) (by rfl) ?_ ?_
                            rotate_left
                            · (intro w hS; go_simp; try with_reducible rfl)
                            (try simp only [Act.put, List.setIfInBounds_toArray, List.set_cons_zero, List.set_cons_succ])
                            refine seq_off (by rfl) ?_
                            (try simp only [Act.put, List.setIfInBounds_toArray, List.set_cons_zero, List.set_cons_succ])
                            refine seq_off (by rfl) ?_
                            (try simp only [Act.put, List.setIfInBounds_toArray, List.set_cons_zero, List.set_cons_succ])
                            refine seq_pure (v := ?_) (by rfl) ?_ ?_
                            rotate_left
                            · (intro w hS; go_simp; try with_reducible rfl)
                            (try simp only [Act.put, List.setIfInBounds_toArray, List.set_cons_zero, List.set_cons_succ])
                            refine seq_pure (v := ?_) (by rfl) ?_ ?_
                            rotate_left
                            · (intro w hS; go_simp; try with_reducible rfl)
                            (try simp only [Act.put, List.setIfInBounds_toArray, List.set_cons_zero, List.set_cons_succ])
                            refine seq_nil ?_
                            intro w2 HB0
                            go_wp2_with fail
                            go_meet
                            exact ⟨rfl, HB0⟩
                        case neg =>
                          by_cases c2 : (na : Int) < k
                          case pos =>
                            have hr1 := HHI.out c2
                            subst hr1
                            as_aux_lemma =>
                              refine wp_region_seq (fun w' => Below wc.heap.size wc w') (by kernel_rfl) (by kernel_rfl) (by go_grown) ?_
                              refine seq_pure (v := ?_) (by rfl) ?_ ?_
                              rotate_left
                              · (intro w hS; have kk := oldcell hS k15 (World.block_lt_of_cell? _ _ k15); go_simp; try with_reducible rfl)
                              (try simp only [Act.put, List.setIfInBounds_toArray, List.set_cons_zero, List.set_cons_succ])
                              refine seq_pure (v := ?_) (by rfl) ?_ ?_
                              rotate_left
                              · (intro w hS; go_simp; try with_reducible rfl)
                              (try simp only [Act.put, List.setIfInBounds_toArray, List.set_cons_zero, List.set_cons_succ])
                              refine seq_pure (v := ?_) (by rfl) ?_ ?_
                              rotate_left
                              · (intro w hS; have kk := oldcell hS x3 (World.block_lt_of_cell? _ _ x3); go_simp; try with_reducible rfl)
                              (try simp only [Act.put, List.setIfInBounds_toArray, List.set_cons_zero, List.set_cons_succ])
                              refine seq_pure (v := ?_) (by rfl) ?_ ?_
                              rotate_left
                              · (intro w hS; go_simp; try with_reducible rfl)
                              (try simp only [Act.put, List.setIfInBounds_toArray, List.set_cons_zero, List.set_cons_succ])
                              refine seq_call (v := .bool X) (f := ?_) (args := ?_) (by rfl) ?_ ?_ ?_
                              rotate_left 2
                              · (intro w hS; go_simp; first | done | with_reducible rfl | (refine ⟨?_, ?_⟩ <;> with_reducible rfl))
                              · (intro w hS; refine (T1.out w hS).mono ?_; rintro e w' ⟨he, hb⟩; exact ⟨he, btr hS hb⟩)
                              (try simp only [Act.put, List.setIfInBounds_toArray, List.set_cons_zero, List.set_cons_succ])
                              refine seq_pure (v := ?_) (by rfl) ?_ ?_
                              rotate_left
                              · (intro w hS; go_simp; try with_reducible rfl)
                              (try simp only [Act.put, List.setIfInBounds_toArray, List.set_cons_zero, List.set_cons_succ])
                              refine seq_pure (v := ?_) (by rfl) ?_ ?_
                              rotate_left
                              · (intro w hS; go_simp; try with_reducible rfl)
                              (try simp only [Act.put, List.setIfInBounds_toArray, List.set_cons_zero, List.set_cons_succ])
                              refine seq_pure (v := ?_) (by rfl) ?_ ?_
                              rotate_left
                              · (intro w hS; have hx := HXb.out; go_simp; try with_reducible rfl)
                              (try simp only [Act.put, List.setIfInBounds_toArray, List.set_cons_zero, List.set_cons_succ])
                              refine seq_pure (v := ?_) (by rfl) ?_ ?_
                              rotate_left
                              · (intro w hS; go_simp; try with_reducible rfl)
                              (try simp only [Act.put, List.setIfInBounds_toArray, List.set_cons_zero, List.set_cons_succ])
                              refine seq_pure (v := ?_) (by rfl) ?_ ?_
                              rotate_left
                              · (intro w hS; go_simp; try with_reducible rfl)
                              (try simp only [Act.put, List.setIfInBounds_toArray, List.set_cons_zero, List.set_cons_succ])
                              refine seq_pure (v := ?_) (by rfl) ?_ ?_
                              rotate_left
                              · (intro w hS; have kk := oldcell hS k17 (World.block_lt_of_cell? _ _ k17); go_simp; try with_reducible rfl)
                              (try simp only [Act.put, List.setIfInBounds_toArray, List.set_cons_zero, List.set_cons_succ])
                              refine seq_pure (v := ?_) (by rfl) ?_ ?_
                              rotate_left
                              · (intro w hS; go_simp; try with_reducible rfl)
                              (try simp only [Act.put, List.setIfInBounds_toArray, List.set_cons_zero, List.set_cons_succ])
                              refine seq_pure (v := ?_) (by rfl) ?_ ?_
                              rotate_left
                              · (intro w hS; have kk := oldcell hS x3 (World.block_lt_of_cell? _ _ x3); go_simp; try with_reducible rfl)
                              (try simp only [Act.put, List.setIfInBounds_toArray, List.set_cons_zero, List.set_cons_succ])
                              refine seq_pure (v := ?_) (by rfl) ?_ ?_
                              rotate_left
                              · (intro w hS; go_simp; try with_reducible rfl)
                              (try simp only [Act.put, List.setIfInBounds_toArray, List.set_cons_zero, List.set_cons_succ])
                              refine seq_call (v := .bool X2) (f := ?_) (args := ?_) (by rfl) ?_ ?_ ?_
                              rotate_left 2
                              · (intro w hS; go_simp; first | done | with_reducible rfl | (refine ⟨?_, ?_⟩ <;> with_reducible rfl))
                              · (intro w hS; refine (T2.out w hS).mono ?_; rintro e w' ⟨he, hb⟩; exact ⟨he, btr hS hb⟩)
                              (try simp only [Act.put, List.setIfInBounds_toArray, List.set_cons_zero, List.set_cons_succ])
                              refine seq_pure (v := ?_) (by rfl) ?_ ?_
                              rotate_left
                              · (intro w hS; go_simp; try with_reducible rfl)
                              (try simp only [Act.put, List.setIfInBounds_toArray, List.set_cons_zero, List.set_cons_succ])
                              refine seq_pure (v := ?_) (by rfl) ?_ ?_
                              rotate_left
                              · (intro w hS; go_simp; try with_reducible rfl)
                              (try simp only [Act.put, List.setIfInBounds_toArray, List.set_cons_zero, List.set_cons_succ])
                              refine seq_pure (v := ?_) (by rfl) ?_ ?_
                              rotate_left
                              · (intro w hS; have kk := oldcell hS x2 (World.block_lt_of_cell? _ _ x2); go_simp; try with_reducible rfl)
                              (try simp only [Act.put, List.setIfInBounds_toArray, List.set_cons_zero, List.set_cons_succ])
                              refine seq_pure (v := ?_) (by rfl) ?_ ?_
                              rotate_left
                              · (intro w hS; go_simp; try with_reducible rfl)
                              (try simp only [Act.put, List.setIfInBounds_toArray, List.set_cons_zero, List.set_cons_succ])
                              refine seq_pure (v := ?_) (by rfl) ?_ ?_
                              rotate_left
                              · (intro w hS; have hx := HX2.out; have hx2 := HX2'.out; have hnb2 := HNB.out; go_simp; try with_reducible rfl)
                              (try simp only [Act.put, List.setIfInBounds_toArray, List.set_cons_zero, List.set_cons_succ])
                              refine seq_pure (v := ?_) (by rfl) ?_ ?_
                              rotate_left
                              · (intro w hS; go_simp; try with_reducible rfl)
                              (try simp only [Act.put, List.setIfInBounds_toArray, List.set_cons_zero, List.set_cons_succ])
                              refine seq_pure (v := ?_) (by rfl) ?_ ?_
                              rotate_left
                              · (intro w hS; go_simp; try with_reducible rfl)
                              (try simp only [Act.put, List.setIfInBounds_toArray, List.set_cons_zero, List.set_cons_succ])
                              refine seq_pure (v := ?_) (by rfl) ?_ ?_
                              rotate_left
                              · (intro w hS; go_simp; try with_reducible rfl)
                              (try simp only [Act.put, List.setIfInBounds_toArray, List.set_cons_zero, List.set_cons_succ])
                              refine seq_pure (v := ?_) (by rfl) ?_ ?_
                              rotate_left
                              · (intro w hS; go_simp; try with_reducible rfl)
                              (try simp only [Act.put, List.setIfInBounds_toArray, List.set_cons_zero, List.set_cons_succ])
                              refine seq_pure (v := ?_) (by rfl) ?_ ?_
                              rotate_left
                              · (intro w hS; go_simp; try with_reducible rfl)
                              (try simp only [Act.put, List.setIfInBounds_toArray, List.set_cons_zero, List.set_cons_succ])
                              refine seq_pure (v := ?_) (by rfl) ?_ ?_
                              rotate_left
                              · (intro w hS; go_simp; try with_reducible rfl)
                              (try simp only [Act.put, List.setIfInBounds_toArray, List.set_cons_zero, List.set_cons_succ])
                              refine seq_off (by rfl) ?_
                              (try simp only [Act.put, List.setIfInBounds_toArray, List.set_cons_zero, List.set_cons_succ])
                              refine seq_off (by rfl) ?_
                              (try simp only [Act.put, List.setIfInBounds_toArray, List.set_cons_zero, List.set_cons_succ])
                              refine seq_pure (v := ?_) (by rfl) ?_ ?_
                              rotate_left
                              · (intro w hS; go_simp; try with_reducible rfl)
                              (try simp only [Act.put, List.setIfInBounds_toArray, List.set_cons_zero, List.set_cons_succ])
                              refine seq_pure (v := ?_) (by rfl) ?_ ?_
                              rotate_left
                              · (intro w hS; go_simp; try with_reducible rfl)
                              (try simp only [Act.put, List.setIfInBounds_toArray, List.set_cons_zero, List.set_cons_succ])
                              refine seq_pure (v := ?_) (by rfl) ?_ ?_
                              rotate_left
                              · (intro w hS; go_simp; try with_reducible rfl)
                              (try simp only [Act.put, List.setIfInBounds_toArray, List.set_cons_zero, List.set_cons_succ])
                              refine seq_pure (v := ?_) (by rfl) ?_ ?_
                              rotate_left
                              · (intro w hS; go_simp; try with_reducible rfl)
                              (try simp only [Act.put, List.setIfInBounds_toArray, List.set_cons_zero, List.set_cons_succ])
                              refine seq_pure (v := ?_) (by rfl) ?_ ?_
                              rotate_left
                              · (intro w hS; go_simp; try with_reducible rfl)
                              (try simp only [Act.put, List.setIfInBounds_toArray, List.set_cons_zero, List.set_cons_succ])
                              refine seq_pure (v := ?_) (by rfl) ?_ ?_
                              rotate_left
                              · (intro w hS; go_simp; try with_reducible rfl)
                              (try simp only [Act.put, List.setIfInBounds_toArray, List.set_cons_zero, List.set_cons_succ])
                              refine seq_pure (v := ?_) (by rfl) ?_ ?_
                              rotate_left
                              · (intro w hS; go_simp; try with_reducible rfl)
                              (try simp only [Act.put, List.setIfInBounds_toArray, List.set_cons_zero, List.set_cons_succ])
                              refine seq_pure (v := ?_) (by rfl) ?_ ?_
                              rotate_left
                              · (intro w hS; go_simp; try with_reducible rfl)
                              (try simp only [Act.put, List.setIfInBounds_toArray, List.set_cons_zero, List.set_cons_succ])
                              refine seq_pure (v := ?_) (by rfl) ?_ ?_
                              rotate_left
                              · (intro w hS; go_simp; try with_reducible rfl)
                              (try simp only [Act.put, List.setIfInBounds_toArray, List.set_cons_zero, List.set_cons_succ])
                              refine seq_pure (v := ?_) (by rfl) ?_ ?_
                              rotate_left
                              · (intro w hS; go_simp; try with_reducible rfl)
                              (try simp only [Act.put, List.setIfInBounds_toArray, List.set_cons_zero, List.set_cons_succ])
                              refine seq_pure (v := ?_) (by rfl) ?_ ?_
                              rotate_left
                              · (intro w hS; go_simp; try with_reducible rfl)
                              (try simp only [Act.put, List.setIfInBounds_toArray, List.set_cons_zero, List.set_cons_succ])
                              refine seq_pure (v := ?_) (by rfl) ?_ ?_
                              rotate_left
                              · (intro w hS; go_simp; try with_reducible rfl)
                              (try simp only [Act.put, List.setIfInBounds_toArray, List.set_cons_zero, List.set_cons_succ])
                              refine seq_nil ?_
                              intro w2 HB0
                              go_wp2_with fail
                              go_meet
                              exact ⟨rfl, HB0⟩
                          case neg =>
                            as_aux_lemma =>
                              refine wp_region_seq (fun w' => Below wc.heap.size wc w') (by kernel_rfl) (by kernel_rfl) (by go_grown) ?_
                              refine seq_pure (v := ?_) (by rfl) ?_ ?_
                              rotate_left
                              · (intro w hS; have kk := oldcell hS k15 (World.block_lt_of_cell? _ _ k15); go_simp; try with_reducible rfl)
                              (try simp only [Act.put, List.setIfInBounds_toArray, List.set_cons_zero, List.set_cons_succ])
                              refine seq_pure (v := ?_) (by rfl) ?_ ?_
                              rotate_left
                              · (intro w hS; go_simp; try with_reducible rfl)
                              (try simp only [Act.put, List.setIfInBounds_toArray, List.set_cons_zero, List.set_cons_succ])
                              refine seq_pure (v := ?_) (by rfl) ?_ ?_
                              rotate_left
                              · (intro w hS; have kk := oldcell hS x3 (World.block_lt_of_cell? _ _ x3); go_simp; try with_reducible rfl)
                              (try simp only [Act.put, List.setIfInBounds_toArray, List.set_cons_zero, List.set_cons_succ])
                              refine seq_pure (v := ?_) (by rfl) ?_ ?_
                              rotate_left
                              · (intro w hS; go_simp; try with_reducible rfl)
                              (try simp only [Act.put, List.setIfInBounds_toArray, List.set_cons_zero, List.set_cons_succ])
                              refine seq_call (v := .bool X) (f := ?_) (args := ?_) (by rfl) ?_ ?_ ?_
                              rotate_left 2
                              · (intro w hS; go_simp; first | done | with_reducible rfl | (refine ⟨?_, ?_⟩ <;> with_reducible rfl))
                              · (intro w hS; refine (T1.out w hS).mono ?_; rintro e w' ⟨he, hb⟩; exact ⟨he, btr hS hb⟩)
                              (try simp only [Act.put, List.setIfInBounds_toArray, List.set_cons_zero, List.set_cons_succ])
                              refine seq_pure (v := ?_) (by rfl) ?_ ?_
                              rotate_left
                              · (intro w hS; go_simp; try with_reducible rfl)
                              (try simp only [Act.put, List.setIfInBounds_toArray, List.set_cons_zero, List.set_cons_succ])
                              refine seq_pure (v := ?_) (by rfl) ?_ ?_
                              rotate_left
                              · (intro w hS; go_simp; try with_reducible rfl)
                              (try simp only [Act.put, List.setIfInBounds_toArray, List.set_cons_zero, List.set_cons_succ])
                              refine seq_pure (v := ?_) (by rfl) ?_ ?_
                              rotate_left
                              · (intro w hS; have hx := HXb.out; go_simp; try with_reducible rfl)
                              (try simp only [Act.put, List.setIfInBounds_toArray, List.set_cons_zero, List.set_cons_succ])
                              refine seq_pure (v := ?_) (by rfl) ?_ ?_
                              rotate_left
                              · (intro w hS; go_simp; try with_reducible rfl)
                              (try simp only [Act.put, List.setIfInBounds_toArray, List.set_cons_zero, List.set_cons_succ])
                              refine seq_pure (v := ?_) (by rfl) ?_ ?_
                              rotate_left
                              · (intro w hS; go_simp; try with_reducible rfl)
                              (try simp only [Act.put, List.setIfInBounds_toArray, List.set_cons_zero, List.set_cons_succ])
                              refine seq_pure (v := ?_) (by rfl) ?_ ?_
                              rotate_left
                              · (intro w hS; have kk := oldcell hS k17 (World.block_lt_of_cell? _ _ k17); go_simp; try with_reducible rfl)
                              (try simp only [Act.put, List.setIfInBounds_toArray, List.set_cons_zero, List.set_cons_succ])
                              refine seq_pure (v := ?_) (by rfl) ?_ ?_
                              rotate_left
                              · (intro w hS; go_simp; try with_reducible rfl)
                              (try simp only [Act.put, List.setIfInBounds_toArray, List.set_cons_zero, List.set_cons_succ])
                              refine seq_pure (v := ?_) (by rfl) ?_ ?_
                              rotate_left
                              · (intro w hS; have kk := oldcell hS x3 (World.block_lt_of_cell? _ _ x3); go_simp; try with_reducible rfl)
                              (try simp only [Act.put, List.setIfInBounds_toArray, List.set_cons_zero, List.set_cons_succ])
                              refine seq_pure (v := ?_) (by rfl) ?_ ?_
                              rotate_left
                              · (intro w hS; go_simp; try with_reducible rfl)
                              (try simp only [Act.put, List.setIfInBounds_toArray, List.set_cons_zero, List.set_cons_succ])
                              refine seq_call (v := .bool X2) (f := ?_) (args := ?_) (by rfl) ?_ ?_ ?_
                              rotate_left 2
                              · (intro w hS; go_simp; first | done | with_reducible rfl | (refine ⟨?_, ?_⟩ <;> with_reducible rfl))
                              · (intro w hS; refine (T2.out w hS).mono ?_; rintro e w' ⟨he, hb⟩; exact ⟨he, btr hS hb⟩)
                              (try simp only [Act.put, List.setIfInBounds_toArray, List.set_cons_zero, List.set_cons_succ])
                              refine seq_pure (v := ?_) (by rfl) ?_ ?_
                              rotate_left
                              · (intro w hS; go_simp; try with_reducible rfl)
                              (try simp only [Act.put, List.setIfInBounds_toArray, List.set_cons_zero, List.set_cons_succ])
                              refine seq_pure (v := ?_) (by rfl) ?_ ?_
                              rotate_left
                              · (intro w hS; go_simp; try with_reducible rfl)
                              (try simp only [Act.put, List.setIfInBounds_toArray, List.set_cons_zero, List.set_cons_succ])
                              refine seq_pure (v := ?_) (by rfl) ?_ ?_
                              rotate_left
                              · (intro w hS; have kk := oldcell hS x2 (World.block_lt_of_cell? _ _ x2); go_simp; try with_reducible rfl)
                              (try simp only [Act.put, List.setIfInBounds_toArray, List.set_cons_zero, List.set_cons_succ])
                              refine seq_pure (v := ?_) (by rfl) ?_ ?_
                              rotate_left
                              · (intro w hS; go_simp; try with_reducible rfl)
                              (try simp only [Act.put, List.setIfInBounds_toArray, List.set_cons_zero, List.set_cons_succ])
                              refine seq_pure (v := ?_) (by rfl) ?_ ?_
                              rotate_left
                              · (intro w hS; have hx := HX2.out; have hx2 := HX2'.out; have hnb2 := HNB.out; go_simp; try with_reducible rfl)
                              (try simp only [Act.put, List.setIfInBounds_toArray, List.set_cons_zero, List.set_cons_succ])
                              refine seq_pure (v := ?_) (by rfl) ?_ ?_
                              rotate_left
                              · (intro w hS; go_simp; try with_reducible rfl)
                              (try simp only [Act.put, List.setIfInBounds_toArray, List.set_cons_zero, List.set_cons_succ])
                              refine seq_pure (v := ?_) (by rfl) ?_ ?_
                              rotate_left
                              · (intro w hS; go_simp; try with_reducible rfl)
                              (try simp only [Act.put, List.setIfInBounds_toArray, List.set_cons_zero, List.set_cons_succ])
                              refine seq_pure (v := ?_) (by rfl) ?_ ?_
                              rotate_left
                              · (intro w hS; go_simp; try with_reducible rfl)
                              (try simp only [Act.put, List.setIfInBounds_toArray, List.set_cons_zero, List.set_cons_succ])
                              refine seq_pure (v := ?_) (by rfl) ?_ ?_
                              rotate_left
                              · (intro w hS; go_simp; try with_reducible rfl)
                              (try simp only [Act.put, List.setIfInBounds_toArray, List.set_cons_zero, List.set_cons_succ])
                              refine seq_pure (v := ?_) (by rfl) ?_ ?_
                              rotate_left
                              · (intro w hS; go_simp; try with_reducible rfl)
                              (try simp only [Act.put, List.setIfInBounds_toArray, List.set_cons_zero, List.set_cons_succ])
                              refine seq_pure (v := ?_) (by rfl) ?_ ?_
                              rotate_left
                              · (intro w hS; go_simp; try with_reducible rfl)
                              (try simp only [Act.put, List.setIfInBounds_toArray, List.set_cons_zero, List.set_cons_succ])
                              refine seq_off (by rfl) ?_
                              (try simp only [Act.put, List.setIfInBounds_toArray, List.set_cons_zero, List.set_cons_succ])
                              refine seq_off (by rfl) ?_
                              (try simp only [Act.put, List.setIfInBounds_toArray, List.set_cons_zero, List.set_cons_succ])
                              refine seq_pure (v := ?_) (by rfl) ?_ ?_
                              rotate_left
                              · (intro w hS; go_simp; try with_reducible rfl)
                              (try simp only [Act.put, List.setIfInBounds_toArray, List.set_cons_zero, List.set_cons_succ])
                              refine seq_pure (v := ?_) (by rfl) ?_ ?_
                              rotate_left
                              · (intro w hS; go_simp; try with_reducible rfl)
                              (try simp only [Act.put, List.setIfInBounds_toArray, List.set_cons_zero, List.set_cons_succ])
                              refine seq_pure (v := ?_) (by rfl) ?_ ?_
                              rotate_left
                              · (intro w hS; go_simp; try with_reducible rfl)
                              (try simp only [Act.put, List.setIfInBounds_toArray, List.set_cons_zero, List.set_cons_succ])
                              refine seq_pure (v := ?_) (by rfl) ?_ ?_
                              rotate_left
                              · (intro w hS; go_simp; try with_reducible rfl)
                              (try simp only [Act.put, List.setIfInBounds_toArray, List.set_cons_zero, List.set_cons_succ])
                              refine seq_pure (v := ?_) (by rfl) ?_ ?_
                              rotate_left
                              · (intro w hS; go_simp; try with_reducible rfl)
                              (try simp only [Act.put, List.setIfInBounds_toArray, List.set_cons_zero, List.set_cons_succ])
                              refine seq_pure (v := ?_) (by rfl) ?_ ?_
                              rotate_left
                              · (intro w hS; go_simp; try with_reducible rfl)
                              (try simp only [Act.put, List.setIfInBounds_toArray, List.set_cons_zero, List.set_cons_succ])
                              refine seq_pure (v := ?_) (by rfl) ?_ ?_
                              rotate_left
                              · (intro w hS; go_simp; try with_reducible rfl)
                              (try simp only [Act.put, List.setIfInBounds_toArray, List.set_cons_zero, List.set_cons_succ])
                              refine seq_pure (v := ?_) (by rfl) ?_ ?_
                              rotate_left
                              · (intro w hS; go_simp; try with_reducible rfl)
                              (try simp only [Act.put, List.setIfInBounds_toArray, List.set_cons_zero, List.set_cons_succ])
                              refine seq_off (by rfl) ?_
                              (try simp only [Act.put, List.setIfInBounds_toArray, List.set_cons_zero, List.set_cons_succ])
                              refine seq_off (by rfl) ?_
                              (try simp only [Act.put, List.setIfInBounds_toArray, List.set_cons_zero, List.set_cons_succ])
                              refine seq_pure (v := ?_) (by rfl) ?_ ?_
                              rotate_left
                              · (intro w hS; go_simp; try with_reducible rfl)
                              (try simp only [Act.put, List.setIfInBounds_toArray, List.set_cons_zero, List.set_cons_succ])
                              refine seq_pure (v := ?_) (by rfl) ?_ ?_
                              rotate_left
                              · (intro w hS; go_simp; try with_reducible rfl)
                              (try simp only [Act.put, List.setIfInBounds_toArray, List.set_cons_zero, List.set_cons_succ])
                              refine seq_nil ?_
                              intro w2 HB0
                              go_wp2_with fail
                              go_meet
                              exact ⟨rfl, HB0⟩
                      case rest =>
                        clear k15 k15f hC15 k17 k17f hC17 x0 x1 x2 x3 x4
                        obtain ⟨rfl, hst⟩ := hcut
                        replace hX := hX.up hst
                        replace hB6 := hB6.up hst
                        replace hS7 := hS7.up hst
                        replace hS8 := hS8.up hst
                        replace hB11 := hB11.up hst
                        replace hS12 := hS12.up hst
                        replace hB13 := hB13.up hst
                        replace hS14 := hS14.up hst
                        replace hB15 := hB15.up hst
                        replace hB17 := hB17.up hst
                        replace hW := btr hW hst
                        clear hst
                        go_upto_region 15 with fail
                        obtain ⟨p6, c6, k6, k6f, hC6⟩ := id hB6
                        go_cut [19, 20] from 145 to 150 (fun s19 s20 wx => (∃ (b : Nat) (q : Option Addr) (cq : Nat), s19 = .pointer (some ⟨b, 0, none⟩) ∧ s20 = .slice q na cq ∧ Bx wx b h ∧ SA wx q na cq u) ∧ Below wc.heap.size wc wx)
                        case first =>
                          as_aux_lemma =>
                            go_wp2_with (first | (go_at_call 47; refine (count_is hC6 hS7 (Below.refl _ _) (by omega) HAL.out hl hc E5.out M5.out.len).mono ?_; rintro e w2 ⟨p2, cap2, q2, cq2, rfl, hC2, hS2, hbl⟩))
                            go_meet
                            exact ⟨⟨_, _, _, rfl, rfl, Bx.new hC2 _, hS2.up (bal (Below.refl _ _) _)⟩, (by first | exact bal hbl _ | exact bal (btr (by go_grown) hbl) _)⟩
                        case rest =>
                          clear k6 k6f hC6
                          obtain ⟨⟨b19, q20, cq20, rfl, rfl, hB19, hS20⟩, hst⟩ := hcut
                          replace hX := hX.up hst
                          replace hB6 := hB6.up hst
                          replace hS7 := hS7.up hst
                          replace hS8 := hS8.up hst
                          replace hB11 := hB11.up hst
                          replace hS12 := hS12.up hst
                          replace hB13 := hB13.up hst
                          replace hS14 := hS14.up hst
                          replace hB15 := hB15.up hst
                          replace hB17 := hB17.up hst
                          replace hW := btr hW hst
                          clear hst
                          go_upto_region 16 with fail
                          obtain ⟨p19, c19, k19, k19f, hC19⟩ := id hB19
                          go_cut [21, 22] from 151 to 156 (fun s21 s22 wx => (∃ (b : Nat) (q : Option Addr) (cq : Nat), s21 = .pointer (some ⟨b, 0, none⟩) ∧ s22 = .slice q nb cq ∧ Bx wx b i ∧ SA wx q nb cq v) ∧ Below wc.heap.size wc wx)
                          case first =>
                            as_aux_lemma =>
                              go_wp2_with (first | (go_at_call 47; refine (count_is hC19 hS8 (Below.refl _ _) (by omega) ABh.out hhl hhp E6.out M6.out.len).mono ?_; rintro e w2 ⟨p2, cap2, q2, cq2, rfl, hC2, hS2, hbl⟩))
                              go_meet
                              exact ⟨⟨_, _, _, rfl, rfl, Bx.new hC2 _, hS2.up (bal (Below.refl _ _) _)⟩, (by first | exact bal hbl _ | exact bal (btr (by go_grown) hbl) _)⟩
                          case rest =>
                            clear k19 k19f hC19
                            obtain ⟨⟨b21, q22, cq22, rfl, rfl, hB21, hS22⟩, hst⟩ := hcut
                            replace hX := hX.up hst
                            replace hB6 := hB6.up hst
                            replace hS7 := hS7.up hst
                            replace hS8 := hS8.up hst
                            replace hB11 := hB11.up hst
                            replace hS12 := hS12.up hst
                            replace hB13 := hB13.up hst
                            replace hS14 := hS14.up hst
                            replace hB15 := hB15.up hst
                            replace hB17 := hB17.up hst
                            replace hB19 := hB19.up hst
                            replace hS20 := hS20.up hst
                            replace hW := btr hW hst
                            clear hst
                            go_upto_region 17 with fail
                            obtain ⟨p21, c21, k21, k21f, hC21⟩ := id hB21
                            go_cut [23, 24] from 157 to 163 (fun s23 s24 wx => (∃ (b : Nat) (q : Option Addr) (cq : Nat), s23 = .pointer (some ⟨b, 0, none⟩) ∧ s24 = .slice q (na + nb) cq ∧ Bx wx b j ∧ SA wx q (na + nb) cq sum) ∧ Below wc.heap.size wc wx)
                            case first =>
                              as_aux_lemma =>
                                go_wp2_with (first | (go_at_call 48; refine (add_is hC21 hS20 hS22 (Below.refl _ _) (by omega) (by omega) AU.out AV.out hil hip E7.out M7.out.len).mono ?_; rintro e w2 ⟨p2, cap2, q2, cq2, rfl, hC2, hS2, hbl⟩))
                                go_meet
                                exact ⟨⟨_, _, _, rfl, rfl, Bx.new hC2 _, hS2.up (bal (Below.refl _ _) _)⟩, (by first | exact bal hbl _ | exact bal (btr (by go_grown) hbl) _)⟩
                            case rest =>
                              clear k21 k21f hC21
                              obtain ⟨⟨b23, q24, cq24, rfl, rfl, hB23, hS24⟩, hst⟩ := hcut
                              replace hX := hX.up hst
                              replace hB6 := hB6.up hst
                              replace hS7 := hS7.up hst
                              replace hS8 := hS8.up hst
                              replace hB11 := hB11.up hst
                              replace hS12 := hS12.up hst
                              replace hB13 := hB13.up hst
                              replace hS14 := hS14.up hst
                              replace hB15 := hB15.up hst
                              replace hB17 := hB17.up hst
                              replace hB19 := hB19.up hst
                              replace hS20 := hS20.up hst
                              replace hB21 := hB21.up hst
                              replace hS22 := hS22.up hst
                              replace hW := btr hW hst
                              clear hst
                              go_upto_region 18 with fail
                              obtain ⟨p21, c21, k21, k21f, hC21⟩ := id hB21
                              obtain ⟨x0, x1, x2, x3, x4⟩ := id hX; dsimp only at x0 x1 x2 x3 x4
                              go_cut [25, 26] from 164 to 173 (fun s25 s26 wx => (∃ (b : Nat), s25 = .pointer (some ⟨b, 0, none⟩) ∧ s26 = .int .i64 less ∧ Bx wx b y) ∧ Below wc.heap.size wc wx)
                              case first =>
                                as_aux_lemma =>
                                  go_wp2_with (first | (go_at_call 49; refine (less_is hC21 hS20 hS22 (Below.refl _ _) (by omega) (by omega) (by omega) (by omega) AU.out AV.out hil hip E8.out).mono ?_; rintro e w2 ⟨p2, cap2, rfl, hC2, hbl⟩))
                                  go_meet
                                  exact ⟨⟨_, rfl, rfl, Bx.new hC2 _⟩, (by first | exact bal hbl _ | exact bal (btr (by go_grown) hbl) _)⟩
                              case rest =>
                                clear k21 k21f hC21
                                obtain ⟨⟨b25, rfl, rfl, hB25⟩, hst⟩ := hcut
                                replace hX := hX.up hst
                                replace hB6 := hB6.up hst
                                replace hS7 := hS7.up hst
                                replace hS8 := hS8.up hst
                                replace hB11 := hB11.up hst
                                replace hS12 := hS12.up hst
                                replace hB13 := hB13.up hst
                                replace hS14 := hS14.up hst
                                replace hB15 := hB15.up hst
                                replace hB17 := hB17.up hst
                                replace hB19 := hB19.up hst
                                replace hS20 := hS20.up hst
                                replace hB21 := hB21.up hst
                                replace hS22 := hS22.up hst
                                replace hB23 := hB23.up hst
                                replace hS24 := hS24.up hst
                                replace hW := btr hW hst
                                clear hst
                                clear x0 x1 x2 x3 x4
                                go_upto_region 19 with fail
                                obtain ⟨p6, c6, k6, k6f, hC6⟩ := id hB6
                                obtain ⟨p21, c21, k21, k21f, hC21⟩ := id hB21
                                obtain ⟨p23, c23, k23, k23f, hC23⟩ := id hB23
                                obtain ⟨p25, c25, k25, k25f, hC25⟩ := id hB25
                                obtain ⟨x0, x1, x2, x3, x4⟩ := id hX; dsimp only at x0 x1 x2 x3 x4
                                have T1 := Lib.hid (fun (w' : World) (hB' : Below wc.heap.size wc w') => unary_is (cv := cV) hC23 hS24 (HX.out.va hW) hB' (by omega) hjl G7.out.good.wf M7.out HU7.out)
                                have T2 := Lib.hid (fun (w' : World) (hB' : Below wc.heap.size wc w') => reval_is (cv := cV) (vals := V) hC25 hB' ((HX.out.va hW).at'.mono hB') G8.out.good.wf Z8.out rfl hyl h3')
                                have T3 := Lib.hid (fun (w' : World) (hB' : Below wc.heap.size wc w') => value16_is (cv := cV) hC6 hS7 (HX.out.va hW) hB' (by omega) hl GCW.out Y1.out)
                                have T4 := Lib.hid (fun (w' : World) (hB' : Below wc.heap.size wc w') => value16_is (cv := cV) hC21 hS22 (HX.out.va hW) hB' (by omega) hil G6.out.good.wf Y3.out)
                                have hwr : IntKind.i64.wrap ((na : Int) + (nb : Int)) = (na : Int) + (nb : Int) := by (rw [IntWalk.i64_in]; omega)
                                have hwr2 : IntKind.i64.wrap ((n : Int) + (o : Int)) = (n : Int) + (o : Int) := by (rw [IntWalk.i64_in]; omega)
                                have hwb : IntKind.i64.wrap by' = by' := by (rw [IntWalk.i64_in]; omega)
                                have hwr3 : IntKind.i64.wrap ((o : Int) + by') = (o : Int) + by' := by (rw [IntWalk.i64_in]; omega)
                                refine wp_region_seq (fun w' => Below wc.heap.size wc w') (by kernel_rfl) (by kernel_rfl) (by go_grown) ?_
                                refine seq_pure (v := ?_) (by rfl) ?_ ?_
                                rotate_left
                                · (intro w hS; go_simp; try with_reducible rfl)
                                (try simp only [Act.put, List.setIfInBounds_toArray, List.set_cons_zero, List.set_cons_succ])
                                refine seq_pure (v := ?_) (by rfl) ?_ ?_
                                rotate_left
                                · (intro w hS; go_simp; try with_reducible rfl)
                                (try simp only [Act.put, List.setIfInBounds_toArray, List.set_cons_zero, List.set_cons_succ])
                                refine seq_pure (v := ?_) (by rfl) ?_ ?_
                                rotate_left
                                · (intro w hS; go_simp; try with_reducible rfl)
                                (try simp only [Act.put, List.setIfInBounds_toArray, List.set_cons_zero, List.set_cons_succ])
                                refine seq_pure (v := ?_) (by rfl) ?_ ?_
                                rotate_left
                                · (intro w hS; go_simp; try with_reducible rfl)
                                (try simp only [Act.put, List.setIfInBounds_toArray, List.set_cons_zero, List.set_cons_succ])
                                refine seq_pure (v := ?_) (by rfl) ?_ ?_
                                rotate_left
                                · (intro w hS; go_simp; try with_reducible rfl)
                                (try simp only [Act.put, List.setIfInBounds_toArray, List.set_cons_zero, List.set_cons_succ])
                                refine seq_pure (v := ?_) (by rfl) ?_ ?_
                                rotate_left
                                · (intro w hS; go_simp; try with_reducible rfl)
                                (try simp only [Act.put, List.setIfInBounds_toArray, List.set_cons_zero, List.set_cons_succ])
                                refine seq_pure (v := ?_) (by rfl) ?_ ?_
                                rotate_left
                                · (intro w hS; go_simp; try with_reducible rfl)
                                (try simp only [Act.put, List.setIfInBounds_toArray, List.set_cons_zero, List.set_cons_succ])
                                refine seq_pure (v := ?_) (by rfl) ?_ ?_
                                rotate_left
                                · (intro w hS; go_simp; try with_reducible rfl)
                                (try simp only [Act.put, List.setIfInBounds_toArray, List.set_cons_zero, List.set_cons_succ])
                                refine seq_pure (v := ?_) (by rfl) ?_ ?_
                                rotate_left
                                · (intro w hS; go_simp; try with_reducible rfl)
                                (try simp only [Act.put, List.setIfInBounds_toArray, List.set_cons_zero, List.set_cons_succ])
                                refine seq_pure (v := ?_) (by rfl) ?_ ?_
                                rotate_left
                                · (intro w hS; go_simp; try with_reducible rfl)
                                (try simp only [Act.put, List.setIfInBounds_toArray, List.set_cons_zero, List.set_cons_succ])
                                refine seq_pure (v := ?_) (by rfl) ?_ ?_
                                rotate_left
                                · (intro w hS; go_simp; try with_reducible rfl)
                                (try simp only [Act.put, List.setIfInBounds_toArray, List.set_cons_zero, List.set_cons_succ])
                                refine seq_pure (v := ?_) (by rfl) ?_ ?_
                                rotate_left
                                · (intro w hS; go_simp; try with_reducible rfl)
                                (try simp only [Act.put, List.setIfInBounds_toArray, List.set_cons_zero, List.set_cons_succ])
                                refine seq_pure (v := ?_) (by rfl) ?_ ?_
                                rotate_left
                                · (intro w hS; have kk := oldcell hS k23 (World.block_lt_of_cell? _ _ k23); go_simp; try with_reducible rfl)
                                (try simp only [Act.put, List.setIfInBounds_toArray, List.set_cons_zero, List.set_cons_succ])
                                refine seq_pure (v := ?_) (by rfl) ?_ ?_
                                rotate_left
                                · (intro w hS; go_simp; try with_reducible rfl)
                                (try simp only [Act.put, List.setIfInBounds_toArray, List.set_cons_zero, List.set_cons_succ])
                                refine seq_pure (v := ?_) (by rfl) ?_ ?_
                                rotate_left
                                · (intro w hS; go_simp; try with_reducible rfl)
                                (try simp only [Act.put, List.setIfInBounds_toArray, List.set_cons_zero, List.set_cons_succ])
                                refine seq_pure (v := ?_) (by rfl) ?_ ?_
                                rotate_left
                                · (intro w hS; have kk := oldcell hS x3 (World.block_lt_of_cell? _ _ x3); go_simp; try with_reducible rfl)
                                (try simp only [Act.put, List.setIfInBounds_toArray, List.set_cons_zero, List.set_cons_succ])
                                refine seq_pure (v := ?_) (by rfl) ?_ ?_
                                rotate_left
                                · (intro w hS; go_simp; try with_reducible rfl)
                                (try simp only [Act.put, List.setIfInBounds_toArray, List.set_cons_zero, List.set_cons_succ])
                                refine seq_pure (v := ?_) (by rfl) ?_ ?_
                                rotate_left
                                · (intro w hS; go_simp; try with_reducible rfl)
                                (try simp only [Act.put, List.setIfInBounds_toArray, List.set_cons_zero, List.set_cons_succ])
                                refine seq_pure (v := ?_) (by rfl) ?_ ?_
                                rotate_left
                                · (intro w hS; go_simp; try with_reducible rfl)
                                (try simp only [Act.put, List.setIfInBounds_toArray, List.set_cons_zero, List.set_cons_succ])
                                refine seq_call (v := .bool true) (f := ?_) (args := ?_) (by rfl) ?_ ?_ ?_
                                rotate_left 2
                                · (intro w hS; go_simp; first | done | with_reducible rfl | (refine ⟨?_, ?_⟩ <;> with_reducible rfl))
                                · (intro w hS; refine (T1.out w hS).mono ?_; rintro e w' ⟨he, hb⟩; exact ⟨he, btr hS hb⟩)
                                (try simp only [Act.put, List.setIfInBounds_toArray, List.set_cons_zero, List.set_cons_succ])
                                refine seq_pure (v := ?_) (by rfl) ?_ ?_
                                rotate_left
                                · (intro w hS; go_simp; try with_reducible rfl)
                                (try simp only [Act.put, List.setIfInBounds_toArray, List.set_cons_zero, List.set_cons_succ])
                                refine seq_pure (v := ?_) (by rfl) ?_ ?_
                                rotate_left
                                · (intro w hS; go_simp; try with_reducible rfl)
                                (try simp only [Act.put, List.setIfInBounds_toArray, List.set_cons_zero, List.set_cons_succ])
                                refine seq_pure (v := ?_) (by rfl) ?_ ?_
                                rotate_left
                                · (intro w hS; have kk := oldcell hS k25 (World.block_lt_of_cell? _ _ k25); go_simp; try with_reducible rfl)
                                (try simp only [Act.put, List.setIfInBounds_toArray, List.set_cons_zero, List.set_cons_succ])
                                refine seq_pure (v := ?_) (by rfl) ?_ ?_
                                rotate_left
                                · (intro w hS; go_simp; try with_reducible rfl)
                                (try simp only [Act.put, List.setIfInBounds_toArray, List.set_cons_zero, List.set_cons_succ])
                                refine seq_pure (v := ?_) (by rfl) ?_ ?_
                                rotate_left
                                · (intro w hS; have kk := oldcell hS x3 (World.block_lt_of_cell? _ _ x3); go_simp; try with_reducible rfl)
                                (try simp only [Act.put, List.setIfInBounds_toArray, List.set_cons_zero, List.set_cons_succ])
                                refine seq_pure (v := ?_) (by rfl) ?_ ?_
                                rotate_left
                                · (intro w hS; go_simp; try with_reducible rfl)
                                (try simp only [Act.put, List.setIfInBounds_toArray, List.set_cons_zero, List.set_cons_succ])
                                refine seq_call (v := .bool Y) (f := ?_) (args := ?_) (by rfl) ?_ ?_ ?_
                                rotate_left 2
                                · (intro w hS; go_simp; first | done | with_reducible rfl | (refine ⟨?_, ?_⟩ <;> with_reducible rfl))
                                · (intro w hS; refine (T2.out w hS).mono ?_; rintro e w' ⟨he, hb⟩; exact ⟨he, btr hS hb⟩)
                                (try simp only [Act.put, List.setIfInBounds_toArray, List.set_cons_zero, List.set_cons_succ])
                                refine seq_pure (v := ?_) (by rfl) ?_ ?_
                                rotate_left
                                · (intro w hS; go_simp; try with_reducible rfl)
                                (try simp only [Act.put, List.setIfInBounds_toArray, List.set_cons_zero, List.set_cons_succ])
                                refine seq_pure (v := ?_) (by rfl) ?_ ?_
                                rotate_left
                                · (intro w hS; go_simp; try with_reducible rfl)
                                (try simp only [Act.put, List.setIfInBounds_toArray, List.set_cons_zero, List.set_cons_succ])
                                refine seq_pure (v := ?_) (by rfl) ?_ ?_
                                rotate_left
                                · (intro w hS; go_simp; try with_reducible rfl)
                                (try simp only [Act.put, List.setIfInBounds_toArray, List.set_cons_zero, List.set_cons_succ])
                                refine seq_pure (v := ?_) (by rfl) ?_ ?_
                                rotate_left
                                · (intro w hS; have kk := oldcell hS x4 (World.block_lt_of_cell? _ _ x4); go_simp; try with_reducible rfl)
                                (try simp only [Act.put, List.setIfInBounds_toArray, List.set_cons_zero, List.set_cons_succ])
                                refine seq_pure (v := ?_) (by rfl) ?_ ?_
                                rotate_left
                                · (intro w hS; go_simp; try with_reducible rfl)
                                (try simp only [Act.put, List.setIfInBounds_toArray, List.set_cons_zero, List.set_cons_succ])
                                refine seq_pure (v := ?_) (by rfl) ?_ ?_
                                rotate_left
                                · (intro w hS; go_simp; try with_reducible rfl)
                                (try simp only [Act.put, List.setIfInBounds_toArray, List.set_cons_zero, List.set_cons_succ])
                                refine seq_pure (v := ?_) (by rfl) ?_ ?_
                                rotate_left
                                · (intro w hS; have hx := HY.out; go_simp; try with_reducible rfl)
                                (try simp only [Act.put, List.setIfInBounds_toArray, List.set_cons_zero, List.set_cons_succ])
                                refine seq_pure (v := ?_) (by rfl) ?_ ?_
                                rotate_left
                                · (intro w hS; go_simp; try with_reducible rfl)
                                (try simp only [Act.put, List.setIfInBounds_toArray, List.set_cons_zero, List.set_cons_succ])
                                refine seq_pure (v := ?_) (by rfl) ?_ ?_
                                rotate_left
                                · (intro w hS; go_simp; try with_reducible rfl)
                                (try simp only [Act.put, List.setIfInBounds_toArray, List.set_cons_zero, List.set_cons_succ])
                                refine seq_pure (v := ?_) (by rfl) ?_ ?_
                                rotate_left
                                · (intro w hS; go_simp; try with_reducible rfl)
                                (try simp only [Act.put, List.setIfInBounds_toArray, List.set_cons_zero, List.set_cons_succ])
                                refine seq_pure (v := ?_) (by rfl) ?_ ?_
                                rotate_left
                                · (intro w hS; have kk := oldcell hS k6 (World.block_lt_of_cell? _ _ k6); go_simp; try with_reducible rfl)
                                (try simp only [Act.put, List.setIfInBounds_toArray, List.set_cons_zero, List.set_cons_succ])
                                refine seq_pure (v := ?_) (by rfl) ?_ ?_
                                rotate_left
                                · (intro w hS; go_simp; try with_reducible rfl)
                                (try simp only [Act.put, List.setIfInBounds_toArray, List.set_cons_zero, List.set_cons_succ])
                                refine seq_pure (v := ?_) (by rfl) ?_ ?_
                                rotate_left
                                · (intro w hS; go_simp; try with_reducible rfl)
                                (try simp only [Act.put, List.setIfInBounds_toArray, List.set_cons_zero, List.set_cons_succ])
                                refine seq_pure (v := ?_) (by rfl) ?_ ?_
                                rotate_left
                                · (intro w hS; have kk := oldcell hS x3 (World.block_lt_of_cell? _ _ x3); go_simp; try with_reducible rfl)
                                (try simp only [Act.put, List.setIfInBounds_toArray, List.set_cons_zero, List.set_cons_succ])
                                refine seq_call (v := .int .i64 ((n : Nat) : Int)) (f := ?_) (args := ?_) (by rfl) ?_ ?_ ?_
                                rotate_left 2
                                · (intro w hS; go_simp; first | done | with_reducible rfl | (refine ⟨?_, ?_⟩ <;> with_reducible rfl))
                                · (intro w hS; refine (T3.out w hS).mono ?_; rintro e w' ⟨he, hb⟩; exact ⟨he, btr hS hb⟩)
                                (try simp only [Act.put, List.setIfInBounds_toArray, List.set_cons_zero, List.set_cons_succ])
                                refine seq_pure (v := ?_) (by rfl) ?_ ?_
                                rotate_left
                                · (intro w hS; go_simp; try with_reducible rfl)
                                (try simp only [Act.put, List.setIfInBounds_toArray, List.set_cons_zero, List.set_cons_succ])
                                refine seq_pure (v := ?_) (by rfl) ?_ ?_
                                rotate_left
                                · (intro w hS; go_simp; try with_reducible rfl)
                                (try simp only [Act.put, List.setIfInBounds_toArray, List.set_cons_zero, List.set_cons_succ])
                                refine seq_pure (v := ?_) (by rfl) ?_ ?_
                                rotate_left
                                · (intro w hS; go_simp; try with_reducible rfl)
                                (try simp only [Act.put, List.setIfInBounds_toArray, List.set_cons_zero, List.set_cons_succ])
                                refine seq_pure (v := ?_) (by rfl) ?_ ?_
                                rotate_left
                                · (intro w hS; go_simp; try with_reducible rfl)
                                (try simp only [Act.put, List.setIfInBounds_toArray, List.set_cons_zero, List.set_cons_succ])
                                refine seq_pure (v := ?_) (by rfl) ?_ ?_
                                rotate_left
                                · (intro w hS; have kk := oldcell hS k21 (World.block_lt_of_cell? _ _ k21); go_simp; try with_reducible rfl)
                                (try simp only [Act.put, List.setIfInBounds_toArray, List.set_cons_zero, List.set_cons_succ])
                                refine seq_pure (v := ?_) (by rfl) ?_ ?_
                                rotate_left
                                · (intro w hS; go_simp; try with_reducible rfl)
                                (try simp only [Act.put, List.setIfInBounds_toArray, List.set_cons_zero, List.set_cons_succ])
                                refine seq_pure (v := ?_) (by rfl) ?_ ?_
                                rotate_left
                                · (intro w hS; go_simp; try with_reducible rfl)
                                (try simp only [Act.put, List.setIfInBounds_toArray, List.set_cons_zero, List.set_cons_succ])
                                refine seq_pure (v := ?_) (by rfl) ?_ ?_
                                rotate_left
                                · (intro w hS; have kk := oldcell hS x3 (World.block_lt_of_cell? _ _ x3); go_simp; try with_reducible rfl)
                                (try simp only [Act.put, List.setIfInBounds_toArray, List.set_cons_zero, List.set_cons_succ])
                                refine seq_call (v := .int .i64 ((o : Nat) : Int)) (f := ?_) (args := ?_) (by rfl) ?_ ?_ ?_
                                rotate_left 2
                                · (intro w hS; go_simp; first | done | with_reducible rfl | (refine ⟨?_, ?_⟩ <;> with_reducible rfl))
                                · (intro w hS; refine (T4.out w hS).mono ?_; rintro e w' ⟨he, hb⟩; exact ⟨he, btr hS hb⟩)
                                (try simp only [Act.put, List.setIfInBounds_toArray, List.set_cons_zero, List.set_cons_succ])
                                refine seq_pure (v := ?_) (by rfl) ?_ ?_
                                rotate_left
                                · (intro w hS; go_simp; try with_reducible rfl)
                                (try simp only [Act.put, List.setIfInBounds_toArray, List.set_cons_zero, List.set_cons_succ])
                                refine seq_pure (v := ?_) (by rfl) ?_ ?_
                                rotate_left
                                · (intro w hS; go_simp; try with_reducible rfl)
                                (try simp only [Act.put, List.setIfInBounds_toArray, List.set_cons_zero, List.set_cons_succ])
                                refine seq_pure (v := ?_) (by rfl) ?_ ?_
                                rotate_left
                                · (intro w hS; go_simp; try with_reducible rfl)
                                (try simp only [Act.put, List.setIfInBounds_toArray, List.set_cons_zero, List.set_cons_succ])
                                refine seq_pure (v := ?_) (by rfl) ?_ ?_
                                rotate_left
                                · (intro w hS; go_simp; try with_reducible rfl)
                                (try simp only [Act.put, List.setIfInBounds_toArray, List.set_cons_zero, List.set_cons_succ])
                                refine seq_nil ?_
                                intro w2 HB0
                                go_wp2_with fail
                                go_ret
                                exact ⟨rfl, btr hW HB0⟩
end Go.Proofs.Ytanlecgpnknhoaa
