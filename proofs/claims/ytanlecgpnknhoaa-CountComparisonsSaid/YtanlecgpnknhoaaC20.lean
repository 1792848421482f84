/- Walk of CountComparisons. -/
import Derived.Test.YtanlecgpnknhoaaC18
namespace Go.Proofs.Ytanlecgpnknhoaa
set_option linter.unusedSimpArgs false
set_option linter.unusedVariables false
open Go.RowKit


theorem raw_plain (L : List Step) (A B : List Nat) (h0 : L.length ≤ 40) (h1 : A.length ≤ 9) (h2 : B.length ≤ 9) :
    ∃ c refs a b, cbuild L = (c, refs) ∧ A.map (cpick refs) = a ∧ B.map (cpick refs) = b ∧ Good c ∧ c.length ≤ 121 ∧ RefsIn a c.length ∧ RefsIn b c.length ∧ a.length = A.length ∧ b.length = B.length := by
  have HB := built L (by omega)
  obtain ⟨c, refs, hcb⟩ : ∃ c refs, cbuild L = (c, refs) := ⟨_, _, rfl⟩
  have hg := HB.good; have hr := HB.refs; have hl := HB.len
  rw [hcb] at hg hr hl
  dsimp only at hg hr hl
  have hp : ∀ n, 0 ≤ cpick refs n ∧ cpick refs n < 2 * (c.length : Int) := fun n => cpick_in hr hg.ne n
  refine ⟨c, refs, _, _, hcb, rfl, rfl, hg, by omega, fun r h => ?_, fun r h => ?_, by simp, by simp⟩
  · obtain ⟨n, _, rfl⟩ := List.mem_map.1 h; exact hp n
  · obtain ⟨n, _, rfl⟩ := List.mem_map.1 h; exact hp n
theorem inputs_is {x : RawV} {q : RawP} {w : World} {c : List Gate} {refs a b : List Int} {na nb : Nat} (hx : RawOk w x q) (h0 : x.L.length ≤ 40) (h1 : x.A.length ≤ 9) (h2 : x.B.length ≤ 9) (hcb : cbuild x.L = (c, refs)) (ha : x.A.map (cpick refs) = a) (hb : x.B.map (cpick refs) = b) (hna : x.A.length = na) (hnb : x.B.length = nb) :
    Calls Try.prog 41 #[.agg #[.slice q.pL x.L.length q.cL, .slice q.pA x.A.length q.cA, .slice q.pB x.B.length q.cB, .slice q.pV x.V.length q.cV, .int .i8 x.by']] w (RetIn w c a b na nb) := by
  subst ha hb hna hnb
  exact inputs_any x q w hx h0 h1 h2 c refs hcb
theorem btr' {B : Nat} {w w1 w2 : World} (h : Below B w w1) (k : Below B w1 w2) : Below B w w2 := h.trans k
theorem sops9 {n : Nat} (h : n ≤ 9) : sOps (plog n n 0) ≤ 126 := by
  match n, h with
  | 0, _ | 1, _ | 2, _ | 3, _ | 4, _ | 5, _ | 6, _ | 7, _ | 8, _ | 9, _ => decide
theorem total_ops {n m : Nat} (h : n ≤ m) : opsTotal n ≤ opsTotal m := Nat.mul_le_mul h (Nat.mul_le_mul h (by omega))
theorem add_ops {x y x' y' : Nat} (h : x ≤ x') (k : y ≤ y') : opsAdd x y ≤ opsAdd x' y' := Nat.mul_le_mul (by omega) (by omega)
theorem cntv_append (c : List Gate) (a b : List Int) (vals : List Bool) : cntv c (a ++ b) vals = cntv c a vals + cntv c b vals := by unfold cntv; rw [List.map_append, cnt_append]
theorem RefsIn.append {a b : List Int} {n : Nat} (h : RefsIn a n) (k : RefsIn b n) : RefsIn (a ++ b) n := fun r hr => (List.mem_append.1 hr).elim (h r) (k r)
theorem SA.of_owns {w : World} {B n : Nat} {v : Value} {xs : List Int} (h : w.ownsRow B 3 1 v xs.length (flat 1 iEnc xs)) (hn : xs.length = n) : ∃ q cq, v = .slice q n cq ∧ SA w q n cq xs := by
  obtain ⟨q, cq, hv, h1, h2, h3, h4⟩ := owns_val (by omega) h
  subst hn
  exact ⟨q, cq, hv, ⟨rfl, h1, h2, h3, h4, fun a ha => (h.lt a.block (by rw [hv, ha]; rfl)).2⟩⟩
/-- The values of a raw input. -/
theorem RawOk.va {w w' : World} {x : RawV} {q : RawP} (h : RawOk w x q) (hB : Below w.heap.size w w') : VA w' q.pV x.V.length x.V := ⟨rfl, h.l3, h.a3.mono hB⟩

set_option maxRecDepth 100000 in
set_option maxHeartbeats 8000000 in
theorem comparisons_any (x : RawV) (q : RawP)  (w : World) (hx : RawOk w x q)  :
    Calls Try.prog 16 #[.agg #[.slice q.pL x.L.length q.cL, .slice q.pA x.A.length q.cA, .slice q.pB x.B.length q.cB, .slice q.pV x.V.length q.cV, .int .i8 x.by']] w (RetB w true) := by
  obtain ⟨L, A, B, V, by'⟩ := x
  obtain ⟨pL, cL, pA, cA, pB, cB, pV, cV⟩ := q
  dsimp only
  have HX := Lib.hid hx; clear hx
  obtain ⟨W0, hW0, hX, hW⟩ : ∃ W0, w.alloc (.cells #[.slice pL L.length cL, .slice pA A.length cA, .slice pB B.length cB, .slice pV V.length cV, .int .i8 by'] 56) = W0 ∧ RawAt W0 w.heap.size ⟨L, A, B, V, by'⟩ ⟨pL, cL, pA, cA, pB, cB, pV, cV⟩ ∧ Below w.heap.size w W0 := ⟨_, rfl, ⟨by go_cell, by go_cell, by go_cell, by go_cell, by go_cell⟩, by go_grown⟩
  have HW0 := Lib.hid hW0; clear hW0
  obtain ⟨G, hG⟩ : ∃ G, great ⟨L, A, B, V, by'⟩ = G := ⟨_, rfl⟩
  have HG := Lib.hid hG
  cases G
  case true =>
    clear hG
    go_enter Try.func16, Try.ntmps16
    go_upto_region 1 with fail
    rw [HW0.out]
    go_upto_region 1 with fail
    go_cut [3] from 26 to 26 (fun s3 wx => (s3 = .bool true) ∧ Below W0.heap.size W0 wx)
    case first =>
      as_aux_lemma =>
        go_wp2_with (first | (go_at_call 39; refine (head16_any _).mono ?_; rintro e w2 ⟨rfl, hbl⟩))
        go_meet
        exact ⟨rfl, (by first | exact hbl | exact btr (by go_grown) hbl)⟩
    case rest =>
      obtain ⟨rfl, hst⟩ := hcut
      replace hX := hX.up hst
      replace hW := btr hW hst
      clear hst
      obtain ⟨x0, x1, x2, x3, x4⟩ := id hX
      dsimp only at x0 x1 x2 x3 x4
      go_wp2_with (first | (go_at_call 40; refine (great_any ⟨L, A, B, V, by'⟩ ⟨pL, cL, pA, cA, pB, cB, pV, cV⟩ _ HX.out.l0 HX.out.l1 HX.out.l2 HX.out.l3).mono ?_; rw [HG.out]; rintro e w1 ⟨rfl, hb1⟩))
      go_ret
      exact ⟨rfl, btr hW hb1⟩
  case false =>
    obtain ⟨h0, h1, h2, h3⟩ := great_no hG
    dsimp only at h0 h1 h2 h3
    clear hG
    obtain ⟨c, refs, a, b, hcb, ha, hb, gc, hcl, ra, rb, la, lb⟩ := raw_plain L A B h0 h1 h2
    have hl : c.length ≤ 20000 := by omega
    have hc : 0 < c.length := gc.ne
    obtain ⟨na, hna⟩ : ∃ n, A.length = n := ⟨_, rfl⟩
    obtain ⟨nb, hnb⟩ : ∃ n, B.length = n := ⟨_, rfl⟩
    have hna9 : na ≤ 9 := by omega
    have hnb9 : nb ≤ 9 := by omega
    rw [hna] at la; rw [hnb] at lb
    have HAL := Lib.hid (allLe_of ra hl); have HBL := Lib.hid (allLe_of rb hl)
    obtain ⟨d, u, e1⟩ : ∃ d u, (ucount 0 1 a na).run c = (d, u) := ⟨_, _, rfl⟩
    have o1 : na * opsAdd na 1 ≤ 1800 := by
      have h1 : opsAdd na 1 ≤ opsAdd 9 1 := Nat.mul_le_mul (by omega) (by omega)
      exact Nat.mul_le_mul hna9 h1
    have o2 : nb * opsAdd nb 1 ≤ 1800 := by
      have h1 : opsAdd nb 1 ≤ opsAdd 9 1 := Nat.mul_le_mul (by omega) (by omega)
      exact Nat.mul_le_mul hnb9 h1
    obtain ⟨g1, N1⟩ := count_num gc ra la (by omega) e1
    have k1 := g1.len
    obtain ⟨e, v, e2⟩ : ∃ d' u', (ucount 0 1 b nb).run d = (d', u') := ⟨_, _, rfl⟩
    obtain ⟨g2, N2⟩ := count_num g1.good (rb.up g1.ge) lb (by omega) e2
    have k2 := g2.len
    have N1' := N1.up g2
    obtain ⟨f, less, e3⟩ : ∃ d r, (uless 0 1 cnot u v 0).run e = (d, r) := ⟨_, _, rfl⟩
    obtain ⟨g, more, e4⟩ : ∃ d r, (uless 0 1 cnot v u 0).run e = (d, r) := ⟨_, _, rfl⟩
    obtain ⟨h, off, e5⟩ : ∃ d r, (uless 0 1 cnot u v by').run e = (d, r) := ⟨_, _, rfl⟩
    obtain ⟨i, dual, e6⟩ : ∃ d r, (uless 0 1 cnot v u (1 - by')).run e = (d, r) := ⟨_, _, rfl⟩
    obtain ⟨j, next, e7⟩ : ∃ d r, (uless 0 1 cnot u v (by' + 1)).run e = (d, r) := ⟨_, _, rfl⟩
    obtain ⟨g3, R3⟩ := less_rf g2.good N1' N2 (by omega) e3
    obtain ⟨g4, R4⟩ := less_rf g2.good N2 N1' (by omega) e4
    obtain ⟨g5, R5⟩ := less_rf g2.good N1' N2 (by omega) e5
    obtain ⟨g6, R6⟩ := less_rf g2.good N2 N1' (by omega) e6
    obtain ⟨g7, R7⟩ := less_rf g2.good N1' N2 (by omega) e7
    have k3 := g3.len; have k4 := g4.len; have k5 := g5.len; have k6 := g6.len; have k7 := g7.len
    have z1 := R3.ceval V; have z2 := R4.ceval V; have z3 := R5.ceval V; have z4 := R6.ceval V; have z5 := R7.ceval V
    have y1 : cnum e V u = cntv c a V := N1'.count V
    have y2 : cnum e V v = cntv d b V := N2.count V
    generalize cntv c a V = n at z1 z2 z3 z4 z5 y1
    generalize cntv d b V = m at z1 z2 z3 z4 z5 y2
    obtain ⟨P, hP⟩ : ∃ P, decide ((n : Int) < m + 0) = P := ⟨_, rfl⟩
    obtain ⟨Q, hQ⟩ : ∃ P, decide ((m : Int) < n + 0) = P := ⟨_, rfl⟩
    obtain ⟨S, hS⟩ : ∃ P, ((n : Int) == (m : Int)) = P := ⟨_, rfl⟩
    obtain ⟨Y, hY⟩ : ∃ P, decide ((n : Int) < m + by') = P := ⟨_, rfl⟩
    obtain ⟨D, hD⟩ : ∃ P, decide ((m : Int) < n + (1 - by')) = P := ⟨_, rfl⟩
    obtain ⟨Z, hZ⟩ : ∃ P, decide ((n : Int) < m + (by' + 1)) = P := ⟨_, rfl⟩
    have FB : (P = true ∧ Q = false ∧ S = false) ∨ (P = false ∧ Q = true ∧ S = false) ∨ (P = false ∧ Q = false ∧ S = true) := by
      subst hP hQ hS
      simp only [decide_eq_true_eq, decide_eq_false_iff_not, beq_iff_eq, beq_eq_false_iff_ne]
      omega
    have FY : (Y = true ∧ D = false ∧ Z = true) ∨ (Y = false ∧ D = true) := by
      subst hY hD hZ
      simp only [decide_eq_true_eq, decide_eq_false_iff_not]
      omega
    rw [hP] at z1; rw [hQ] at z2; rw [hY] at z3; rw [hD] at z4; rw [hZ] at z5
    have lc : ∀ {x : List Gate} {k : Nat}, x.length ≤ e.length + k → k ≤ 40 → x.length ≤ 20000 := fun h hk => by omega
    have hel : e.length ≤ 20000 := by omega
    have hdl : d.length ≤ 20000 := by omega
    have hdp : 0 < d.length := g1.good.ne
    have hep : 0 < e.length := g2.good.ne
    have hfl : f.length ≤ 20000 := by omega
    have hgl : g.length ≤ 20000 := by omega
    have hhl : h.length ≤ 20000 := by omega
    have hil : i.length ≤ 20000 := by omega
    have hjl : j.length ≤ 20000 := by omega
    have E1 := Lib.hid e1; have E2 := Lib.hid e2; have E3 := Lib.hid e3; have E4 := Lib.hid e4; have E5 := Lib.hid e5; have E6 := Lib.hid e6; have E7 := Lib.hid e7
    have Z1 := Lib.hid z1; have Z2 := Lib.hid z2; have Z3 := Lib.hid z3; have Z4 := Lib.hid z4; have Z5 := Lib.hid z5; have Y1 := Lib.hid y1; have Y2 := Lib.hid y2; have HS := Lib.hid hS
    have HFB := Lib.hid FB; have HFY := Lib.hid FY
    have UL := Lib.hid N1.len; have VLn := Lib.hid N2.len
    have AU := Lib.hid (allLe_of N1'.refs hel); have AV := Lib.hid (allLe_of N2.refs hel); have ABd := Lib.hid (allLe_of (rb.up g1.ge) hdl)
    have W2 := Lib.hid g2.good.wf; have W3 := Lib.hid g3.good.wf; have W4 := Lib.hid g4.good.wf; have W5 := Lib.hid g5.good.wf; have W6 := Lib.hid g6.good.wf; have W7 := Lib.hid g7.good.wf
    have hby0 := HX.out.b0; have hby1 := HX.out.b1
    dsimp only at hby0 hby1
    have h3' : V.length ≤ maxLen := HX.out.l3
    clear e1 o1 o2 g1 N1 k1 e2 g2 N2 k2 N1' e3 e4 e5 e6 e7 g3 R3 g4 R4 g5 R5 g6 R6 g7 R7 k3 k4 k5 k6 k7 z1 z2 z3 z4 z5 y1 y2 hP hQ hS hY hD hZ FB FY lc
    have HCB := Lib.hid hcb; have HA := Lib.hid ha; have HB := Lib.hid hb; have HNA := Lib.hid hna; have HNB := Lib.hid hnb; have RA := Lib.hid ra; have RB := Lib.hid rb; have LA := Lib.hid la; have LB := Lib.hid lb; have GC := Lib.hid gc
    clear hcb ha hb hna hnb ra rb la lb gc
    go_enter Try.func16, Try.ntmps16
    go_upto_region 1 with fail
    rw [HW0.out]
    go_upto_region 1 with fail
    go_cut [3] from 26 to 26 (fun s3 wx => (s3 = .bool true) ∧ Below W0.heap.size W0 wx)
    case first =>
      as_aux_lemma =>
        go_wp2_with (first | (go_at_call 39; refine (head16_any _).mono ?_; rintro e w2 ⟨rfl, hbl⟩))
        go_meet
        exact ⟨rfl, (by first | exact hbl | exact btr (by go_grown) hbl)⟩
    case rest =>
      obtain ⟨rfl, hst⟩ := hcut
      replace hX := hX.up hst
      replace hW := btr hW hst
      clear hst
      obtain ⟨x0, x1, x2, x3, x4⟩ := id hX
      dsimp only at x0 x1 x2 x3 x4
      go_upto_region 4 with (first | (go_at_call 40; refine (great_any ⟨L, A, B, V, by'⟩ ⟨pL, cL, pA, cA, pB, cB, pV, cV⟩ _ HX.out.l0 HX.out.l1 HX.out.l2 HX.out.l3).mono ?_; rw [HG.out]; rintro e w1 ⟨rfl, hb1⟩))
      have hst1 : Below wc.heap.size wc _ := hb1
      replace hX := hX.up hb1
      replace hW := btr hW hb1
      clear hst1 hb1 x0 x1 x2 x3 x4
      obtain ⟨x0, x1, x2, x3, x4⟩ := id hX
      dsimp only at x0 x1 x2 x3 x4
      go_upto_region 4 with fail
      go_cut [4, 5, 6] from 30 to 35 (fun s4 s5 s6 wx => (∃ (b0 : Nat) (q5 : Option Addr) (c5 : Nat) (q6 : Option Addr) (c6 : Nat), s4 = .pointer (some ⟨b0, 0, none⟩) ∧ s5 = .slice q5 na c5 ∧ s6 = .slice q6 nb c6 ∧ Bx wx b0 c ∧ SA wx q5 na c5 a ∧ SA wx q6 nb c6 b) ∧ Below w1.heap.size w1 wx)
      case first =>
        as_aux_lemma =>
          go_wp2_with (first | (go_at_call 41; refine (inputs_is (x := ⟨L, A, B, V, by'⟩) (q := ⟨pL, cL, pA, cA, pB, cB, pV, cV⟩) (HX.out.up (by exact hW)) h0 h1 h2 HCB.out HA.out HB.out HNA.out HNB.out).mono ?_; rintro e w2 ⟨p2, cap2, q5, c5, q6, c6, rfl, hC2, hSa, hSb, hbl⟩))
          go_meet
          exact ⟨⟨_, _, _, _, _, rfl, rfl, rfl, Bx.new hC2 _, hSa.up (bal (Below.refl _ _) _), hSb.up (bal (Below.refl _ _) _)⟩, bal hbl _⟩
      case rest =>
        obtain ⟨⟨b4, q5, cq5, q6, cq6, rfl, rfl, rfl, hB4, hS5, hS6⟩, hst⟩ := hcut
        replace hX := hX.up hst
        replace hW := btr hW hst
        clear hst
        clear x0 x1 x2 x3 x4
        go_upto_region 5 with fail
        obtain ⟨p4, c4, k4, k4f, hC4⟩ := id hB4
        go_cut [7, 8] from 36 to 41 (fun s7 s8 wx => (∃ (b : Nat) (q : Option Addr) (cq : Nat), s7 = .pointer (some ⟨b, 0, none⟩) ∧ s8 = .slice q na cq ∧ Bx wx b d ∧ SA wx q na cq u) ∧ Below wc.heap.size wc wx)
        case first =>
          as_aux_lemma =>
            go_wp2_with (first | (go_at_call 47; refine (count_is hC4 hS5 (Below.refl _ _) (by omega) HAL.out hl hc E1.out UL.out).mono ?_; rintro e w2 ⟨p2, cap2, q2, cq2, rfl, hC2, hS2, hbl⟩))
            go_meet
            exact ⟨⟨_, _, _, rfl, rfl, Bx.new hC2 _, hS2.up (bal (Below.refl _ _) _)⟩, (by first | exact bal hbl _ | exact bal (btr (by go_grown) hbl) _)⟩
        case rest =>
          clear k4 k4f hC4
          obtain ⟨⟨b7, q8, cq8, rfl, rfl, hB7, hS8⟩, hst⟩ := hcut
          replace hX := hX.up hst
          replace hB4 := hB4.up hst
          replace hS5 := hS5.up hst
          replace hS6 := hS6.up hst
          replace hW := btr hW hst
          clear hst
          go_upto_region 6 with fail
          obtain ⟨p7, c7, k7, k7f, hC7⟩ := id hB7
          go_cut [9, 10] from 42 to 47 (fun s9 s10 wx => (∃ (b : Nat) (q : Option Addr) (cq : Nat), s9 = .pointer (some ⟨b, 0, none⟩) ∧ s10 = .slice q nb cq ∧ Bx wx b e ∧ SA wx q nb cq v) ∧ Below wc.heap.size wc wx)
          case first =>
            as_aux_lemma =>
              go_wp2_with (first | (go_at_call 47; refine (count_is hC7 hS6 (Below.refl _ _) (by omega) ABd.out hdl hdp E2.out VLn.out).mono ?_; rintro e w2 ⟨p2, cap2, q2, cq2, rfl, hC2, hS2, hbl⟩))
              go_meet
              exact ⟨⟨_, _, _, rfl, rfl, Bx.new hC2 _, hS2.up (bal (Below.refl _ _) _)⟩, (by first | exact bal hbl _ | exact bal (btr (by go_grown) hbl) _)⟩
          case rest =>
            clear k7 k7f hC7
            obtain ⟨⟨b9, q10, cq10, rfl, rfl, hB9, hS10⟩, hst⟩ := hcut
            replace hX := hX.up hst
            replace hB4 := hB4.up hst
            replace hS5 := hS5.up hst
            replace hS6 := hS6.up hst
            replace hB7 := hB7.up hst
            replace hS8 := hS8.up hst
            replace hW := btr hW hst
            clear hst
            go_upto_region 7 with fail
            obtain ⟨x0, x1, x2, x3, x4⟩ := id hX; dsimp only at x0 x1 x2 x3 x4
            go_cut [11] from 48 to 50 (fun s11 wx => (s11 = .int .i64 by') ∧ Below wc.heap.size wc wx)
            case first =>
              as_aux_lemma =>
                go_wp2_with fail
                go_meet
                exact ⟨rfl, Below.refl _ _⟩
            case rest =>
              obtain ⟨rfl, hst⟩ := hcut
              replace hX := hX.up hst
              replace hB4 := hB4.up hst
              replace hS5 := hS5.up hst
              replace hS6 := hS6.up hst
              replace hB7 := hB7.up hst
              replace hS8 := hS8.up hst
              replace hB9 := hB9.up hst
              replace hS10 := hS10.up hst
              replace hW := btr hW hst
              clear hst
              clear x0 x1 x2 x3 x4
              go_upto_region 8 with fail
              obtain ⟨p9, c9, k9, k9f, hC9⟩ := id hB9
              go_cut [12, 13] from 51 to 57 (fun s12 s13 wx => (∃ (b : Nat), s12 = .pointer (some ⟨b, 0, none⟩) ∧ s13 = .int .i64 less ∧ Bx wx b f) ∧ Below wc.heap.size wc wx)
              case first =>
                as_aux_lemma =>
                  go_wp2_with (first | (go_at_call 49; refine (less_is hC9 hS8 hS10 (Below.refl _ _) (by omega) (by omega) (by omega) (by omega) AU.out AV.out hel hep E3.out).mono ?_; rintro e w2 ⟨p2, cap2, rfl, hC2, hbl⟩))
                  go_meet
                  exact ⟨⟨_, rfl, rfl, Bx.new hC2 _⟩, (by first | exact bal hbl _ | exact bal (btr (by go_grown) hbl) _)⟩
              case rest =>
                clear k9 k9f hC9
                obtain ⟨⟨b12, rfl, rfl, hB12⟩, hst⟩ := hcut
                replace hX := hX.up hst
                replace hB4 := hB4.up hst
                replace hS5 := hS5.up hst
                replace hS6 := hS6.up hst
                replace hB7 := hB7.up hst
                replace hS8 := hS8.up hst
                replace hB9 := hB9.up hst
                replace hS10 := hS10.up hst
                replace hW := btr hW hst
                clear hst
                go_upto_region 9 with fail
                obtain ⟨p9, c9, k9, k9f, hC9⟩ := id hB9
                go_cut [14, 15] from 58 to 64 (fun s14 s15 wx => (∃ (b : Nat), s14 = .pointer (some ⟨b, 0, none⟩) ∧ s15 = .int .i64 more ∧ Bx wx b g) ∧ Below wc.heap.size wc wx)
                case first =>
                  as_aux_lemma =>
                    go_wp2_with (first | (go_at_call 49; refine (less_is hC9 hS10 hS8 (Below.refl _ _) (by omega) (by omega) (by omega) (by omega) AV.out AU.out hel hep E4.out).mono ?_; rintro e w2 ⟨p2, cap2, rfl, hC2, hbl⟩))
                    go_meet
                    exact ⟨⟨_, rfl, rfl, Bx.new hC2 _⟩, (by first | exact bal hbl _ | exact bal (btr (by go_grown) hbl) _)⟩
                case rest =>
                  clear k9 k9f hC9
                  obtain ⟨⟨b14, rfl, rfl, hB14⟩, hst⟩ := hcut
                  replace hX := hX.up hst
                  replace hB4 := hB4.up hst
                  replace hS5 := hS5.up hst
                  replace hS6 := hS6.up hst
                  replace hB7 := hB7.up hst
                  replace hS8 := hS8.up hst
                  replace hB9 := hB9.up hst
                  replace hS10 := hS10.up hst
                  replace hB12 := hB12.up hst
                  replace hW := btr hW hst
                  clear hst
                  go_upto_region 10 with fail
                  obtain ⟨p9, c9, k9, k9f, hC9⟩ := id hB9
                  go_cut [16, 17] from 65 to 72 (fun s16 s17 wx => (∃ (b : Nat), s16 = .pointer (some ⟨b, 0, none⟩) ∧ s17 = .int .i64 off ∧ Bx wx b h) ∧ Below wc.heap.size wc wx)
                  case first =>
                    as_aux_lemma =>
                      go_wp2_with (first | (go_at_call 49; refine (less_is hC9 hS8 hS10 (Below.refl _ _) (by omega) (by omega) (by omega) (by omega) AU.out AV.out hel hep E5.out).mono ?_; rintro e w2 ⟨p2, cap2, rfl, hC2, hbl⟩))
                      go_meet
                      exact ⟨⟨_, rfl, rfl, Bx.new hC2 _⟩, (by first | exact bal hbl _ | exact bal (btr (by go_grown) hbl) _)⟩
                  case rest =>
                    clear k9 k9f hC9
                    obtain ⟨⟨b16, rfl, rfl, hB16⟩, hst⟩ := hcut
                    replace hX := hX.up hst
                    replace hB4 := hB4.up hst
                    replace hS5 := hS5.up hst
                    replace hS6 := hS6.up hst
                    replace hB7 := hB7.up hst
                    replace hS8 := hS8.up hst
                    replace hB9 := hB9.up hst
                    replace hS10 := hS10.up hst
                    replace hB12 := hB12.up hst
                    replace hB14 := hB14.up hst
                    replace hW := btr hW hst
                    clear hst
                    go_upto_region 11 with fail
                    obtain ⟨p9, c9, k9, k9f, hC9⟩ := id hB9
                    go_cut [18, 19] from 73 to 81 (fun s18 s19 wx => (∃ (b : Nat), s18 = .pointer (some ⟨b, 0, none⟩) ∧ s19 = .int .i64 dual ∧ Bx wx b i) ∧ Below wc.heap.size wc wx)
                    case first =>
                      as_aux_lemma =>
                        go_wp2_with (first | (go_at_call 49; refine (less_is hC9 hS10 hS8 (Below.refl _ _) (by omega) (by omega) (by omega) (by omega) AV.out AU.out hel hep E6.out).mono ?_; rintro e w2 ⟨p2, cap2, rfl, hC2, hbl⟩))
                        go_meet
                        exact ⟨⟨_, rfl, rfl, Bx.new hC2 _⟩, (by first | exact bal hbl _ | exact bal (btr (by go_grown) hbl) _)⟩
                    case rest =>
                      clear k9 k9f hC9
                      obtain ⟨⟨b18, rfl, rfl, hB18⟩, hst⟩ := hcut
                      replace hX := hX.up hst
                      replace hB4 := hB4.up hst
                      replace hS5 := hS5.up hst
                      replace hS6 := hS6.up hst
                      replace hB7 := hB7.up hst
                      replace hS8 := hS8.up hst
                      replace hB9 := hB9.up hst
                      replace hS10 := hS10.up hst
                      replace hB12 := hB12.up hst
                      replace hB14 := hB14.up hst
                      replace hB16 := hB16.up hst
                      replace hW := btr hW hst
                      clear hst
                      go_upto_region 12 with fail
                      obtain ⟨p9, c9, k9, k9f, hC9⟩ := id hB9
                      go_cut [20, 21] from 82 to 90 (fun s20 s21 wx => (∃ (b : Nat), s20 = .pointer (some ⟨b, 0, none⟩) ∧ s21 = .int .i64 next ∧ Bx wx b j) ∧ Below wc.heap.size wc wx)
                      case first =>
                        as_aux_lemma =>
                          go_wp2_with (first | (go_at_call 49; refine (less_is hC9 hS8 hS10 (Below.refl _ _) (by omega) (by omega) (by omega) (by omega) AU.out AV.out hel hep E7.out).mono ?_; rintro e w2 ⟨p2, cap2, rfl, hC2, hbl⟩))
                          go_meet
                          exact ⟨⟨_, rfl, rfl, Bx.new hC2 _⟩, (by first | exact bal hbl _ | exact bal (btr (by go_grown) hbl) _)⟩
                      case rest =>
                        clear k9 k9f hC9
                        obtain ⟨⟨b20, rfl, rfl, hB20⟩, hst⟩ := hcut
                        replace hX := hX.up hst
                        replace hB4 := hB4.up hst
                        replace hS5 := hS5.up hst
                        replace hS6 := hS6.up hst
                        replace hB7 := hB7.up hst
                        replace hS8 := hS8.up hst
                        replace hB9 := hB9.up hst
                        replace hS10 := hS10.up hst
                        replace hB12 := hB12.up hst
                        replace hB14 := hB14.up hst
                        replace hB16 := hB16.up hst
                        replace hB18 := hB18.up hst
                        replace hW := btr hW hst
                        clear hst
                        go_upto_region 13 with fail
                        obtain ⟨p12, c12, k12, k12f, hC12⟩ := id hB12
                        obtain ⟨x0, x1, x2, x3, x4⟩ := id hX; dsimp only at x0 x1 x2 x3 x4
                        go_cut [22] from 91 to 95 (fun s22 wx => (s22 = .bool P) ∧ Below wc.heap.size wc wx)
                        case first =>
                          as_aux_lemma =>
                            go_wp2_with (first | (go_at_call 31; refine (reval_is (cv := cV) (vals := V) hC12 (Below.refl _ _) (HX.out.va hW).at' W3.out Z1.out rfl hfl h3').mono ?_; rintro e w2 ⟨rfl, hbl⟩))
                            go_meet
                            exact ⟨rfl, (by first | exact hbl | exact btr (by go_grown) hbl)⟩
                        case rest =>
                          clear k12 k12f hC12
                          obtain ⟨rfl, hst⟩ := hcut
                          replace hX := hX.up hst
                          replace hB4 := hB4.up hst
                          replace hS5 := hS5.up hst
                          replace hS6 := hS6.up hst
                          replace hB7 := hB7.up hst
                          replace hS8 := hS8.up hst
                          replace hB9 := hB9.up hst
                          replace hS10 := hS10.up hst
                          replace hB12 := hB12.up hst
                          replace hB14 := hB14.up hst
                          replace hB16 := hB16.up hst
                          replace hB18 := hB18.up hst
                          replace hB20 := hB20.up hst
                          replace hW := btr hW hst
                          clear hst
                          clear x0 x1 x2 x3 x4
                          go_upto_region 14 with fail
                          obtain ⟨p14, c14, k14, k14f, hC14⟩ := id hB14
                          obtain ⟨x0, x1, x2, x3, x4⟩ := id hX; dsimp only at x0 x1 x2 x3 x4
                          go_cut [23] from 96 to 100 (fun s23 wx => (s23 = .bool Q) ∧ Below wc.heap.size wc wx)
                          case first =>
                            as_aux_lemma =>
                              go_wp2_with (first | (go_at_call 31; refine (reval_is (cv := cV) (vals := V) hC14 (Below.refl _ _) (HX.out.va hW).at' W4.out Z2.out rfl hgl h3').mono ?_; rintro e w2 ⟨rfl, hbl⟩))
                              go_meet
                              exact ⟨rfl, (by first | exact hbl | exact btr (by go_grown) hbl)⟩
                          case rest =>
                            clear k14 k14f hC14
                            obtain ⟨rfl, hst⟩ := hcut
                            replace hX := hX.up hst
                            replace hB4 := hB4.up hst
                            replace hS5 := hS5.up hst
                            replace hS6 := hS6.up hst
                            replace hB7 := hB7.up hst
                            replace hS8 := hS8.up hst
                            replace hB9 := hB9.up hst
                            replace hS10 := hS10.up hst
                            replace hB12 := hB12.up hst
                            replace hB14 := hB14.up hst
                            replace hB16 := hB16.up hst
                            replace hB18 := hB18.up hst
                            replace hB20 := hB20.up hst
                            replace hW := btr hW hst
                            clear hst
                            clear x0 x1 x2 x3 x4
                            go_upto_region 15 with fail
                            obtain ⟨p9, c9, k9, k9f, hC9⟩ := id hB9
                            obtain ⟨x0, x1, x2, x3, x4⟩ := id hX; dsimp only at x0 x1 x2 x3 x4
                            go_cut [24] from 101 to 111 (fun s24 wx => (s24 = .bool S) ∧ Below wc.heap.size wc wx)
                            case first =>
                              as_aux_lemma =>
                                have T1 := Lib.hid (fun (w' : World) (hB' : Below wc.heap.size wc w') => number_is (cv := cV) hC9 hS8 (HX.out.va hW) hB' (by omega) hel W2.out Y1.out)
                                have T2 := Lib.hid (fun (w' : World) (hB' : Below wc.heap.size wc w') => number_is (cv := cV) hC9 hS10 (HX.out.va hW) hB' (by omega) hel W2.out Y2.out)
                                refine wp_region_seq (fun w' => Below wc.heap.size wc w') (by kernel_rfl) (by kernel_rfl) (by go_grown) ?_
                                refine seq_pure (v := ?_) (by rfl) ?_ ?_
                                rotate_left
                                · (intro w hS; have kk := oldcell hS k9 (World.block_lt_of_cell? _ _ k9); go_simp; try with_reducible rfl)
                                (try simp only [Act.put, List.setIfInBounds_toArray, List.set_cons_zero, List.set_cons_succ])
                                refine seq_pure (v := ?_) (by rfl) ?_ ?_
                                rotate_left
                                · (intro w hS; go_simp; try with_reducible rfl)
                                (try simp only [Act.put, List.setIfInBounds_toArray, List.set_cons_zero, List.set_cons_succ])
                                refine seq_pure (v := ?_) (by rfl) ?_ ?_
                                rotate_left
                                · (intro w hS; go_simp; try with_reducible rfl)
                                (try simp only [Act.put, List.setIfInBounds_toArray, List.set_cons_zero, List.set_cons_succ])
                                refine seq_pure (v := ?_) (by rfl) ?_ ?_
                                rotate_left
                                · (intro w hS; have kk := oldcell hS x3 (World.block_lt_of_cell? _ _ x3); go_simp; try with_reducible rfl)
                                (try simp only [Act.put, List.setIfInBounds_toArray, List.set_cons_zero, List.set_cons_succ])
                                refine seq_call (v := .int .i64 ((n : Nat) : Int)) (f := ?_) (args := ?_) (by rfl) ?_ ?_ ?_
                                rotate_left 2
                                · (intro w hS; go_simp; first | done | with_reducible rfl | (refine ⟨?_, ?_⟩ <;> with_reducible rfl))
                                · (intro w hS; refine (T1.out w hS).mono ?_; rintro e w' ⟨he, hb⟩; exact ⟨he, btr hS hb⟩)
                                (try simp only [Act.put, List.setIfInBounds_toArray, List.set_cons_zero, List.set_cons_succ])
                                refine seq_pure (v := ?_) (by rfl) ?_ ?_
                                rotate_left
                                · (intro w hS; have kk := oldcell hS k9 (World.block_lt_of_cell? _ _ k9); go_simp; try with_reducible rfl)
                                (try simp only [Act.put, List.setIfInBounds_toArray, List.set_cons_zero, List.set_cons_succ])
                                refine seq_pure (v := ?_) (by rfl) ?_ ?_
                                rotate_left
                                · (intro w hS; go_simp; try with_reducible rfl)
                                (try simp only [Act.put, List.setIfInBounds_toArray, List.set_cons_zero, List.set_cons_succ])
                                refine seq_pure (v := ?_) (by rfl) ?_ ?_
                                rotate_left
                                · (intro w hS; go_simp; try with_reducible rfl)
                                (try simp only [Act.put, List.setIfInBounds_toArray, List.set_cons_zero, List.set_cons_succ])
                                refine seq_pure (v := ?_) (by rfl) ?_ ?_
                                rotate_left
                                · (intro w hS; have kk := oldcell hS x3 (World.block_lt_of_cell? _ _ x3); go_simp; try with_reducible rfl)
                                (try simp only [Act.put, List.setIfInBounds_toArray, List.set_cons_zero, List.set_cons_succ])
                                refine seq_call (v := .int .i64 ((m : Nat) : Int)) (f := ?_) (args := ?_) (by rfl) ?_ ?_ ?_
                                rotate_left 2
                                · (intro w hS; go_simp; first | done | with_reducible rfl | (refine ⟨?_, ?_⟩ <;> with_reducible rfl))
                                · (intro w hS; refine (T2.out w hS).mono ?_; rintro e w' ⟨he, hb⟩; exact ⟨he, btr hS hb⟩)
                                (try simp only [Act.put, List.setIfInBounds_toArray, List.set_cons_zero, List.set_cons_succ])
                                refine seq_pure (v := ?_) (by rfl) ?_ ?_
                                rotate_left
                                · (intro w hS; go_simp; try with_reducible rfl)
                                (try simp only [Act.put, List.setIfInBounds_toArray, List.set_cons_zero, List.set_cons_succ])
                                refine seq_pure (v := ?_) (by rfl) ?_ ?_
                                rotate_left
                                · (intro w hS; go_simp; try with_reducible rfl)
                                (try simp only [Act.put, List.setIfInBounds_toArray, List.set_cons_zero, List.set_cons_succ])
                                refine seq_nil ?_
                                intro w2 HB0
                                go_wp2_with fail
                                go_meet
                                exact ⟨congrArg Value.bool HS.out, HB0⟩
                            case rest =>
                              clear k9 k9f hC9 x0 x1 x2 x3 x4
                              obtain ⟨rfl, hst⟩ := hcut
                              replace hX := hX.up hst
                              replace hB4 := hB4.up hst
                              replace hS5 := hS5.up hst
                              replace hS6 := hS6.up hst
                              replace hB7 := hB7.up hst
                              replace hS8 := hS8.up hst
                              replace hB9 := hB9.up hst
                              replace hS10 := hS10.up hst
                              replace hB12 := hB12.up hst
                              replace hB14 := hB14.up hst
                              replace hB16 := hB16.up hst
                              replace hB18 := hB18.up hst
                              replace hB20 := hB20.up hst
                              replace hW := btr hW hst
                              clear hst
                              go_upto_region 16 with fail
                              obtain ⟨p16, c16, k16, k16f, hC16⟩ := id hB16
                              obtain ⟨x0, x1, x2, x3, x4⟩ := id hX; dsimp only at x0 x1 x2 x3 x4
                              go_cut [25] from 112 to 116 (fun s25 wx => (s25 = .bool Y) ∧ Below wc.heap.size wc wx)
                              case first =>
                                as_aux_lemma =>
                                  go_wp2_with (first | (go_at_call 31; refine (reval_is (cv := cV) (vals := V) hC16 (Below.refl _ _) (HX.out.va hW).at' W5.out Z3.out rfl hhl h3').mono ?_; rintro e w2 ⟨rfl, hbl⟩))
                                  go_meet
                                  exact ⟨rfl, (by first | exact hbl | exact btr (by go_grown) hbl)⟩
                              case rest =>
                                clear k16 k16f hC16
                                obtain ⟨rfl, hst⟩ := hcut
                                replace hX := hX.up hst
                                replace hB4 := hB4.up hst
                                replace hS5 := hS5.up hst
                                replace hS6 := hS6.up hst
                                replace hB7 := hB7.up hst
                                replace hS8 := hS8.up hst
                                replace hB9 := hB9.up hst
                                replace hS10 := hS10.up hst
                                replace hB12 := hB12.up hst
                                replace hB14 := hB14.up hst
                                replace hB16 := hB16.up hst
                                replace hB18 := hB18.up hst
                                replace hB20 := hB20.up hst
                                replace hW := btr hW hst
                                clear hst
                                clear x0 x1 x2 x3 x4
                                go_upto_region 17 with fail
                                obtain ⟨p18, c18, k18, k18f, hC18⟩ := id hB18
                                obtain ⟨p20, c20, k20, k20f, hC20⟩ := id hB20
                                obtain ⟨x0, x1, x2, x3, x4⟩ := id hX; dsimp only at x0 x1 x2 x3 x4
                                have T1 := Lib.hid (fun (w' : World) (hB' : Below wc.heap.size wc w') => reval_is (cv := cV) (vals := V) hC18 hB' ((HX.out.va hW).at'.mono hB') W6.out Z4.out rfl hil h3')
                                have T2 := Lib.hid (fun (w' : World) (hB' : Below wc.heap.size wc w') => reval_is (cv := cV) (vals := V) hC20 hB' ((HX.out.va hW).at'.mono hB') W7.out Z5.out rfl hjl h3')
                                have hfb := HFB.out; have hfy := HFY.out
                                rcases hfb with ⟨rfl, rfl, rfl⟩ | ⟨rfl, rfl, rfl⟩ | ⟨rfl, rfl, rfl⟩ <;> rcases hfy with ⟨rfl, rfl, rfl⟩ | ⟨rfl, rfl⟩
                                all_goals
                                  as_aux_lemma =>
                                    go_wp2_with (first | (go_at_call 31; (with_reducible refine (T1.out _ (by first | exact Below.refl _ _ | assumption)).mono ?_); rintro e w1 ⟨rfl, hb1⟩; have k20 := oldcell hb1 k20 (World.block_lt_of_cell? _ _ k20); have x3 := oldcell hb1 x3 (World.block_lt_of_cell? _ _ x3)) | (go_at_call 31; (with_reducible refine (T2.out _ (by first | exact Below.refl _ _ | assumption)).mono ?_); rintro e w2 ⟨rfl, hb2⟩))
                                    go_ret
                                    exact ⟨rfl, by first | exact btr hW (btr hb1 hb2) | exact btr hW hb1⟩
end Go.Proofs.Ytanlecgpnknhoaa
