/- Walk of CountSums. -/
import Derived.Test.YtanlecgpnknhoaaC18
namespace Go.Proofs.Ytanlecgpnknhoaa
set_option linter.unusedSimpArgs false
set_option linter.unusedVariables false
open Go.RowKit


theorem raw_plain (L : List Step) (A B : List Nat) (h0 : L.length ≤ 40) (h1 : A.length ≤ 9) (h2 : B.length ≤ 9) :
    ∃ c refs a b, cbuild L = (c, refs) ∧ A.map (cpick refs) = a ∧ B.map (cpick refs) = b ∧ Good c ∧ c.length ≤ 121 ∧ RefsIn a c.length ∧ RefsIn b c.length ∧ a.length = A.length ∧ b.length = B.length := by
  have HB := built L (by omega)
  obtain ⟨c, refs, hcb⟩ : ∃ c refs, cbuild L = (c, refs) := ⟨_, _, rfl⟩
  have hg := HB.good; have hr := HB.refs; have hl := HB.len
  rw [hcb] at hg hr hl
  dsimp only at hg hr hl
  have hp : ∀ n, 0 ≤ cpick refs n ∧ cpick refs n < 2 * (c.length : Int) := fun n => cpick_in hr hg.ne n
  refine ⟨c, refs, _, _, hcb, rfl, rfl, hg, by omega, fun r h => ?_, fun r h => ?_, by simp, by simp⟩
  · obtain ⟨n, _, rfl⟩ := List.mem_map.1 h; exact hp n
  · obtain ⟨n, _, rfl⟩ := List.mem_map.1 h; exact hp n
theorem inputs_is {x : RawV} {q : RawP} {w : World} {c : List Gate} {refs a b : List Int} {na nb : Nat} (hx : RawOk w x q) (h0 : x.L.length ≤ 40) (h1 : x.A.length ≤ 9) (h2 : x.B.length ≤ 9) (hcb : cbuild x.L = (c, refs)) (ha : x.A.map (cpick refs) = a) (hb : x.B.map (cpick refs) = b) (hna : x.A.length = na) (hnb : x.B.length = nb) :
    Calls Try.prog 41 #[.agg #[.slice q.pL x.L.length q.cL, .slice q.pA x.A.length q.cA, .slice q.pB x.B.length q.cB, .slice q.pV x.V.length q.cV, .int .i8 x.by']] w (RetIn w c a b na nb) := by
  subst ha hb hna hnb
  exact inputs_any x q w hx h0 h1 h2 c refs hcb
theorem btr' {B : Nat} {w w1 w2 : World} (h : Below B w w1) (k : Below B w1 w2) : Below B w w2 := h.trans k
theorem sops9 {n : Nat} (h : n ≤ 9) : sOps (plog n n 0) ≤ 126 := by
  match n, h with
  | 0, _ | 1, _ | 2, _ | 3, _ | 4, _ | 5, _ | 6, _ | 7, _ | 8, _ | 9, _ => decide
theorem total_ops {n m : Nat} (h : n ≤ m) : opsTotal n ≤ opsTotal m := Nat.mul_le_mul h (Nat.mul_le_mul h (by omega))
theorem add_ops {x y x' y' : Nat} (h : x ≤ x') (k : y ≤ y') : opsAdd x y ≤ opsAdd x' y' := Nat.mul_le_mul (by omega) (by omega)
theorem cntv_append (c : List Gate) (a b : List Int) (vals : List Bool) : cntv c (a ++ b) vals = cntv c a vals + cntv c b vals := by unfold cntv; rw [List.map_append, cnt_append]
theorem RefsIn.append {a b : List Int} {n : Nat} (h : RefsIn a n) (k : RefsIn b n) : RefsIn (a ++ b) n := fun r hr => (List.mem_append.1 hr).elim (h r) (k r)
theorem SA.of_owns {w : World} {B n : Nat} {v : Value} {xs : List Int} (h : w.ownsRow B 3 1 v xs.length (flat 1 iEnc xs)) (hn : xs.length = n) : ∃ q cq, v = .slice q n cq ∧ SA w q n cq xs := by
  obtain ⟨q, cq, hv, h1, h2, h3, h4⟩ := owns_val (by omega) h
  subst hn
  exact ⟨q, cq, hv, ⟨rfl, h1, h2, h3, h4, fun a ha => (h.lt a.block (by rw [hv, ha]; rfl)).2⟩⟩
/-- The values of a raw input. -/
theorem RawOk.va {w w' : World} {x : RawV} {q : RawP} (h : RawOk w x q) (hB : Below w.heap.size w w') : VA w' q.pV x.V.length x.V := ⟨rfl, h.l3, h.a3.mono hB⟩

set_option maxRecDepth 100000 in
set_option maxHeartbeats 8000000 in
theorem sums_any (x : RawV) (q : RawP)  (w : World) (hx : RawOk w x q)  :
    Calls Try.prog 15 #[.agg #[.slice q.pL x.L.length q.cL, .slice q.pA x.A.length q.cA, .slice q.pB x.B.length q.cB, .slice q.pV x.V.length q.cV, .int .i8 x.by']] w (RetB w true) := by
  obtain ⟨L, A, B, V, by'⟩ := x
  obtain ⟨pL, cL, pA, cA, pB, cB, pV, cV⟩ := q
  dsimp only
  have HX := Lib.hid hx; clear hx
  obtain ⟨W0, hW0, hX, hW⟩ : ∃ W0, w.alloc (.cells #[.slice pL L.length cL, .slice pA A.length cA, .slice pB B.length cB, .slice pV V.length cV, .int .i8 by'] 56) = W0 ∧ RawAt W0 w.heap.size ⟨L, A, B, V, by'⟩ ⟨pL, cL, pA, cA, pB, cB, pV, cV⟩ ∧ Below w.heap.size w W0 := ⟨_, rfl, ⟨by go_cell, by go_cell, by go_cell, by go_cell, by go_cell⟩, by go_grown⟩
  have HW0 := Lib.hid hW0; clear hW0
  obtain ⟨G, hG⟩ : ∃ G, great ⟨L, A, B, V, by'⟩ = G := ⟨_, rfl⟩
  have HG := Lib.hid hG
  cases G
  case true =>
    clear hG
    go_enter Try.func15, Try.ntmps15
    go_upto_region 1 with fail
    rw [HW0.out]
    go_upto_region 1 with fail
    go_cut [3] from 27 to 27 (fun s3 wx => (s3 = .bool true) ∧ Below W0.heap.size W0 wx)
    case first =>
      as_aux_lemma =>
        go_wp2_with (first | (go_at_call 39; refine (head16_any _).mono ?_; rintro e w2 ⟨rfl, hbl⟩))
        go_meet
        exact ⟨rfl, (by first | exact hbl | exact btr (by go_grown) hbl)⟩
    case rest =>
      obtain ⟨rfl, hst⟩ := hcut
      replace hX := hX.up hst
      replace hW := btr hW hst
      clear hst
      obtain ⟨x0, x1, x2, x3, x4⟩ := id hX
      dsimp only at x0 x1 x2 x3 x4
      go_wp2_with (first | (go_at_call 40; refine (great_any ⟨L, A, B, V, by'⟩ ⟨pL, cL, pA, cA, pB, cB, pV, cV⟩ _ HX.out.l0 HX.out.l1 HX.out.l2 HX.out.l3).mono ?_; rw [HG.out]; rintro e w1 ⟨rfl, hb1⟩))
      go_ret
      exact ⟨rfl, btr hW hb1⟩
  case false =>
    obtain ⟨h0, h1, h2, h3⟩ := great_no hG
    dsimp only at h0 h1 h2 h3
    clear hG
    obtain ⟨c, refs, a, b, hcb, ha, hb, gc, hcl, ra, rb, la, lb⟩ := raw_plain L A B h0 h1 h2
    have hl : c.length ≤ 20000 := by omega
    have hc : 0 < c.length := gc.ne
    obtain ⟨na, hna⟩ : ∃ n, A.length = n := ⟨_, rfl⟩
    obtain ⟨nb, hnb⟩ : ∃ n, B.length = n := ⟨_, rfl⟩
    have hna9 : na ≤ 9 := by omega
    have hnb9 : nb ≤ 9 := by omega
    rw [hna] at la; rw [hnb] at lb
    have HAL := Lib.hid (allLe_of ra hl); have HBL := Lib.hid (allLe_of rb hl)
    obtain ⟨d, u, e1⟩ : ∃ d' u', (usorter 1 a).run c = (d', u') := ⟨_, _, rfl⟩
    have o1 := sops9 hna9
    obtain ⟨g1, N1⟩ := sorter_num gc ra la (by omega) e1
    have k1 := g1.len
    have o2 : opsTotal nb ≤ 1620 := Nat.le_trans (total_ops hnb9) (by decide)
    obtain ⟨e, v, e2⟩ : ∃ d' u', (utotal 0 1 nb b).run d = (d', u') := ⟨_, _, rfl⟩
    obtain ⟨g2, N2⟩ := total_num g1.good (rb.up g1.ge) lb (by omega) e2
    have k2 := g2.len
    have N1' := N1.up g2
    obtain ⟨f, one, e3⟩ : ∃ d' u', (uadd 0 1 u v).run e = (d', u') := ⟨_, _, rfl⟩
    obtain ⟨g, two, e4⟩ : ∃ d' u', (uadd 0 1 v u).run e = (d', u') := ⟨_, _, rfl⟩
    obtain ⟨h, three, e5⟩ : ∃ d' u', (utotal 0 1 (na + nb) (a ++ b)).run c = (d', u') := ⟨_, _, rfl⟩
    obtain ⟨i, same, e6⟩ : ∃ d' u', (uadd 0 1 u []).run e = (d', u') := ⟨_, _, rfl⟩
    have o3 : opsAdd na nb ≤ 360 := Nat.le_trans (add_ops hna9 hnb9) (by decide)
    have o4 : opsAdd nb na ≤ 360 := Nat.le_trans (add_ops hnb9 hna9) (by decide)
    have o5 : opsTotal (na + nb) ≤ 12312 := Nat.le_trans (total_ops (show na + nb ≤ 18 by omega)) (by decide)
    have o6 : opsAdd na 0 ≤ 180 := Nat.le_trans (add_ops hna9 (Nat.le_refl 0)) (by decide)
    obtain ⟨g3, N3⟩ := add_num g2.good N1' N2 (by omega) e3
    obtain ⟨g4, N4⟩ := add_num g2.good N2 N1' (by omega) e4
    obtain ⟨g5, N5⟩ := total_num gc (ra.append rb) (by simp [la, lb]) (by omega) e5
    have N0 : Num e [] 0 (fun _ => 0) := ⟨rfl, (by intro r hr; cases hr), fun vals => un_small (by simp)⟩
    obtain ⟨g6, N6⟩ := add_num g2.good N1' N0 (by omega) e6
    have k3 := g3.len; have k4 := g4.len; have k5 := g5.len; have k6 := g6.len
    obtain ⟨j, left, e7⟩ : ∃ d' u', (uadd 0 1 one u).run f = (d', u') := ⟨_, _, rfl⟩
    obtain ⟨l, right, e8⟩ : ∃ d' u', (uadd 0 1 u two).run g = (d', u') := ⟨_, _, rfl⟩
    have o7 : opsAdd (na + nb) na ≤ 1026 := Nat.le_trans (add_ops (show na + nb ≤ 18 by omega) hna9) (by decide)
    have o8 : opsAdd na (nb + na) ≤ 540 := Nat.le_trans (add_ops hna9 (show nb + na ≤ 18 by omega)) (by decide)
    obtain ⟨g7, N7⟩ := add_num g3.good N3 (N1'.up g3) (by omega) e7
    obtain ⟨g8, N8⟩ := add_num g4.good (N1'.up g4) N4 (by omega) e8
    have k7 := g7.len; have k8 := g8.len
    have hM : cntv c (a ++ b) V = cntv c a V + cntv d b V := by rw [cntv_append, cntv_up g1.pre rb]
    have y3 : cnum h V three = cntv c (a ++ b) V := N5.count V
    have y4 : cnum d V u = cntv c a V := N1.count V
    have y5 : cnum j V left = cntv c a V + cntv d b V + cntv c a V := N7.count V
    have y6 : cnum l V right = cntv c a V + (cntv d b V + cntv c a V) := N8.count V
    have y7 : cnum f V one = cntv c a V + cntv d b V := N3.count V
    have y8 : cnum e V u = cntv c a V := N1'.count V
    have y9 : cnum e V v = cntv d b V := N2.count V
    have bn := cntv_le c a V
    have bm := cntv_le d b V
    rw [la] at bn; rw [lb] at bm
    rw [hM] at y3
    obtain ⟨n, hn⟩ : ∃ n, cntv c a V = n := ⟨_, rfl⟩
    obtain ⟨k, hk⟩ : ∃ n, cntv d b V = n := ⟨_, rfl⟩
    rw [hn] at y3 y4 y5 y6 y7 y8 bn; rw [hk] at y3 y5 y6 y7 y9 bm
    rw [show n + k + n = n + k + n from rfl] at y5
    rw [show n + (k + n) = n + k + n by omega] at y6
    have U1 : (((fun vals => cntv c a vals + cntv d b vals) V : Nat) : Int) = ((n + k : Nat) : Int) := by show ((cntv c a V + cntv d b V : Nat) : Int) = _; rw [hn, hk]
    have U2 : (((fun vals => cntv d b vals + cntv c a vals) V : Nat) : Int) = ((n + k : Nat) : Int) := by show ((cntv d b V + cntv c a V : Nat) : Int) = _; rw [hn, hk, Nat.add_comm]
    have U3 : (((fun vals => cntv c a vals + 0) V : Nat) : Int) = ((n : Nat) : Int) := by show ((cntv c a V + 0 : Nat) : Int) = _; rw [hn]; rfl
    have hdl : d.length ≤ 20000 := by omega
    have hel : e.length ≤ 20000 := by omega
    have hfl : f.length ≤ 20000 := by omega
    have hgl : g.length ≤ 20000 := by omega
    have hhl : h.length ≤ 20000 := by omega
    have hil : i.length ≤ 20000 := by omega
    have hjl : j.length ≤ 20000 := by omega
    have hll : l.length ≤ 20000 := by omega
    have hdp : 0 < d.length := g1.good.ne
    have hep : 0 < e.length := g2.good.ne
    have hfp : 0 < f.length := g3.good.ne
    have hgp : 0 < g.length := g4.good.ne
    have E1 := Lib.hid e1; have E2 := Lib.hid e2; have E3 := Lib.hid e3; have E4 := Lib.hid e4; have E5 := Lib.hid e5; have E6 := Lib.hid e6; have E7 := Lib.hid e7; have E8 := Lib.hid e8
    have G1 := Lib.hid g1; have G2 := Lib.hid g2; have G3 := Lib.hid g3; have G4 := Lib.hid g4; have G5 := Lib.hid g5; have G6 := Lib.hid g6; have G7 := Lib.hid g7; have G8 := Lib.hid g8
    have M1 := Lib.hid N1; have M1' := Lib.hid N1'; have M2 := Lib.hid N2; have M3 := Lib.hid N3; have M4 := Lib.hid N4; have M5 := Lib.hid N5; have M6 := Lib.hid N6; have M7 := Lib.hid N7; have M8 := Lib.hid N8
    have Y3 := Lib.hid y3; have Y4 := Lib.hid y4; have Y5 := Lib.hid y5; have Y6 := Lib.hid y6; have Y7 := Lib.hid y7; have Y8 := Lib.hid y8; have Y9 := Lib.hid y9
    have HU1 := Lib.hid U1; have HU2 := Lib.hid U2; have HU3 := Lib.hid U3
    have AU := Lib.hid (allLe_of N1'.refs hel); have AV := Lib.hid (allLe_of N2.refs hel); have ABd := Lib.hid (allLe_of (rb.up g1.ge) hdl); have AO := Lib.hid (allLe_of N3.refs hfl); have AT2 := Lib.hid (allLe_of N4.refs hgl); have AAB := Lib.hid (allLe_of (ra.append rb) hl)
    have A0 : Hid (AllLe []) := Lib.hid (fun r hr => by cases hr)
    have h3' : V.length ≤ maxLen := HX.out.l3
    clear e1 e2 e3 e4 e5 e6 e7 e8 g1 g2 g3 g4 g5 g6 g7 g8 N1 N1' N2 N3 N4 N5 N6 N7 N8 N0 o1 o2 o3 o4 o5 o6 o7 o8 k1 k2 k3 k4 k5 k6 k7 k8 hM y3 y4 y5 y6 y7 y8 y9 hn hk U1 U2 U3
    obtain ⟨i0, hi0, hz0, hz1, hz2⟩ := info_parts int_info
    have HCB := Lib.hid hcb; have HA := Lib.hid ha; have HB := Lib.hid hb; have HNA := Lib.hid hna; have HNB := Lib.hid hnb; have RA := Lib.hid ra; have RB := Lib.hid rb; have LA := Lib.hid la; have LB := Lib.hid lb; have GC := Lib.hid gc
    clear hcb ha hb hna hnb ra rb la lb gc
    go_enter Try.func15, Try.ntmps15
    go_upto_region 1 with fail
    rw [HW0.out]
    go_upto_region 1 with fail
    go_cut [3] from 27 to 27 (fun s3 wx => (s3 = .bool true) ∧ Below W0.heap.size W0 wx)
    case first =>
      as_aux_lemma =>
        go_wp2_with (first | (go_at_call 39; refine (head16_any _).mono ?_; rintro e w2 ⟨rfl, hbl⟩))
        go_meet
        exact ⟨rfl, (by first | exact hbl | exact btr (by go_grown) hbl)⟩
    case rest =>
      obtain ⟨rfl, hst⟩ := hcut
      replace hX := hX.up hst
      replace hW := btr hW hst
      clear hst
      obtain ⟨x0, x1, x2, x3, x4⟩ := id hX
      dsimp only at x0 x1 x2 x3 x4
      go_upto_region 4 with (first | (go_at_call 40; refine (great_any ⟨L, A, B, V, by'⟩ ⟨pL, cL, pA, cA, pB, cB, pV, cV⟩ _ HX.out.l0 HX.out.l1 HX.out.l2 HX.out.l3).mono ?_; rw [HG.out]; rintro e w1 ⟨rfl, hb1⟩))
      have hst1 : Below wc.heap.size wc _ := hb1
      replace hX := hX.up hb1
      replace hW := btr hW hb1
      clear hst1 hb1 x0 x1 x2 x3 x4
      obtain ⟨x0, x1, x2, x3, x4⟩ := id hX
      dsimp only at x0 x1 x2 x3 x4
      go_upto_region 4 with fail
      go_cut [4, 5, 6] from 31 to 36 (fun s4 s5 s6 wx => (∃ (b0 : Nat) (q5 : Option Addr) (c5 : Nat) (q6 : Option Addr) (c6 : Nat), s4 = .pointer (some ⟨b0, 0, none⟩) ∧ s5 = .slice q5 na c5 ∧ s6 = .slice q6 nb c6 ∧ Bx wx b0 c ∧ SA wx q5 na c5 a ∧ SA wx q6 nb c6 b) ∧ Below w1.heap.size w1 wx)
      case first =>
        as_aux_lemma =>
          go_wp2_with (first | (go_at_call 41; refine (inputs_is (x := ⟨L, A, B, V, by'⟩) (q := ⟨pL, cL, pA, cA, pB, cB, pV, cV⟩) (HX.out.up (by exact hW)) h0 h1 h2 HCB.out HA.out HB.out HNA.out HNB.out).mono ?_; rintro e w2 ⟨p2, cap2, q5, c5, q6, c6, rfl, hC2, hSa, hSb, hbl⟩))
          go_meet
          exact ⟨⟨_, _, _, _, _, rfl, rfl, rfl, Bx.new hC2 _, hSa.up (bal (Below.refl _ _) _), hSb.up (bal (Below.refl _ _) _)⟩, bal hbl _⟩
      case rest =>
        obtain ⟨⟨b4, q5, cq5, q6, cq6, rfl, rfl, rfl, hB4, hS5, hS6⟩, hst⟩ := hcut
        replace hX := hX.up hst
        replace hW := btr hW hst
        clear hst
        clear x0 x1 x2 x3 x4
        go_upto_region 5 with fail
        obtain ⟨p4, c4, k4, k4f, hC4⟩ := id hB4
        go_cut [7, 8] from 37 to 42 (fun s7 s8 wx => (∃ (b : Nat) (q : Option Addr) (cq : Nat), s7 = .pointer (some ⟨b, 0, none⟩) ∧ s8 = .slice q na cq ∧ Bx wx b d ∧ SA wx q na cq u) ∧ Below wc.heap.size wc wx)
        case first =>
          as_aux_lemma =>
            go_wp2_with (first | (go_at_call 43; refine (sorter_is hC4 hS5 (Below.refl _ _) (by omega) HAL.out hl hc E1.out M1.out.len).mono ?_; rintro e w2 ⟨p2, cap2, q2, cq2, rfl, hC2, hS2, hbl⟩))
            go_meet
            exact ⟨⟨_, _, _, rfl, rfl, Bx.new hC2 _, hS2.up (bal (Below.refl _ _) _)⟩, (by first | exact bal hbl _ | exact bal (btr (by go_grown) hbl) _)⟩
        case rest =>
          clear k4 k4f hC4
          obtain ⟨⟨b7, q8, cq8, rfl, rfl, hB7, hS8⟩, hst⟩ := hcut
          replace hX := hX.up hst
          replace hB4 := hB4.up hst
          replace hS5 := hS5.up hst
          replace hS6 := hS6.up hst
          replace hW := btr hW hst
          clear hst
          go_upto_region 6 with fail
          obtain ⟨p4, c4, k4, k4f, hC4⟩ := id hB4
          obtain ⟨p7, c7, k7, k7f, hC7⟩ := id hB7
          go_cut [52] from 43 to 51 (fun s52 wx => (s52 = .bool false) ∧ Below wc.heap.size wc wx)
          case first =>
            as_aux_lemma =>
              go_wp2_with (first | (go_at_call 51; refine (extends_is hC4 hC7 (by first | exact hb2 | exact Below.refl _ _) G1.out.pre (G1.out.good.valid (by omega))).mono ?_; rintro e w1 ⟨rfl, hb1⟩; have k4 := oldcell hb1 k4 (World.block_lt_of_cell? _ _ k4); have k7 := oldcell hb1 k7 (World.block_lt_of_cell? _ _ k7)) | (go_at_call 52; refine (rvalid16_is hC7 hS8 (by first | exact hb1 | exact Below.refl _ _) (by omega) (by omega) M1.out.refs).mono ?_; rintro e w2 ⟨rfl, hb2⟩; have k4 := oldcell hb2 k4 (World.block_lt_of_cell? _ _ k4); have k7 := oldcell hb2 k7 (World.block_lt_of_cell? _ _ k7)))
              go_meet
              exact ⟨rfl, by first | exact btr hb1 hb2 | exact btr hb2 hb1⟩
          case rest =>
            clear k4 k4f hC4 k7 k7f hC7
            obtain ⟨rfl, hst⟩ := hcut
            replace hX := hX.up hst
            replace hB4 := hB4.up hst
            replace hS5 := hS5.up hst
            replace hS6 := hS6.up hst
            replace hB7 := hB7.up hst
            replace hS8 := hS8.up hst
            replace hW := btr hW hst
            clear hst
            go_upto_region 8 with fail
            obtain ⟨p7, c7, k7, k7f, hC7⟩ := id hB7
            go_cut [9, 10] from 53 to 58 (fun s9 s10 wx => (∃ (b : Nat) (q : Option Addr) (cq : Nat), s9 = .pointer (some ⟨b, 0, none⟩) ∧ s10 = .slice q nb cq ∧ Bx wx b e ∧ SA wx q nb cq v) ∧ Below wc.heap.size wc wx)
            case first =>
              as_aux_lemma =>
                go_wp2_with (first | (go_at_call 44; refine (totalizer_is hC7 hS6 (Below.refl _ _) (by omega) ABd.out hdl hdp E2.out M2.out.len).mono ?_; rintro e w2 ⟨p2, cap2, q2, cq2, rfl, hC2, hS2, hbl⟩))
                go_meet
                exact ⟨⟨_, _, _, rfl, rfl, Bx.new hC2 _, hS2.up (bal (Below.refl _ _) _)⟩, (by first | exact bal hbl _ | exact bal (btr (by go_grown) hbl) _)⟩
            case rest =>
              clear k7 k7f hC7
              obtain ⟨⟨b9, q10, cq10, rfl, rfl, hB9, hS10⟩, hst⟩ := hcut
              replace hX := hX.up hst
              replace hB4 := hB4.up hst
              replace hS5 := hS5.up hst
              replace hS6 := hS6.up hst
              replace hB7 := hB7.up hst
              replace hS8 := hS8.up hst
              replace hW := btr hW hst
              clear hst
              go_upto_region 9 with fail
              obtain ⟨p7, c7, k7, k7f, hC7⟩ := id hB7
              obtain ⟨p9, c9, k9, k9f, hC9⟩ := id hB9
              go_cut [68] from 59 to 67 (fun s68 wx => (s68 = .bool false) ∧ Below wc.heap.size wc wx)
              case first =>
                as_aux_lemma =>
                  go_wp2_with (first | (go_at_call 51; refine (extends_is hC7 hC9 (by first | exact hb2 | exact Below.refl _ _) G2.out.pre (G2.out.good.valid (by omega))).mono ?_; rintro e w1 ⟨rfl, hb1⟩; have k7 := oldcell hb1 k7 (World.block_lt_of_cell? _ _ k7); have k9 := oldcell hb1 k9 (World.block_lt_of_cell? _ _ k9)) | (go_at_call 52; refine (rvalid16_is hC9 hS10 (by first | exact hb1 | exact Below.refl _ _) (by omega) (by omega) M2.out.refs).mono ?_; rintro e w2 ⟨rfl, hb2⟩; have k7 := oldcell hb2 k7 (World.block_lt_of_cell? _ _ k7); have k9 := oldcell hb2 k9 (World.block_lt_of_cell? _ _ k9)))
                  go_meet
                  exact ⟨rfl, by first | exact btr hb1 hb2 | exact btr hb2 hb1⟩
              case rest =>
                clear k7 k7f hC7 k9 k9f hC9
                obtain ⟨rfl, hst⟩ := hcut
                replace hX := hX.up hst
                replace hB4 := hB4.up hst
                replace hS5 := hS5.up hst
                replace hS6 := hS6.up hst
                replace hB7 := hB7.up hst
                replace hS8 := hS8.up hst
                replace hB9 := hB9.up hst
                replace hS10 := hS10.up hst
                replace hW := btr hW hst
                clear hst
                go_upto_region 11 with fail
                obtain ⟨p9, c9, k9, k9f, hC9⟩ := id hB9
                go_cut [11, 12] from 69 to 75 (fun s11 s12 wx => (∃ (b : Nat) (q : Option Addr) (cq : Nat), s11 = .pointer (some ⟨b, 0, none⟩) ∧ s12 = .slice q (na + nb) cq ∧ Bx wx b f ∧ SA wx q (na + nb) cq one) ∧ Below wc.heap.size wc wx)
                case first =>
                  as_aux_lemma =>
                    go_wp2_with (first | (go_at_call 48; refine (add_is hC9 hS8 hS10 (Below.refl _ _) (by omega) (by omega) AU.out AV.out hel hep E3.out M3.out.len).mono ?_; rintro e w2 ⟨p2, cap2, q2, cq2, rfl, hC2, hS2, hbl⟩))
                    go_meet
                    exact ⟨⟨_, _, _, rfl, rfl, Bx.new hC2 _, hS2.up (bal (Below.refl _ _) _)⟩, (by first | exact bal hbl _ | exact bal (btr (by go_grown) hbl) _)⟩
                case rest =>
                  clear k9 k9f hC9
                  obtain ⟨⟨b11, q12, cq12, rfl, rfl, hB11, hS12⟩, hst⟩ := hcut
                  replace hX := hX.up hst
                  replace hB4 := hB4.up hst
                  replace hS5 := hS5.up hst
                  replace hS6 := hS6.up hst
                  replace hB7 := hB7.up hst
                  replace hS8 := hS8.up hst
                  replace hB9 := hB9.up hst
                  replace hS10 := hS10.up hst
                  replace hW := btr hW hst
                  clear hst
                  go_upto_region 12 with fail
                  obtain ⟨p9, c9, k9, k9f, hC9⟩ := id hB9
                  go_cut [13, 14] from 76 to 82 (fun s13 s14 wx => (∃ (b : Nat) (q : Option Addr) (cq : Nat), s13 = .pointer (some ⟨b, 0, none⟩) ∧ s14 = .slice q (nb + na) cq ∧ Bx wx b g ∧ SA wx q (nb + na) cq two) ∧ Below wc.heap.size wc wx)
                  case first =>
                    as_aux_lemma =>
                      go_wp2_with (first | (go_at_call 48; refine (add_is hC9 hS10 hS8 (Below.refl _ _) (by omega) (by omega) AV.out AU.out hel hep E4.out M4.out.len).mono ?_; rintro e w2 ⟨p2, cap2, q2, cq2, rfl, hC2, hS2, hbl⟩))
                      go_meet
                      exact ⟨⟨_, _, _, rfl, rfl, Bx.new hC2 _, hS2.up (bal (Below.refl _ _) _)⟩, (by first | exact bal hbl _ | exact bal (btr (by go_grown) hbl) _)⟩
                  case rest =>
                    clear k9 k9f hC9
                    obtain ⟨⟨b13, q14, cq14, rfl, rfl, hB13, hS14⟩, hst⟩ := hcut
                    replace hX := hX.up hst
                    replace hB4 := hB4.up hst
                    replace hS5 := hS5.up hst
                    replace hS6 := hS6.up hst
                    replace hB7 := hB7.up hst
                    replace hS8 := hS8.up hst
                    replace hB9 := hB9.up hst
                    replace hS10 := hS10.up hst
                    replace hB11 := hB11.up hst
                    replace hS12 := hS12.up hst
                    replace hW := btr hW hst
                    clear hst
                    go_upto_region 13 with fail
                    obtain ⟨B0, hB0⟩ : ∃ B, wc.heap.size = B := ⟨_, rfl⟩
                    have HB0 := Lib.hid hB0; clear hB0
                    go_upto_region 14 with (first | (at_builtin; go_must (refine wpList_app2 (enc := iEnc) rfl _ _ _ rfl wc.heap.size 3 i0 _ 8 Try.underlying28 hi0 hz0 hz1 hz2 rfl (by omega) (.slice (some ⟨wc.heap.size, 0, none⟩) 0 0) [] rfl (World.ownsRow_lit wc #[] 0 (Nat.le_refl _) (by decide) rfl) q5 a cq5 (by rw [LA.out]; rfl) hS5.q0 (hS5.at'.mono (bal (Below.refl _ _) _)) iEnc_one (by rw [LA.out]; simp [maxLen]; omega) (by rw [LA.out]; simp; omega) (by simp) ?_); intro v2 w2 hown2 hgr2 hbl2 hat2; have HOW := Lib.hid hown2; have HBL2 := Lib.hid (Below.trans (bal (Below.refl _ _) _) hbl2); clear hown2 hgr2 hbl2 hat2))
                    go_upto_region 15 with (first | (at_builtin; go_must (refine wpList_app2 (enc := iEnc) rfl _ _ _ rfl wc.heap.size 3 i0 _ 8 Try.underlying28 hi0 hz0 hz1 hz2 rfl (by omega) v2 ([] ++ a) rfl HOW.out q6 b cq6 (by rw [LB.out]; rfl) hS6.q0 ((hS6.up HBL2.out).at') iEnc_one (by simp [LA.out, LB.out, maxLen]; omega) (by simp [LA.out, LB.out]; omega) HBL2.out.size ?_); intro v3 w3 hown3 hgr3 hbl3 hat3; have HOW3 := Lib.hid hown3; have HBL3 := Lib.hid hbl3; clear hown3 hgr3 hbl3 hat3))
                    have hst := btr' HBL2.out HBL3.out
                    obtain ⟨q15, cq15, hv15, hS15⟩ := SA.of_owns HOW3.out (show ([] ++ a ++ b).length = na + nb by simp [LA.out, LB.out])
                    subst hv15
                    replace hX := hX.up hst
                    replace hB4 := hB4.up hst
                    replace hS5 := hS5.up hst
                    replace hS6 := hS6.up hst
                    replace hB7 := hB7.up hst
                    replace hS8 := hS8.up hst
                    replace hB9 := hB9.up hst
                    replace hS10 := hS10.up hst
                    replace hB11 := hB11.up hst
                    replace hS12 := hS12.up hst
                    replace hB13 := hB13.up hst
                    replace hS14 := hS14.up hst
                    replace hW := btr hW hst
                    clear hst
                    go_upto_region 15 with fail
                    obtain ⟨p4, c4, k4, k4f, hC4⟩ := id hB4
                    go_cut [16, 17] from 89 to 94 (fun s16 s17 wx => (∃ (b : Nat) (q : Option Addr) (cq : Nat), s16 = .pointer (some ⟨b, 0, none⟩) ∧ s17 = .slice q (na + nb) cq ∧ Bx wx b h ∧ SA wx q (na + nb) cq three) ∧ Below w3.heap.size w3 wx)
                    case first =>
                      as_aux_lemma =>
                        go_wp2_with (first | (go_at_call 44; refine (totalizer_is hC4 hS15 (Below.refl _ _) (by omega) AAB.out hl hc E5.out M5.out.len).mono ?_; rintro e w2 ⟨p2, cap2, q2, cq2, rfl, hC2, hS2, hbl⟩))
                        go_meet
                        exact ⟨⟨_, _, _, rfl, rfl, Bx.new hC2 _, hS2.up (bal (Below.refl _ _) _)⟩, (by first | exact bal hbl _ | exact bal (btr (by go_grown) hbl) _)⟩
                    case rest =>
                      clear k4 k4f hC4
                      obtain ⟨⟨b16, q17, cq17, rfl, rfl, hB16, hS17⟩, hst⟩ := hcut
                      replace hX := hX.up hst
                      replace hB4 := hB4.up hst
                      replace hS5 := hS5.up hst
                      replace hS6 := hS6.up hst
                      replace hB7 := hB7.up hst
                      replace hS8 := hS8.up hst
                      replace hB9 := hB9.up hst
                      replace hS10 := hS10.up hst
                      replace hB11 := hB11.up hst
                      replace hS12 := hS12.up hst
                      replace hB13 := hB13.up hst
                      replace hS14 := hS14.up hst
                      replace hS15 := hS15.up hst
                      replace hW := btr hW hst
                      clear hst
                      go_upto_region 16 with fail
                      obtain ⟨p9, c9, k9, k9f, hC9⟩ := id hB9
                      go_cut [18, 19] from 95 to 100 (fun s18 s19 wx => (∃ (b : Nat) (q : Option Addr) (cq : Nat), s18 = .pointer (some ⟨b, 0, none⟩) ∧ s19 = .slice q (na + 0) cq ∧ Bx wx b i ∧ SA wx q (na + 0) cq same) ∧ Below wc.heap.size wc wx)
                      case first =>
                        as_aux_lemma =>
                          go_wp2_with (first | (go_at_call 48; refine (add_is hC9 hS8 (SA.nil _) (Below.refl _ _) (by omega) (by omega) AU.out A0.out hel hep E6.out M6.out.len).mono ?_; rintro e w2 ⟨p2, cap2, q2, cq2, rfl, hC2, hS2, hbl⟩))
                          go_meet
                          exact ⟨⟨_, _, _, rfl, rfl, Bx.new hC2 _, hS2.up (bal (Below.refl _ _) _)⟩, (by first | exact bal hbl _ | exact bal (btr (by go_grown) hbl) _)⟩
                      case rest =>
                        clear k9 k9f hC9
                        obtain ⟨⟨b18, q19, cq19, rfl, rfl, hB18, hS19⟩, hst⟩ := hcut
                        replace hX := hX.up hst
                        replace hB4 := hB4.up hst
                        replace hS5 := hS5.up hst
                        replace hS6 := hS6.up hst
                        replace hB7 := hB7.up hst
                        replace hS8 := hS8.up hst
                        replace hB9 := hB9.up hst
                        replace hS10 := hS10.up hst
                        replace hB11 := hB11.up hst
                        replace hS12 := hS12.up hst
                        replace hB13 := hB13.up hst
                        replace hS14 := hS14.up hst
                        replace hS15 := hS15.up hst
                        replace hB16 := hB16.up hst
                        replace hS17 := hS17.up hst
                        replace hW := btr hW hst
                        clear hst
                        go_upto_region 17 with fail
                        obtain ⟨p9, c9, k9, k9f, hC9⟩ := id hB9
                        obtain ⟨p11, c11, k11, k11f, hC11⟩ := id hB11
                        go_cut [110] from 101 to 109 (fun s110 wx => (s110 = .bool false) ∧ Below wc.heap.size wc wx)
                        case first =>
                          as_aux_lemma =>
                            go_wp2_with (first | (go_at_call 51; refine (extends_is hC9 hC11 (by first | exact hb2 | exact Below.refl _ _) G3.out.pre (G3.out.good.valid (by omega))).mono ?_; rintro e w1 ⟨rfl, hb1⟩; have k9 := oldcell hb1 k9 (World.block_lt_of_cell? _ _ k9); have k11 := oldcell hb1 k11 (World.block_lt_of_cell? _ _ k11)) | (go_at_call 52; refine (rvalid16_is hC11 hS12 (by first | exact hb1 | exact Below.refl _ _) (by omega) (by omega) M3.out.refs).mono ?_; rintro e w2 ⟨rfl, hb2⟩; have k9 := oldcell hb2 k9 (World.block_lt_of_cell? _ _ k9); have k11 := oldcell hb2 k11 (World.block_lt_of_cell? _ _ k11)))
                            go_meet
                            exact ⟨rfl, by first | exact btr hb1 hb2 | exact btr hb2 hb1⟩
                        case rest =>
                          clear k9 k9f hC9 k11 k11f hC11
                          obtain ⟨rfl, hst⟩ := hcut
                          replace hX := hX.up hst
                          replace hB4 := hB4.up hst
                          replace hS5 := hS5.up hst
                          replace hS6 := hS6.up hst
                          replace hB7 := hB7.up hst
                          replace hS8 := hS8.up hst
                          replace hB9 := hB9.up hst
                          replace hS10 := hS10.up hst
                          replace hB11 := hB11.up hst
                          replace hS12 := hS12.up hst
                          replace hB13 := hB13.up hst
                          replace hS14 := hS14.up hst
                          replace hS15 := hS15.up hst
                          replace hB16 := hB16.up hst
                          replace hS17 := hS17.up hst
                          replace hB18 := hB18.up hst
                          replace hS19 := hS19.up hst
                          replace hW := btr hW hst
                          clear hst
                          go_upto_region 19 with fail
                          obtain ⟨p11, c11, k11, k11f, hC11⟩ := id hB11
                          go_cut [20, 21] from 111 to 117 (fun s20 s21 wx => (∃ (b : Nat) (q : Option Addr) (cq : Nat), s20 = .pointer (some ⟨b, 0, none⟩) ∧ s21 = .slice q (na + nb + na) cq ∧ Bx wx b j ∧ SA wx q (na + nb + na) cq left) ∧ Below wc.heap.size wc wx)
                          case first =>
                            as_aux_lemma =>
                              go_wp2_with (first | (go_at_call 48; refine (add_is hC11 hS12 hS8 (Below.refl _ _) (by omega) (by omega) AO.out AU.out hfl hfp E7.out M7.out.len).mono ?_; rintro e w2 ⟨p2, cap2, q2, cq2, rfl, hC2, hS2, hbl⟩))
                              go_meet
                              exact ⟨⟨_, _, _, rfl, rfl, Bx.new hC2 _, hS2.up (bal (Below.refl _ _) _)⟩, (by first | exact bal hbl _ | exact bal (btr (by go_grown) hbl) _)⟩
                          case rest =>
                            clear k11 k11f hC11
                            obtain ⟨⟨b20, q21, cq21, rfl, rfl, hB20, hS21⟩, hst⟩ := hcut
                            replace hX := hX.up hst
                            replace hB4 := hB4.up hst
                            replace hS5 := hS5.up hst
                            replace hS6 := hS6.up hst
                            replace hB7 := hB7.up hst
                            replace hS8 := hS8.up hst
                            replace hB9 := hB9.up hst
                            replace hS10 := hS10.up hst
                            replace hB11 := hB11.up hst
                            replace hS12 := hS12.up hst
                            replace hB13 := hB13.up hst
                            replace hS14 := hS14.up hst
                            replace hS15 := hS15.up hst
                            replace hB16 := hB16.up hst
                            replace hS17 := hS17.up hst
                            replace hB18 := hB18.up hst
                            replace hS19 := hS19.up hst
                            replace hW := btr hW hst
                            clear hst
                            go_upto_region 20 with fail
                            obtain ⟨p9, c9, k9, k9f, hC9⟩ := id hB9
                            go_cut [22, 23] from 118 to 124 (fun s22 s23 wx => (∃ (b : Nat) (q : Option Addr) (cq : Nat), s22 = .pointer (some ⟨b, 0, none⟩) ∧ s23 = .slice q (nb + na) cq ∧ Bx wx b g ∧ SA wx q (nb + na) cq two) ∧ Below wc.heap.size wc wx)
                            case first =>
                              as_aux_lemma =>
                                go_wp2_with (first | (go_at_call 48; refine (add_is hC9 hS10 hS8 (Below.refl _ _) (by omega) (by omega) AV.out AU.out hel hep E4.out M4.out.len).mono ?_; rintro e w2 ⟨p2, cap2, q2, cq2, rfl, hC2, hS2, hbl⟩))
                                go_meet
                                exact ⟨⟨_, _, _, rfl, rfl, Bx.new hC2 _, hS2.up (bal (Below.refl _ _) _)⟩, (by first | exact bal hbl _ | exact bal (btr (by go_grown) hbl) _)⟩
                            case rest =>
                              clear k9 k9f hC9
                              obtain ⟨⟨b22, q23, cq23, rfl, rfl, hB22, hS23⟩, hst⟩ := hcut
                              replace hX := hX.up hst
                              replace hB4 := hB4.up hst
                              replace hS5 := hS5.up hst
                              replace hS6 := hS6.up hst
                              replace hB7 := hB7.up hst
                              replace hS8 := hS8.up hst
                              replace hB9 := hB9.up hst
                              replace hS10 := hS10.up hst
                              replace hB11 := hB11.up hst
                              replace hS12 := hS12.up hst
                              replace hB13 := hB13.up hst
                              replace hS14 := hS14.up hst
                              replace hS15 := hS15.up hst
                              replace hB16 := hB16.up hst
                              replace hS17 := hS17.up hst
                              replace hB18 := hB18.up hst
                              replace hS19 := hS19.up hst
                              replace hB20 := hB20.up hst
                              replace hS21 := hS21.up hst
                              replace hW := btr hW hst
                              clear hst
                              go_upto_region 21 with fail
                              obtain ⟨p9, c9, k9, k9f, hC9⟩ := id hB9
                              obtain ⟨p22, c22, k22, k22f, hC22⟩ := id hB22
                              go_cut [134] from 125 to 133 (fun s134 wx => (s134 = .bool false) ∧ Below wc.heap.size wc wx)
                              case first =>
                                as_aux_lemma =>
                                  go_wp2_with (first | (go_at_call 51; refine (extends_is hC9 hC22 (by first | exact hb2 | exact Below.refl _ _) G4.out.pre (G4.out.good.valid (by omega))).mono ?_; rintro e w1 ⟨rfl, hb1⟩; have k9 := oldcell hb1 k9 (World.block_lt_of_cell? _ _ k9); have k22 := oldcell hb1 k22 (World.block_lt_of_cell? _ _ k22)) | (go_at_call 52; refine (rvalid16_is hC22 hS23 (by first | exact hb1 | exact Below.refl _ _) (by omega) (by omega) M4.out.refs).mono ?_; rintro e w2 ⟨rfl, hb2⟩; have k9 := oldcell hb2 k9 (World.block_lt_of_cell? _ _ k9); have k22 := oldcell hb2 k22 (World.block_lt_of_cell? _ _ k22)))
                                  go_meet
                                  exact ⟨rfl, by first | exact btr hb1 hb2 | exact btr hb2 hb1⟩
                              case rest =>
                                clear k9 k9f hC9 k22 k22f hC22
                                obtain ⟨rfl, hst⟩ := hcut
                                replace hX := hX.up hst
                                replace hB4 := hB4.up hst
                                replace hS5 := hS5.up hst
                                replace hS6 := hS6.up hst
                                replace hB7 := hB7.up hst
                                replace hS8 := hS8.up hst
                                replace hB9 := hB9.up hst
                                replace hS10 := hS10.up hst
                                replace hB11 := hB11.up hst
                                replace hS12 := hS12.up hst
                                replace hB13 := hB13.up hst
                                replace hS14 := hS14.up hst
                                replace hS15 := hS15.up hst
                                replace hB16 := hB16.up hst
                                replace hS17 := hS17.up hst
                                replace hB18 := hB18.up hst
                                replace hS19 := hS19.up hst
                                replace hB20 := hB20.up hst
                                replace hS21 := hS21.up hst
                                replace hB22 := hB22.up hst
                                replace hS23 := hS23.up hst
                                replace hW := btr hW hst
                                clear hst
                                go_upto_region 23 with fail
                                obtain ⟨p22, c22, k22, k22f, hC22⟩ := id hB22
                                go_cut [24, 25] from 135 to 141 (fun s24 s25 wx => (∃ (b : Nat) (q : Option Addr) (cq : Nat), s24 = .pointer (some ⟨b, 0, none⟩) ∧ s25 = .slice q (na + (nb + na)) cq ∧ Bx wx b l ∧ SA wx q (na + (nb + na)) cq right) ∧ Below wc.heap.size wc wx)
                                case first =>
                                  as_aux_lemma =>
                                    go_wp2_with (first | (go_at_call 48; refine (add_is hC22 hS8 hS23 (Below.refl _ _) (by omega) (by omega) AU.out AT2.out hgl hgp E8.out M8.out.len).mono ?_; rintro e w2 ⟨p2, cap2, q2, cq2, rfl, hC2, hS2, hbl⟩))
                                    go_meet
                                    exact ⟨⟨_, _, _, rfl, rfl, Bx.new hC2 _, hS2.up (bal (Below.refl _ _) _)⟩, (by first | exact bal hbl _ | exact bal (btr (by go_grown) hbl) _)⟩
                                case rest =>
                                  clear k22 k22f hC22
                                  obtain ⟨⟨b24, q25, cq25, rfl, rfl, hB24, hS25⟩, hst⟩ := hcut
                                  replace hX := hX.up hst
                                  replace hB4 := hB4.up hst
                                  replace hS5 := hS5.up hst
                                  replace hS6 := hS6.up hst
                                  replace hB7 := hB7.up hst
                                  replace hS8 := hS8.up hst
                                  replace hB9 := hB9.up hst
                                  replace hS10 := hS10.up hst
                                  replace hB11 := hB11.up hst
                                  replace hS12 := hS12.up hst
                                  replace hB13 := hB13.up hst
                                  replace hS14 := hS14.up hst
                                  replace hS15 := hS15.up hst
                                  replace hB16 := hB16.up hst
                                  replace hS17 := hS17.up hst
                                  replace hB18 := hB18.up hst
                                  replace hS19 := hS19.up hst
                                  replace hB20 := hB20.up hst
                                  replace hS21 := hS21.up hst
                                  replace hB22 := hB22.up hst
                                  replace hS23 := hS23.up hst
                                  replace hW := btr hW hst
                                  clear hst
                                  go_upto_region 24 with fail
                                  obtain ⟨p16, c16, k16, k16f, hC16⟩ := id hB16
                                  obtain ⟨x0, x1, x2, x3, x4⟩ := id hX; dsimp only at x0 x1 x2 x3 x4
                                  go_cut [26] from 142 to 146 (fun s26 wx => (s26 = .int .i64 ((n + k : Nat) : Int)) ∧ Below wc.heap.size wc wx)
                                  case first =>
                                    as_aux_lemma =>
                                      go_wp2_with (first | (go_at_call 42; refine (number_is (cv := cV) hC16 hS17 (HX.out.va hW) (Below.refl _ _) (by omega) hhl G5.out.good.wf Y3.out).mono ?_; rintro e w2 ⟨rfl, hbl⟩))
                                      go_meet
                                      exact ⟨rfl, (by first | exact hbl | exact btr (by go_grown) hbl)⟩
                                  case rest =>
                                    clear k16 k16f hC16
                                    obtain ⟨rfl, hst⟩ := hcut
                                    replace hX := hX.up hst
                                    replace hB4 := hB4.up hst
                                    replace hS5 := hS5.up hst
                                    replace hS6 := hS6.up hst
                                    replace hB7 := hB7.up hst
                                    replace hS8 := hS8.up hst
                                    replace hB9 := hB9.up hst
                                    replace hS10 := hS10.up hst
                                    replace hB11 := hB11.up hst
                                    replace hS12 := hS12.up hst
                                    replace hB13 := hB13.up hst
                                    replace hS14 := hS14.up hst
                                    replace hS15 := hS15.up hst
                                    replace hB16 := hB16.up hst
                                    replace hS17 := hS17.up hst
                                    replace hB18 := hB18.up hst
                                    replace hS19 := hS19.up hst
                                    replace hB20 := hB20.up hst
                                    replace hS21 := hS21.up hst
                                    replace hB22 := hB22.up hst
                                    replace hS23 := hS23.up hst
                                    replace hB24 := hB24.up hst
                                    replace hS25 := hS25.up hst
                                    replace hW := btr hW hst
                                    clear hst
                                    clear x0 x1 x2 x3 x4
                                    go_upto_region 25 with fail
                                    obtain ⟨p7, c7, k7, k7f, hC7⟩ := id hB7
                                    obtain ⟨p9, c9, k9, k9f, hC9⟩ := id hB9
                                    obtain ⟨p11, c11, k11, k11f, hC11⟩ := id hB11
                                    obtain ⟨p13, c13, k13, k13f, hC13⟩ := id hB13
                                    obtain ⟨p18, c18, k18, k18f, hC18⟩ := id hB18
                                    obtain ⟨p20, c20, k20, k20f, hC20⟩ := id hB20
                                    obtain ⟨p24, c24, k24, k24f, hC24⟩ := id hB24
                                    obtain ⟨x0, x1, x2, x3, x4⟩ := id hX; dsimp only at x0 x1 x2 x3 x4
                                    have T1 := Lib.hid (fun (w' : World) (hB' : Below wc.heap.size wc w') => unary_is (cv := cV) hC11 hS12 (HX.out.va hW) hB' (by omega) hfl G3.out.good.wf M3.out HU1.out)
                                    have T2 := Lib.hid (fun (w' : World) (hB' : Below wc.heap.size wc w') => unary_is (cv := cV) hC13 hS14 (HX.out.va hW) hB' (by omega) hgl G4.out.good.wf M4.out HU2.out)
                                    have T3 := Lib.hid (fun (w' : World) (hB' : Below wc.heap.size wc w') => number_is (cv := cV) hC7 hS8 (HX.out.va hW) hB' (by omega) hdl G1.out.good.wf Y4.out)
                                    have T4 := Lib.hid (fun (w' : World) (hB' : Below wc.heap.size wc w') => unary_is (cv := cV) hC18 hS19 (HX.out.va hW) hB' (by omega) hil G6.out.good.wf M6.out HU3.out)
                                    have T5 := Lib.hid (fun (w' : World) (hB' : Below wc.heap.size wc w') => number_is (cv := cV) hC20 hS21 (HX.out.va hW) hB' (by omega) hjl G7.out.good.wf Y5.out)
                                    have T6 := Lib.hid (fun (w' : World) (hB' : Below wc.heap.size wc w') => number_is (cv := cV) hC24 hS25 (HX.out.va hW) hB' (by omega) hll G8.out.good.wf Y6.out)
                                    have T7 := Lib.hid (fun (w' : World) (hB' : Below wc.heap.size wc w') => value16_is (cv := cV) hC11 hS12 (HX.out.va hW) hB' (by omega) hfl G3.out.good.wf Y7.out)
                                    have T8 := Lib.hid (fun (w' : World) (hB' : Below wc.heap.size wc w') => value16_is (cv := cV) hC9 hS8 (HX.out.va hW) hB' (by omega) hel G2.out.good.wf Y8.out)
                                    have T9 := Lib.hid (fun (w' : World) (hB' : Below wc.heap.size wc w') => value16_is (cv := cV) hC9 hS10 (HX.out.va hW) hB' (by omega) hel G2.out.good.wf Y9.out)
                                    have hwr : IntKind.i64.wrap ((n : Int) + (k : Int)) = (n : Int) + (k : Int) := by (rw [IntWalk.i64_in]; omega)
                                    dsimp only [List.append]
                                    refine wp_region_seq (fun w' => Below wc.heap.size wc w') (by kernel_rfl) (by kernel_rfl) (by go_grown) ?_
                                    refine seq_pure (v := ?_) (by rfl) ?_ ?_
                                    rotate_left
                                    · (intro w hS; go_simp; try with_reducible rfl)
                                    (try simp only [Act.put, List.setIfInBounds_toArray, List.set_cons_zero, List.set_cons_succ])
                                    refine seq_pure (v := ?_) (by rfl) ?_ ?_
                                    rotate_left
                                    · (intro w hS; go_simp; try with_reducible rfl)
                                    (try simp only [Act.put, List.setIfInBounds_toArray, List.set_cons_zero, List.set_cons_succ])
                                    refine seq_pure (v := ?_) (by rfl) ?_ ?_
                                    rotate_left
                                    · (intro w hS; go_simp; try with_reducible rfl)
                                    (try simp only [Act.put, List.setIfInBounds_toArray, List.set_cons_zero, List.set_cons_succ])
                                    refine seq_pure (v := ?_) (by rfl) ?_ ?_
                                    rotate_left
                                    · (intro w hS; go_simp; try with_reducible rfl)
                                    (try simp only [Act.put, List.setIfInBounds_toArray, List.set_cons_zero, List.set_cons_succ])
                                    refine seq_pure (v := ?_) (by rfl) ?_ ?_
                                    rotate_left
                                    · (intro w hS; go_simp; try with_reducible rfl)
                                    (try simp only [Act.put, List.setIfInBounds_toArray, List.set_cons_zero, List.set_cons_succ])
                                    refine seq_pure (v := ?_) (by rfl) ?_ ?_
                                    rotate_left
                                    · (intro w hS; go_simp; try with_reducible rfl)
                                    (try simp only [Act.put, List.setIfInBounds_toArray, List.set_cons_zero, List.set_cons_succ])
                                    refine seq_pure (v := ?_) (by rfl) ?_ ?_
                                    rotate_left
                                    · (intro w hS; go_simp; try with_reducible rfl)
                                    (try simp only [Act.put, List.setIfInBounds_toArray, List.set_cons_zero, List.set_cons_succ])
                                    refine seq_pure (v := ?_) (by rfl) ?_ ?_
                                    rotate_left
                                    · (intro w hS; go_simp; try with_reducible rfl)
                                    (try simp only [Act.put, List.setIfInBounds_toArray, List.set_cons_zero, List.set_cons_succ])
                                    refine seq_pure (v := ?_) (by rfl) ?_ ?_
                                    rotate_left
                                    · (intro w hS; go_simp; try with_reducible rfl)
                                    (try simp only [Act.put, List.setIfInBounds_toArray, List.set_cons_zero, List.set_cons_succ])
                                    refine seq_pure (v := ?_) (by rfl) ?_ ?_
                                    rotate_left
                                    · (intro w hS; have kk := oldcell hS k11 (World.block_lt_of_cell? _ _ k11); go_simp; try with_reducible rfl)
                                    (try simp only [Act.put, List.setIfInBounds_toArray, List.set_cons_zero, List.set_cons_succ])
                                    refine seq_pure (v := ?_) (by rfl) ?_ ?_
                                    rotate_left
                                    · (intro w hS; go_simp; try with_reducible rfl)
                                    (try simp only [Act.put, List.setIfInBounds_toArray, List.set_cons_zero, List.set_cons_succ])
                                    refine seq_pure (v := ?_) (by rfl) ?_ ?_
                                    rotate_left
                                    · (intro w hS; go_simp; try with_reducible rfl)
                                    (try simp only [Act.put, List.setIfInBounds_toArray, List.set_cons_zero, List.set_cons_succ])
                                    refine seq_pure (v := ?_) (by rfl) ?_ ?_
                                    rotate_left
                                    · (intro w hS; have kk := oldcell hS x3 (World.block_lt_of_cell? _ _ x3); go_simp; try with_reducible rfl)
                                    (try simp only [Act.put, List.setIfInBounds_toArray, List.set_cons_zero, List.set_cons_succ])
                                    refine seq_pure (v := ?_) (by rfl) ?_ ?_
                                    rotate_left
                                    · (intro w hS; go_simp; try with_reducible rfl)
                                    (try simp only [Act.put, List.setIfInBounds_toArray, List.set_cons_zero, List.set_cons_succ])
                                    refine seq_call (v := .bool true) (f := ?_) (args := ?_) (by rfl) ?_ ?_ ?_
                                    rotate_left 2
                                    · (intro w hS; go_simp; first | done | with_reducible rfl | (refine ⟨?_, ?_⟩ <;> with_reducible rfl))
                                    · (intro w hS; refine (T1.out w hS).mono ?_; rintro e w' ⟨he, hb⟩; exact ⟨he, btr hS hb⟩)
                                    (try simp only [Act.put, List.setIfInBounds_toArray, List.set_cons_zero, List.set_cons_succ])
                                    refine seq_pure (v := ?_) (by rfl) ?_ ?_
                                    rotate_left
                                    · (intro w hS; go_simp; try with_reducible rfl)
                                    (try simp only [Act.put, List.setIfInBounds_toArray, List.set_cons_zero, List.set_cons_succ])
                                    refine seq_pure (v := ?_) (by rfl) ?_ ?_
                                    rotate_left
                                    · (intro w hS; go_simp; try with_reducible rfl)
                                    (try simp only [Act.put, List.setIfInBounds_toArray, List.set_cons_zero, List.set_cons_succ])
                                    refine seq_pure (v := ?_) (by rfl) ?_ ?_
                                    rotate_left
                                    · (intro w hS; have kk := oldcell hS k13 (World.block_lt_of_cell? _ _ k13); go_simp; try with_reducible rfl)
                                    (try simp only [Act.put, List.setIfInBounds_toArray, List.set_cons_zero, List.set_cons_succ])
                                    refine seq_pure (v := ?_) (by rfl) ?_ ?_
                                    rotate_left
                                    · (intro w hS; go_simp; try with_reducible rfl)
                                    (try simp only [Act.put, List.setIfInBounds_toArray, List.set_cons_zero, List.set_cons_succ])
                                    refine seq_pure (v := ?_) (by rfl) ?_ ?_
                                    rotate_left
                                    · (intro w hS; go_simp; try with_reducible rfl)
                                    (try simp only [Act.put, List.setIfInBounds_toArray, List.set_cons_zero, List.set_cons_succ])
                                    refine seq_pure (v := ?_) (by rfl) ?_ ?_
                                    rotate_left
                                    · (intro w hS; have kk := oldcell hS x3 (World.block_lt_of_cell? _ _ x3); go_simp; try with_reducible rfl)
                                    (try simp only [Act.put, List.setIfInBounds_toArray, List.set_cons_zero, List.set_cons_succ])
                                    refine seq_pure (v := ?_) (by rfl) ?_ ?_
                                    rotate_left
                                    · (intro w hS; go_simp; try with_reducible rfl)
                                    (try simp only [Act.put, List.setIfInBounds_toArray, List.set_cons_zero, List.set_cons_succ])
                                    refine seq_call (v := .bool true) (f := ?_) (args := ?_) (by rfl) ?_ ?_ ?_
                                    rotate_left 2
                                    · (intro w hS; go_simp; first | done | with_reducible rfl | (refine ⟨?_, ?_⟩ <;> with_reducible rfl))
                                    · (intro w hS; refine (T2.out w hS).mono ?_; rintro e w' ⟨he, hb⟩; exact ⟨he, btr hS hb⟩)
                                    (try simp only [Act.put, List.setIfInBounds_toArray, List.set_cons_zero, List.set_cons_succ])
                                    refine seq_pure (v := ?_) (by rfl) ?_ ?_
                                    rotate_left
                                    · (intro w hS; go_simp; try with_reducible rfl)
                                    (try simp only [Act.put, List.setIfInBounds_toArray, List.set_cons_zero, List.set_cons_succ])
                                    refine seq_pure (v := ?_) (by rfl) ?_ ?_
                                    rotate_left
                                    · (intro w hS; go_simp; try with_reducible rfl)
                                    (try simp only [Act.put, List.setIfInBounds_toArray, List.set_cons_zero, List.set_cons_succ])
                                    refine seq_pure (v := ?_) (by rfl) ?_ ?_
                                    rotate_left
                                    · (intro w hS; have kk := oldcell hS k18 (World.block_lt_of_cell? _ _ k18); go_simp; try with_reducible rfl)
                                    (try simp only [Act.put, List.setIfInBounds_toArray, List.set_cons_zero, List.set_cons_succ])
                                    refine seq_pure (v := ?_) (by rfl) ?_ ?_
                                    rotate_left
                                    · (intro w hS; go_simp; try with_reducible rfl)
                                    (try simp only [Act.put, List.setIfInBounds_toArray, List.set_cons_zero, List.set_cons_succ])
                                    refine seq_pure (v := ?_) (by rfl) ?_ ?_
                                    rotate_left
                                    · (intro w hS; go_simp; try with_reducible rfl)
                                    (try simp only [Act.put, List.setIfInBounds_toArray, List.set_cons_zero, List.set_cons_succ])
                                    refine seq_pure (v := ?_) (by rfl) ?_ ?_
                                    rotate_left
                                    · (intro w hS; have kk := oldcell hS x3 (World.block_lt_of_cell? _ _ x3); go_simp; try with_reducible rfl)
                                    (try simp only [Act.put, List.setIfInBounds_toArray, List.set_cons_zero, List.set_cons_succ])
                                    refine seq_pure (v := ?_) (by rfl) ?_ ?_
                                    rotate_left
                                    · (intro w hS; have kk := oldcell hS k7 (World.block_lt_of_cell? _ _ k7); go_simp; try with_reducible rfl)
                                    (try simp only [Act.put, List.setIfInBounds_toArray, List.set_cons_zero, List.set_cons_succ])
                                    refine seq_pure (v := ?_) (by rfl) ?_ ?_
                                    rotate_left
                                    · (intro w hS; go_simp; try with_reducible rfl)
                                    (try simp only [Act.put, List.setIfInBounds_toArray, List.set_cons_zero, List.set_cons_succ])
                                    refine seq_pure (v := ?_) (by rfl) ?_ ?_
                                    rotate_left
                                    · (intro w hS; go_simp; try with_reducible rfl)
                                    (try simp only [Act.put, List.setIfInBounds_toArray, List.set_cons_zero, List.set_cons_succ])
                                    refine seq_pure (v := ?_) (by rfl) ?_ ?_
                                    rotate_left
                                    · (intro w hS; have kk := oldcell hS x3 (World.block_lt_of_cell? _ _ x3); go_simp; try with_reducible rfl)
                                    (try simp only [Act.put, List.setIfInBounds_toArray, List.set_cons_zero, List.set_cons_succ])
                                    refine seq_call (v := .int .i64 ((n : Nat) : Int)) (f := ?_) (args := ?_) (by rfl) ?_ ?_ ?_
                                    rotate_left 2
                                    · (intro w hS; go_simp; first | done | with_reducible rfl | (refine ⟨?_, ?_⟩ <;> with_reducible rfl))
                                    · (intro w hS; refine (T3.out w hS).mono ?_; rintro e w' ⟨he, hb⟩; exact ⟨he, btr hS hb⟩)
                                    (try simp only [Act.put, List.setIfInBounds_toArray, List.set_cons_zero, List.set_cons_succ])
                                    refine seq_call (v := .bool true) (f := ?_) (args := ?_) (by rfl) ?_ ?_ ?_
                                    rotate_left 2
                                    · (intro w hS; go_simp; first | done | with_reducible rfl | (refine ⟨?_, ?_⟩ <;> with_reducible rfl))
                                    · (intro w hS; refine (T4.out w hS).mono ?_; rintro e w' ⟨he, hb⟩; exact ⟨he, btr hS hb⟩)
                                    (try simp only [Act.put, List.setIfInBounds_toArray, List.set_cons_zero, List.set_cons_succ])
                                    refine seq_pure (v := ?_) (by rfl) ?_ ?_
                                    rotate_left
                                    · (intro w hS; go_simp; try with_reducible rfl)
                                    (try simp only [Act.put, List.setIfInBounds_toArray, List.set_cons_zero, List.set_cons_succ])
                                    refine seq_pure (v := ?_) (by rfl) ?_ ?_
                                    rotate_left
                                    · (intro w hS; go_simp; try with_reducible rfl)
                                    (try simp only [Act.put, List.setIfInBounds_toArray, List.set_cons_zero, List.set_cons_succ])
                                    refine seq_pure (v := ?_) (by rfl) ?_ ?_
                                    rotate_left
                                    · (intro w hS; have kk := oldcell hS k20 (World.block_lt_of_cell? _ _ k20); go_simp; try with_reducible rfl)
                                    (try simp only [Act.put, List.setIfInBounds_toArray, List.set_cons_zero, List.set_cons_succ])
                                    refine seq_pure (v := ?_) (by rfl) ?_ ?_
                                    rotate_left
                                    · (intro w hS; go_simp; try with_reducible rfl)
                                    (try simp only [Act.put, List.setIfInBounds_toArray, List.set_cons_zero, List.set_cons_succ])
                                    refine seq_pure (v := ?_) (by rfl) ?_ ?_
                                    rotate_left
                                    · (intro w hS; go_simp; try with_reducible rfl)
                                    (try simp only [Act.put, List.setIfInBounds_toArray, List.set_cons_zero, List.set_cons_succ])
                                    refine seq_pure (v := ?_) (by rfl) ?_ ?_
                                    rotate_left
                                    · (intro w hS; have kk := oldcell hS x3 (World.block_lt_of_cell? _ _ x3); go_simp; try with_reducible rfl)
                                    (try simp only [Act.put, List.setIfInBounds_toArray, List.set_cons_zero, List.set_cons_succ])
                                    refine seq_call (v := .int .i64 ((n + k + n : Nat) : Int)) (f := ?_) (args := ?_) (by rfl) ?_ ?_ ?_
                                    rotate_left 2
                                    · (intro w hS; go_simp; first | done | with_reducible rfl | (refine ⟨?_, ?_⟩ <;> with_reducible rfl))
                                    · (intro w hS; refine (T5.out w hS).mono ?_; rintro e w' ⟨he, hb⟩; exact ⟨he, btr hS hb⟩)
                                    (try simp only [Act.put, List.setIfInBounds_toArray, List.set_cons_zero, List.set_cons_succ])
                                    refine seq_pure (v := ?_) (by rfl) ?_ ?_
                                    rotate_left
                                    · (intro w hS; have kk := oldcell hS k24 (World.block_lt_of_cell? _ _ k24); go_simp; try with_reducible rfl)
                                    (try simp only [Act.put, List.setIfInBounds_toArray, List.set_cons_zero, List.set_cons_succ])
                                    refine seq_pure (v := ?_) (by rfl) ?_ ?_
                                    rotate_left
                                    · (intro w hS; go_simp; try with_reducible rfl)
                                    (try simp only [Act.put, List.setIfInBounds_toArray, List.set_cons_zero, List.set_cons_succ])
                                    refine seq_pure (v := ?_) (by rfl) ?_ ?_
                                    rotate_left
                                    · (intro w hS; go_simp; try with_reducible rfl)
                                    (try simp only [Act.put, List.setIfInBounds_toArray, List.set_cons_zero, List.set_cons_succ])
                                    refine seq_pure (v := ?_) (by rfl) ?_ ?_
                                    rotate_left
                                    · (intro w hS; have kk := oldcell hS x3 (World.block_lt_of_cell? _ _ x3); go_simp; try with_reducible rfl)
                                    (try simp only [Act.put, List.setIfInBounds_toArray, List.set_cons_zero, List.set_cons_succ])
                                    refine seq_call (v := .int .i64 ((n + k + n : Nat) : Int)) (f := ?_) (args := ?_) (by rfl) ?_ ?_ ?_
                                    rotate_left 2
                                    · (intro w hS; go_simp; first | done | with_reducible rfl | (refine ⟨?_, ?_⟩ <;> with_reducible rfl))
                                    · (intro w hS; refine (T6.out w hS).mono ?_; rintro e w' ⟨he, hb⟩; exact ⟨he, btr hS hb⟩)
                                    (try simp only [Act.put, List.setIfInBounds_toArray, List.set_cons_zero, List.set_cons_succ])
                                    refine seq_pure (v := ?_) (by rfl) ?_ ?_
                                    rotate_left
                                    · (intro w hS; go_simp; try with_reducible rfl)
                                    (try simp only [Act.put, List.setIfInBounds_toArray, List.set_cons_zero, List.set_cons_succ])
                                    refine seq_pure (v := ?_) (by rfl) ?_ ?_
                                    rotate_left
                                    · (intro w hS; go_simp; try with_reducible rfl)
                                    (try simp only [Act.put, List.setIfInBounds_toArray, List.set_cons_zero, List.set_cons_succ])
                                    refine seq_pure (v := ?_) (by rfl) ?_ ?_
                                    rotate_left
                                    · (intro w hS; go_simp; try with_reducible rfl)
                                    (try simp only [Act.put, List.setIfInBounds_toArray, List.set_cons_zero, List.set_cons_succ])
                                    refine seq_pure (v := ?_) (by rfl) ?_ ?_
                                    rotate_left
                                    · (intro w hS; have kk := oldcell hS k11 (World.block_lt_of_cell? _ _ k11); go_simp; try with_reducible rfl)
                                    (try simp only [Act.put, List.setIfInBounds_toArray, List.set_cons_zero, List.set_cons_succ])
                                    refine seq_pure (v := ?_) (by rfl) ?_ ?_
                                    rotate_left
                                    · (intro w hS; go_simp; try with_reducible rfl)
                                    (try simp only [Act.put, List.setIfInBounds_toArray, List.set_cons_zero, List.set_cons_succ])
                                    refine seq_pure (v := ?_) (by rfl) ?_ ?_
                                    rotate_left
                                    · (intro w hS; go_simp; try with_reducible rfl)
                                    (try simp only [Act.put, List.setIfInBounds_toArray, List.set_cons_zero, List.set_cons_succ])
                                    refine seq_pure (v := ?_) (by rfl) ?_ ?_
                                    rotate_left
                                    · (intro w hS; have kk := oldcell hS x3 (World.block_lt_of_cell? _ _ x3); go_simp; try with_reducible rfl)
                                    (try simp only [Act.put, List.setIfInBounds_toArray, List.set_cons_zero, List.set_cons_succ])
                                    refine seq_call (v := .int .i64 ((n + k : Nat) : Int)) (f := ?_) (args := ?_) (by rfl) ?_ ?_ ?_
                                    rotate_left 2
                                    · (intro w hS; go_simp; first | done | with_reducible rfl | (refine ⟨?_, ?_⟩ <;> with_reducible rfl))
                                    · (intro w hS; refine (T7.out w hS).mono ?_; rintro e w' ⟨he, hb⟩; exact ⟨he, btr hS hb⟩)
                                    (try simp only [Act.put, List.setIfInBounds_toArray, List.set_cons_zero, List.set_cons_succ])
                                    refine seq_pure (v := ?_) (by rfl) ?_ ?_
                                    rotate_left
                                    · (intro w hS; have kk := oldcell hS k9 (World.block_lt_of_cell? _ _ k9); go_simp; try with_reducible rfl)
                                    (try simp only [Act.put, List.setIfInBounds_toArray, List.set_cons_zero, List.set_cons_succ])
                                    refine seq_pure (v := ?_) (by rfl) ?_ ?_
                                    rotate_left
                                    · (intro w hS; go_simp; try with_reducible rfl)
                                    (try simp only [Act.put, List.setIfInBounds_toArray, List.set_cons_zero, List.set_cons_succ])
                                    refine seq_pure (v := ?_) (by rfl) ?_ ?_
                                    rotate_left
                                    · (intro w hS; go_simp; try with_reducible rfl)
                                    (try simp only [Act.put, List.setIfInBounds_toArray, List.set_cons_zero, List.set_cons_succ])
                                    refine seq_pure (v := ?_) (by rfl) ?_ ?_
                                    rotate_left
                                    · (intro w hS; have kk := oldcell hS x3 (World.block_lt_of_cell? _ _ x3); go_simp; try with_reducible rfl)
                                    (try simp only [Act.put, List.setIfInBounds_toArray, List.set_cons_zero, List.set_cons_succ])
                                    refine seq_call (v := .int .i64 ((n : Nat) : Int)) (f := ?_) (args := ?_) (by rfl) ?_ ?_ ?_
                                    rotate_left 2
                                    · (intro w hS; go_simp; first | done | with_reducible rfl | (refine ⟨?_, ?_⟩ <;> with_reducible rfl))
                                    · (intro w hS; refine (T8.out w hS).mono ?_; rintro e w' ⟨he, hb⟩; exact ⟨he, btr hS hb⟩)
                                    (try simp only [Act.put, List.setIfInBounds_toArray, List.set_cons_zero, List.set_cons_succ])
                                    refine seq_pure (v := ?_) (by rfl) ?_ ?_
                                    rotate_left
                                    · (intro w hS; have kk := oldcell hS k9 (World.block_lt_of_cell? _ _ k9); go_simp; try with_reducible rfl)
                                    (try simp only [Act.put, List.setIfInBounds_toArray, List.set_cons_zero, List.set_cons_succ])
                                    refine seq_pure (v := ?_) (by rfl) ?_ ?_
                                    rotate_left
                                    · (intro w hS; go_simp; try with_reducible rfl)
                                    (try simp only [Act.put, List.setIfInBounds_toArray, List.set_cons_zero, List.set_cons_succ])
                                    refine seq_pure (v := ?_) (by rfl) ?_ ?_
                                    rotate_left
                                    · (intro w hS; go_simp; try with_reducible rfl)
                                    (try simp only [Act.put, List.setIfInBounds_toArray, List.set_cons_zero, List.set_cons_succ])
                                    refine seq_pure (v := ?_) (by rfl) ?_ ?_
                                    rotate_left
                                    · (intro w hS; have kk := oldcell hS x3 (World.block_lt_of_cell? _ _ x3); go_simp; try with_reducible rfl)
                                    (try simp only [Act.put, List.setIfInBounds_toArray, List.set_cons_zero, List.set_cons_succ])
                                    refine seq_call (v := .int .i64 ((k : Nat) : Int)) (f := ?_) (args := ?_) (by rfl) ?_ ?_ ?_
                                    rotate_left 2
                                    · (intro w hS; go_simp; first | done | with_reducible rfl | (refine ⟨?_, ?_⟩ <;> with_reducible rfl))
                                    · (intro w hS; refine (T9.out w hS).mono ?_; rintro e w' ⟨he, hb⟩; exact ⟨he, btr hS hb⟩)
                                    (try simp only [Act.put, List.setIfInBounds_toArray, List.set_cons_zero, List.set_cons_succ])
                                    refine seq_pure (v := ?_) (by rfl) ?_ ?_
                                    rotate_left
                                    · (intro w hS; go_simp; try with_reducible rfl)
                                    (try simp only [Act.put, List.setIfInBounds_toArray, List.set_cons_zero, List.set_cons_succ])
                                    refine seq_pure (v := ?_) (by rfl) ?_ ?_
                                    rotate_left
                                    · (intro w hS; go_simp; try with_reducible rfl)
                                    (try simp only [Act.put, List.setIfInBounds_toArray, List.set_cons_zero, List.set_cons_succ])
                                    refine seq_pure (v := ?_) (by rfl) ?_ ?_
                                    rotate_left
                                    · (intro w hS; go_simp; try with_reducible rfl)
                                    (try simp only [Act.put, List.setIfInBounds_toArray, List.set_cons_zero, List.set_cons_succ])
                                    refine seq_pure (v := ?_) (by rfl) ?_ ?_
                                    rotate_left
                                    · (intro w hS; go_simp; try with_reducible rfl)
                                    (try simp only [Act.put, List.setIfInBounds_toArray, List.set_cons_zero, List.set_cons_succ])
                                    refine seq_nil ?_
                                    intro w2 HB0
                                    go_wp2_with fail
                                    go_ret
                                    exact ⟨rfl, btr hW HB0⟩
end Go.Proofs.Ytanlecgpnknhoaa
