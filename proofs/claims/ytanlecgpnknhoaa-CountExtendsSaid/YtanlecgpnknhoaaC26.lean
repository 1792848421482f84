/- Walk of constant and of CountExtends. -/
import Derived.Test.YtanlecgpnknhoaaC18
namespace Go.Proofs.Ytanlecgpnknhoaa
set_option linter.unusedSimpArgs false
set_option linter.unusedVariables false
open Go.RowKit


theorem raw_plain (L : List Step) (A B : List Nat) (h0 : L.length ≤ 40) (h1 : A.length ≤ 9) (h2 : B.length ≤ 9) :
    ∃ c refs a b, cbuild L = (c, refs) ∧ A.map (cpick refs) = a ∧ B.map (cpick refs) = b ∧ Good c ∧ c.length ≤ 121 ∧ RefsIn a c.length ∧ RefsIn b c.length ∧ a.length = A.length ∧ b.length = B.length := by
  have HB := built L (by omega)
  obtain ⟨c, refs, hcb⟩ : ∃ c refs, cbuild L = (c, refs) := ⟨_, _, rfl⟩
  have hg := HB.good; have hr := HB.refs; have hl := HB.len
  rw [hcb] at hg hr hl
  dsimp only at hg hr hl
  have hp : ∀ n, 0 ≤ cpick refs n ∧ cpick refs n < 2 * (c.length : Int) := fun n => cpick_in hr hg.ne n
  refine ⟨c, refs, _, _, hcb, rfl, rfl, hg, by omega, fun r h => ?_, fun r h => ?_, by simp, by simp⟩
  · obtain ⟨n, _, rfl⟩ := List.mem_map.1 h; exact hp n
  · obtain ⟨n, _, rfl⟩ := List.mem_map.1 h; exact hp n
theorem inputs_is {x : RawV} {q : RawP} {w : World} {c : List Gate} {refs a b : List Int} {na nb : Nat} (hx : RawOk w x q) (h0 : x.L.length ≤ 40) (h1 : x.A.length ≤ 9) (h2 : x.B.length ≤ 9) (hcb : cbuild x.L = (c, refs)) (ha : x.A.map (cpick refs) = a) (hb : x.B.map (cpick refs) = b) (hna : x.A.length = na) (hnb : x.B.length = nb) :
    Calls Try.prog 41 #[.agg #[.slice q.pL x.L.length q.cL, .slice q.pA x.A.length q.cA, .slice q.pB x.B.length q.cB, .slice q.pV x.V.length q.cV, .int .i8 x.by']] w (RetIn w c a b na nb) := by
  subst ha hb hna hnb
  exact inputs_any x q w hx h0 h1 h2 c refs hcb
theorem btr' {B : Nat} {w w1 w2 : World} (h : Below B w w1) (k : Below B w1 w2) : Below B w w2 := h.trans k
theorem sops9 {n : Nat} (h : n ≤ 9) : sOps (plog n n 0) ≤ 126 := by
  match n, h with
  | 0, _ | 1, _ | 2, _ | 3, _ | 4, _ | 5, _ | 6, _ | 7, _ | 8, _ | 9, _ => decide
theorem total_ops {n m : Nat} (h : n ≤ m) : opsTotal n ≤ opsTotal m := Nat.mul_le_mul h (Nat.mul_le_mul h (by omega))
theorem add_ops {x y x' y' : Nat} (h : x ≤ x') (k : y ≤ y') : opsAdd x y ≤ opsAdd x' y' := Nat.mul_le_mul (by omega) (by omega)
theorem cntv_append (c : List Gate) (a b : List Int) (vals : List Bool) : cntv c (a ++ b) vals = cntv c a vals + cntv c b vals := by unfold cntv; rw [List.map_append, cnt_append]
theorem RefsIn.append {a b : List Int} {n : Nat} (h : RefsIn a n) (k : RefsIn b n) : RefsIn (a ++ b) n := fun r hr => (List.mem_append.1 hr).elim (h r) (k r)
theorem SA.of_owns {w : World} {B n : Nat} {v : Value} {xs : List Int} (h : w.ownsRow B 3 1 v xs.length (flat 1 iEnc xs)) (hn : xs.length = n) : ∃ q cq, v = .slice q n cq ∧ SA w q n cq xs := by
  obtain ⟨q, cq, hv, h1, h2, h3, h4⟩ := owns_val (by omega) h
  subst hn
  exact ⟨q, cq, hv, ⟨rfl, h1, h2, h3, h4, fun a ha => (h.lt a.block (by rw [hv, ha]; rfl)).2⟩⟩
/-- The values of a raw input. -/
theorem RawOk.va {w w' : World} {x : RawV} {q : RawP} (h : RawOk w x q) (hB : Below w.heap.size w w') : VA w' q.pV x.V.length x.V := ⟨rfl, h.l3, h.a3.mono hB⟩

theorem SA.app1 {w : World} {b : Nat} {r : Int} (h : w.cell? ⟨b, 0, none⟩ = some (.int .i64 r)) (hb : b < w.heap.size) : SA w (some ⟨b, 0, none⟩) 1 1 [r] :=
  ⟨rfl, Nat.le_refl _, (by decide), (fun h => by cases h), SlAt.int1 h, (fun a ha => by cases ha; exact hb)⟩
theorem Bits.append {a b : List Int} (h : Bits a) (k : Bits b) : Bits (a ++ b) := fun r hr => (List.mem_append.1 hr).elim (h r) (k r)

set_option maxRecDepth 100000 in
set_option maxHeartbeats 8000000 in
theorem constant_is (c : List Gate) (a b : List Int) (V : List Bool) (na nb nv : Nat) (by' : Int) (p pa pb pV : Option Addr) (cap ca cb cV : Nat) (w : World) (hC : CAt w p cap c) (hA : SA w pa na ca a) (hB : SA w pb nb cb b) (hV : VA w pV nv V)
    (hna9 : na ≤ 9) (hnb9 : nb ≤ 9) (hw : WfC c) (hl : c.length ≤ 20000) (hc : 0 < c.length) (hby0 : -128 ≤ by') (hby1 : by' < 128) :
    Calls Try.prog 53 #[.agg #[.slice p c.length cap], .slice pa na ca, .slice pb nb cb, .slice pV nv cV, .int .i64 by'] w (RetB w true) := by
  obtain ⟨W0, hW0, hB5, hW⟩ : ∃ W0, w.alloc (.cells #[.slice p c.length cap] 25) = W0 ∧ Bx W0 w.heap.size c ∧ Below w.heap.size w W0 := ⟨_, rfl, Bx.new hC _, by go_grown⟩
  replace hA := hA.up hW; replace hB := hB.up hW; replace hV := hV.up hW
  obtain ⟨x, hx⟩ : ∃ x, cfix c V a = x := ⟨_, rfl⟩
  obtain ⟨y, hy⟩ : ∃ x, cfix c V b = x := ⟨_, rfl⟩
  have bx : Bits x := by rw [← hx]; exact cfix_bits c V a
  have by_ : Bits y := by rw [← hy]; exact cfix_bits c V b
  have lx : x.length = na := by rw [← hx]; simp [cfix, hA.len]
  have ly : y.length = nb := by rw [← hy]; simp [cfix, hB.len]
  obtain ⟨d, s, e1⟩ : ∃ d' u', (usorter 1 x).run c = (d', u') := ⟨_, _, rfl⟩
  obtain ⟨e, t, e2⟩ : ∃ d' u', (utotal 0 1 nb y).run c = (d', u') := ⟨_, _, rfl⟩
  obtain ⟨f, r, e3⟩ : ∃ d' u', (uatleast 0 1 x (nb : Int)).run c = (d', u') := ⟨_, _, rfl⟩
  obtain ⟨q1, bs, ls⟩ := sorter_const hc bx lx e1
  replace q1 := q1.symm; subst q1
  obtain ⟨q1, bt, lt⟩ := total_const hc by_ ly e2
  replace q1 := q1.symm; subst q1
  obtain ⟨q1, br⟩ := atleast_const hc bx e3
  replace q1 := q1.symm; subst q1
  obtain ⟨g, sum, e4⟩ : ∃ d' u', (uadd 0 1 s t).run c = (d', u') := ⟨_, _, rfl⟩
  obtain ⟨h, less, e5⟩ : ∃ d' u', (uless 0 1 cnot s t by').run c = (d', u') := ⟨_, _, rfl⟩
  obtain ⟨q1, bm, lm⟩ := add_const hc bs bt ls lt e4
  replace q1 := q1.symm; subst q1
  obtain ⟨q1, bl⟩ := less_const hc bs bt e5
  replace q1 := q1.symm; subst q1
  obtain ⟨all, hall⟩ : ∃ l, ([] ++ s ++ t) ++ [r] = l := ⟨_, rfl⟩
  have ball : Bits all := by rw [← hall]; exact ((Bits.append (fun r hr => by cases hr) bs).append bt).append (fun z hz => by rw [List.mem_singleton.1 hz]; exact br)
  have lall : all.length = na + nb + 1 := by rw [← hall]; simp [ls, lt]; omega
  have HXx := Lib.hid hx; have HY := Lib.hid hy; have BX := Lib.hid (bits_le bx); have BY := Lib.hid (bits_le by_); have BS := Lib.hid (bits_le bs); have BT := Lib.hid (bits_le bt); have LX := Lib.hid lx; have LY := Lib.hid ly; have LS := Lib.hid ls; have LT := Lib.hid lt; have LM := Lib.hid lm
  have E1 := Lib.hid e1; have E2 := Lib.hid e2; have E3 := Lib.hid e3; have E4 := Lib.hid e4; have E5 := Lib.hid e5
  have HALL := Lib.hid hall; have BALL := Lib.hid ball; have LALL := Lib.hid lall; have BMM := Lib.hid bm; have BL := Lib.hid bl; have HWF := Lib.hid hw
  have HW0 := Lib.hid hW0
  clear hW0 hC hx hy bx by_ lx ly e1 e2 e3 e4 e5 bs ls bt lt br bm lm bl hall ball lall hw
  obtain ⟨i0, hi0, hz0, hz1, hz2⟩ := info_parts int_info
  go_enter Try.func53, Try.ntmps53
  go_upto_region 1 with fail
  rw [HW0.out]
  go_upto_region 1 with fail
  obtain ⟨p5, c5, k5, k5f, hC5⟩ := id hB5
  go_cut [11] from 26 to 29 (fun s11 wx => (∃ (q : Option Addr) (cq : Nat), s11 = .slice q na cq ∧ SA wx q na cq x) ∧ Below W0.heap.size W0 wx)
  case first =>
    as_aux_lemma =>
      go_wp2_with (first | (go_at_call 73; refine (fixed_any c a V na nv p5 pa pV c5 ca cV _ (by omega) hl HWF.out (hC5.mono (Below.refl _ _)) hA hV).mono ?_; rintro e w2 ⟨q2, cq2, rfl, hS2, hbl⟩; rw [HXx.out] at hS2))
      go_meet
      exact ⟨⟨_, _, rfl, hS2⟩, (by first | exact hbl | exact btr (by go_grown) hbl)⟩
  case rest =>
    clear k5 k5f hC5
    obtain ⟨⟨q11, cq11, rfl, hS11⟩, hst⟩ := hcut
    replace hB5 := hB5.up hst
    replace hA := hA.up hst
    replace hB := hB.up hst
    replace hV := hV.up hst
    replace hW := btr hW hst
    clear hst
    go_upto_region 2 with fail
    obtain ⟨p5, c5, k5, k5f, hC5⟩ := id hB5
    go_cut [12] from 30 to 33 (fun s12 wx => (∃ (q : Option Addr) (cq : Nat), s12 = .slice q nb cq ∧ SA wx q nb cq y) ∧ Below wc.heap.size wc wx)
    case first =>
      as_aux_lemma =>
        go_wp2_with (first | (go_at_call 73; refine (fixed_any c b V nb nv p5 pb pV c5 cb cV _ (by omega) hl HWF.out (hC5.mono (Below.refl _ _)) hB hV).mono ?_; rintro e w2 ⟨q2, cq2, rfl, hS2, hbl⟩; rw [HY.out] at hS2))
        go_meet
        exact ⟨⟨_, _, rfl, hS2⟩, (by first | exact hbl | exact btr (by go_grown) hbl)⟩
    case rest =>
      clear k5 k5f hC5
      obtain ⟨⟨q12, cq12, rfl, hS12⟩, hst⟩ := hcut
      replace hB5 := hB5.up hst
      replace hA := hA.up hst
      replace hB := hB.up hst
      replace hV := hV.up hst
      replace hS11 := hS11.up hst
      replace hW := btr hW hst
      clear hst
      go_upto_region 3 with fail
      obtain ⟨p5, c5, k5, k5f, hC5⟩ := id hB5
      go_cut [13, 14] from 34 to 39 (fun s13 s14 wx => (∃ (b : Nat) (q : Option Addr) (cq : Nat), s13 = .pointer (some ⟨b, 0, none⟩) ∧ s14 = .slice q na cq ∧ Bx wx b c ∧ SA wx q na cq s) ∧ Below wc.heap.size wc wx)
      case first =>
        as_aux_lemma =>
          go_wp2_with (first | (go_at_call 43; refine (sorter_is hC5 hS11 (Below.refl _ _) (by omega) BX.out hl hc E1.out LS.out).mono ?_; rintro e w2 ⟨p2, cap2, q2, cq2, rfl, hC2, hS2, hbl⟩))
          go_meet
          exact ⟨⟨_, _, _, rfl, rfl, Bx.new hC2 _, hS2.up (bal (Below.refl _ _) _)⟩, (by first | exact bal hbl _ | exact bal (btr (by go_grown) hbl) _)⟩
      case rest =>
        clear k5 k5f hC5
        obtain ⟨⟨b13, q14, cq14, rfl, rfl, hB13, hS14⟩, hst⟩ := hcut
        replace hB5 := hB5.up hst
        replace hA := hA.up hst
        replace hB := hB.up hst
        replace hV := hV.up hst
        replace hS11 := hS11.up hst
        replace hS12 := hS12.up hst
        replace hW := btr hW hst
        clear hst
        go_upto_region 4 with fail
        obtain ⟨p5, c5, k5, k5f, hC5⟩ := id hB5
        go_cut [15, 16] from 40 to 45 (fun s15 s16 wx => (∃ (b : Nat) (q : Option Addr) (cq : Nat), s15 = .pointer (some ⟨b, 0, none⟩) ∧ s16 = .slice q nb cq ∧ Bx wx b c ∧ SA wx q nb cq t) ∧ Below wc.heap.size wc wx)
        case first =>
          as_aux_lemma =>
            go_wp2_with (first | (go_at_call 44; refine (totalizer_is hC5 hS12 (Below.refl _ _) (by omega) BY.out hl hc E2.out LT.out).mono ?_; rintro e w2 ⟨p2, cap2, q2, cq2, rfl, hC2, hS2, hbl⟩))
            go_meet
            exact ⟨⟨_, _, _, rfl, rfl, Bx.new hC2 _, hS2.up (bal (Below.refl _ _) _)⟩, (by first | exact bal hbl _ | exact bal (btr (by go_grown) hbl) _)⟩
        case rest =>
          clear k5 k5f hC5
          obtain ⟨⟨b15, q16, cq16, rfl, rfl, hB15, hS16⟩, hst⟩ := hcut
          replace hB5 := hB5.up hst
          replace hA := hA.up hst
          replace hB := hB.up hst
          replace hV := hV.up hst
          replace hS11 := hS11.up hst
          replace hS12 := hS12.up hst
          replace hB13 := hB13.up hst
          replace hS14 := hS14.up hst
          replace hW := btr hW hst
          clear hst
          go_upto_region 5 with fail
          obtain ⟨p5, c5, k5, k5f, hC5⟩ := id hB5
          go_cut [17, 18] from 46 to 53 (fun s17 s18 wx => (∃ (b : Nat), s17 = .pointer (some ⟨b, 0, none⟩) ∧ s18 = .int .i64 r ∧ Bx wx b c) ∧ Below wc.heap.size wc wx)
          case first =>
            as_aux_lemma =>
              go_wp2_with (first | (go_at_call 46; refine (atleast_is (k := (nb : Int)) hC5 hS11 (Below.refl _ _) (by omega) (by omega) BX.out hl hc E3.out).mono ?_; rintro e w2 ⟨p2, cap2, rfl, hC2, hbl⟩))
              go_meet
              exact ⟨⟨_, rfl, rfl, Bx.new hC2 _⟩, (by first | exact bal hbl _ | exact bal (btr (by go_grown) hbl) _)⟩
          case rest =>
            clear k5 k5f hC5
            obtain ⟨⟨b17, rfl, rfl, hB17⟩, hst⟩ := hcut
            replace hB5 := hB5.up hst
            replace hA := hA.up hst
            replace hB := hB.up hst
            replace hV := hV.up hst
            replace hS11 := hS11.up hst
            replace hS12 := hS12.up hst
            replace hB13 := hB13.up hst
            replace hS14 := hS14.up hst
            replace hB15 := hB15.up hst
            replace hS16 := hS16.up hst
            replace hW := btr hW hst
            clear hst
            go_upto_region 6 with fail
            obtain ⟨p5, c5, k5, k5f, hC5⟩ := id hB5
            obtain ⟨p13, c13, k13, k13f, hC13⟩ := id hB13
            obtain ⟨p15, c15, k15, k15f, hC15⟩ := id hB15
            obtain ⟨p17, c17, k17, k17f, hC17⟩ := id hB17
            go_cut [83] from 54 to 82 (fun s83 wx => (s83 = .bool false) ∧ Below wc.heap.size wc wx)
            case first =>
              as_aux_lemma =>
                have T1 := Lib.hid (fun (w' : World) (hB' : Below wc.heap.size wc w') => same_is hC5 hC13 hB' (csame_self c))
                have T2 := Lib.hid (fun (w' : World) (hB' : Below wc.heap.size wc w') => same_is hC5 hC15 hB' (csame_self c))
                have T3 := Lib.hid (fun (w' : World) (hB' : Below wc.heap.size wc w') => same_is hC5 hC17 hB' (csame_self c))
                refine wp_region_seqT' (fun w' => Below wc.heap.size wc w') (by first | exact Below.refl _ _ | go_grown) ?_
                refine seqT_pure (v := ?_) (by rfl) ?_ ?_
                rotate_left
                · (intro w hS; have kk := oldcell hS k5 (World.block_lt_of_cell? _ _ k5); go_simp; try with_reducible rfl)
                (try simp only [Act.put, List.setIfInBounds_toArray, List.set_cons_zero, List.set_cons_succ])
                refine seqT_pure (v := ?_) (by rfl) ?_ ?_
                rotate_left
                · (intro w hS; have kk := oldcell hS k13 (World.block_lt_of_cell? _ _ k13); go_simp; try with_reducible rfl)
                (try simp only [Act.put, List.setIfInBounds_toArray, List.set_cons_zero, List.set_cons_succ])
                refine seqT_call (v := .bool true) (f := ?_) (args := ?_) (by rfl) ?_ ?_ ?_
                rotate_left 2
                · (intro w hS; go_simp; first | done | with_reducible rfl | (refine ⟨?_, ?_⟩ <;> with_reducible rfl))
                · (intro w hS; refine (T1.out w hS).mono ?_; rintro e w' ⟨he, hb⟩; exact ⟨he, btr hS hb⟩)
                (try simp only [Act.put, List.setIfInBounds_toArray, List.set_cons_zero, List.set_cons_succ])
                refine seqT_pure (v := ?_) (by rfl) ?_ ?_
                rotate_left
                · (intro w hS; go_simp; try with_reducible rfl)
                (try simp only [Act.put, List.setIfInBounds_toArray, List.set_cons_zero, List.set_cons_succ])
                refine seqT_pure (v := ?_) (by rfl) ?_ ?_
                rotate_left
                · (intro w hS; go_simp; try with_reducible rfl)
                (try simp only [Act.put, List.setIfInBounds_toArray, List.set_cons_zero, List.set_cons_succ])
                refine seqT_pure (v := ?_) (by rfl) ?_ ?_
                rotate_left
                · (intro w hS; have kk := oldcell hS k5 (World.block_lt_of_cell? _ _ k5); go_simp; try with_reducible rfl)
                (try simp only [Act.put, List.setIfInBounds_toArray, List.set_cons_zero, List.set_cons_succ])
                refine seqT_pure (v := ?_) (by rfl) ?_ ?_
                rotate_left
                · (intro w hS; have kk := oldcell hS k15 (World.block_lt_of_cell? _ _ k15); go_simp; try with_reducible rfl)
                (try simp only [Act.put, List.setIfInBounds_toArray, List.set_cons_zero, List.set_cons_succ])
                refine seqT_call (v := .bool true) (f := ?_) (args := ?_) (by rfl) ?_ ?_ ?_
                rotate_left 2
                · (intro w hS; go_simp; first | done | with_reducible rfl | (refine ⟨?_, ?_⟩ <;> with_reducible rfl))
                · (intro w hS; refine (T2.out w hS).mono ?_; rintro e w' ⟨he, hb⟩; exact ⟨he, btr hS hb⟩)
                (try simp only [Act.put, List.setIfInBounds_toArray, List.set_cons_zero, List.set_cons_succ])
                refine seqT_pure (v := ?_) (by rfl) ?_ ?_
                rotate_left
                · (intro w hS; go_simp; try with_reducible rfl)
                (try simp only [Act.put, List.setIfInBounds_toArray, List.set_cons_zero, List.set_cons_succ])
                refine seqT_pure (v := ?_) (by rfl) ?_ ?_
                rotate_left
                · (intro w hS; go_simp; try with_reducible rfl)
                (try simp only [Act.put, List.setIfInBounds_toArray, List.set_cons_zero, List.set_cons_succ])
                refine seqT_pure (v := ?_) (by rfl) ?_ ?_
                rotate_left
                · (intro w hS; go_simp; try with_reducible rfl)
                (try simp only [Act.put, List.setIfInBounds_toArray, List.set_cons_zero, List.set_cons_succ])
                refine seqT_pure (v := ?_) (by rfl) ?_ ?_
                rotate_left
                · (intro w hS; have kk := oldcell hS k5 (World.block_lt_of_cell? _ _ k5); go_simp; try with_reducible rfl)
                (try simp only [Act.put, List.setIfInBounds_toArray, List.set_cons_zero, List.set_cons_succ])
                refine seqT_pure (v := ?_) (by rfl) ?_ ?_
                rotate_left
                · (intro w hS; have kk := oldcell hS k17 (World.block_lt_of_cell? _ _ k17); go_simp; try with_reducible rfl)
                (try simp only [Act.put, List.setIfInBounds_toArray, List.set_cons_zero, List.set_cons_succ])
                refine seqT_call (v := .bool true) (f := ?_) (args := ?_) (by rfl) ?_ ?_ ?_
                rotate_left 2
                · (intro w hS; go_simp; first | done | with_reducible rfl | (refine ⟨?_, ?_⟩ <;> with_reducible rfl))
                · (intro w hS; refine (T3.out w hS).mono ?_; rintro e w' ⟨he, hb⟩; exact ⟨he, btr hS hb⟩)
                (try simp only [Act.put, List.setIfInBounds_toArray, List.set_cons_zero, List.set_cons_succ])
                refine seqT_pure (v := ?_) (by rfl) ?_ ?_
                rotate_left
                · (intro w hS; go_simp; try with_reducible rfl)
                (try simp only [Act.put, List.setIfInBounds_toArray, List.set_cons_zero, List.set_cons_succ])
                refine seqT_pure (v := ?_) (by rfl) ?_ ?_
                rotate_left
                · (intro w hS; go_simp; try with_reducible rfl)
                (try simp only [Act.put, List.setIfInBounds_toArray, List.set_cons_zero, List.set_cons_succ])
                refine seqT_pure (v := ?_) (by rfl) ?_ ?_
                rotate_left
                · (intro w hS; go_simp; try with_reducible rfl)
                (try simp only [Act.put, List.setIfInBounds_toArray, List.set_cons_zero, List.set_cons_succ])
                refine seqT_pure (v := ?_) (by rfl) ?_ ?_
                rotate_left
                · (intro w hS; go_simp; try with_reducible rfl)
                (try simp only [Act.put, List.setIfInBounds_toArray, List.set_cons_zero, List.set_cons_succ])
                refine seqT_pure (v := ?_) (by rfl) ?_ ?_
                rotate_left
                · (intro w hS; go_simp; try with_reducible rfl)
                (try simp only [Act.put, List.setIfInBounds_toArray, List.set_cons_zero, List.set_cons_succ])
                refine seqT_pure (v := ?_) (by rfl) ?_ ?_
                rotate_left
                · (intro w hS; go_simp; try with_reducible rfl)
                (try simp only [Act.put, List.setIfInBounds_toArray, List.set_cons_zero, List.set_cons_succ])
                refine seqT_pure (v := ?_) (by rfl) ?_ ?_
                rotate_left
                · (intro w hS; go_simp; try with_reducible rfl)
                (try simp only [Act.put, List.setIfInBounds_toArray, List.set_cons_zero, List.set_cons_succ])
                refine seqT_pure (v := ?_) (by rfl) ?_ ?_
                rotate_left
                · (intro w hS; go_simp; try with_reducible rfl)
                (try simp only [Act.put, List.setIfInBounds_toArray, List.set_cons_zero, List.set_cons_succ])
                refine seqT_pure (v := ?_) (by rfl) ?_ ?_
                rotate_left
                · (intro w hS; go_simp; try with_reducible rfl)
                (try simp only [Act.put, List.setIfInBounds_toArray, List.set_cons_zero, List.set_cons_succ])
                refine seqT_pure (v := ?_) (by rfl) ?_ ?_
                rotate_left
                · (intro w hS; go_simp; try with_reducible rfl)
                (try simp only [Act.put, List.setIfInBounds_toArray, List.set_cons_zero, List.set_cons_succ])
                refine seqT_pure (v := ?_) (by rfl) ?_ ?_
                rotate_left
                · (intro w hS; go_simp; try with_reducible rfl)
                (try simp only [Act.put, List.setIfInBounds_toArray, List.set_cons_zero, List.set_cons_succ])
                refine seqT_pure (v := ?_) (by rfl) ?_ ?_
                rotate_left
                · (intro w hS; go_simp; try with_reducible rfl)
                (try simp only [Act.put, List.setIfInBounds_toArray, List.set_cons_zero, List.set_cons_succ])
                refine seqT_pure (v := ?_) (by rfl) ?_ ?_
                rotate_left
                · (intro w hS; go_simp; try with_reducible rfl)
                (try simp only [Act.put, List.setIfInBounds_toArray, List.set_cons_zero, List.set_cons_succ])
                refine seqT_pure (v := ?_) (by rfl) ?_ ?_
                rotate_left
                · (intro w hS; go_simp; try with_reducible rfl)
                (try simp only [Act.put, List.setIfInBounds_toArray, List.set_cons_zero, List.set_cons_succ])
                refine seqT_pure (v := ?_) (by rfl) ?_ ?_
                rotate_left
                · (intro w hS; go_simp; try with_reducible rfl)
                (try simp only [Act.put, List.setIfInBounds_toArray, List.set_cons_zero, List.set_cons_succ])
                refine seqT_pure (v := ?_) (by rfl) ?_ ?_
                rotate_left
                · (intro w hS; go_simp; try with_reducible rfl)
                (try simp only [Act.put, List.setIfInBounds_toArray, List.set_cons_zero, List.set_cons_succ])
                refine seqT_nil ?_
                intro w2 HB0
                go_wp2_with fail
                go_meet
                exact ⟨rfl, HB0⟩
            case rest =>
              clear k5 k5f hC5 k13 k13f hC13 k15 k15f hC15 k17 k17f hC17
              obtain ⟨rfl, hst⟩ := hcut
              replace hB5 := hB5.up hst
              replace hA := hA.up hst
              replace hB := hB.up hst
              replace hV := hV.up hst
              replace hS11 := hS11.up hst
              replace hS12 := hS12.up hst
              replace hB13 := hB13.up hst
              replace hS14 := hS14.up hst
              replace hB15 := hB15.up hst
              replace hS16 := hS16.up hst
              replace hB17 := hB17.up hst
              replace hW := btr hW hst
              clear hst
              go_upto_region 8 with fail
              go_upto_region 9 with (first | (at_builtin; go_must (refine wpList_app2 (enc := iEnc) rfl _ _ _ rfl wc.heap.size 3 i0 _ 8 Try.underlying28 hi0 hz0 hz1 hz2 rfl (by omega) (.slice (some ⟨wc.heap.size, 0, none⟩) 0 0) [] rfl (World.ownsRow_lit wc #[] 0 (Nat.le_refl _) (by decide) rfl) q14 s cq14 (by rw [LS.out]; rfl) hS14.q0 (hS14.at'.mono (bal (Below.refl _ _) _)) iEnc_one (by rw [LS.out]; simp [maxLen]; omega) (by rw [LS.out]; simp; omega) (by simp) ?_); intro v2 w2 hown2 hgr2 hbl2 hat2; have HOW := Lib.hid hown2; have HBL2 := Lib.hid (Below.trans (bal (Below.refl _ _) _) hbl2); clear hown2 hgr2 hbl2 hat2))
              go_upto_region 10 with (first | (at_builtin; go_must (refine wpList_app2 (enc := iEnc) rfl _ _ _ rfl wc.heap.size 3 i0 _ 8 Try.underlying28 hi0 hz0 hz1 hz2 rfl (by omega) v2 ([] ++ s) rfl HOW.out q16 t cq16 (by rw [LT.out]; rfl) hS16.q0 ((hS16.up HBL2.out).at') iEnc_one (by simp [LS.out, LT.out, maxLen]; omega) (by simp [LS.out, LT.out]; omega) HBL2.out.size ?_); intro v3 w3 hown3 hgr3 hbl3 hat3; have HOW3 := Lib.hid hown3; have HBL3 := Lib.hid (HBL2.out.trans hbl3); clear hown3 hgr3 hbl3 hat3))
              go_upto_region 11 with (first | (at_builtin; go_must (refine wpList_app2 (enc := iEnc) rfl _ _ _ rfl wc.heap.size 3 i0 _ 8 Try.underlying28 hi0 hz0 hz1 hz2 rfl (by omega) v3 ([] ++ s ++ t) rfl (HOW3.out.alloc _) (some ⟨w3.heap.size, 0, none⟩) [r] 1 rfl (fun h => by cases h) (SlAt.int1 (by go_cell)) iEnc_one (by simp [LS.out, LT.out, maxLen]; omega) (by simp [LS.out, LT.out]; omega) (by have := HBL3.out.size; simp; omega) ?_); intro v4 w4 hown4 hgr4 hbl4 hat4; have HOW4 := Lib.hid hown4; have HBL4 := Lib.hid ((bal HBL3.out _).trans hbl4); clear hown4 hgr4 hbl4 hat4))
              have hst := HBL4.out
              obtain ⟨q19, cq19, hv19, hS19⟩ := SA.of_owns (xs := all) (n := na + nb + 1) (by have := HOW4.out; rw [HALL.out] at this; exact this) LALL.out
              subst hv19
              replace hB5 := hB5.up hst
              replace hA := hA.up hst
              replace hB := hB.up hst
              replace hV := hV.up hst
              replace hS11 := hS11.up hst
              replace hS12 := hS12.up hst
              replace hB13 := hB13.up hst
              replace hS14 := hS14.up hst
              replace hB15 := hB15.up hst
              replace hS16 := hS16.up hst
              replace hB17 := hB17.up hst
              replace hW := btr hW hst
              clear hst
              clear HOW HOW3 HOW4 HBL2 HBL3 HBL4
              go_wp2_with fail
              go_loopg [20] (na + nb + 1) (fun N v20 wr => ∃ (K : Nat), v20 = .int .i64 K ∧ K ≤ na + nb + 1 ∧ N = na + nb + 1 - K ∧ Below w4.heap.size w4 wr)
              case atStart => exact ⟨0, rfl, by omega, rfl, Below.refl _ _⟩
              case round =>
                obtain ⟨K, rfl, hK, hN, hst⟩ := hrel
                have HNk := Lib.hid hN; clear hN
                have HST := Lib.hid hst
                replace hB5 := hB5.up hst
                replace hA := hA.up hst
                replace hB := hB.up hst
                replace hV := hV.up hst
                replace hS11 := hS11.up hst
                replace hS12 := hS12.up hst
                replace hB13 := hB13.up hst
                replace hS14 := hS14.up hst
                replace hB15 := hB15.up hst
                replace hS16 := hS16.up hst
                replace hB17 := hB17.up hst
                replace hS19 := hS19.up hst
                replace hW := btr hW hst
                clear hst
                by_cases hlt : K < na + nb + 1
                case pos =>
                  have hlt0 : (0 : Int) ≤ (K : Int) := by omega
                  have hlt1 : (K : Int) < ((na + nb + 1 : Nat) : Int) := by omega
                  have hlt2 : (K : Int) < (na : Int) + (nb : Int) + 1 := by omega
                  obtain ⟨z, hz⟩ : ∃ z, all[K]? = some z := ⟨_, List.getElem?_eq_getElem (by have := hS19.len; omega)⟩
                  have bz := BALL.out z (List.mem_of_getElem? hz)
                  obtain ⟨bb, oo, rfl, hbb, hcc⟩ := int_cell hS19.at' hz
                  clear hz
                  rcases bz with rfl | rfl
                  all_goals
                    go_wp2_with fail
                    go_roundg (na + nb + 1 - (K + 1))
                    case measure => (have := HNk.out; omega)
                    case rel => exact ⟨K + 1, by go_num, by omega, rfl, HST.out⟩
                case neg =>
                  clear HNk HST
                  go_upto_region 16 with fail
                  obtain ⟨p5, c5, k5, k5f, hC5⟩ := id hB5
                  go_cut [21, 22] from 112 to 118 (fun s21 s22 wx => (∃ (b : Nat) (q : Option Addr) (cq : Nat), s21 = .pointer (some ⟨b, 0, none⟩) ∧ s22 = .slice q (na + nb) cq ∧ Bx wx b c ∧ SA wx q (na + nb) cq sum) ∧ Below wr.heap.size wr wx)
                  case first =>
                    as_aux_lemma =>
                      go_wp2_with (first | (go_at_call 48; refine (add_is hC5 hS14 hS16 (Below.refl _ _) (by omega) (by omega) BS.out BT.out hl hc E4.out LM.out).mono ?_; rintro e w2 ⟨p2, cap2, q2, cq2, rfl, hC2, hS2, hbl⟩))
                      go_meet
                      exact ⟨⟨_, _, _, rfl, rfl, Bx.new hC2 _, hS2.up (bal (Below.refl _ _) _)⟩, (by first | exact bal hbl _ | exact bal (btr (by go_grown) hbl) _)⟩
                  case rest =>
                    clear k5 k5f hC5
                    obtain ⟨⟨b21, q22, cq22, rfl, rfl, hB21, hS22⟩, hst⟩ := hcut
                    replace hB5 := hB5.up hst
                    replace hA := hA.up hst
                    replace hB := hB.up hst
                    replace hV := hV.up hst
                    replace hS11 := hS11.up hst
                    replace hS12 := hS12.up hst
                    replace hB13 := hB13.up hst
                    replace hS14 := hS14.up hst
                    replace hB15 := hB15.up hst
                    replace hS16 := hS16.up hst
                    replace hB17 := hB17.up hst
                    replace hS19 := hS19.up hst
                    replace hW := btr hW hst
                    clear hst
                    go_upto_region 17 with fail
                    obtain ⟨p5, c5, k5, k5f, hC5⟩ := id hB5
                    go_cut [23, 24] from 119 to 126 (fun s23 s24 wx => (∃ (b : Nat), s23 = .pointer (some ⟨b, 0, none⟩) ∧ s24 = .int .i64 less ∧ Bx wx b c) ∧ Below wc.heap.size wc wx)
                    case first =>
                      as_aux_lemma =>
                        go_wp2_with (first | (go_at_call 49; refine (less_is hC5 hS14 hS16 (Below.refl _ _) (by omega) (by omega) (by omega) (by omega) BS.out BT.out hl hc E5.out).mono ?_; rintro e w2 ⟨p2, cap2, rfl, hC2, hbl⟩))
                        go_meet
                        exact ⟨⟨_, rfl, rfl, Bx.new hC2 _⟩, (by first | exact bal hbl _ | exact bal (btr (by go_grown) hbl) _)⟩
                    case rest =>
                      clear k5 k5f hC5
                      obtain ⟨⟨b23, rfl, rfl, hB23⟩, hst⟩ := hcut
                      replace hB5 := hB5.up hst
                      replace hA := hA.up hst
                      replace hB := hB.up hst
                      replace hV := hV.up hst
                      replace hS11 := hS11.up hst
                      replace hS12 := hS12.up hst
                      replace hB13 := hB13.up hst
                      replace hS14 := hS14.up hst
                      replace hB15 := hB15.up hst
                      replace hS16 := hS16.up hst
                      replace hB17 := hB17.up hst
                      replace hS19 := hS19.up hst
                      replace hB21 := hB21.up hst
                      replace hS22 := hS22.up hst
                      replace hW := btr hW hst
                      clear hst
                      clear hlt hK
                      go_wp2_with fail
                      go_loopg [25] (na + nb) (fun N v25 wr => ∃ (K : Nat), v25 = .int .i64 K ∧ K ≤ na + nb ∧ N = na + nb - K ∧ Below wc.heap.size wc wr)
                      case atStart => exact ⟨0, rfl, by omega, rfl, Below.refl _ _⟩
                      case round =>
                        obtain ⟨K, rfl, hK, hN, hst⟩ := hrel
                        have HNk := Lib.hid hN; clear hN
                        have HST := Lib.hid hst
                        replace hB5 := hB5.up hst
                        replace hA := hA.up hst
                        replace hB := hB.up hst
                        replace hV := hV.up hst
                        replace hS11 := hS11.up hst
                        replace hS12 := hS12.up hst
                        replace hB13 := hB13.up hst
                        replace hS14 := hS14.up hst
                        replace hB15 := hB15.up hst
                        replace hS16 := hS16.up hst
                        replace hB17 := hB17.up hst
                        replace hS19 := hS19.up hst
                        replace hB21 := hB21.up hst
                        replace hS22 := hS22.up hst
                        replace hB23 := hB23.up hst
                        replace hW := btr hW hst
                        clear hst
                        by_cases hlt : K < na + nb
                        case pos =>
                          have hlt0 : (0 : Int) ≤ (K : Int) := by omega
                          have hlt1 : (K : Int) < ((na + nb : Nat) : Int) := by omega
                          have hlt2 : (K : Int) < (na : Int) + (nb : Int) := by omega
                          obtain ⟨z, hz⟩ : ∃ z, sum[K]? = some z := ⟨_, List.getElem?_eq_getElem (by have := hS22.len; omega)⟩
                          have bz := BMM.out z (List.mem_of_getElem? hz)
                          obtain ⟨bb, oo, rfl, hbb, hcc⟩ := int_cell hS22.at' hz
                          clear hz
                          rcases bz with rfl | rfl
                          all_goals
                            go_wp2_with fail
                            go_roundg (na + nb - (K + 1))
                            case measure => (have := HNk.out; omega)
                            case rel => exact ⟨K + 1, by go_num, by omega, rfl, HST.out⟩
                        case neg =>
                          clear HNk HST
                          go_upto_region 23 with fail
                          obtain ⟨p5, c5, k5, k5f, hC5⟩ := id hB5
                          obtain ⟨p21, c21, k21, k21f, hC21⟩ := id hB21
                          obtain ⟨p23, c23, k23, k23f, hC23⟩ := id hB23
                          have T1 := Lib.hid (fun (w' : World) (hB' : Below wr.heap.size wr w') => same_is hC5 hC21 hB' (csame_self c))
                          have T2 := Lib.hid (fun (w' : World) (hB' : Below wr.heap.size wr w') => same_is hC5 hC23 hB' (csame_self c))
                          have bl := BL.out
                          rcases bl with rfl | rfl
                          ·
                            as_aux_lemma =>
                              refine wp_region_seqT' (fun w' => Below wr.heap.size wr w') (by first | exact Below.refl _ _ | go_grown) ?_
                              refine seqT_pure (v := ?_) (by rfl) ?_ ?_
                              rotate_left
                              · (intro w hS; have kk := oldcell hS k5 (World.block_lt_of_cell? _ _ k5); go_simp; try with_reducible rfl)
                              (try simp only [Act.put, List.setIfInBounds_toArray, List.set_cons_zero, List.set_cons_succ])
                              refine seqT_pure (v := ?_) (by rfl) ?_ ?_
                              rotate_left
                              · (intro w hS; have kk := oldcell hS k21 (World.block_lt_of_cell? _ _ k21); go_simp; try with_reducible rfl)
                              (try simp only [Act.put, List.setIfInBounds_toArray, List.set_cons_zero, List.set_cons_succ])
                              refine seqT_call (v := .bool true) (f := ?_) (args := ?_) (by rfl) ?_ ?_ ?_
                              rotate_left 2
                              · (intro w hS; go_simp; first | done | with_reducible rfl | (refine ⟨?_, ?_⟩ <;> with_reducible rfl))
                              · (intro w hS; refine (T1.out w hS).mono ?_; rintro e w' ⟨he, hb⟩; exact ⟨he, btr hS hb⟩)
                              (try simp only [Act.put, List.setIfInBounds_toArray, List.set_cons_zero, List.set_cons_succ])
                              refine seqT_pure (v := ?_) (by rfl) ?_ ?_
                              rotate_left
                              · (intro w hS; go_simp; try with_reducible rfl)
                              (try simp only [Act.put, List.setIfInBounds_toArray, List.set_cons_zero, List.set_cons_succ])
                              refine seqT_pure (v := ?_) (by rfl) ?_ ?_
                              rotate_left
                              · (intro w hS; have kk := oldcell hS k5 (World.block_lt_of_cell? _ _ k5); go_simp; try with_reducible rfl)
                              (try simp only [Act.put, List.setIfInBounds_toArray, List.set_cons_zero, List.set_cons_succ])
                              refine seqT_pure (v := ?_) (by rfl) ?_ ?_
                              rotate_left
                              · (intro w hS; have kk := oldcell hS k23 (World.block_lt_of_cell? _ _ k23); go_simp; try with_reducible rfl)
                              (try simp only [Act.put, List.setIfInBounds_toArray, List.set_cons_zero, List.set_cons_succ])
                              refine seqT_call (v := .bool true) (f := ?_) (args := ?_) (by rfl) ?_ ?_ ?_
                              rotate_left 2
                              · (intro w hS; go_simp; first | done | with_reducible rfl | (refine ⟨?_, ?_⟩ <;> with_reducible rfl))
                              · (intro w hS; refine (T2.out w hS).mono ?_; rintro e w' ⟨he, hb⟩; exact ⟨he, btr hS hb⟩)
                              (try simp only [Act.put, List.setIfInBounds_toArray, List.set_cons_zero, List.set_cons_succ])
                              refine seqT_pure (v := ?_) (by rfl) ?_ ?_
                              rotate_left
                              · (intro w hS; go_simp; try with_reducible rfl)
                              (try simp only [Act.put, List.setIfInBounds_toArray, List.set_cons_zero, List.set_cons_succ])
                              refine seqT_pure (v := ?_) (by rfl) ?_ ?_
                              rotate_left
                              · (intro w hS; go_simp; try with_reducible rfl)
                              (try simp only [Act.put, List.setIfInBounds_toArray, List.set_cons_zero, List.set_cons_succ])
                              refine seqT_pure (v := ?_) (by rfl) ?_ ?_
                              rotate_left
                              · (intro w hS; go_simp; try with_reducible rfl)
                              (try simp only [Act.put, List.setIfInBounds_toArray, List.set_cons_zero, List.set_cons_succ])
                              refine seqT_pure (v := ?_) (by rfl) ?_ ?_
                              rotate_left
                              · (intro w hS; go_simp; try with_reducible rfl)
                              (try simp only [Act.put, List.setIfInBounds_toArray, List.set_cons_zero, List.set_cons_succ])
                              refine seqT_pure (v := ?_) (by rfl) ?_ ?_
                              rotate_left
                              · (intro w hS; go_simp; try with_reducible rfl)
                              (try simp only [Act.put, List.setIfInBounds_toArray, List.set_cons_zero, List.set_cons_succ])
                              refine seqT_off (by rfl) ?_
                              (try simp only [Act.put, List.setIfInBounds_toArray, List.set_cons_zero, List.set_cons_succ])
                              refine seqT_off (by rfl) ?_
                              (try simp only [Act.put, List.setIfInBounds_toArray, List.set_cons_zero, List.set_cons_succ])
                              refine seqT_pure (v := ?_) (by rfl) ?_ ?_
                              rotate_left
                              · (intro w hS; go_simp; try with_reducible rfl)
                              (try simp only [Act.put, List.setIfInBounds_toArray, List.set_cons_zero, List.set_cons_succ])
                              refine seqT_pure (v := ?_) (by rfl) ?_ ?_
                              rotate_left
                              · (intro w hS; go_simp; try with_reducible rfl)
                              (try simp only [Act.put, List.setIfInBounds_toArray, List.set_cons_zero, List.set_cons_succ])
                              refine seqT_pure (v := ?_) (by rfl) ?_ ?_
                              rotate_left
                              · (intro w hS; go_simp; try with_reducible rfl)
                              (try simp only [Act.put, List.setIfInBounds_toArray, List.set_cons_zero, List.set_cons_succ])
                              refine seqT_nil ?_
                              intro w2 HB0
                              go_wp2_with fail
                              go_ret
                              exact ⟨rfl, btr hW HB0⟩
                          ·
                            as_aux_lemma =>
                              refine wp_region_seqT' (fun w' => Below wr.heap.size wr w') (by first | exact Below.refl _ _ | go_grown) ?_
                              refine seqT_pure (v := ?_) (by rfl) ?_ ?_
                              rotate_left
                              · (intro w hS; have kk := oldcell hS k5 (World.block_lt_of_cell? _ _ k5); go_simp; try with_reducible rfl)
                              (try simp only [Act.put, List.setIfInBounds_toArray, List.set_cons_zero, List.set_cons_succ])
                              refine seqT_pure (v := ?_) (by rfl) ?_ ?_
                              rotate_left
                              · (intro w hS; have kk := oldcell hS k21 (World.block_lt_of_cell? _ _ k21); go_simp; try with_reducible rfl)
                              (try simp only [Act.put, List.setIfInBounds_toArray, List.set_cons_zero, List.set_cons_succ])
                              refine seqT_call (v := .bool true) (f := ?_) (args := ?_) (by rfl) ?_ ?_ ?_
                              rotate_left 2
                              · (intro w hS; go_simp; first | done | with_reducible rfl | (refine ⟨?_, ?_⟩ <;> with_reducible rfl))
                              · (intro w hS; refine (T1.out w hS).mono ?_; rintro e w' ⟨he, hb⟩; exact ⟨he, btr hS hb⟩)
                              (try simp only [Act.put, List.setIfInBounds_toArray, List.set_cons_zero, List.set_cons_succ])
                              refine seqT_pure (v := ?_) (by rfl) ?_ ?_
                              rotate_left
                              · (intro w hS; go_simp; try with_reducible rfl)
                              (try simp only [Act.put, List.setIfInBounds_toArray, List.set_cons_zero, List.set_cons_succ])
                              refine seqT_pure (v := ?_) (by rfl) ?_ ?_
                              rotate_left
                              · (intro w hS; have kk := oldcell hS k5 (World.block_lt_of_cell? _ _ k5); go_simp; try with_reducible rfl)
                              (try simp only [Act.put, List.setIfInBounds_toArray, List.set_cons_zero, List.set_cons_succ])
                              refine seqT_pure (v := ?_) (by rfl) ?_ ?_
                              rotate_left
                              · (intro w hS; have kk := oldcell hS k23 (World.block_lt_of_cell? _ _ k23); go_simp; try with_reducible rfl)
                              (try simp only [Act.put, List.setIfInBounds_toArray, List.set_cons_zero, List.set_cons_succ])
                              refine seqT_call (v := .bool true) (f := ?_) (args := ?_) (by rfl) ?_ ?_ ?_
                              rotate_left 2
                              · (intro w hS; go_simp; first | done | with_reducible rfl | (refine ⟨?_, ?_⟩ <;> with_reducible rfl))
                              · (intro w hS; refine (T2.out w hS).mono ?_; rintro e w' ⟨he, hb⟩; exact ⟨he, btr hS hb⟩)
                              (try simp only [Act.put, List.setIfInBounds_toArray, List.set_cons_zero, List.set_cons_succ])
                              refine seqT_pure (v := ?_) (by rfl) ?_ ?_
                              rotate_left
                              · (intro w hS; go_simp; try with_reducible rfl)
                              (try simp only [Act.put, List.setIfInBounds_toArray, List.set_cons_zero, List.set_cons_succ])
                              refine seqT_pure (v := ?_) (by rfl) ?_ ?_
                              rotate_left
                              · (intro w hS; go_simp; try with_reducible rfl)
                              (try simp only [Act.put, List.setIfInBounds_toArray, List.set_cons_zero, List.set_cons_succ])
                              refine seqT_pure (v := ?_) (by rfl) ?_ ?_
                              rotate_left
                              · (intro w hS; go_simp; try with_reducible rfl)
                              (try simp only [Act.put, List.setIfInBounds_toArray, List.set_cons_zero, List.set_cons_succ])
                              refine seqT_pure (v := ?_) (by rfl) ?_ ?_
                              rotate_left
                              · (intro w hS; go_simp; try with_reducible rfl)
                              (try simp only [Act.put, List.setIfInBounds_toArray, List.set_cons_zero, List.set_cons_succ])
                              refine seqT_pure (v := ?_) (by rfl) ?_ ?_
                              rotate_left
                              · (intro w hS; go_simp; try with_reducible rfl)
                              (try simp only [Act.put, List.setIfInBounds_toArray, List.set_cons_zero, List.set_cons_succ])
                              refine seqT_pure (v := ?_) (by rfl) ?_ ?_
                              rotate_left
                              · (intro w hS; go_simp; try with_reducible rfl)
                              (try simp only [Act.put, List.setIfInBounds_toArray, List.set_cons_zero, List.set_cons_succ])
                              refine seqT_pure (v := ?_) (by rfl) ?_ ?_
                              rotate_left
                              · (intro w hS; go_simp; try with_reducible rfl)
                              (try simp only [Act.put, List.setIfInBounds_toArray, List.set_cons_zero, List.set_cons_succ])
                              refine seqT_pure (v := ?_) (by rfl) ?_ ?_
                              rotate_left
                              · (intro w hS; go_simp; try with_reducible rfl)
                              (try simp only [Act.put, List.setIfInBounds_toArray, List.set_cons_zero, List.set_cons_succ])
                              refine seqT_pure (v := ?_) (by rfl) ?_ ?_
                              rotate_left
                              · (intro w hS; go_simp; try with_reducible rfl)
                              (try simp only [Act.put, List.setIfInBounds_toArray, List.set_cons_zero, List.set_cons_succ])
                              refine seqT_pure (v := ?_) (by rfl) ?_ ?_
                              rotate_left
                              · (intro w hS; go_simp; try with_reducible rfl)
                              (try simp only [Act.put, List.setIfInBounds_toArray, List.set_cons_zero, List.set_cons_succ])
                              refine seqT_nil ?_
                              intro w2 HB0
                              go_wp2_with fail
                              go_ret
                              exact ⟨rfl, btr hW HB0⟩

set_option maxRecDepth 100000 in
set_option maxHeartbeats 8000000 in
theorem extends16_any (x : RawV) (q : RawP) (k : Int) (w : World) (hx : RawOk w x q) (hk0 : -128 ≤ k) (hk1 : k < 128) :
    Calls Try.prog 11 #[.agg #[.slice q.pL x.L.length q.cL, .slice q.pA x.A.length q.cA, .slice q.pB x.B.length q.cB, .slice q.pV x.V.length q.cV, .int .i8 x.by'], .int .i8 k] w (RetB w true) := by
  obtain ⟨L, A, B, V, by'⟩ := x
  obtain ⟨pL, cL, pA, cA, pB, cB, pV, cV⟩ := q
  dsimp only
  have HX := Lib.hid hx; clear hx
  obtain ⟨W0, hW0, hX, hW⟩ : ∃ W0, w.alloc (.cells #[.slice pL L.length cL, .slice pA A.length cA, .slice pB B.length cB, .slice pV V.length cV, .int .i8 by'] 56) = W0 ∧ RawAt W0 w.heap.size ⟨L, A, B, V, by'⟩ ⟨pL, cL, pA, cA, pB, cB, pV, cV⟩ ∧ Below w.heap.size w W0 := ⟨_, rfl, ⟨by go_cell, by go_cell, by go_cell, by go_cell, by go_cell⟩, by go_grown⟩
  have HW0 := Lib.hid hW0; clear hW0
  obtain ⟨G, hG⟩ : ∃ G, great ⟨L, A, B, V, by'⟩ = G := ⟨_, rfl⟩
  have HG := Lib.hid hG
  cases G
  case true =>
    clear hG
    go_enter Try.func11, Try.ntmps11
    go_upto_region 1 with fail
    rw [HW0.out]
    go_upto_region 1 with fail
    go_cut [5] from 33 to 33 (fun s5 wx => (s5 = .bool true) ∧ Below W0.heap.size W0 wx)
    case first =>
      as_aux_lemma =>
        go_wp2_with (first | (go_at_call 39; refine (head16_any _).mono ?_; rintro e w2 ⟨rfl, hbl⟩))
        go_meet
        exact ⟨rfl, (by first | exact hbl | exact btr (by go_grown) hbl)⟩
    case rest =>
      obtain ⟨rfl, hst⟩ := hcut
      replace hX := hX.up hst
      replace hW := btr hW hst
      clear hst
      obtain ⟨x0, x1, x2, x3, x4⟩ := id hX
      dsimp only at x0 x1 x2 x3 x4
      go_wp2_with (first | (go_at_call 40; refine (great_any ⟨L, A, B, V, by'⟩ ⟨pL, cL, pA, cA, pB, cB, pV, cV⟩ _ HX.out.l0 HX.out.l1 HX.out.l2 HX.out.l3).mono ?_; rw [HG.out]; rintro e w1 ⟨rfl, hb1⟩))
      go_ret
      exact ⟨rfl, btr hW hb1⟩
  case false =>
    obtain ⟨h0, h1, h2, h3⟩ := great_no hG
    dsimp only at h0 h1 h2 h3
    clear hG
    obtain ⟨c, refs, a, b, hcb, ha, hb, gc, hcl, ra, rb, la, lb⟩ := raw_plain L A B h0 h1 h2
    have hl : c.length ≤ 20000 := by omega
    have hc : 0 < c.length := gc.ne
    obtain ⟨na, hna⟩ : ∃ n, A.length = n := ⟨_, rfl⟩
    obtain ⟨nb, hnb⟩ : ∃ n, B.length = n := ⟨_, rfl⟩
    have hna9 : na ≤ 9 := by omega
    have hnb9 : nb ≤ 9 := by omega
    rw [hna] at la; rw [hnb] at lb
    have HAL := Lib.hid (allLe_of ra hl); have HBL := Lib.hid (allLe_of rb hl)
    obtain ⟨d, s, e1⟩ : ∃ d' u', (usorter 1 a).run c = (d', u') := ⟨_, _, rfl⟩
    obtain ⟨e, t, e2⟩ : ∃ d' u', (utotal 0 1 na a).run c = (d', u') := ⟨_, _, rfl⟩
    obtain ⟨f, r, e3⟩ : ∃ d' u', (uatleast 0 1 a k).run c = (d', u') := ⟨_, _, rfl⟩
    obtain ⟨h, u, e5⟩ : ∃ d' u', (ucount 0 1 a na).run c = (d', u') := ⟨_, _, rfl⟩
    have o1 := sops9 hna9
    have o2 : opsTotal na ≤ 1620 := Nat.le_trans (total_ops hna9) (by decide)
    have o5 : na * opsAdd na 1 ≤ 1800 := Nat.le_trans (Nat.mul_le_mul hna9 (add_ops hna9 (Nat.le_refl 1))) (by decide)
    have o6 : nb * opsAdd nb 1 ≤ 1800 := Nat.le_trans (Nat.mul_le_mul hnb9 (add_ops hnb9 (Nat.le_refl 1))) (by decide)
    have o7 : opsAdd na nb ≤ 360 := Nat.le_trans (add_ops hna9 hnb9) (by decide)
    obtain ⟨g1, N1⟩ := sorter_num gc ra la (by omega) e1
    obtain ⟨g2, N2⟩ := total_num gc ra la (by omega) e2
    obtain ⟨g3, R3⟩ := atleast_rf gc ra la (by omega) e3
    obtain ⟨g5, N5⟩ := count_num gc ra la (by omega) e5
    have k5 := g5.len
    obtain ⟨i, v, e6⟩ : ∃ d' u', (ucount 0 1 b nb).run h = (d', u') := ⟨_, _, rfl⟩
    obtain ⟨g6, N6⟩ := count_num g5.good (rb.up g5.ge) lb (by omega) e6
    have k6 := g6.len
    have N5' := N5.up g6
    obtain ⟨j, sum, e7⟩ : ∃ d' u', (uadd 0 1 u v).run i = (d', u') := ⟨_, _, rfl⟩
    obtain ⟨l, less, e8⟩ : ∃ d' u', (uless 0 1 cnot u v by').run i = (d', u') := ⟨_, _, rfl⟩
    obtain ⟨g7, N7⟩ := add_num g6.good N5' N6 (by omega) e7
    obtain ⟨g8, R8⟩ := less_rf g6.good N5' N6 (by omega) e8
    have k1 := g1.len; have k2 := g2.len; have k3 := g3.len; have k7 := g7.len; have k8 := g8.len
    have e1' := sorter_again gc ra la (by omega) e1
    have e2' := total_again gc ra la (by omega) e2
    have e3' := atleast_again gc ra la (by omega) e3
    have e7' := add_again g6.good N5'.refs N6.refs N5'.len N6.len (by omega) e7
    have e8' := less_again g6.good N5'.refs N6.refs N6.len (by omega) e8
    have hdl : d.length ≤ 20000 := by omega
    have hel : e.length ≤ 20000 := by omega
    have hfl : f.length ≤ 20000 := by omega
    have hhl : h.length ≤ 20000 := by omega
    have hil : i.length ≤ 20000 := by omega
    have hjl : j.length ≤ 20000 := by omega
    have hll : l.length ≤ 20000 := by omega
    have hdp : 0 < d.length := g1.good.ne
    have hep : 0 < e.length := g2.good.ne
    have hfp : 0 < f.length := g3.good.ne
    have hhp : 0 < h.length := g5.good.ne
    have hip : 0 < i.length := g6.good.ne
    have hjp : 0 < j.length := g7.good.ne
    have hlp : 0 < l.length := g8.good.ne
    have r3 : RefsIn [r] f.length := fun z hz => by rw [List.mem_singleton.1 hz]; exact ⟨R3.lo, R3.hi⟩
    have r8 : RefsIn [less] l.length := fun z hz => by rw [List.mem_singleton.1 hz]; exact ⟨R8.lo, R8.hi⟩
    have E1 := Lib.hid e1; have E2 := Lib.hid e2; have E3 := Lib.hid e3; have E5 := Lib.hid e5; have E6 := Lib.hid e6; have E7 := Lib.hid e7; have E8 := Lib.hid e8
    have E1' := Lib.hid e1'; have E2' := Lib.hid e2'; have E3' := Lib.hid e3'; have E7' := Lib.hid e7'; have E8' := Lib.hid e8'
    have G1 := Lib.hid g1; have G2 := Lib.hid g2; have G3 := Lib.hid g3; have G5 := Lib.hid g5; have G6 := Lib.hid g6; have G7 := Lib.hid g7; have G8 := Lib.hid g8
    have M1 := Lib.hid N1; have M2 := Lib.hid N2; have M5 := Lib.hid N5; have M6 := Lib.hid N6; have M7 := Lib.hid N7; have RR3 := Lib.hid r3; have RR8 := Lib.hid r8
    have AU := Lib.hid (allLe_of N5'.refs hil); have AV := Lib.hid (allLe_of N6.refs hil); have ABh := Lib.hid (allLe_of (rb.up g5.ge) hhl)
    have AUj := Lib.hid (allLe_of (N5'.refs.up g7.ge) hjl); have AVj := Lib.hid (allLe_of (N6.refs.up g7.ge) hjl); have AUl := Lib.hid (allLe_of (N5'.refs.up g8.ge) hll); have AVl := Lib.hid (allLe_of (N6.refs.up g8.ge) hll)
    have h3' : V.length ≤ maxLen := HX.out.l3
    have hby0 := HX.out.b0; have hby1 := HX.out.b1
    dsimp only at hby0 hby1
    have GCW := Lib.hid gc.wf
    clear e1 e2 e3 e5 e6 e7 e8 e1' e2' e3' e7' e8' g1 g2 g3 g5 g6 g7 g8 N1 N2 N5 N5' N6 N7 R3 R8 r3 r8 o1 o2 o5 o6 o7 k1 k2 k3 k5 k6 k7 k8
    have HCB := Lib.hid hcb; have HA := Lib.hid ha; have HB := Lib.hid hb; have HNA := Lib.hid hna; have HNB := Lib.hid hnb; have RA := Lib.hid ra; have RB := Lib.hid rb; have LA := Lib.hid la; have LB := Lib.hid lb; have GC := Lib.hid gc
    clear hcb ha hb hna hnb ra rb la lb gc
    go_enter Try.func11, Try.ntmps11
    go_upto_region 1 with fail
    rw [HW0.out]
    go_upto_region 1 with fail
    go_cut [5] from 33 to 33 (fun s5 wx => (s5 = .bool true) ∧ Below W0.heap.size W0 wx)
    case first =>
      as_aux_lemma =>
        go_wp2_with (first | (go_at_call 39; refine (head16_any _).mono ?_; rintro e w2 ⟨rfl, hbl⟩))
        go_meet
        exact ⟨rfl, (by first | exact hbl | exact btr (by go_grown) hbl)⟩
    case rest =>
      obtain ⟨rfl, hst⟩ := hcut
      replace hX := hX.up hst
      replace hW := btr hW hst
      clear hst
      obtain ⟨x0, x1, x2, x3, x4⟩ := id hX
      dsimp only at x0 x1 x2 x3 x4
      go_upto_region 4 with (first | (go_at_call 40; refine (great_any ⟨L, A, B, V, by'⟩ ⟨pL, cL, pA, cA, pB, cB, pV, cV⟩ _ HX.out.l0 HX.out.l1 HX.out.l2 HX.out.l3).mono ?_; rw [HG.out]; rintro e w1 ⟨rfl, hb1⟩))
      have hst1 : Below wc.heap.size wc _ := hb1
      replace hX := hX.up hb1
      replace hW := btr hW hb1
      clear hst1 hb1 x0 x1 x2 x3 x4
      obtain ⟨x0, x1, x2, x3, x4⟩ := id hX
      dsimp only at x0 x1 x2 x3 x4
      go_upto_region 4 with fail
      go_cut [6, 7, 8] from 37 to 42 (fun s6 s7 s8 wx => (∃ (b0 : Nat) (q5 : Option Addr) (c5 : Nat) (q6 : Option Addr) (c6 : Nat), s6 = .pointer (some ⟨b0, 0, none⟩) ∧ s7 = .slice q5 na c5 ∧ s8 = .slice q6 nb c6 ∧ Bx wx b0 c ∧ SA wx q5 na c5 a ∧ SA wx q6 nb c6 b) ∧ Below w1.heap.size w1 wx)
      case first =>
        as_aux_lemma =>
          go_wp2_with (first | (go_at_call 41; refine (inputs_is (x := ⟨L, A, B, V, by'⟩) (q := ⟨pL, cL, pA, cA, pB, cB, pV, cV⟩) (HX.out.up (by exact hW)) h0 h1 h2 HCB.out HA.out HB.out HNA.out HNB.out).mono ?_; rintro e w2 ⟨p2, cap2, q5, c5, q6, c6, rfl, hC2, hSa, hSb, hbl⟩))
          go_meet
          exact ⟨⟨_, _, _, _, _, rfl, rfl, rfl, Bx.new hC2 _, hSa.up (bal (Below.refl _ _) _), hSb.up (bal (Below.refl _ _) _)⟩, bal hbl _⟩
      case rest =>
        obtain ⟨⟨b6, q7, cq7, q8, cq8, rfl, rfl, rfl, hB6, hS7, hS8⟩, hst⟩ := hcut
        replace hX := hX.up hst
        replace hW := btr hW hst
        clear hst
        clear x0 x1 x2 x3 x4
        go_upto_region 5 with fail
        obtain ⟨p6, c6, k6, k6f, hC6⟩ := id hB6
        go_cut [9, 10] from 43 to 48 (fun s9 s10 wx => (∃ (b : Nat) (q : Option Addr) (cq : Nat), s9 = .pointer (some ⟨b, 0, none⟩) ∧ s10 = .slice q na cq ∧ Bx wx b d ∧ SA wx q na cq s) ∧ Below wc.heap.size wc wx)
        case first =>
          as_aux_lemma =>
            go_wp2_with (first | (go_at_call 43; refine (sorter_is hC6 hS7 (Below.refl _ _) (by omega) HAL.out hl hc E1.out M1.out.len).mono ?_; rintro e w2 ⟨p2, cap2, q2, cq2, rfl, hC2, hS2, hbl⟩))
            go_meet
            exact ⟨⟨_, _, _, rfl, rfl, Bx.new hC2 _, hS2.up (bal (Below.refl _ _) _)⟩, (by first | exact bal hbl _ | exact bal (btr (by go_grown) hbl) _)⟩
        case rest =>
          clear k6 k6f hC6
          obtain ⟨⟨b9, q10, cq10, rfl, rfl, hB9, hS10⟩, hst⟩ := hcut
          replace hX := hX.up hst
          replace hB6 := hB6.up hst
          replace hS7 := hS7.up hst
          replace hS8 := hS8.up hst
          replace hW := btr hW hst
          clear hst
          go_upto_region 6 with fail
          obtain ⟨p6, c6, k6, k6f, hC6⟩ := id hB6
          go_cut [11, 12] from 49 to 54 (fun s11 s12 wx => (∃ (b : Nat) (q : Option Addr) (cq : Nat), s11 = .pointer (some ⟨b, 0, none⟩) ∧ s12 = .slice q na cq ∧ Bx wx b e ∧ SA wx q na cq t) ∧ Below wc.heap.size wc wx)
          case first =>
            as_aux_lemma =>
              go_wp2_with (first | (go_at_call 44; refine (totalizer_is hC6 hS7 (Below.refl _ _) (by omega) HAL.out hl hc E2.out M2.out.len).mono ?_; rintro e w2 ⟨p2, cap2, q2, cq2, rfl, hC2, hS2, hbl⟩))
              go_meet
              exact ⟨⟨_, _, _, rfl, rfl, Bx.new hC2 _, hS2.up (bal (Below.refl _ _) _)⟩, (by first | exact bal hbl _ | exact bal (btr (by go_grown) hbl) _)⟩
          case rest =>
            clear k6 k6f hC6
            obtain ⟨⟨b11, q12, cq12, rfl, rfl, hB11, hS12⟩, hst⟩ := hcut
            replace hX := hX.up hst
            replace hB6 := hB6.up hst
            replace hS7 := hS7.up hst
            replace hS8 := hS8.up hst
            replace hB9 := hB9.up hst
            replace hS10 := hS10.up hst
            replace hW := btr hW hst
            clear hst
            go_upto_region 7 with fail
            obtain ⟨p6, c6, k6, k6f, hC6⟩ := id hB6
            have hwk : IntKind.i64.wrap k = k := by (rw [IntWalk.i64_in]; omega)
            go_cut [13, 14] from 55 to 62 (fun s13 s14 wx => (∃ (b : Nat), s13 = .pointer (some ⟨b, 0, none⟩) ∧ s14 = .int .i64 r ∧ Bx wx b f) ∧ Below wc.heap.size wc wx)
            case first =>
              as_aux_lemma =>
                go_wp2_with (first | (go_at_call 46; refine (atleast_is (k := k) hC6 hS7 (Below.refl _ _) (by omega) (by omega) HAL.out hl hc E3.out).mono ?_; rintro e w2 ⟨p2, cap2, rfl, hC2, hbl⟩))
                go_meet
                exact ⟨⟨_, rfl, rfl, Bx.new hC2 _⟩, (by first | exact bal hbl _ | exact bal (btr (by go_grown) hbl) _)⟩
            case rest =>
              clear k6 k6f hC6
              obtain ⟨⟨b13, rfl, rfl, hB13⟩, hst⟩ := hcut
              replace hX := hX.up hst
              replace hB6 := hB6.up hst
              replace hS7 := hS7.up hst
              replace hS8 := hS8.up hst
              replace hB9 := hB9.up hst
              replace hS10 := hS10.up hst
              replace hB11 := hB11.up hst
              replace hS12 := hS12.up hst
              replace hW := btr hW hst
              clear hst
              go_upto_region 8 with fail
              obtain ⟨p6, c6, k6, k6f, hC6⟩ := id hB6
              obtain ⟨p9, c9, k9, k9f, hC9⟩ := id hB9
              obtain ⟨p11, c11, k11, k11f, hC11⟩ := id hB11
              obtain ⟨p13, c13, k13, k13f, hC13⟩ := id hB13
              go_cut [97] from 63 to 96 (fun s97 wx => (s97 = .bool false) ∧ Below wc.heap.size wc wx)
              case first =>
                as_aux_lemma =>
                  have T1 := Lib.hid (fun (w' : World) (hB' : Below wc.heap.size wc w') => extends_is hC6 hC9 hB' G1.out.pre (G1.out.good.valid (by omega)))
                  have T2 := Lib.hid (fun (w' : World) (hB' : Below wc.heap.size wc w') => extends_is hC6 hC11 hB' G2.out.pre (G2.out.good.valid (by omega)))
                  have T3 := Lib.hid (fun (w' : World) (hB' : Below wc.heap.size wc w') => extends_is hC6 hC13 hB' G3.out.pre (G3.out.good.valid (by omega)))
                  have T4 := Lib.hid (fun (w' : World) (hB' : Below wc.heap.size wc w') => rvalid16_is hC9 hS10 hB' (by omega) (by omega) M1.out.refs)
                  have T5 := Lib.hid (fun (w' : World) (hB' : Below wc.heap.size wc w') => rvalid16_is hC11 hS12 hB' (by omega) (by omega) M2.out.refs)
                  refine wp_region_seqT' (fun w' => Below wc.heap.size wc w') (by first | exact Below.refl _ _ | go_grown) ?_
                  refine seqT_pure (v := ?_) (by rfl) ?_ ?_
                  rotate_left
                  · (intro w hS; have kk := oldcell hS k6 (World.block_lt_of_cell? _ _ k6); go_simp; try with_reducible rfl)
                  (try simp only [Act.put, List.setIfInBounds_toArray, List.set_cons_zero, List.set_cons_succ])
                  refine seqT_pure (v := ?_) (by rfl) ?_ ?_
                  rotate_left
                  · (intro w hS; have kk := oldcell hS k9 (World.block_lt_of_cell? _ _ k9); go_simp; try with_reducible rfl)
                  (try simp only [Act.put, List.setIfInBounds_toArray, List.set_cons_zero, List.set_cons_succ])
                  refine seqT_call (v := .bool true) (f := ?_) (args := ?_) (by rfl) ?_ ?_ ?_
                  rotate_left 2
                  · (intro w hS; go_simp; first | done | with_reducible rfl | (refine ⟨?_, ?_⟩ <;> with_reducible rfl))
                  · (intro w hS; refine (T1.out w hS).mono ?_; rintro e w' ⟨he, hb⟩; exact ⟨he, btr hS hb⟩)
                  (try simp only [Act.put, List.setIfInBounds_toArray, List.set_cons_zero, List.set_cons_succ])
                  refine seqT_pure (v := ?_) (by rfl) ?_ ?_
                  rotate_left
                  · (intro w hS; go_simp; try with_reducible rfl)
                  (try simp only [Act.put, List.setIfInBounds_toArray, List.set_cons_zero, List.set_cons_succ])
                  refine seqT_pure (v := ?_) (by rfl) ?_ ?_
                  rotate_left
                  · (intro w hS; go_simp; try with_reducible rfl)
                  (try simp only [Act.put, List.setIfInBounds_toArray, List.set_cons_zero, List.set_cons_succ])
                  refine seqT_pure (v := ?_) (by rfl) ?_ ?_
                  rotate_left
                  · (intro w hS; have kk := oldcell hS k6 (World.block_lt_of_cell? _ _ k6); go_simp; try with_reducible rfl)
                  (try simp only [Act.put, List.setIfInBounds_toArray, List.set_cons_zero, List.set_cons_succ])
                  refine seqT_pure (v := ?_) (by rfl) ?_ ?_
                  rotate_left
                  · (intro w hS; have kk := oldcell hS k11 (World.block_lt_of_cell? _ _ k11); go_simp; try with_reducible rfl)
                  (try simp only [Act.put, List.setIfInBounds_toArray, List.set_cons_zero, List.set_cons_succ])
                  refine seqT_call (v := .bool true) (f := ?_) (args := ?_) (by rfl) ?_ ?_ ?_
                  rotate_left 2
                  · (intro w hS; go_simp; first | done | with_reducible rfl | (refine ⟨?_, ?_⟩ <;> with_reducible rfl))
                  · (intro w hS; refine (T2.out w hS).mono ?_; rintro e w' ⟨he, hb⟩; exact ⟨he, btr hS hb⟩)
                  (try simp only [Act.put, List.setIfInBounds_toArray, List.set_cons_zero, List.set_cons_succ])
                  refine seqT_pure (v := ?_) (by rfl) ?_ ?_
                  rotate_left
                  · (intro w hS; go_simp; try with_reducible rfl)
                  (try simp only [Act.put, List.setIfInBounds_toArray, List.set_cons_zero, List.set_cons_succ])
                  refine seqT_pure (v := ?_) (by rfl) ?_ ?_
                  rotate_left
                  · (intro w hS; go_simp; try with_reducible rfl)
                  (try simp only [Act.put, List.setIfInBounds_toArray, List.set_cons_zero, List.set_cons_succ])
                  refine seqT_pure (v := ?_) (by rfl) ?_ ?_
                  rotate_left
                  · (intro w hS; go_simp; try with_reducible rfl)
                  (try simp only [Act.put, List.setIfInBounds_toArray, List.set_cons_zero, List.set_cons_succ])
                  refine seqT_pure (v := ?_) (by rfl) ?_ ?_
                  rotate_left
                  · (intro w hS; have kk := oldcell hS k6 (World.block_lt_of_cell? _ _ k6); go_simp; try with_reducible rfl)
                  (try simp only [Act.put, List.setIfInBounds_toArray, List.set_cons_zero, List.set_cons_succ])
                  refine seqT_pure (v := ?_) (by rfl) ?_ ?_
                  rotate_left
                  · (intro w hS; have kk := oldcell hS k13 (World.block_lt_of_cell? _ _ k13); go_simp; try with_reducible rfl)
                  (try simp only [Act.put, List.setIfInBounds_toArray, List.set_cons_zero, List.set_cons_succ])
                  refine seqT_call (v := .bool true) (f := ?_) (args := ?_) (by rfl) ?_ ?_ ?_
                  rotate_left 2
                  · (intro w hS; go_simp; first | done | with_reducible rfl | (refine ⟨?_, ?_⟩ <;> with_reducible rfl))
                  · (intro w hS; refine (T3.out w hS).mono ?_; rintro e w' ⟨he, hb⟩; exact ⟨he, btr hS hb⟩)
                  (try simp only [Act.put, List.setIfInBounds_toArray, List.set_cons_zero, List.set_cons_succ])
                  refine seqT_pure (v := ?_) (by rfl) ?_ ?_
                  rotate_left
                  · (intro w hS; go_simp; try with_reducible rfl)
                  (try simp only [Act.put, List.setIfInBounds_toArray, List.set_cons_zero, List.set_cons_succ])
                  refine seqT_pure (v := ?_) (by rfl) ?_ ?_
                  rotate_left
                  · (intro w hS; go_simp; try with_reducible rfl)
                  (try simp only [Act.put, List.setIfInBounds_toArray, List.set_cons_zero, List.set_cons_succ])
                  refine seqT_pure (v := ?_) (by rfl) ?_ ?_
                  rotate_left
                  · (intro w hS; go_simp; try with_reducible rfl)
                  (try simp only [Act.put, List.setIfInBounds_toArray, List.set_cons_zero, List.set_cons_succ])
                  refine seqT_pure (v := ?_) (by rfl) ?_ ?_
                  rotate_left
                  · (intro w hS; have kk := oldcell hS k9 (World.block_lt_of_cell? _ _ k9); go_simp; try with_reducible rfl)
                  (try simp only [Act.put, List.setIfInBounds_toArray, List.set_cons_zero, List.set_cons_succ])
                  refine seqT_pure (v := ?_) (by rfl) ?_ ?_
                  rotate_left
                  · (intro w hS; go_simp; try with_reducible rfl)
                  (try simp only [Act.put, List.setIfInBounds_toArray, List.set_cons_zero, List.set_cons_succ])
                  refine seqT_call (v := .bool true) (f := ?_) (args := ?_) (by rfl) ?_ ?_ ?_
                  rotate_left 2
                  · (intro w hS; go_simp; first | done | with_reducible rfl | (refine ⟨?_, ?_⟩ <;> with_reducible rfl))
                  · (intro w hS; refine (T4.out w hS).mono ?_; rintro e w' ⟨he, hb⟩; exact ⟨he, btr hS hb⟩)
                  (try simp only [Act.put, List.setIfInBounds_toArray, List.set_cons_zero, List.set_cons_succ])
                  refine seqT_pure (v := ?_) (by rfl) ?_ ?_
                  rotate_left
                  · (intro w hS; go_simp; try with_reducible rfl)
                  (try simp only [Act.put, List.setIfInBounds_toArray, List.set_cons_zero, List.set_cons_succ])
                  refine seqT_pure (v := ?_) (by rfl) ?_ ?_
                  rotate_left
                  · (intro w hS; go_simp; try with_reducible rfl)
                  (try simp only [Act.put, List.setIfInBounds_toArray, List.set_cons_zero, List.set_cons_succ])
                  refine seqT_pure (v := ?_) (by rfl) ?_ ?_
                  rotate_left
                  · (intro w hS; go_simp; try with_reducible rfl)
                  (try simp only [Act.put, List.setIfInBounds_toArray, List.set_cons_zero, List.set_cons_succ])
                  refine seqT_pure (v := ?_) (by rfl) ?_ ?_
                  rotate_left
                  · (intro w hS; have kk := oldcell hS k11 (World.block_lt_of_cell? _ _ k11); go_simp; try with_reducible rfl)
                  (try simp only [Act.put, List.setIfInBounds_toArray, List.set_cons_zero, List.set_cons_succ])
                  refine seqT_pure (v := ?_) (by rfl) ?_ ?_
                  rotate_left
                  · (intro w hS; go_simp; try with_reducible rfl)
                  (try simp only [Act.put, List.setIfInBounds_toArray, List.set_cons_zero, List.set_cons_succ])
                  refine seqT_call (v := .bool true) (f := ?_) (args := ?_) (by rfl) ?_ ?_ ?_
                  rotate_left 2
                  · (intro w hS; go_simp; first | done | with_reducible rfl | (refine ⟨?_, ?_⟩ <;> with_reducible rfl))
                  · (intro w hS; refine (T5.out w hS).mono ?_; rintro e w' ⟨he, hb⟩; exact ⟨he, btr hS hb⟩)
                  (try simp only [Act.put, List.setIfInBounds_toArray, List.set_cons_zero, List.set_cons_succ])
                  refine seqT_pure (v := ?_) (by rfl) ?_ ?_
                  rotate_left
                  · (intro w hS; go_simp; try with_reducible rfl)
                  (try simp only [Act.put, List.setIfInBounds_toArray, List.set_cons_zero, List.set_cons_succ])
                  refine seqT_pure (v := ?_) (by rfl) ?_ ?_
                  rotate_left
                  · (intro w hS; go_simp; try with_reducible rfl)
                  (try simp only [Act.put, List.setIfInBounds_toArray, List.set_cons_zero, List.set_cons_succ])
                  refine seqT_pure (v := ?_) (by rfl) ?_ ?_
                  rotate_left
                  · (intro w hS; go_simp; try with_reducible rfl)
                  (try simp only [Act.put, List.setIfInBounds_toArray, List.set_cons_zero, List.set_cons_succ])
                  refine seqT_pure (v := ?_) (by rfl) ?_ ?_
                  rotate_left
                  · (intro w hS; have kk := oldcell hS k13 (World.block_lt_of_cell? _ _ k13); go_simp; try with_reducible rfl)
                  (try simp only [Act.put, List.setIfInBounds_toArray, List.set_cons_zero, List.set_cons_succ])
                  refine seqT_pure (v := ?_) (by rfl) ?_ ?_
                  rotate_left
                  · (intro w hS; go_simp; try with_reducible rfl)
                  (try simp only [Act.put, List.setIfInBounds_toArray, List.set_cons_zero, List.set_cons_succ])
                  refine seqT_move (by rfl) ?_
                  intro w hS
                  refine ⟨_, _, (by go_simp; first | done | (refine ⟨?_, ?_⟩ <;> with_reducible rfl) | with_reducible rfl), fun x => Below wc.heap.size wc x ∧ SA x (some ⟨w.heap.size, 0, none⟩) 1 1 [r], ⟨bal hS _, SA.app1 (by go_cell) (by simp)⟩, ?_⟩
                  obtain ⟨gA, hgA⟩ : ∃ g, w.heap.size = g := ⟨_, rfl⟩
                  rw [hgA]
                  clear hgA hS w
                  (try simp only [Act.put, List.setIfInBounds_toArray, List.set_cons_zero, List.set_cons_succ])
                  refine seqT_call (v := .bool true) (f := ?_) (args := ?_) (by rfl) ?_ ?_ ?_
                  rotate_left 2
                  · (intro w hS; go_simp; first | done | with_reducible rfl | (refine ⟨?_, ?_⟩ <;> with_reducible rfl))
                  · (intro w hS; have hV2 := hS.2; replace hS := hS.1; refine (rvalid16_is (hC13.mono hS) hV2 (Below.refl _ _) (by omega) (by omega) RR3.out).mono ?_; rintro e w' ⟨he, hb⟩; exact ⟨he, btr hS hb, hV2.up hb⟩)
                  (try simp only [Act.put, List.setIfInBounds_toArray, List.set_cons_zero, List.set_cons_succ])
                  refine seqT_pure (v := ?_) (by rfl) ?_ ?_
                  rotate_left
                  · (intro w hS; have hV2 := hS.2; replace hS := hS.1; go_simp; try with_reducible rfl)
                  (try simp only [Act.put, List.setIfInBounds_toArray, List.set_cons_zero, List.set_cons_succ])
                  refine seqT_pure (v := ?_) (by rfl) ?_ ?_
                  rotate_left
                  · (intro w hS; have hV2 := hS.2; replace hS := hS.1; go_simp; try with_reducible rfl)
                  (try simp only [Act.put, List.setIfInBounds_toArray, List.set_cons_zero, List.set_cons_succ])
                  refine seqT_nil ?_
                  intro w2 HB0
                  have hB2 := HB0.1
                  go_wp2_with fail
                  go_meet
                  exact ⟨rfl, hB2⟩
              case rest =>
                clear k6 k6f hC6 k9 k9f hC9 k11 k11f hC11 k13 k13f hC13
                obtain ⟨rfl, hst⟩ := hcut
                replace hX := hX.up hst
                replace hB6 := hB6.up hst
                replace hS7 := hS7.up hst
                replace hS8 := hS8.up hst
                replace hB9 := hB9.up hst
                replace hS10 := hS10.up hst
                replace hB11 := hB11.up hst
                replace hS12 := hS12.up hst
                replace hB13 := hB13.up hst
                replace hW := btr hW hst
                clear hst
                go_upto_region 10 with fail
                obtain ⟨p6, c6, k6, k6f, hC6⟩ := id hB6
                go_cut [15, 16] from 98 to 103 (fun s15 s16 wx => (∃ (b : Nat) (q : Option Addr) (cq : Nat), s15 = .pointer (some ⟨b, 0, none⟩) ∧ s16 = .slice q na cq ∧ Bx wx b h ∧ SA wx q na cq u) ∧ Below wc.heap.size wc wx)
                case first =>
                  as_aux_lemma =>
                    go_wp2_with (first | (go_at_call 47; refine (count_is hC6 hS7 (Below.refl _ _) (by omega) HAL.out hl hc E5.out M5.out.len).mono ?_; rintro e w2 ⟨p2, cap2, q2, cq2, rfl, hC2, hS2, hbl⟩))
                    go_meet
                    exact ⟨⟨_, _, _, rfl, rfl, Bx.new hC2 _, hS2.up (bal (Below.refl _ _) _)⟩, (by first | exact bal hbl _ | exact bal (btr (by go_grown) hbl) _)⟩
                case rest =>
                  clear k6 k6f hC6
                  obtain ⟨⟨b15, q16, cq16, rfl, rfl, hB15, hS16⟩, hst⟩ := hcut
                  replace hX := hX.up hst
                  replace hB6 := hB6.up hst
                  replace hS7 := hS7.up hst
                  replace hS8 := hS8.up hst
                  replace hB9 := hB9.up hst
                  replace hS10 := hS10.up hst
                  replace hB11 := hB11.up hst
                  replace hS12 := hS12.up hst
                  replace hB13 := hB13.up hst
                  replace hW := btr hW hst
                  clear hst
                  go_upto_region 11 with fail
                  obtain ⟨p15, c15, k15, k15f, hC15⟩ := id hB15
                  go_cut [17, 18] from 104 to 109 (fun s17 s18 wx => (∃ (b : Nat) (q : Option Addr) (cq : Nat), s17 = .pointer (some ⟨b, 0, none⟩) ∧ s18 = .slice q nb cq ∧ Bx wx b i ∧ SA wx q nb cq v) ∧ Below wc.heap.size wc wx)
                  case first =>
                    as_aux_lemma =>
                      go_wp2_with (first | (go_at_call 47; refine (count_is hC15 hS8 (Below.refl _ _) (by omega) ABh.out hhl hhp E6.out M6.out.len).mono ?_; rintro e w2 ⟨p2, cap2, q2, cq2, rfl, hC2, hS2, hbl⟩))
                      go_meet
                      exact ⟨⟨_, _, _, rfl, rfl, Bx.new hC2 _, hS2.up (bal (Below.refl _ _) _)⟩, (by first | exact bal hbl _ | exact bal (btr (by go_grown) hbl) _)⟩
                  case rest =>
                    clear k15 k15f hC15
                    obtain ⟨⟨b17, q18, cq18, rfl, rfl, hB17, hS18⟩, hst⟩ := hcut
                    replace hX := hX.up hst
                    replace hB6 := hB6.up hst
                    replace hS7 := hS7.up hst
                    replace hS8 := hS8.up hst
                    replace hB9 := hB9.up hst
                    replace hS10 := hS10.up hst
                    replace hB11 := hB11.up hst
                    replace hS12 := hS12.up hst
                    replace hB13 := hB13.up hst
                    replace hB15 := hB15.up hst
                    replace hS16 := hS16.up hst
                    replace hW := btr hW hst
                    clear hst
                    go_upto_region 12 with fail
                    obtain ⟨p17, c17, k17, k17f, hC17⟩ := id hB17
                    go_cut [19, 20] from 110 to 116 (fun s19 s20 wx => (∃ (b : Nat) (q : Option Addr) (cq : Nat), s19 = .pointer (some ⟨b, 0, none⟩) ∧ s20 = .slice q (na + nb) cq ∧ Bx wx b j ∧ SA wx q (na + nb) cq sum) ∧ Below wc.heap.size wc wx)
                    case first =>
                      as_aux_lemma =>
                        go_wp2_with (first | (go_at_call 48; refine (add_is hC17 hS16 hS18 (Below.refl _ _) (by omega) (by omega) AU.out AV.out hil hip E7.out M7.out.len).mono ?_; rintro e w2 ⟨p2, cap2, q2, cq2, rfl, hC2, hS2, hbl⟩))
                        go_meet
                        exact ⟨⟨_, _, _, rfl, rfl, Bx.new hC2 _, hS2.up (bal (Below.refl _ _) _)⟩, (by first | exact bal hbl _ | exact bal (btr (by go_grown) hbl) _)⟩
                    case rest =>
                      clear k17 k17f hC17
                      obtain ⟨⟨b19, q20, cq20, rfl, rfl, hB19, hS20⟩, hst⟩ := hcut
                      replace hX := hX.up hst
                      replace hB6 := hB6.up hst
                      replace hS7 := hS7.up hst
                      replace hS8 := hS8.up hst
                      replace hB9 := hB9.up hst
                      replace hS10 := hS10.up hst
                      replace hB11 := hB11.up hst
                      replace hS12 := hS12.up hst
                      replace hB13 := hB13.up hst
                      replace hB15 := hB15.up hst
                      replace hS16 := hS16.up hst
                      replace hB17 := hB17.up hst
                      replace hS18 := hS18.up hst
                      replace hW := btr hW hst
                      clear hst
                      go_upto_region 13 with fail
                      obtain ⟨p17, c17, k17, k17f, hC17⟩ := id hB17
                      obtain ⟨x0, x1, x2, x3, x4⟩ := id hX; dsimp only at x0 x1 x2 x3 x4
                      have hwb : IntKind.i64.wrap by' = by' := by (rw [IntWalk.i64_in]; omega)
                      go_cut [21, 22] from 117 to 126 (fun s21 s22 wx => (∃ (b : Nat), s21 = .pointer (some ⟨b, 0, none⟩) ∧ s22 = .int .i64 less ∧ Bx wx b l) ∧ Below wc.heap.size wc wx)
                      case first =>
                        as_aux_lemma =>
                          go_wp2_with (first | (go_at_call 49; refine (less_is hC17 hS16 hS18 (Below.refl _ _) (by omega) (by omega) (by omega) (by omega) AU.out AV.out hil hip E8.out).mono ?_; rintro e w2 ⟨p2, cap2, rfl, hC2, hbl⟩))
                          go_meet
                          exact ⟨⟨_, rfl, rfl, Bx.new hC2 _⟩, (by first | exact bal hbl _ | exact bal (btr (by go_grown) hbl) _)⟩
                      case rest =>
                        clear k17 k17f hC17
                        obtain ⟨⟨b21, rfl, rfl, hB21⟩, hst⟩ := hcut
                        replace hX := hX.up hst
                        replace hB6 := hB6.up hst
                        replace hS7 := hS7.up hst
                        replace hS8 := hS8.up hst
                        replace hB9 := hB9.up hst
                        replace hS10 := hS10.up hst
                        replace hB11 := hB11.up hst
                        replace hS12 := hS12.up hst
                        replace hB13 := hB13.up hst
                        replace hB15 := hB15.up hst
                        replace hS16 := hS16.up hst
                        replace hB17 := hB17.up hst
                        replace hS18 := hS18.up hst
                        replace hB19 := hB19.up hst
                        replace hS20 := hS20.up hst
                        replace hW := btr hW hst
                        clear hst
                        clear x0 x1 x2 x3 x4
                        go_upto_region 14 with fail
                        obtain ⟨p17, c17, k17, k17f, hC17⟩ := id hB17
                        obtain ⟨p19, c19, k19, k19f, hC19⟩ := id hB19
                        obtain ⟨p21, c21, k21, k21f, hC21⟩ := id hB21
                        go_cut [149] from 127 to 148 (fun s149 wx => (s149 = .bool false) ∧ Below wc.heap.size wc wx)
                        case first =>
                          as_aux_lemma =>
                            have T1 := Lib.hid (fun (w' : World) (hB' : Below wc.heap.size wc w') => extends_is hC17 hC19 hB' G7.out.pre (G7.out.good.valid (by omega)))
                            have T2 := Lib.hid (fun (w' : World) (hB' : Below wc.heap.size wc w') => extends_is hC17 hC21 hB' G8.out.pre (G8.out.good.valid (by omega)))
                            have T3 := Lib.hid (fun (w' : World) (hB' : Below wc.heap.size wc w') => rvalid16_is hC19 hS20 hB' (by omega) (by omega) M7.out.refs)
                            refine wp_region_seqT' (fun w' => Below wc.heap.size wc w') (by first | exact Below.refl _ _ | go_grown) ?_
                            refine seqT_pure (v := ?_) (by rfl) ?_ ?_
                            rotate_left
                            · (intro w hS; have kk := oldcell hS k17 (World.block_lt_of_cell? _ _ k17); go_simp; try with_reducible rfl)
                            (try simp only [Act.put, List.setIfInBounds_toArray, List.set_cons_zero, List.set_cons_succ])
                            refine seqT_pure (v := ?_) (by rfl) ?_ ?_
                            rotate_left
                            · (intro w hS; have kk := oldcell hS k19 (World.block_lt_of_cell? _ _ k19); go_simp; try with_reducible rfl)
                            (try simp only [Act.put, List.setIfInBounds_toArray, List.set_cons_zero, List.set_cons_succ])
                            refine seqT_call (v := .bool true) (f := ?_) (args := ?_) (by rfl) ?_ ?_ ?_
                            rotate_left 2
                            · (intro w hS; go_simp; first | done | with_reducible rfl | (refine ⟨?_, ?_⟩ <;> with_reducible rfl))
                            · (intro w hS; refine (T1.out w hS).mono ?_; rintro e w' ⟨he, hb⟩; exact ⟨he, btr hS hb⟩)
                            (try simp only [Act.put, List.setIfInBounds_toArray, List.set_cons_zero, List.set_cons_succ])
                            refine seqT_pure (v := ?_) (by rfl) ?_ ?_
                            rotate_left
                            · (intro w hS; go_simp; try with_reducible rfl)
                            (try simp only [Act.put, List.setIfInBounds_toArray, List.set_cons_zero, List.set_cons_succ])
                            refine seqT_pure (v := ?_) (by rfl) ?_ ?_
                            rotate_left
                            · (intro w hS; go_simp; try with_reducible rfl)
                            (try simp only [Act.put, List.setIfInBounds_toArray, List.set_cons_zero, List.set_cons_succ])
                            refine seqT_pure (v := ?_) (by rfl) ?_ ?_
                            rotate_left
                            · (intro w hS; have kk := oldcell hS k17 (World.block_lt_of_cell? _ _ k17); go_simp; try with_reducible rfl)
                            (try simp only [Act.put, List.setIfInBounds_toArray, List.set_cons_zero, List.set_cons_succ])
                            refine seqT_pure (v := ?_) (by rfl) ?_ ?_
                            rotate_left
                            · (intro w hS; have kk := oldcell hS k21 (World.block_lt_of_cell? _ _ k21); go_simp; try with_reducible rfl)
                            (try simp only [Act.put, List.setIfInBounds_toArray, List.set_cons_zero, List.set_cons_succ])
                            refine seqT_call (v := .bool true) (f := ?_) (args := ?_) (by rfl) ?_ ?_ ?_
                            rotate_left 2
                            · (intro w hS; go_simp; first | done | with_reducible rfl | (refine ⟨?_, ?_⟩ <;> with_reducible rfl))
                            · (intro w hS; refine (T2.out w hS).mono ?_; rintro e w' ⟨he, hb⟩; exact ⟨he, btr hS hb⟩)
                            (try simp only [Act.put, List.setIfInBounds_toArray, List.set_cons_zero, List.set_cons_succ])
                            refine seqT_pure (v := ?_) (by rfl) ?_ ?_
                            rotate_left
                            · (intro w hS; go_simp; try with_reducible rfl)
                            (try simp only [Act.put, List.setIfInBounds_toArray, List.set_cons_zero, List.set_cons_succ])
                            refine seqT_pure (v := ?_) (by rfl) ?_ ?_
                            rotate_left
                            · (intro w hS; go_simp; try with_reducible rfl)
                            (try simp only [Act.put, List.setIfInBounds_toArray, List.set_cons_zero, List.set_cons_succ])
                            refine seqT_pure (v := ?_) (by rfl) ?_ ?_
                            rotate_left
                            · (intro w hS; go_simp; try with_reducible rfl)
                            (try simp only [Act.put, List.setIfInBounds_toArray, List.set_cons_zero, List.set_cons_succ])
                            refine seqT_pure (v := ?_) (by rfl) ?_ ?_
                            rotate_left
                            · (intro w hS; have kk := oldcell hS k19 (World.block_lt_of_cell? _ _ k19); go_simp; try with_reducible rfl)
                            (try simp only [Act.put, List.setIfInBounds_toArray, List.set_cons_zero, List.set_cons_succ])
                            refine seqT_pure (v := ?_) (by rfl) ?_ ?_
                            rotate_left
                            · (intro w hS; go_simp; try with_reducible rfl)
                            (try simp only [Act.put, List.setIfInBounds_toArray, List.set_cons_zero, List.set_cons_succ])
                            refine seqT_call (v := .bool true) (f := ?_) (args := ?_) (by rfl) ?_ ?_ ?_
                            rotate_left 2
                            · (intro w hS; go_simp; first | done | with_reducible rfl | (refine ⟨?_, ?_⟩ <;> with_reducible rfl))
                            · (intro w hS; refine (T3.out w hS).mono ?_; rintro e w' ⟨he, hb⟩; exact ⟨he, btr hS hb⟩)
                            (try simp only [Act.put, List.setIfInBounds_toArray, List.set_cons_zero, List.set_cons_succ])
                            refine seqT_pure (v := ?_) (by rfl) ?_ ?_
                            rotate_left
                            · (intro w hS; go_simp; try with_reducible rfl)
                            (try simp only [Act.put, List.setIfInBounds_toArray, List.set_cons_zero, List.set_cons_succ])
                            refine seqT_pure (v := ?_) (by rfl) ?_ ?_
                            rotate_left
                            · (intro w hS; go_simp; try with_reducible rfl)
                            (try simp only [Act.put, List.setIfInBounds_toArray, List.set_cons_zero, List.set_cons_succ])
                            refine seqT_pure (v := ?_) (by rfl) ?_ ?_
                            rotate_left
                            · (intro w hS; go_simp; try with_reducible rfl)
                            (try simp only [Act.put, List.setIfInBounds_toArray, List.set_cons_zero, List.set_cons_succ])
                            refine seqT_pure (v := ?_) (by rfl) ?_ ?_
                            rotate_left
                            · (intro w hS; have kk := oldcell hS k21 (World.block_lt_of_cell? _ _ k21); go_simp; try with_reducible rfl)
                            (try simp only [Act.put, List.setIfInBounds_toArray, List.set_cons_zero, List.set_cons_succ])
                            refine seqT_pure (v := ?_) (by rfl) ?_ ?_
                            rotate_left
                            · (intro w hS; go_simp; try with_reducible rfl)
                            (try simp only [Act.put, List.setIfInBounds_toArray, List.set_cons_zero, List.set_cons_succ])
                            refine seqT_move (by rfl) ?_
                            intro w hS
                            refine ⟨_, _, (by go_simp; first | done | (refine ⟨?_, ?_⟩ <;> with_reducible rfl) | with_reducible rfl), fun x => Below wc.heap.size wc x ∧ SA x (some ⟨w.heap.size, 0, none⟩) 1 1 [less], ⟨bal hS _, SA.app1 (by go_cell) (by simp)⟩, ?_⟩
                            obtain ⟨gA, hgA⟩ : ∃ g, w.heap.size = g := ⟨_, rfl⟩
                            rw [hgA]
                            clear hgA hS w
                            (try simp only [Act.put, List.setIfInBounds_toArray, List.set_cons_zero, List.set_cons_succ])
                            refine seqT_call (v := .bool true) (f := ?_) (args := ?_) (by rfl) ?_ ?_ ?_
                            rotate_left 2
                            · (intro w hS; go_simp; first | done | with_reducible rfl | (refine ⟨?_, ?_⟩ <;> with_reducible rfl))
                            · (intro w hS; have hV2 := hS.2; replace hS := hS.1; refine (rvalid16_is (hC21.mono hS) hV2 (Below.refl _ _) (by omega) (by omega) RR8.out).mono ?_; rintro e w' ⟨he, hb⟩; exact ⟨he, btr hS hb, hV2.up hb⟩)
                            (try simp only [Act.put, List.setIfInBounds_toArray, List.set_cons_zero, List.set_cons_succ])
                            refine seqT_pure (v := ?_) (by rfl) ?_ ?_
                            rotate_left
                            · (intro w hS; have hV2 := hS.2; replace hS := hS.1; go_simp; try with_reducible rfl)
                            (try simp only [Act.put, List.setIfInBounds_toArray, List.set_cons_zero, List.set_cons_succ])
                            refine seqT_pure (v := ?_) (by rfl) ?_ ?_
                            rotate_left
                            · (intro w hS; have hV2 := hS.2; replace hS := hS.1; go_simp; try with_reducible rfl)
                            (try simp only [Act.put, List.setIfInBounds_toArray, List.set_cons_zero, List.set_cons_succ])
                            refine seqT_nil ?_
                            intro w2 HB0
                            have hB2 := HB0.1
                            go_wp2_with fail
                            go_meet
                            exact ⟨rfl, hB2⟩
                        case rest =>
                          clear k17 k17f hC17 k19 k19f hC19 k21 k21f hC21
                          obtain ⟨rfl, hst⟩ := hcut
                          replace hX := hX.up hst
                          replace hB6 := hB6.up hst
                          replace hS7 := hS7.up hst
                          replace hS8 := hS8.up hst
                          replace hB9 := hB9.up hst
                          replace hS10 := hS10.up hst
                          replace hB11 := hB11.up hst
                          replace hS12 := hS12.up hst
                          replace hB13 := hB13.up hst
                          replace hB15 := hB15.up hst
                          replace hS16 := hS16.up hst
                          replace hB17 := hB17.up hst
                          replace hS18 := hS18.up hst
                          replace hB19 := hB19.up hst
                          replace hS20 := hS20.up hst
                          replace hB21 := hB21.up hst
                          replace hW := btr hW hst
                          clear hst
                          go_upto_region 16 with fail
                          obtain ⟨p6, c6, k6, k6f, hC6⟩ := id hB6
                          obtain ⟨x0, x1, x2, x3, x4⟩ := id hX; dsimp only at x0 x1 x2 x3 x4
                          have hwb : IntKind.i64.wrap by' = by' := by (rw [IntWalk.i64_in]; omega)
                          go_cut [159] from 150 to 158 (fun s159 wx => (s159 = .bool (!true)) ∧ Below wc.heap.size wc wx)
                          case first =>
                            as_aux_lemma =>
                              go_wp2_with (first | (go_at_call 53; refine (constant_is c a b V na nb _ by' p6 q7 q8 pV c6 cq7 cq8 cV _ hC6 hS7 hS8 (HX.out.va hW) hna9 hnb9 GCW.out hl hc (by omega) (by omega)).mono ?_; rintro e w2 ⟨rfl, hbl⟩))
                              go_meet
                              exact ⟨rfl, (by first | exact hbl | exact btr (by go_grown) hbl)⟩
                          case rest =>
                            clear k6 k6f hC6
                            obtain ⟨rfl, hst⟩ := hcut
                            replace hX := hX.up hst
                            replace hB6 := hB6.up hst
                            replace hS7 := hS7.up hst
                            replace hS8 := hS8.up hst
                            replace hB9 := hB9.up hst
                            replace hS10 := hS10.up hst
                            replace hB11 := hB11.up hst
                            replace hS12 := hS12.up hst
                            replace hB13 := hB13.up hst
                            replace hB15 := hB15.up hst
                            replace hS16 := hS16.up hst
                            replace hB17 := hB17.up hst
                            replace hS18 := hS18.up hst
                            replace hB19 := hB19.up hst
                            replace hS20 := hS20.up hst
                            replace hB21 := hB21.up hst
                            replace hW := btr hW hst
                            clear hst
                            clear x0 x1 x2 x3 x4
                            go_upto_region 18 with fail
                            obtain ⟨p9, c9, k9, k9f, hC9⟩ := id hB9
                            go_cut [23, 24] from 160 to 165 (fun s23 s24 wx => (∃ (b : Nat) (q : Option Addr) (cq : Nat), s23 = .pointer (some ⟨b, 0, none⟩) ∧ s24 = .slice q na cq ∧ Bx wx b d ∧ SA wx q na cq s) ∧ Below wc.heap.size wc wx)
                            case first =>
                              as_aux_lemma =>
                                go_wp2_with (first | (go_at_call 43; refine (sorter_is hC9 hS7 (Below.refl _ _) (by omega) (allLe_of (RA.out.up G1.out.ge) hdl) hdl hdp E1'.out M1.out.len).mono ?_; rintro e w2 ⟨p2, cap2, q2, cq2, rfl, hC2, hS2, hbl⟩))
                                go_meet
                                exact ⟨⟨_, _, _, rfl, rfl, Bx.new hC2 _, hS2.up (bal (Below.refl _ _) _)⟩, (by first | exact bal hbl _ | exact bal (btr (by go_grown) hbl) _)⟩
                            case rest =>
                              clear k9 k9f hC9
                              obtain ⟨⟨b23, q24, cq24, rfl, rfl, hB23, hS24⟩, hst⟩ := hcut
                              replace hX := hX.up hst
                              replace hB6 := hB6.up hst
                              replace hS7 := hS7.up hst
                              replace hS8 := hS8.up hst
                              replace hB9 := hB9.up hst
                              replace hS10 := hS10.up hst
                              replace hB11 := hB11.up hst
                              replace hS12 := hS12.up hst
                              replace hB13 := hB13.up hst
                              replace hB15 := hB15.up hst
                              replace hS16 := hS16.up hst
                              replace hB17 := hB17.up hst
                              replace hS18 := hS18.up hst
                              replace hB19 := hB19.up hst
                              replace hS20 := hS20.up hst
                              replace hB21 := hB21.up hst
                              replace hW := btr hW hst
                              clear hst
                              go_upto_region 19 with fail
                              obtain ⟨p11, c11, k11, k11f, hC11⟩ := id hB11
                              go_cut [25, 26] from 166 to 171 (fun s25 s26 wx => (∃ (b : Nat) (q : Option Addr) (cq : Nat), s25 = .pointer (some ⟨b, 0, none⟩) ∧ s26 = .slice q na cq ∧ Bx wx b e ∧ SA wx q na cq t) ∧ Below wc.heap.size wc wx)
                              case first =>
                                as_aux_lemma =>
                                  go_wp2_with (first | (go_at_call 44; refine (totalizer_is hC11 hS7 (Below.refl _ _) (by omega) (allLe_of (RA.out.up G2.out.ge) hel) hel hep E2'.out M2.out.len).mono ?_; rintro e w2 ⟨p2, cap2, q2, cq2, rfl, hC2, hS2, hbl⟩))
                                  go_meet
                                  exact ⟨⟨_, _, _, rfl, rfl, Bx.new hC2 _, hS2.up (bal (Below.refl _ _) _)⟩, (by first | exact bal hbl _ | exact bal (btr (by go_grown) hbl) _)⟩
                              case rest =>
                                clear k11 k11f hC11
                                obtain ⟨⟨b25, q26, cq26, rfl, rfl, hB25, hS26⟩, hst⟩ := hcut
                                replace hX := hX.up hst
                                replace hB6 := hB6.up hst
                                replace hS7 := hS7.up hst
                                replace hS8 := hS8.up hst
                                replace hB9 := hB9.up hst
                                replace hS10 := hS10.up hst
                                replace hB11 := hB11.up hst
                                replace hS12 := hS12.up hst
                                replace hB13 := hB13.up hst
                                replace hB15 := hB15.up hst
                                replace hS16 := hS16.up hst
                                replace hB17 := hB17.up hst
                                replace hS18 := hS18.up hst
                                replace hB19 := hB19.up hst
                                replace hS20 := hS20.up hst
                                replace hB21 := hB21.up hst
                                replace hB23 := hB23.up hst
                                replace hS24 := hS24.up hst
                                replace hW := btr hW hst
                                clear hst
                                go_upto_region 20 with fail
                                obtain ⟨p13, c13, k13, k13f, hC13⟩ := id hB13
                                have hwk : IntKind.i64.wrap k = k := by (rw [IntWalk.i64_in]; omega)
                                go_cut [27, 28] from 172 to 179 (fun s27 s28 wx => (∃ (b : Nat), s27 = .pointer (some ⟨b, 0, none⟩) ∧ s28 = .int .i64 r ∧ Bx wx b f) ∧ Below wc.heap.size wc wx)
                                case first =>
                                  as_aux_lemma =>
                                    go_wp2_with (first | (go_at_call 46; refine (atleast_is (k := k) hC13 hS7 (Below.refl _ _) (by omega) (by omega) (allLe_of (RA.out.up G3.out.ge) hfl) hfl hfp E3'.out).mono ?_; rintro e w2 ⟨p2, cap2, rfl, hC2, hbl⟩))
                                    go_meet
                                    exact ⟨⟨_, rfl, rfl, Bx.new hC2 _⟩, (by first | exact bal hbl _ | exact bal (btr (by go_grown) hbl) _)⟩
                                case rest =>
                                  clear k13 k13f hC13
                                  obtain ⟨⟨b27, rfl, rfl, hB27⟩, hst⟩ := hcut
                                  replace hX := hX.up hst
                                  replace hB6 := hB6.up hst
                                  replace hS7 := hS7.up hst
                                  replace hS8 := hS8.up hst
                                  replace hB9 := hB9.up hst
                                  replace hS10 := hS10.up hst
                                  replace hB11 := hB11.up hst
                                  replace hS12 := hS12.up hst
                                  replace hB13 := hB13.up hst
                                  replace hB15 := hB15.up hst
                                  replace hS16 := hS16.up hst
                                  replace hB17 := hB17.up hst
                                  replace hS18 := hS18.up hst
                                  replace hB19 := hB19.up hst
                                  replace hS20 := hS20.up hst
                                  replace hB21 := hB21.up hst
                                  replace hB23 := hB23.up hst
                                  replace hS24 := hS24.up hst
                                  replace hB25 := hB25.up hst
                                  replace hS26 := hS26.up hst
                                  replace hW := btr hW hst
                                  clear hst
                                  go_upto_region 21 with fail
                                  obtain ⟨p19, c19, k19, k19f, hC19⟩ := id hB19
                                  go_cut [29, 30] from 180 to 186 (fun s29 s30 wx => (∃ (b : Nat) (q : Option Addr) (cq : Nat), s29 = .pointer (some ⟨b, 0, none⟩) ∧ s30 = .slice q (na + nb) cq ∧ Bx wx b j ∧ SA wx q (na + nb) cq sum) ∧ Below wc.heap.size wc wx)
                                  case first =>
                                    as_aux_lemma =>
                                      go_wp2_with (first | (go_at_call 48; refine (add_is hC19 hS16 hS18 (Below.refl _ _) (by omega) (by omega) AUj.out AVj.out hjl hjp E7'.out M7.out.len).mono ?_; rintro e w2 ⟨p2, cap2, q2, cq2, rfl, hC2, hS2, hbl⟩))
                                      go_meet
                                      exact ⟨⟨_, _, _, rfl, rfl, Bx.new hC2 _, hS2.up (bal (Below.refl _ _) _)⟩, (by first | exact bal hbl _ | exact bal (btr (by go_grown) hbl) _)⟩
                                  case rest =>
                                    clear k19 k19f hC19
                                    obtain ⟨⟨b29, q30, cq30, rfl, rfl, hB29, hS30⟩, hst⟩ := hcut
                                    replace hX := hX.up hst
                                    replace hB6 := hB6.up hst
                                    replace hS7 := hS7.up hst
                                    replace hS8 := hS8.up hst
                                    replace hB9 := hB9.up hst
                                    replace hS10 := hS10.up hst
                                    replace hB11 := hB11.up hst
                                    replace hS12 := hS12.up hst
                                    replace hB13 := hB13.up hst
                                    replace hB15 := hB15.up hst
                                    replace hS16 := hS16.up hst
                                    replace hB17 := hB17.up hst
                                    replace hS18 := hS18.up hst
                                    replace hB19 := hB19.up hst
                                    replace hS20 := hS20.up hst
                                    replace hB21 := hB21.up hst
                                    replace hB23 := hB23.up hst
                                    replace hS24 := hS24.up hst
                                    replace hB25 := hB25.up hst
                                    replace hS26 := hS26.up hst
                                    replace hB27 := hB27.up hst
                                    replace hW := btr hW hst
                                    clear hst
                                    go_upto_region 22 with fail
                                    obtain ⟨p21, c21, k21, k21f, hC21⟩ := id hB21
                                    obtain ⟨x0, x1, x2, x3, x4⟩ := id hX; dsimp only at x0 x1 x2 x3 x4
                                    have hwb : IntKind.i64.wrap by' = by' := by (rw [IntWalk.i64_in]; omega)
                                    go_cut [31, 32] from 187 to 196 (fun s31 s32 wx => (∃ (b : Nat), s31 = .pointer (some ⟨b, 0, none⟩) ∧ s32 = .int .i64 less ∧ Bx wx b l) ∧ Below wc.heap.size wc wx)
                                    case first =>
                                      as_aux_lemma =>
                                        go_wp2_with (first | (go_at_call 49; refine (less_is hC21 hS16 hS18 (Below.refl _ _) (by omega) (by omega) (by omega) (by omega) AUl.out AVl.out hll hlp E8'.out).mono ?_; rintro e w2 ⟨p2, cap2, rfl, hC2, hbl⟩))
                                        go_meet
                                        exact ⟨⟨_, rfl, rfl, Bx.new hC2 _⟩, (by first | exact bal hbl _ | exact bal (btr (by go_grown) hbl) _)⟩
                                    case rest =>
                                      clear k21 k21f hC21
                                      obtain ⟨⟨b31, rfl, rfl, hB31⟩, hst⟩ := hcut
                                      replace hX := hX.up hst
                                      replace hB6 := hB6.up hst
                                      replace hS7 := hS7.up hst
                                      replace hS8 := hS8.up hst
                                      replace hB9 := hB9.up hst
                                      replace hS10 := hS10.up hst
                                      replace hB11 := hB11.up hst
                                      replace hS12 := hS12.up hst
                                      replace hB13 := hB13.up hst
                                      replace hB15 := hB15.up hst
                                      replace hS16 := hS16.up hst
                                      replace hB17 := hB17.up hst
                                      replace hS18 := hS18.up hst
                                      replace hB19 := hB19.up hst
                                      replace hS20 := hS20.up hst
                                      replace hB21 := hB21.up hst
                                      replace hB23 := hB23.up hst
                                      replace hS24 := hS24.up hst
                                      replace hB25 := hB25.up hst
                                      replace hS26 := hS26.up hst
                                      replace hB27 := hB27.up hst
                                      replace hB29 := hB29.up hst
                                      replace hS30 := hS30.up hst
                                      replace hW := btr hW hst
                                      clear hst
                                      clear x0 x1 x2 x3 x4
                                      go_upto_region 23 with fail
                                      obtain ⟨p9, c9, k9, k9f, hC9⟩ := id hB9
                                      obtain ⟨p11, c11, k11, k11f, hC11⟩ := id hB11
                                      obtain ⟨p13, c13, k13, k13f, hC13⟩ := id hB13
                                      obtain ⟨p19, c19, k19, k19f, hC19⟩ := id hB19
                                      obtain ⟨p21, c21, k21, k21f, hC21⟩ := id hB21
                                      obtain ⟨p23, c23, k23, k23f, hC23⟩ := id hB23
                                      obtain ⟨p25, c25, k25, k25f, hC25⟩ := id hB25
                                      obtain ⟨p27, c27, k27, k27f, hC27⟩ := id hB27
                                      obtain ⟨p29, c29, k29, k29f, hC29⟩ := id hB29
                                      obtain ⟨p31, c31, k31, k31f, hC31⟩ := id hB31
                                      have T1 := Lib.hid (fun (w' : World) (hB' : Below wc.heap.size wc w') => same_is hC9 hC23 hB' (csame_self d))
                                      have T2 := Lib.hid (fun (w' : World) (hB' : Below wc.heap.size wc w') => same_is hC11 hC25 hB' (csame_self e))
                                      have T3 := Lib.hid (fun (w' : World) (hB' : Below wc.heap.size wc w') => same_is hC13 hC27 hB' (csame_self f))
                                      have T4 := Lib.hid (fun (w' : World) (hB' : Below wc.heap.size wc w') => same_is hC19 hC29 hB' (csame_self j))
                                      have T5 := Lib.hid (fun (w' : World) (hB' : Below wc.heap.size wc w') => same_is hC21 hC31 hB' (csame_self l))
                                      have T6 := Lib.hid (fun (w' : World) (hB' : Below wc.heap.size wc w') => same16_is hS10 hS24 hB' (by omega))
                                      have T7 := Lib.hid (fun (w' : World) (hB' : Below wc.heap.size wc w') => same16_is hS12 hS26 hB' (by omega))
                                      have T8 := Lib.hid (fun (w' : World) (hB' : Below wc.heap.size wc w') => same16_is hS20 hS30 hB' (by omega))
                                      refine wp_region_seqT' (fun w' => Below wc.heap.size wc w') (by first | exact Below.refl _ _ | go_grown) ?_
                                      refine seqT_pure (v := ?_) (by rfl) ?_ ?_
                                      rotate_left
                                      · (intro w hS; go_simp; try with_reducible rfl)
                                      (try simp only [Act.put, List.setIfInBounds_toArray, List.set_cons_zero, List.set_cons_succ])
                                      refine seqT_pure (v := ?_) (by rfl) ?_ ?_
                                      rotate_left
                                      · (intro w hS; go_simp; try with_reducible rfl)
                                      (try simp only [Act.put, List.setIfInBounds_toArray, List.set_cons_zero, List.set_cons_succ])
                                      refine seqT_pure (v := ?_) (by rfl) ?_ ?_
                                      rotate_left
                                      · (intro w hS; have kk := oldcell hS k9 (World.block_lt_of_cell? _ _ k9); go_simp; try with_reducible rfl)
                                      (try simp only [Act.put, List.setIfInBounds_toArray, List.set_cons_zero, List.set_cons_succ])
                                      refine seqT_pure (v := ?_) (by rfl) ?_ ?_
                                      rotate_left
                                      · (intro w hS; have kk := oldcell hS k23 (World.block_lt_of_cell? _ _ k23); go_simp; try with_reducible rfl)
                                      (try simp only [Act.put, List.setIfInBounds_toArray, List.set_cons_zero, List.set_cons_succ])
                                      refine seqT_call (v := .bool true) (f := ?_) (args := ?_) (by rfl) ?_ ?_ ?_
                                      rotate_left 2
                                      · (intro w hS; go_simp; first | done | with_reducible rfl | (refine ⟨?_, ?_⟩ <;> with_reducible rfl))
                                      · (intro w hS; refine (T1.out w hS).mono ?_; rintro e w' ⟨he, hb⟩; exact ⟨he, btr hS hb⟩)
                                      (try simp only [Act.put, List.setIfInBounds_toArray, List.set_cons_zero, List.set_cons_succ])
                                      refine seqT_pure (v := ?_) (by rfl) ?_ ?_
                                      rotate_left
                                      · (intro w hS; go_simp; try with_reducible rfl)
                                      (try simp only [Act.put, List.setIfInBounds_toArray, List.set_cons_zero, List.set_cons_succ])
                                      refine seqT_pure (v := ?_) (by rfl) ?_ ?_
                                      rotate_left
                                      · (intro w hS; go_simp; try with_reducible rfl)
                                      (try simp only [Act.put, List.setIfInBounds_toArray, List.set_cons_zero, List.set_cons_succ])
                                      refine seqT_pure (v := ?_) (by rfl) ?_ ?_
                                      rotate_left
                                      · (intro w hS; have kk := oldcell hS k11 (World.block_lt_of_cell? _ _ k11); go_simp; try with_reducible rfl)
                                      (try simp only [Act.put, List.setIfInBounds_toArray, List.set_cons_zero, List.set_cons_succ])
                                      refine seqT_pure (v := ?_) (by rfl) ?_ ?_
                                      rotate_left
                                      · (intro w hS; have kk := oldcell hS k25 (World.block_lt_of_cell? _ _ k25); go_simp; try with_reducible rfl)
                                      (try simp only [Act.put, List.setIfInBounds_toArray, List.set_cons_zero, List.set_cons_succ])
                                      refine seqT_call (v := .bool true) (f := ?_) (args := ?_) (by rfl) ?_ ?_ ?_
                                      rotate_left 2
                                      · (intro w hS; go_simp; first | done | with_reducible rfl | (refine ⟨?_, ?_⟩ <;> with_reducible rfl))
                                      · (intro w hS; refine (T2.out w hS).mono ?_; rintro e w' ⟨he, hb⟩; exact ⟨he, btr hS hb⟩)
                                      (try simp only [Act.put, List.setIfInBounds_toArray, List.set_cons_zero, List.set_cons_succ])
                                      refine seqT_pure (v := ?_) (by rfl) ?_ ?_
                                      rotate_left
                                      · (intro w hS; go_simp; try with_reducible rfl)
                                      (try simp only [Act.put, List.setIfInBounds_toArray, List.set_cons_zero, List.set_cons_succ])
                                      refine seqT_pure (v := ?_) (by rfl) ?_ ?_
                                      rotate_left
                                      · (intro w hS; go_simp; try with_reducible rfl)
                                      (try simp only [Act.put, List.setIfInBounds_toArray, List.set_cons_zero, List.set_cons_succ])
                                      refine seqT_pure (v := ?_) (by rfl) ?_ ?_
                                      rotate_left
                                      · (intro w hS; have kk := oldcell hS k13 (World.block_lt_of_cell? _ _ k13); go_simp; try with_reducible rfl)
                                      (try simp only [Act.put, List.setIfInBounds_toArray, List.set_cons_zero, List.set_cons_succ])
                                      refine seqT_pure (v := ?_) (by rfl) ?_ ?_
                                      rotate_left
                                      · (intro w hS; have kk := oldcell hS k27 (World.block_lt_of_cell? _ _ k27); go_simp; try with_reducible rfl)
                                      (try simp only [Act.put, List.setIfInBounds_toArray, List.set_cons_zero, List.set_cons_succ])
                                      refine seqT_call (v := .bool true) (f := ?_) (args := ?_) (by rfl) ?_ ?_ ?_
                                      rotate_left 2
                                      · (intro w hS; go_simp; first | done | with_reducible rfl | (refine ⟨?_, ?_⟩ <;> with_reducible rfl))
                                      · (intro w hS; refine (T3.out w hS).mono ?_; rintro e w' ⟨he, hb⟩; exact ⟨he, btr hS hb⟩)
                                      (try simp only [Act.put, List.setIfInBounds_toArray, List.set_cons_zero, List.set_cons_succ])
                                      refine seqT_pure (v := ?_) (by rfl) ?_ ?_
                                      rotate_left
                                      · (intro w hS; go_simp; try with_reducible rfl)
                                      (try simp only [Act.put, List.setIfInBounds_toArray, List.set_cons_zero, List.set_cons_succ])
                                      refine seqT_pure (v := ?_) (by rfl) ?_ ?_
                                      rotate_left
                                      · (intro w hS; go_simp; try with_reducible rfl)
                                      (try simp only [Act.put, List.setIfInBounds_toArray, List.set_cons_zero, List.set_cons_succ])
                                      refine seqT_pure (v := ?_) (by rfl) ?_ ?_
                                      rotate_left
                                      · (intro w hS; have kk := oldcell hS k19 (World.block_lt_of_cell? _ _ k19); go_simp; try with_reducible rfl)
                                      (try simp only [Act.put, List.setIfInBounds_toArray, List.set_cons_zero, List.set_cons_succ])
                                      refine seqT_pure (v := ?_) (by rfl) ?_ ?_
                                      rotate_left
                                      · (intro w hS; have kk := oldcell hS k29 (World.block_lt_of_cell? _ _ k29); go_simp; try with_reducible rfl)
                                      (try simp only [Act.put, List.setIfInBounds_toArray, List.set_cons_zero, List.set_cons_succ])
                                      refine seqT_call (v := .bool true) (f := ?_) (args := ?_) (by rfl) ?_ ?_ ?_
                                      rotate_left 2
                                      · (intro w hS; go_simp; first | done | with_reducible rfl | (refine ⟨?_, ?_⟩ <;> with_reducible rfl))
                                      · (intro w hS; refine (T4.out w hS).mono ?_; rintro e w' ⟨he, hb⟩; exact ⟨he, btr hS hb⟩)
                                      (try simp only [Act.put, List.setIfInBounds_toArray, List.set_cons_zero, List.set_cons_succ])
                                      refine seqT_pure (v := ?_) (by rfl) ?_ ?_
                                      rotate_left
                                      · (intro w hS; go_simp; try with_reducible rfl)
                                      (try simp only [Act.put, List.setIfInBounds_toArray, List.set_cons_zero, List.set_cons_succ])
                                      refine seqT_pure (v := ?_) (by rfl) ?_ ?_
                                      rotate_left
                                      · (intro w hS; go_simp; try with_reducible rfl)
                                      (try simp only [Act.put, List.setIfInBounds_toArray, List.set_cons_zero, List.set_cons_succ])
                                      refine seqT_pure (v := ?_) (by rfl) ?_ ?_
                                      rotate_left
                                      · (intro w hS; have kk := oldcell hS k21 (World.block_lt_of_cell? _ _ k21); go_simp; try with_reducible rfl)
                                      (try simp only [Act.put, List.setIfInBounds_toArray, List.set_cons_zero, List.set_cons_succ])
                                      refine seqT_pure (v := ?_) (by rfl) ?_ ?_
                                      rotate_left
                                      · (intro w hS; have kk := oldcell hS k31 (World.block_lt_of_cell? _ _ k31); go_simp; try with_reducible rfl)
                                      (try simp only [Act.put, List.setIfInBounds_toArray, List.set_cons_zero, List.set_cons_succ])
                                      refine seqT_call (v := .bool true) (f := ?_) (args := ?_) (by rfl) ?_ ?_ ?_
                                      rotate_left 2
                                      · (intro w hS; go_simp; first | done | with_reducible rfl | (refine ⟨?_, ?_⟩ <;> with_reducible rfl))
                                      · (intro w hS; refine (T5.out w hS).mono ?_; rintro e w' ⟨he, hb⟩; exact ⟨he, btr hS hb⟩)
                                      (try simp only [Act.put, List.setIfInBounds_toArray, List.set_cons_zero, List.set_cons_succ])
                                      refine seqT_pure (v := ?_) (by rfl) ?_ ?_
                                      rotate_left
                                      · (intro w hS; go_simp; try with_reducible rfl)
                                      (try simp only [Act.put, List.setIfInBounds_toArray, List.set_cons_zero, List.set_cons_succ])
                                      refine seqT_pure (v := ?_) (by rfl) ?_ ?_
                                      rotate_left
                                      · (intro w hS; go_simp; try with_reducible rfl)
                                      (try simp only [Act.put, List.setIfInBounds_toArray, List.set_cons_zero, List.set_cons_succ])
                                      refine seqT_pure (v := ?_) (by rfl) ?_ ?_
                                      rotate_left
                                      · (intro w hS; go_simp; try with_reducible rfl)
                                      (try simp only [Act.put, List.setIfInBounds_toArray, List.set_cons_zero, List.set_cons_succ])
                                      refine seqT_pure (v := ?_) (by rfl) ?_ ?_
                                      rotate_left
                                      · (intro w hS; go_simp; try with_reducible rfl)
                                      (try simp only [Act.put, List.setIfInBounds_toArray, List.set_cons_zero, List.set_cons_succ])
                                      refine seqT_call (v := .bool true) (f := ?_) (args := ?_) (by rfl) ?_ ?_ ?_
                                      rotate_left 2
                                      · (intro w hS; go_simp; first | done | with_reducible rfl | (refine ⟨?_, ?_⟩ <;> with_reducible rfl))
                                      · (intro w hS; refine (T6.out w hS).mono ?_; rintro e w' ⟨he, hb⟩; exact ⟨he, btr hS hb⟩)
                                      (try simp only [Act.put, List.setIfInBounds_toArray, List.set_cons_zero, List.set_cons_succ])
                                      refine seqT_pure (v := ?_) (by rfl) ?_ ?_
                                      rotate_left
                                      · (intro w hS; go_simp; try with_reducible rfl)
                                      (try simp only [Act.put, List.setIfInBounds_toArray, List.set_cons_zero, List.set_cons_succ])
                                      refine seqT_pure (v := ?_) (by rfl) ?_ ?_
                                      rotate_left
                                      · (intro w hS; go_simp; try with_reducible rfl)
                                      (try simp only [Act.put, List.setIfInBounds_toArray, List.set_cons_zero, List.set_cons_succ])
                                      refine seqT_pure (v := ?_) (by rfl) ?_ ?_
                                      rotate_left
                                      · (intro w hS; go_simp; try with_reducible rfl)
                                      (try simp only [Act.put, List.setIfInBounds_toArray, List.set_cons_zero, List.set_cons_succ])
                                      refine seqT_pure (v := ?_) (by rfl) ?_ ?_
                                      rotate_left
                                      · (intro w hS; go_simp; try with_reducible rfl)
                                      (try simp only [Act.put, List.setIfInBounds_toArray, List.set_cons_zero, List.set_cons_succ])
                                      refine seqT_call (v := .bool true) (f := ?_) (args := ?_) (by rfl) ?_ ?_ ?_
                                      rotate_left 2
                                      · (intro w hS; go_simp; first | done | with_reducible rfl | (refine ⟨?_, ?_⟩ <;> with_reducible rfl))
                                      · (intro w hS; refine (T7.out w hS).mono ?_; rintro e w' ⟨he, hb⟩; exact ⟨he, btr hS hb⟩)
                                      (try simp only [Act.put, List.setIfInBounds_toArray, List.set_cons_zero, List.set_cons_succ])
                                      refine seqT_pure (v := ?_) (by rfl) ?_ ?_
                                      rotate_left
                                      · (intro w hS; go_simp; try with_reducible rfl)
                                      (try simp only [Act.put, List.setIfInBounds_toArray, List.set_cons_zero, List.set_cons_succ])
                                      refine seqT_pure (v := ?_) (by rfl) ?_ ?_
                                      rotate_left
                                      · (intro w hS; go_simp; try with_reducible rfl)
                                      (try simp only [Act.put, List.setIfInBounds_toArray, List.set_cons_zero, List.set_cons_succ])
                                      refine seqT_pure (v := ?_) (by rfl) ?_ ?_
                                      rotate_left
                                      · (intro w hS; go_simp; try with_reducible rfl)
                                      (try simp only [Act.put, List.setIfInBounds_toArray, List.set_cons_zero, List.set_cons_succ])
                                      refine seqT_pure (v := ?_) (by rfl) ?_ ?_
                                      rotate_left
                                      · (intro w hS; go_simp; try with_reducible rfl)
                                      (try simp only [Act.put, List.setIfInBounds_toArray, List.set_cons_zero, List.set_cons_succ])
                                      refine seqT_pure (v := ?_) (by rfl) ?_ ?_
                                      rotate_left
                                      · (intro w hS; go_simp; try with_reducible rfl)
                                      (try simp only [Act.put, List.setIfInBounds_toArray, List.set_cons_zero, List.set_cons_succ])
                                      refine seqT_pure (v := ?_) (by rfl) ?_ ?_
                                      rotate_left
                                      · (intro w hS; go_simp; try with_reducible rfl)
                                      (try simp only [Act.put, List.setIfInBounds_toArray, List.set_cons_zero, List.set_cons_succ])
                                      refine seqT_pure (v := ?_) (by rfl) ?_ ?_
                                      rotate_left
                                      · (intro w hS; go_simp; try with_reducible rfl)
                                      (try simp only [Act.put, List.setIfInBounds_toArray, List.set_cons_zero, List.set_cons_succ])
                                      refine seqT_pure (v := ?_) (by rfl) ?_ ?_
                                      rotate_left
                                      · (intro w hS; go_simp; try with_reducible rfl)
                                      (try simp only [Act.put, List.setIfInBounds_toArray, List.set_cons_zero, List.set_cons_succ])
                                      refine seqT_pure (v := ?_) (by rfl) ?_ ?_
                                      rotate_left
                                      · (intro w hS; go_simp; try with_reducible rfl)
                                      (try simp only [Act.put, List.setIfInBounds_toArray, List.set_cons_zero, List.set_cons_succ])
                                      refine seqT_call (v := .bool true) (f := ?_) (args := ?_) (by rfl) ?_ ?_ ?_
                                      rotate_left 2
                                      · (intro w hS; go_simp; first | done | with_reducible rfl | (refine ⟨?_, ?_⟩ <;> with_reducible rfl))
                                      · (intro w hS; refine (T8.out w hS).mono ?_; rintro e w' ⟨he, hb⟩; exact ⟨he, btr hS hb⟩)
                                      (try simp only [Act.put, List.setIfInBounds_toArray, List.set_cons_zero, List.set_cons_succ])
                                      refine seqT_pure (v := ?_) (by rfl) ?_ ?_
                                      rotate_left
                                      · (intro w hS; go_simp; try with_reducible rfl)
                                      (try simp only [Act.put, List.setIfInBounds_toArray, List.set_cons_zero, List.set_cons_succ])
                                      refine seqT_pure (v := ?_) (by rfl) ?_ ?_
                                      rotate_left
                                      · (intro w hS; go_simp; try with_reducible rfl)
                                      (try simp only [Act.put, List.setIfInBounds_toArray, List.set_cons_zero, List.set_cons_succ])
                                      refine seqT_pure (v := ?_) (by rfl) ?_ ?_
                                      rotate_left
                                      · (intro w hS; go_simp; try with_reducible rfl)
                                      (try simp only [Act.put, List.setIfInBounds_toArray, List.set_cons_zero, List.set_cons_succ])
                                      refine seqT_pure (v := ?_) (by rfl) ?_ ?_
                                      rotate_left
                                      · (intro w hS; go_simp; try with_reducible rfl)
                                      (try simp only [Act.put, List.setIfInBounds_toArray, List.set_cons_zero, List.set_cons_succ])
                                      refine seqT_pure (v := ?_) (by rfl) ?_ ?_
                                      rotate_left
                                      · (intro w hS; go_simp; try with_reducible rfl)
                                      (try simp only [Act.put, List.setIfInBounds_toArray, List.set_cons_zero, List.set_cons_succ])
                                      refine seqT_pure (v := ?_) (by rfl) ?_ ?_
                                      rotate_left
                                      · (intro w hS; go_simp; try with_reducible rfl)
                                      (try simp only [Act.put, List.setIfInBounds_toArray, List.set_cons_zero, List.set_cons_succ])
                                      refine seqT_pure (v := ?_) (by rfl) ?_ ?_
                                      rotate_left
                                      · (intro w hS; go_simp; try with_reducible rfl)
                                      (try simp only [Act.put, List.setIfInBounds_toArray, List.set_cons_zero, List.set_cons_succ])
                                      refine seqT_nil ?_
                                      intro w2 HB0
                                      go_wp2_with fail
                                      go_ret
                                      exact ⟨rfl, btr hW HB0⟩
end Go.Proofs.Ytanlecgpnknhoaa
