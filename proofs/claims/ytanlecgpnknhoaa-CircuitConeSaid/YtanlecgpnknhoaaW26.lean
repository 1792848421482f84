/- Walk of CircuitCone. -/
import Derived.Test.YtanlecgpnknhoaaCone
namespace Go.Proofs.Ytanlecgpnknhoaa
set_option linter.unusedSimpArgs false
set_option linter.unusedVariables false
open Go.RowKit

set_option maxRecDepth 100000 in
set_option maxHeartbeats 8000000 in
theorem cone_any (l : List Step) (p0 : Option Addr) (cap0 : Nat) (a : Nat) (vals : List Bool) (pv : Option Addr) (cv : Nat) (other : List Bool) (po : Option Addr) (co : Nat) (w : World) (hl : l.length ≤ maxLen) (hs : ∀ s ∈ l, s.k < 256 ∧ s.a < 256 ∧ s.b < 256) (hg : StepsAt w p0 l) (ha : a < 256) (hvalsl : vals.length ≤ maxLen) (hvals : BoolsAt w pv vals) (hotherl : other.length ≤ maxLen) (hother : BoolsAt w po other) (hpother : po = none → co = 0) :
    Calls Try.prog 9 #[.slice p0 l.length cap0, .int .u8 a, .slice pv vals.length cv, .slice po other.length co] w (RetB w true) := by
  unfold maxLen at hl hvalsl hotherl
  have Hs := Lib.hid hs; have Hg := Lib.hid hg; clear hs hg
  have Hvals := Lib.hid hvals; clear hvals
  have Hother := Lib.hid hother; clear hother
  by_cases h60l : (60 : Int) < (l.length : Int)
  · go_enter Try.func9, Try.ntmps9
    go_wp2_with (first | (go_at_call 17; refine (head_any _).mono ?_; rintro e w1 ⟨rfl, hb1⟩))
    go_ret
    exact ⟨rfl, by first | exact hb1 | go_grown⟩
  by_cases h60vals : (60 : Int) < (vals.length : Int)
  · go_enter Try.func9, Try.ntmps9
    go_wp2_with (first | (go_at_call 17; refine (head_any _).mono ?_; rintro e w1 ⟨rfl, hb1⟩))
    go_ret
    exact ⟨rfl, by first | exact hb1 | go_grown⟩
  by_cases h60other : (60 : Int) < (other.length : Int)
  · go_enter Try.func9, Try.ntmps9
    go_wp2_with (first | (go_at_call 17; refine (head_any _).mono ?_; rintro e w1 ⟨rfl, hb1⟩))
    go_ret
    exact ⟨rfl, by first | exact hb1 | go_grown⟩
  have HB := Lib.hid (built l (by omega))
  have Hle := Lib.hid (cbuild_le l)
  have Hlen := Lib.hid HB.out.len
  obtain ⟨c, refs, hcb⟩ : ∃ c refs, cbuild l = (c, refs) := ⟨_, _, rfl⟩
  have Hcb := Lib.hid hcb
  have HG := Lib.hid (show Good c by have := HB.out.good; rw [hcb] at this; exact this)
  have HR := Lib.hid (show RefsIn refs c.length by have := HB.out.refs; rw [hcb] at this; exact this)
  have hc : 0 < c.length := HG.out.ne
  have hcl : c.length ≤ 181 := by have := Hlen.out; rw [hcb] at this; dsimp only at this; omega
  have hrl : refs.length ≤ 60 := by have := Hle.out.2.2; rw [hcb] at this; dsimp only at this; omega
  have Hr := Lib.hid (show ∀ r ∈ refs, r ≤ 9223372036854775807 from fun r hr => by have := Hle.out.2.1 r (by rw [hcb]; exact hr); omega)
  clear HB Hle Hlen hcb
  have hl2 : c.length ≤ 20000 := by omega
  have hl3 : c.length + 3 ≤ 20000 := by omega
  obtain ⟨x, hx⟩ : ∃ z, cpick refs a = z := ⟨_, rfl⟩
  have x1 : 0 ≤ x := by have := (cpick_in HR.out hc a).1; rw [hx] at this; exact this
  have x2 : x < 2 * (c.length : Int) := by have := (cpick_in HR.out hc a).2; rw [hx] at this; exact this
  have Px := Lib.hid hx; clear hx
  have xm : x ≤ 9223372036854775807 := by omega
  obtain ⟨X, rfl⟩ := Int.eq_ofNat_of_zero_le x1
  have HLow := Lib.hid (show LowVars c by have := low_build l; rw [Hcb.out] at this; exact this)
  obtain ⟨ON, hON⟩ : ∃ m, creach c X = m := ⟨_, rfl⟩
  have onl : ON.length = c.length := by rw [← hON]; exact creach_length _ _
  have ONL := Lib.hid onl; clear onl
  have EON := Lib.hid hON; clear hON
  obtain ⟨P, hP⟩ : ∃ z, ceval c vals X = z := ⟨_, rfl⟩
  have HP := Lib.hid hP
  have HM := Lib.hid (show ceval c (cmix vals other c X) X = P by rw [cone HG.out HLow.out vals other x1 x2]; exact hP)
  clear hP
  have WC := Lib.hid HG.out.wf
  have hvm : vals.length ≤ maxLen := by unfold maxLen; omega
  have hxl : X < 2 * c.length := by omega
  obtain ⟨i0, hi0, hz0, hz1, hz2⟩ := info_parts bool_info
  have HPO := Lib.hid hpother; clear hpother
  go_enter Try.func9, Try.ntmps9
  go_upto_region 4 with (first | (go_at_call 17; refine (head_any _).mono ?_; rintro e w1 ⟨rfl, hb1⟩))
  have hsz := hb1.size
  go_cut [10, 11] (fun s10 s11 wx => ∃ (b10 : Nat) (q : Option Addr) (cq : Nat), s10 = .pointer (some ⟨b10, 0, none⟩) ∧ s11 = .slice q refs.length cq ∧ w.heap.size ≤ b10 ∧ Bx wx b10 c ∧ IntsAt wx q refs ∧ Below w.heap.size w wx)
  case first =>
    go_wp2_with (first | (go_at_call 36; refine (build_any l _ _ _ (by omega) Hs.out (Hg.out.mono (by go_grown))).mono ?_; rintro e w2 ⟨p2, cap2, q2, cq2, rfl, u1, u2, u3, u4, u5, u6, u7, u8, hbl⟩; rw [Hcb.out] at u1 u4 u5 u8; dsimp only at u1 u4 u5 u8; rw [Hcb.out]; dsimp only))
    have hs2 := hbl.size
    go_meet
    exact ⟨_, _, _, rfl, rfl, by omega, Bx.new ⟨u1, u2, u3, u4⟩ _, u8.mono (by go_grown), bal (btr hb1 hbl) _⟩
  case rest =>
    clear hb1 hsz
    obtain ⟨b10, q, cq, rfl, rfl, hb10, hB10, hq, hW⟩ := hcut
    go_upto_region 6 with (first | (go_at_call 37; (with_reducible refine (pick_any refs a q cq _ (by assumption) (by omega) Hr.out (hq.mono (by go_grown))).mono ?_); rintro e w' ⟨rfl, rfl⟩; rw [Px.out]))
    go_upto_region 6 with fail
    have hlt := hB10.lt
    obtain ⟨p, cap, k1, k1f, hC⟩ := id hB10
    go_cut [13] (fun sx wx => ∃ (qi : Option Addr) (ci : Nat), sx = .slice qi ON.length ci ∧ BoolsAt wx qi ON ∧ Bx wx b10 c ∧ Below w.heap.size w wx)
    case first =>
      as_aux_lemma =>
        go_wp2_with (first | (go_at_call 38; refine (reach_any c X p cap _ hl2 WC.out hxl hC.at').mono ?_; rintro e w2 ⟨q2, cq2, rfl, u1, hbl⟩; rw [EON.out] at u1; rw [EON.out]))
        go_meet
        exact ⟨_, _, rfl, u1, hB10.up hbl, btr hW hbl⟩
    case rest =>
      clear hlt k1 k1f hC hB10 hW
      obtain ⟨qi, ci, rfl, hin, hB10, hW⟩ := hcut
      obtain ⟨p10, c10, k10, _, hC10⟩ := id hB10
      obtain ⟨bc, oc, rfl, hbc, U⟩ := gates_spot hC10.at' hc
      have HC := Lib.hid hC10; have HIN := Lib.hid hin; clear hC10 hin hB10 hq
      go_upto_region 7 with fail
      go_wp2_with (first | (at_builtin; go_must (refine wpList_app (enc := bEnc) rfl _ _ _ rfl wc.heap.size 4 i0 _ 1 Try.underlying26 hi0 hz0 hz1 hz2 rfl (by omega) (.slice (some ⟨wc.heap.size, 0, none⟩) 0 0) [] rfl (World.ownsRow_lit wc #[] 0 (Nat.le_refl _) (by decide) rfl) po other co rfl HPO.out ((Hother.out.mono hW).mono (by go_grown)) bEnc_one (by simp [maxLen]; omega) (by simp; omega) (by simp) ?_); intro v1 w2 hown1 hgr1 hbl1; have HO1 := Lib.hid hown1; have HB1 := Lib.hid hbl1; clear hown1 hgr1 hbl1))
      go_loopg [14] (8 - other.length) (fun n v wr => ∃ j : Nat, n = 8 - other.length - j ∧ j ≤ 8 - other.length ∧ wr.ownsRow wc.heap.size 4 1 v (other ++ List.replicate j false).length (flat 1 bEnc (other ++ List.replicate j false)) ∧ Below wc.heap.size wc wr)
      case atStart => exact ⟨0, rfl, by omega, by simpa using HO1.out, Below.trans (by go_grown) HB1.out⟩
      case round =>
        obtain ⟨j, hn, hj, hown, hB⟩ := hrel
        obtain ⟨M, hM⟩ : ∃ M, other ++ List.replicate j false = M := ⟨_, rfl⟩
        have hMl : M.length = other.length + j := by rw [← hM]; simp
        rw [hM] at hown
        obtain ⟨q, cq, rfl, ho1, ho2, ho3, ho4⟩ := owns_val (by omega) hown
        have HOW := Lib.hid hown; have HMj := Lib.hid hM; have HMl := Lib.hid hMl; have HN := Lib.hid hn; have HB := Lib.hid hB; clear hown hM hn hB ho3 ho4
        have hsz := HB.out.size
        by_cases hlt : other.length + j < 8
        case pos =>
          have hl8 : (M.length : Int) < 8 := by omega
          clear hMl
          go_wp2_with (first | (at_builtin; go_must (refine wpList_app (enc := bEnc) rfl _ _ _ rfl wc.heap.size 4 i0 _ 1 Try.underlying26 hi0 hz0 hz1 hz2 rfl (by omega) _ M rfl (HOW.out.alloc _) (some ⟨wr.heap.size, 0, none⟩) [false] 1 rfl (fun h => by cases h) (SlAt.bool1 (by go_cell)) bEnc_one (by simp [maxLen]; omega) (by simp; omega) (by simp; omega) ?_); intro v2 w3 hown2 hgr2 hbl2; have HO2 := Lib.hid hown2; have HB2 := Lib.hid hbl2; clear hown2 hgr2 hbl2))
          go_roundg (8 - other.length - (j + 1))
          case measure => (have := HN.out; omega)
          case rel =>
            have e : other ++ List.replicate (j + 1) false = M ++ [false] := by rw [List.replicate_succ', ← List.append_assoc, HMj.out]
            exact ⟨j + 1, rfl, by omega, by rw [e]; exact HO2.out, HB.out.trans (Below.trans (by go_grown) HB2.out)⟩
        case neg =>
          have hl8 : (8 : Int) ≤ (M.length : Int) := by omega
          have hpad := Lib.hid (show padded other = M by rw [← HMj.out]; unfold padded; congr 2; omega)
          obtain ⟨gM, cM, hv, hg1, hg2, hg3, hg4⟩ := owns_form HOW.out (by omega)
          obtain ⟨rfl, rfl⟩ : q = some ⟨gM, 0, none⟩ ∧ cq = cM := by injection hv with h1 h2 h3; exact ⟨h1, h3⟩
          clear hv hMl
          obtain ⟨N, hNN⟩ : ∃ N, M.length = N := ⟨_, rfl⟩
          rw [hNN] at hl8 hg3 ho1 HOW ⊢
          have HOB := Lib.hid (show OwnB wr wc.heap.size gM N cq M from ⟨hNN, HOW.out⟩)
          have hN2 : N ≤ maxLen := Nat.le_trans hg3 hg4
          unfold maxLen at hN2
          clear HOW hNN hlt
          obtain ⟨w9, hw9⟩ : ∃ x : World, x = wr := ⟨_, rfl⟩
          subst hw9
          have HB9 := HB; clear HB
          go_wp2_with fail
          go_loopg [15] c.length (fun n v wr => ∃ k : Nat, v = .int .i64 k ∧ k ≤ c.length ∧ n = c.length - k ∧ OwnB wr wc.heap.size gM N cq (mixTo vals c ON M k) ∧ Below wc.heap.size wc wr)
          case atStart => exact ⟨0, rfl, by omega, by omega, HOB.out, HB9.out⟩
          case round =>
            obtain ⟨k, rfl, hk, rfl, hO, hB⟩ := hrel
            have j10 := oldcell hB k10 (World.block_lt_of_cell? _ _ k10)
            by_cases hlt : k < c.length
            case pos =>
              have hlt0 : (0 : Int) ≤ (k : Int) := by omega
              have hlt1 : (k : Int) < (c.length : Int) := by omega
              obtain ⟨g, hg⟩ : ∃ g, c[k]? = some g := ⟨_, List.getElem?_eq_getElem hlt⟩
              obtain ⟨u0, u1, u2⟩ := U.out k g hg
              have v0 := oldcell hB u0 hbc
              have v1 := oldcell hB u1 hbc
              have v2 := oldcell hB u2 hbc
              clear u0 u1 u2
              have hlo := Lib.hid (HLow.out g (List.mem_of_getElem? hg))
              obtain ⟨z, hz⟩ : ∃ z, ON[k]? = some z := ⟨_, List.getElem?_eq_getElem (by rw [ONL.out]; exact hlt)⟩
              have hlt2 : (k : Int) < (ON.length : Int) := by have := ONL.out; omega
              obtain ⟨bi, oi, hqi, hbi, hci⟩ := bool_cell HIN.out hz
              subst hqi
              have ji := oldcell hB hci hbi
              have hbiw : bi < wr.heap.size := World.block_lt_of_cell? _ _ ji
              have hMS := Lib.hid (show mixTo vals c ON M (k + 1) = (if mtest (mixTo vals c ON M k) z g = true then (mixTo vals c ON M k).set (g.a - 1).toNat (aval vals g.a) else mixTo vals c ON M k) by
                show mstep vals c ON k (mixTo vals c ON M k) = _
                unfold mstep
                rw [hg, List.getD_eq_getElem?_getD, hz]; rfl)
              have HML := Lib.hid hO.1
              have HOW := Lib.hid hO; have HBR := Lib.hid hB; clear hO hB hg hz hci
              by_cases hon : z = true ∧ g.k = 1
              case neg =>
                have HT := Lib.hid (show mixTo vals c ON M (k + 1) = mixTo vals c ON M k by
                  rw [hMS.out, if_neg]; unfold mtest; intro h; rw [Bool.and_eq_true, decide_eq_true_eq] at h; exact hon ⟨h.1, h.2.1⟩)
                have hkz : z = false ∨ (g.k == 1) = false := by
                  cases z with
                  | false => exact .inl rfl
                  | true => right; rw [beq_eq_false_iff_ne]; intro h; exact hon ⟨rfl, h⟩
                clear hon
                rcases hkz with rfl | hkz
                · go_wp2_with fail
                  go_roundg (c.length - (k + 1))
                  case measure => omega
                  case rel => exact ⟨k + 1, by go_num, by omega, rfl, by rw [HT.out]; exact HOW.out.alloc _, HBR.out.trans (Below.alloc (Below.refl _ _) (HBR.out.size) _)⟩
                · cases z
                  all_goals
                    go_wp2_with fail
                    go_roundg (c.length - (k + 1))
                    case measure => omega
                    case rel => exact ⟨k + 1, by go_num, by omega, rfl, by rw [HT.out]; exact HOW.out.alloc _, HBR.out.trans (Below.alloc (Below.refl _ _) (HBR.out.size) _)⟩
              case pos =>
                obtain ⟨rfl, hk1⟩ := hon
                obtain ⟨ha1, ha8⟩ := hlo.out hk1
                have hkb : (g.k == 1) = true := beq_iff_eq.2 hk1
                have haN : g.a ≤ (N : Int) := by omega
                obtain ⟨A, hA⟩ : ∃ A : Nat, g.a = (A : Int) + 1 := ⟨(g.a - 1).toNat, by omega⟩
                have HT := Lib.hid (show mixTo vals c ON M (k + 1) = (mixTo vals c ON M k).set A (aval vals ((A : Int) + 1)) by
                  have ht : mtest (mixTo vals c ON M k) true g = true := by unfold mtest; rw [Bool.true_and, decide_eq_true_eq, HML.out]; exact ⟨hk1, ha1, haN⟩
                  rw [hMS.out, if_pos ht, hA, show ((A : Int) + 1 - 1).toNat = A by omega])
                have hAN : A < N := by omega
                have cA := HOW.out.get hAN
                have fA := HOW.out.free A
                have hgw : gM < wr.heap.size := World.block_lt_of_cell? _ _ cA
                rw [hA] at v1 ha1 haN ha8
                clear hk1 hA
                have hA0 : (0 : Int) ≤ (A : Int) := by omega
                have hA1 : (A : Int) < (N : Int) := by omega
                have hAw : IntKind.i64.wrap (A : Int) = (A : Int) := by (rw [IntWalk.i64_in]; omega)
                have hgM2 : wc.heap.size ≤ gM := hg1
                by_cases hav : A + 1 ≤ vals.length
                case pos =>
                  obtain ⟨zz, hzz⟩ : ∃ z, vals[A]? = some z := ⟨_, List.getElem?_eq_getElem (by omega)⟩
                  have HT2 := Lib.hid (show aval vals ((A : Int) + 1) = zz by
                    unfold aval
                    rw [decide_eq_true (by omega), Bool.true_and, show ((A : Int) + 1 - 1).toNat = A by omega, List.getD_eq_getElem?_getD, hzz]; rfl)
                  obtain ⟨bv, ov, hqv, hbv, hcv⟩ := bool_cell Hvals.out hzz
                  subst hqv
                  have kv := oldcell HBR.out (oldcell hW hcv hbv) (Nat.lt_of_lt_of_le hbv hW.size)
                  have hbvw : bv < wr.heap.size := World.block_lt_of_cell? _ _ kv
                  have hav1 : (A : Int) + 1 ≤ (vals.length : Int) := by omega
                  have hav2 : (A : Int) < (vals.length : Int) := by omega
                  have hgMne : gM ≠ bv := by have := Nat.lt_of_lt_of_le hbv hW.size; omega
                  clear hzz hcv hav
                  go_wp2_with fail
                  go_region
                  all_goals
                    go_wp2_with fail
                    go_roundg (c.length - (k + 1))
                    case measure => omega
                    case rel =>
                      refine ⟨k + 1, by go_num, by omega, rfl, ?_, ?_⟩
                      · rw [HT.out, HT2.out]; exact (HOW.out.set A zz).alloc _
                      · exact Below.drew (Below.alloc (Below.setCell HBR.out (by show wc.heap.size ≤ gM; exact hgM2) _) (by have := HBR.out.size; simp; omega) _)
                case neg =>
                  have HT2 := Lib.hid (show aval vals ((A : Int) + 1) = false by
                    unfold aval
                    rw [decide_eq_false (by omega)]; rfl)
                  have hav1 : decide ((A : Int) + 1 ≤ (vals.length : Int)) = false := by rw [decide_eq_false_iff_not]; omega
                  clear hav
                  go_wp2_with fail
                  go_region
                  all_goals
                    go_wp2_with fail
                    go_roundg (c.length - (k + 1))
                    case measure => omega
                    case rel =>
                      refine ⟨k + 1, by go_num, by omega, rfl, ?_, ?_⟩
                      · rw [HT.out, HT2.out]; exact (HOW.out.set A false).alloc _
                      · exact Below.drew (Below.alloc (Below.setCell HBR.out (by show wc.heap.size ≤ gM; exact hgM2) _) (by have := HBR.out.size; simp; omega) _)
            case neg =>
              have hge : (c.length : Int) ≤ (k : Int) := by omega
              have hge2 : (ON.length : Int) ≤ (k : Int) := by have := ONL.out; omega
              have hkc : k = c.length := by omega
              have hMM : mixTo vals c ON M k = cmix vals other c X := by unfold cmix; rw [hkc, EON.out, hpad.out]
              rw [hMM] at hO
              clear hMM hkc
              have HOW := Lib.hid hO; clear hO
              have T0 := Lib.hid (fun (w' : World) (hB' : Below wr.heap.size wr w') => eval_is (cv := cv) HC.out (btr hB hB') ((Hvals.out.mono hW).mono (btr hB hB')) WC.out HP.out rfl hl2 hvm)
              have T1 := Lib.hid (fun (w' : World) (hB' : Below wr.heap.size wr w') => eval_is (cv := cq) HC.out (btr hB hB') (HOW.out.at'.mono hB') WC.out HM.out HOW.out.1 hl2 (Nat.le_trans hg3 hg4))
              go_wp2_with fail
      
              refine wp_region_seq (fun w' => Below wr.heap.size wr w') (by kernel_rfl) (by kernel_rfl) (by go_grown) ?_
              refine seq_pure (v := ?_) (by rfl) ?_ ?_
              rotate_left
              · (intro w hS; go_simp; try with_reducible rfl)
              (try simp only [Act.put, List.setIfInBounds_toArray, List.set_cons_zero, List.set_cons_succ])
              refine seq_pure (v := ?_) (by rfl) ?_ ?_
              rotate_left
              · (intro w hS; go_simp; try with_reducible rfl)
              (try simp only [Act.put, List.setIfInBounds_toArray, List.set_cons_zero, List.set_cons_succ])
              refine seq_pure (v := ?_) (by rfl) ?_ ?_
              rotate_left
              · (intro w hS; have kk := oldcell hS j10 (World.block_lt_of_cell? _ _ j10); go_simp; try with_reducible rfl)
              (try simp only [Act.put, List.setIfInBounds_toArray, List.set_cons_zero, List.set_cons_succ])
              refine seq_pure (v := ?_) (by rfl) ?_ ?_
              rotate_left
              · (intro w hS; go_simp; try with_reducible rfl)
              (try simp only [Act.put, List.setIfInBounds_toArray, List.set_cons_zero, List.set_cons_succ])
              refine seq_pure (v := ?_) (by rfl) ?_ ?_
              rotate_left
              · (intro w hS; go_simp; try with_reducible rfl)
              (try simp only [Act.put, List.setIfInBounds_toArray, List.set_cons_zero, List.set_cons_succ])
              refine seq_call (v := .bool P) (f := ?_) (args := ?_) (by rfl) ?_ ?_ ?_
              rotate_left 2
              · (intro w hS; go_simp; first | done | with_reducible rfl | (refine ⟨?_, ?_⟩ <;> with_reducible rfl))
              · (intro w hS; refine (T0.out w hS).mono ?_; rintro e w' ⟨he, hb⟩; exact ⟨he, btr hS hb⟩)
              (try simp only [Act.put, List.setIfInBounds_toArray, List.set_cons_zero, List.set_cons_succ])
              refine seq_pure (v := ?_) (by rfl) ?_ ?_
              rotate_left
              · (intro w hS; have kk := oldcell hS j10 (World.block_lt_of_cell? _ _ j10); go_simp; try with_reducible rfl)
              (try simp only [Act.put, List.setIfInBounds_toArray, List.set_cons_zero, List.set_cons_succ])
              refine seq_pure (v := ?_) (by rfl) ?_ ?_
              rotate_left
              · (intro w hS; go_simp; try with_reducible rfl)
              (try simp only [Act.put, List.setIfInBounds_toArray, List.set_cons_zero, List.set_cons_succ])
              refine seq_pure (v := ?_) (by rfl) ?_ ?_
              rotate_left
              · (intro w hS; go_simp; try with_reducible rfl)
              (try simp only [Act.put, List.setIfInBounds_toArray, List.set_cons_zero, List.set_cons_succ])
              refine seq_call (v := .bool P) (f := ?_) (args := ?_) (by rfl) ?_ ?_ ?_
              rotate_left 2
              · (intro w hS; go_simp; first | done | with_reducible rfl | (refine ⟨?_, ?_⟩ <;> with_reducible rfl))
              · (intro w hS; refine (T1.out w hS).mono ?_; rintro e w' ⟨he, hb⟩; exact ⟨he, btr hS hb⟩)
              (try simp only [Act.put, List.setIfInBounds_toArray, List.set_cons_zero, List.set_cons_succ])
              refine seq_pure (v := ?_) (by rfl) ?_ ?_
              rotate_left
              · (intro w hS; go_simp; try with_reducible rfl)
              (try simp only [Act.put, List.setIfInBounds_toArray, List.set_cons_zero, List.set_cons_succ])
              refine seq_pure (v := ?_) (by rfl) ?_ ?_
              rotate_left
              · (intro w hS; go_simp; try with_reducible rfl)
              (try simp only [Act.put, List.setIfInBounds_toArray, List.set_cons_zero, List.set_cons_succ])
              refine seq_pure (v := ?_) (by rfl) ?_ ?_
              rotate_left
              · (intro w hS; go_simp; try with_reducible rfl)
              (try simp only [Act.put, List.setIfInBounds_toArray, List.set_cons_zero, List.set_cons_succ])
              refine seq_nil ?_
              intro w2 HB
              go_wp2_with fail
              go_ret
              exact ⟨rfl, btr hW (btr hB HB)⟩
end Go.Proofs.Ytanlecgpnknhoaa
