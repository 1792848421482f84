/- Walk of CircuitShares. -/
import Derived.Test.YtanlecgpnknhoaaW17
import Derived.Test.YtanlecgpnknhoaaPlain7
namespace Go.Proofs.Ytanlecgpnknhoaa
set_option linter.unusedSimpArgs false
set_option linter.unusedVariables false
open Go.RowKit

set_option maxRecDepth 100000 in
set_option maxHeartbeats 8000000 in
theorem shares_any (l : List Step) (p0 : Option Addr) (cap0 : Nat) (a : Nat) (b : Nat) (w : World) (hl : l.length ≤ maxLen) (hs : ∀ s ∈ l, s.k < 256 ∧ s.a < 256 ∧ s.b < 256) (hg : StepsAt w p0 l) (ha : a < 256) (hb : b < 256) :
    Calls Try.prog 7 #[.slice p0 l.length cap0, .int .u8 a, .int .u8 b] w (RetB w true) := by
  unfold maxLen at hl
  have Hs := Lib.hid hs; have Hg := Lib.hid hg; clear hs hg
  by_cases h60l : (60 : Int) < (l.length : Int)
  · go_enter Try.func7, Try.ntmps7
    go_wp2_with (first | (go_at_call 17; refine (head_any _).mono ?_; rintro e w1 ⟨rfl, hb1⟩))
    go_ret
    exact ⟨rfl, by first | exact hb1 | go_grown⟩
  have HB := Lib.hid (built l (by omega))
  have Hle := Lib.hid (cbuild_le l)
  have Hlen := Lib.hid HB.out.len
  obtain ⟨c, refs, hcb⟩ : ∃ c refs, cbuild l = (c, refs) := ⟨_, _, rfl⟩
  have Hcb := Lib.hid hcb
  have HG := Lib.hid (show Good c by have := HB.out.good; rw [hcb] at this; exact this)
  have HR := Lib.hid (show RefsIn refs c.length by have := HB.out.refs; rw [hcb] at this; exact this)
  have hc : 0 < c.length := HG.out.ne
  have hcl : c.length ≤ 181 := by have := Hlen.out; rw [hcb] at this; dsimp only at this; omega
  have hrl : refs.length ≤ 60 := by have := Hle.out.2.2; rw [hcb] at this; dsimp only at this; omega
  have Hr := Lib.hid (show ∀ r ∈ refs, r ≤ 9223372036854775807 from fun r hr => by have := Hle.out.2.1 r (by rw [hcb]; exact hr); omega)
  clear HB Hle Hlen hcb
  have hl2 : c.length ≤ 20000 := by omega
  have hl3 : c.length + 3 ≤ 20000 := by omega
  obtain ⟨x, hx⟩ : ∃ z, cpick refs a = z := ⟨_, rfl⟩
  have x1 : 0 ≤ x := by have := (cpick_in HR.out hc a).1; rw [hx] at this; exact this
  have x2 : x < 2 * (c.length : Int) := by have := (cpick_in HR.out hc a).2; rw [hx] at this; exact this
  have Px := Lib.hid hx; clear hx
  have xm : x ≤ 9223372036854775807 := by omega
  obtain ⟨y, hy⟩ : ∃ z, cpick refs b = z := ⟨_, rfl⟩
  have y1 : 0 ≤ y := by have := (cpick_in HR.out hc b).1; rw [hy] at this; exact this
  have y2 : y < 2 * (c.length : Int) := by have := (cpick_in HR.out hc b).2; rw [hy] at this; exact this
  have Py := Lib.hid hy; clear hy
  have ym : y ≤ 9223372036854775807 := by omega
  obtain ⟨D, i1, e1⟩ : ∃ D p, cand c x y = (D, p) := ⟨_, _, rfl⟩
  obtain ⟨E, i2, e2⟩ : ∃ D p, cor c x y = (D, p) := ⟨_, _, rfl⟩
  obtain ⟨F, i3, e3⟩ : ∃ D p, ciff c x y = (D, p) := ⟨_, _, rfl⟩
  obtain ⟨G, i4, e4⟩ : ∃ D p, cinput c ((a : Int) % 8 + 1) = (D, p) := ⟨_, _, rfl⟩
  have E1 := Lib.hid e1; have E2 := Lib.hid e2; have E3 := Lib.hid e3; have E4 := Lib.hid e4
  have dl : D.length ≤ c.length + 1 := by have := (keeps_and HG.out (by omega) x1 x2 y1 y2).len; rw [e1] at this; exact this
  have el : E.length ≤ c.length + 1 := by have := (keeps_or HG.out (by omega) x1 x2 y1 y2).len; rw [e2] at this; exact this
  have fl : F.length ≤ c.length + 3 := by have := (keeps_iff HG.out (by omega) x1 x2 y1 y2).len; rw [e3] at this; exact this
  have gl : G.length ≤ c.length + 1 := by have := (keeps_input (v := (a : Int) % 8 + 1) HG.out (by omega) (by omega) (by omega)).len; rw [e4] at this; exact this
  have E1a := Lib.hid (show cand D x y = (D, i1) by have := (shares_and HG.out hl3 x1 x2 y1 y2).1; rw [e1] at this; exact this)
  have E1b := Lib.hid (show cand D y x = (D, i1) by have := (shares_and HG.out hl3 x1 x2 y1 y2).2; rw [e1] at this; exact this)
  have E2a := Lib.hid (show cor E y x = (E, i2) by have := shares_or HG.out hl3 x1 x2 y1 y2; rw [e2] at this; exact this)
  have E3a := Lib.hid (show ciff F y x = (F, i3) by have := shares_iff HG.out hl3 x1 x2 y1 y2; rw [e3] at this; exact this)
  have E4a := Lib.hid (show cinput G ((a : Int) % 8 + 1) = (G, i4) by have := shares_input (c := c) (v := (a : Int) % 8 + 1) hl3 (by omega) (by omega); rw [e4] at this; exact this)
  have dl2 : D.length ≤ 20000 := by omega
  have el2 : E.length ≤ 20000 := by omega
  have fl2 : F.length ≤ 20000 := by omega
  have gl2 : G.length ≤ 20000 := by omega
  have DL := Lib.hid dl; have FL := Lib.hid fl
  clear e1 e2 e3 e4
  go_enter Try.func7, Try.ntmps7
  go_upto_region 4 with (first | (go_at_call 17; refine (head_any _).mono ?_; rintro e w1 ⟨rfl, hb1⟩))
  have hsz := hb1.size
  go_cut [8, 9] (fun s8 s9 wx => ∃ (b8 : Nat) (q : Option Addr) (cq : Nat), s8 = .pointer (some ⟨b8, 0, none⟩) ∧ s9 = .slice q refs.length cq ∧ w.heap.size ≤ b8 ∧ Bx wx b8 c ∧ IntsAt wx q refs ∧ Below w.heap.size w wx)
  case first =>
    go_wp2_with (first | (go_at_call 36; refine (build_any l _ _ _ (by omega) Hs.out (Hg.out.mono (by go_grown))).mono ?_; rintro e w2 ⟨p2, cap2, q2, cq2, rfl, u1, u2, u3, u4, u5, u6, u7, u8, hbl⟩; rw [Hcb.out] at u1 u4 u5 u8; dsimp only at u1 u4 u5 u8; rw [Hcb.out]; dsimp only))
    have hs2 := hbl.size
    go_meet
    exact ⟨_, _, _, rfl, rfl, by omega, Bx.new ⟨u1, u2, u3, u4⟩ _, u8.mono (by go_grown), bal (btr hb1 hbl) _⟩
  case rest =>
    clear hb1 hsz
    obtain ⟨b8, q, cq, rfl, rfl, hb8, hB8, hq, hW⟩ := hcut
    go_upto_region 7 with (first | (go_at_call 37; (with_reducible refine (pick_any refs a q cq _ (by assumption) (by omega) Hr.out (hq.mono (by go_grown))).mono ?_); rintro e w' ⟨rfl, rfl⟩; rw [Px.out]) | (go_at_call 37; (with_reducible refine (pick_any refs b q cq _ (by assumption) (by omega) Hr.out (hq.mono (by go_grown))).mono ?_); rintro e w' ⟨rfl, rfl⟩; rw [Py.out]))
    go_upto_region 7 with fail
    have hlt := hB8.lt
    obtain ⟨p, cap, k1, k1f, hC⟩ := id hB8
    go_cut [12, 13] (fun s12 s13 wx => ∃ b12 : Nat, s12 = .pointer (some ⟨b12, 0, none⟩) ∧ w.heap.size ≤ b12 ∧ s13 = .int .i64 i1 ∧ Bx wx b12 D ∧ Bx wx b8 c ∧ Below w.heap.size w wx)
    case first =>
      as_aux_lemma =>
        go_wp2_with (first | (go_at_call 21; refine (and_is hC (Below.refl _ _) xm ym hl2 E1.out).mono ?_; rintro e w2 ⟨p2, cap2, rfl, hC2, hbl⟩))
        have hsW := hW.size
        have hs := hbl.size
        have hl8 := hB8.lt
        go_meet
        exact ⟨_, rfl, (by omega), rfl, Bx.new hC2 _, (hB8.up hbl).alloc _, (bal (btr hW hbl) _)⟩
    case rest =>
      clear hlt k1 k1f hC hB8 hW
      obtain ⟨b12, rfl, hb12, rfl, hB12, hB8, hW⟩ := hcut
      go_upto_region 8 with fail
      have hlt := hB12.lt
      obtain ⟨p, cap, k1, k1f, hC⟩ := id hB12
      go_cut [14, 15] (fun s14 s15 wx => ∃ b14 : Nat, s14 = .pointer (some ⟨b14, 0, none⟩) ∧ w.heap.size ≤ b14 ∧ s15 = .int .i64 i1 ∧ Bx wx b14 D ∧ Bx wx b12 D ∧ Bx wx b8 c ∧ Below w.heap.size w wx)
      case first =>
        as_aux_lemma =>
          go_wp2_with (first | (go_at_call 21; refine (and_is hC (Below.refl _ _) xm ym dl2 E1a.out).mono ?_; rintro e w2 ⟨p2, cap2, rfl, hC2, hbl⟩))
          have hsW := hW.size
          have hs := hbl.size
          have hl12 := hB12.lt
          have hl8 := hB8.lt
          go_meet
          exact ⟨_, rfl, (by omega), rfl, Bx.new hC2 _, (hB12.up hbl).alloc _, (hB8.up hbl).alloc _, (bal (btr hW hbl) _)⟩
      case rest =>
        clear hlt k1 k1f hC hB12 hB8 hW
        obtain ⟨b14, rfl, hb14, rfl, hB14, hB12, hB8, hW⟩ := hcut
        go_upto_region 9 with fail
        have hlt := hB12.lt
        obtain ⟨p, cap, k1, k1f, hC⟩ := id hB12
        go_cut [16, 17] (fun s16 s17 wx => ∃ b16 : Nat, s16 = .pointer (some ⟨b16, 0, none⟩) ∧ w.heap.size ≤ b16 ∧ s17 = .int .i64 i1 ∧ Bx wx b16 D ∧ Bx wx b14 D ∧ Bx wx b12 D ∧ Bx wx b8 c ∧ Below w.heap.size w wx)
        case first =>
          as_aux_lemma =>
            go_wp2_with (first | (go_at_call 21; refine (and_is hC (Below.refl _ _) ym xm dl2 E1b.out).mono ?_; rintro e w2 ⟨p2, cap2, rfl, hC2, hbl⟩))
            have hsW := hW.size
            have hs := hbl.size
            have hl14 := hB14.lt
            have hl12 := hB12.lt
            have hl8 := hB8.lt
            go_meet
            exact ⟨_, rfl, (by omega), rfl, Bx.new hC2 _, (hB14.up hbl).alloc _, (hB12.up hbl).alloc _, (hB8.up hbl).alloc _, (bal (btr hW hbl) _)⟩
        case rest =>
          clear hlt k1 k1f hC hB14 hB12 hB8 hW
          obtain ⟨b16, rfl, hb16, rfl, hB16, hB14, hB12, hB8, hW⟩ := hcut
          go_upto_region 10 with fail
          have hlt := hB8.lt
          obtain ⟨p, cap, k1, k1f, hC⟩ := id hB8
          go_cut [18, 19] (fun s18 s19 wx => ∃ b18 : Nat, s18 = .pointer (some ⟨b18, 0, none⟩) ∧ w.heap.size ≤ b18 ∧ s19 = .int .i64 i2 ∧ Bx wx b18 E ∧ Bx wx b16 D ∧ Bx wx b14 D ∧ Bx wx b12 D ∧ Bx wx b8 c ∧ Below w.heap.size w wx)
          case first =>
            as_aux_lemma =>
              go_wp2_with (first | (go_at_call 23; refine (or_is hC (Below.refl _ _) xm ym hl2 E2.out).mono ?_; rintro e w2 ⟨p2, cap2, rfl, hC2, hbl⟩))
              have hsW := hW.size
              have hs := hbl.size
              have hl16 := hB16.lt
              have hl14 := hB14.lt
              have hl12 := hB12.lt
              have hl8 := hB8.lt
              go_meet
              exact ⟨_, rfl, (by omega), rfl, Bx.new hC2 _, (hB16.up hbl).alloc _, (hB14.up hbl).alloc _, (hB12.up hbl).alloc _, (hB8.up hbl).alloc _, (bal (btr hW hbl) _)⟩
          case rest =>
            clear hlt k1 k1f hC hB16 hB14 hB12 hB8 hW
            obtain ⟨b18, rfl, hb18, rfl, hB18, hB16, hB14, hB12, hB8, hW⟩ := hcut
            go_upto_region 11 with fail
            have hlt := hB18.lt
            obtain ⟨p, cap, k1, k1f, hC⟩ := id hB18
            go_cut [20, 21] (fun s20 s21 wx => ∃ b20 : Nat, s20 = .pointer (some ⟨b20, 0, none⟩) ∧ w.heap.size ≤ b20 ∧ s21 = .int .i64 i2 ∧ Bx wx b20 E ∧ Bx wx b18 E ∧ Bx wx b16 D ∧ Bx wx b14 D ∧ Bx wx b12 D ∧ Bx wx b8 c ∧ Below w.heap.size w wx)
            case first =>
              as_aux_lemma =>
                go_wp2_with (first | (go_at_call 23; refine (or_is hC (Below.refl _ _) ym xm el2 E2a.out).mono ?_; rintro e w2 ⟨p2, cap2, rfl, hC2, hbl⟩))
                have hsW := hW.size
                have hs := hbl.size
                have hl18 := hB18.lt
                have hl16 := hB16.lt
                have hl14 := hB14.lt
                have hl12 := hB12.lt
                have hl8 := hB8.lt
                go_meet
                exact ⟨_, rfl, (by omega), rfl, Bx.new hC2 _, (hB18.up hbl).alloc _, (hB16.up hbl).alloc _, (hB14.up hbl).alloc _, (hB12.up hbl).alloc _, (hB8.up hbl).alloc _, (bal (btr hW hbl) _)⟩
            case rest =>
              clear hlt k1 k1f hC hB18 hB16 hB14 hB12 hB8 hW
              obtain ⟨b20, rfl, hb20, rfl, hB20, hB18, hB16, hB14, hB12, hB8, hW⟩ := hcut
              go_upto_region 12 with fail
              have hlt := hB8.lt
              obtain ⟨p, cap, k1, k1f, hC⟩ := id hB8
              go_cut [22, 23] (fun s22 s23 wx => ∃ b22 : Nat, s22 = .pointer (some ⟨b22, 0, none⟩) ∧ w.heap.size ≤ b22 ∧ s23 = .int .i64 i3 ∧ Bx wx b22 F ∧ Bx wx b20 E ∧ Bx wx b18 E ∧ Bx wx b16 D ∧ Bx wx b14 D ∧ Bx wx b12 D ∧ Bx wx b8 c ∧ Below w.heap.size w wx)
              case first =>
                as_aux_lemma =>
                  go_wp2_with (first | (go_at_call 25; refine (iff_is hC (Below.refl _ _) xm ym hl2 E3.out).mono ?_; rintro e w2 ⟨p2, cap2, rfl, hC2, hbl⟩))
                  have hsW := hW.size
                  have hs := hbl.size
                  have hl20 := hB20.lt
                  have hl18 := hB18.lt
                  have hl16 := hB16.lt
                  have hl14 := hB14.lt
                  have hl12 := hB12.lt
                  have hl8 := hB8.lt
                  go_meet
                  exact ⟨_, rfl, (by omega), rfl, Bx.new hC2 _, (hB20.up hbl).alloc _, (hB18.up hbl).alloc _, (hB16.up hbl).alloc _, (hB14.up hbl).alloc _, (hB12.up hbl).alloc _, (hB8.up hbl).alloc _, (bal (btr hW hbl) _)⟩
              case rest =>
                clear hlt k1 k1f hC hB20 hB18 hB16 hB14 hB12 hB8 hW
                obtain ⟨b22, rfl, hb22, rfl, hB22, hB20, hB18, hB16, hB14, hB12, hB8, hW⟩ := hcut
                go_upto_region 13 with fail
                have hlt := hB22.lt
                obtain ⟨p, cap, k1, k1f, hC⟩ := id hB22
                go_cut [24, 25] (fun s24 s25 wx => ∃ b24 : Nat, s24 = .pointer (some ⟨b24, 0, none⟩) ∧ w.heap.size ≤ b24 ∧ s25 = .int .i64 i3 ∧ Bx wx b24 F ∧ Bx wx b22 F ∧ Bx wx b20 E ∧ Bx wx b18 E ∧ Bx wx b16 D ∧ Bx wx b14 D ∧ Bx wx b12 D ∧ Bx wx b8 c ∧ Below w.heap.size w wx)
                case first =>
                  as_aux_lemma =>
                    go_wp2_with (first | (go_at_call 25; refine (iff_is hC (Below.refl _ _) ym xm fl2 E3a.out).mono ?_; rintro e w2 ⟨p2, cap2, rfl, hC2, hbl⟩))
                    have hsW := hW.size
                    have hs := hbl.size
                    have hl22 := hB22.lt
                    have hl20 := hB20.lt
                    have hl18 := hB18.lt
                    have hl16 := hB16.lt
                    have hl14 := hB14.lt
                    have hl12 := hB12.lt
                    have hl8 := hB8.lt
                    go_meet
                    exact ⟨_, rfl, (by omega), rfl, Bx.new hC2 _, (hB22.up hbl).alloc _, (hB20.up hbl).alloc _, (hB18.up hbl).alloc _, (hB16.up hbl).alloc _, (hB14.up hbl).alloc _, (hB12.up hbl).alloc _, (hB8.up hbl).alloc _, (bal (btr hW hbl) _)⟩
                case rest =>
                  clear hlt k1 k1f hC hB22 hB20 hB18 hB16 hB14 hB12 hB8 hW
                  obtain ⟨b24, rfl, hb24, rfl, hB24, hB22, hB20, hB18, hB16, hB14, hB12, hB8, hW⟩ := hcut
                  go_upto_region 14 with fail
                  have hlt := hB8.lt
                  obtain ⟨p, cap, k1, k1f, hC⟩ := id hB8
                  go_cut [26, 27] (fun s26 s27 wx => ∃ b26 : Nat, s26 = .pointer (some ⟨b26, 0, none⟩) ∧ w.heap.size ≤ b26 ∧ s27 = .int .i64 i4 ∧ Bx wx b26 G ∧ Bx wx b24 F ∧ Bx wx b22 F ∧ Bx wx b20 E ∧ Bx wx b18 E ∧ Bx wx b16 D ∧ Bx wx b14 D ∧ Bx wx b12 D ∧ Bx wx b8 c ∧ Below w.heap.size w wx)
                  case first =>
                    as_aux_lemma =>
                      go_wp2_with (first | (go_at_call 19; refine (input_is hC (Below.refl _ _) E4.out hl2).mono ?_; rintro e w2 ⟨p2, cap2, rfl, hC2, hbl⟩))
                      have hsW := hW.size
                      have hs := hbl.size
                      have hl24 := hB24.lt
                      have hl22 := hB22.lt
                      have hl20 := hB20.lt
                      have hl18 := hB18.lt
                      have hl16 := hB16.lt
                      have hl14 := hB14.lt
                      have hl12 := hB12.lt
                      have hl8 := hB8.lt
                      go_meet
                      exact ⟨_, rfl, (by omega), rfl, Bx.new hC2 _, (hB24.up hbl).alloc _, (hB22.up hbl).alloc _, (hB20.up hbl).alloc _, (hB18.up hbl).alloc _, (hB16.up hbl).alloc _, (hB14.up hbl).alloc _, (hB12.up hbl).alloc _, (hB8.up hbl).alloc _, (bal (btr hW hbl) _)⟩
                  case rest =>
                    clear hlt k1 k1f hC hB24 hB22 hB20 hB18 hB16 hB14 hB12 hB8 hW
                    obtain ⟨b26, rfl, hb26, rfl, hB26, hB24, hB22, hB20, hB18, hB16, hB14, hB12, hB8, hW⟩ := hcut
                    go_upto_region 15 with fail
                    have hlt := hB26.lt
                    obtain ⟨p, cap, k1, k1f, hC⟩ := id hB26
                    go_cut [28, 29] (fun s28 s29 wx => ∃ b28 : Nat, s28 = .pointer (some ⟨b28, 0, none⟩) ∧ w.heap.size ≤ b28 ∧ s29 = .int .i64 i4 ∧ Bx wx b28 G ∧ Bx wx b26 G ∧ Bx wx b24 F ∧ Bx wx b22 F ∧ Bx wx b20 E ∧ Bx wx b18 E ∧ Bx wx b16 D ∧ Bx wx b14 D ∧ Bx wx b12 D ∧ Bx wx b8 c ∧ Below w.heap.size w wx)
                    case first =>
                      as_aux_lemma =>
                        go_wp2_with (first | (go_at_call 19; refine (input_is hC (Below.refl _ _) E4a.out gl2).mono ?_; rintro e w2 ⟨p2, cap2, rfl, hC2, hbl⟩))
                        have hsW := hW.size
                        have hs := hbl.size
                        have hl26 := hB26.lt
                        have hl24 := hB24.lt
                        have hl22 := hB22.lt
                        have hl20 := hB20.lt
                        have hl18 := hB18.lt
                        have hl16 := hB16.lt
                        have hl14 := hB14.lt
                        have hl12 := hB12.lt
                        have hl8 := hB8.lt
                        go_meet
                        exact ⟨_, rfl, (by omega), rfl, Bx.new hC2 _, (hB26.up hbl).alloc _, (hB24.up hbl).alloc _, (hB22.up hbl).alloc _, (hB20.up hbl).alloc _, (hB18.up hbl).alloc _, (hB16.up hbl).alloc _, (hB14.up hbl).alloc _, (hB12.up hbl).alloc _, (hB8.up hbl).alloc _, (bal (btr hW hbl) _)⟩
                    case rest =>
                      clear hlt k1 k1f hC hB26 hB24 hB22 hB20 hB18 hB16 hB14 hB12 hB8 hW
                      obtain ⟨b28, rfl, hb28, rfl, hB28, hB26, hB24, hB22, hB20, hB18, hB16, hB14, hB12, hB8, hW⟩ := hcut
                      go_upto_region 16 with fail
                      obtain ⟨p28, c28, k28, k28f, hC28⟩ := id hB28
                      obtain ⟨p26, c26, k26, k26f, hC26⟩ := id hB26
                      obtain ⟨p24, c24, k24, k24f, hC24⟩ := id hB24
                      obtain ⟨p22, c22, k22, k22f, hC22⟩ := id hB22
                      obtain ⟨p20, c20, k20, k20f, hC20⟩ := id hB20
                      obtain ⟨p18, c18, k18, k18f, hC18⟩ := id hB18
                      obtain ⟨p16, c16, k16, k16f, hC16⟩ := id hB16
                      obtain ⟨p14, c14, k14, k14f, hC14⟩ := id hB14
                      obtain ⟨p12, c12, k12, k12f, hC12⟩ := id hB12
                      obtain ⟨p8, c8, k8, k8f, hC8⟩ := id hB8
                      go_cut [30] (fun s30 wx => s30 = .bool true ∧ Bx wx b8 c ∧ Bx wx b12 D ∧ Bx wx b22 F ∧ Below w.heap.size w wx)
                      case first =>
                        have T0 := Lib.hid (fun (w' : World) (hB : Below wc.heap.size wc w') => show Calls Try.prog 27 #[.agg #[.slice p12 (D).length c12], .agg #[.slice p14 (D).length c14]] w' (RetB w' true) from same_is hC12 hC14 hB (csame_self _))
                        have T1 := Lib.hid (fun (w' : World) (hB : Below wc.heap.size wc w') => show Calls Try.prog 27 #[.agg #[.slice p12 (D).length c12], .agg #[.slice p16 (D).length c16]] w' (RetB w' true) from same_is hC12 hC16 hB (csame_self _))
                        have T2 := Lib.hid (fun (w' : World) (hB : Below wc.heap.size wc w') => show Calls Try.prog 27 #[.agg #[.slice p18 (E).length c18], .agg #[.slice p20 (E).length c20]] w' (RetB w' true) from same_is hC18 hC20 hB (csame_self _))
                        have T3 := Lib.hid (fun (w' : World) (hB : Below wc.heap.size wc w') => show Calls Try.prog 27 #[.agg #[.slice p22 (F).length c22], .agg #[.slice p24 (F).length c24]] w' (RetB w' true) from same_is hC22 hC24 hB (csame_self _))
                        have T4 := Lib.hid (fun (w' : World) (hB : Below wc.heap.size wc w') => show Calls Try.prog 27 #[.agg #[.slice p26 (G).length c26], .agg #[.slice p28 (G).length c28]] w' (RetB w' true) from same_is hC26 hC28 hB (csame_self _))
                        go_wp2_with (first | (go_at_call 27; (with_reducible refine (T0.out _ (by first | exact HB | exact Below.refl _ _ | go_grown)).mono ?_); rintro e w2 ⟨rfl, hbl⟩; have k28 := oldcell (b := b28) (o := 0) (v := .slice p28 (G).length c28) hbl (by first | assumption | go_cell) (by first | exact World.block_lt_of_cell? _ _ k28 | (simp; omega)); have k26 := oldcell (b := b26) (o := 0) (v := .slice p26 (G).length c26) hbl (by first | assumption | go_cell) (by first | exact World.block_lt_of_cell? _ _ k26 | (simp; omega)); have k24 := oldcell (b := b24) (o := 0) (v := .slice p24 (F).length c24) hbl (by first | assumption | go_cell) (by first | exact World.block_lt_of_cell? _ _ k24 | (simp; omega)); have k22 := oldcell (b := b22) (o := 0) (v := .slice p22 (F).length c22) hbl (by first | assumption | go_cell) (by first | exact World.block_lt_of_cell? _ _ k22 | (simp; omega)); have k20 := oldcell (b := b20) (o := 0) (v := .slice p20 (E).length c20) hbl (by first | assumption | go_cell) (by first | exact World.block_lt_of_cell? _ _ k20 | (simp; omega)); have k18 := oldcell (b := b18) (o := 0) (v := .slice p18 (E).length c18) hbl (by first | assumption | go_cell) (by first | exact World.block_lt_of_cell? _ _ k18 | (simp; omega)); have k16 := oldcell (b := b16) (o := 0) (v := .slice p16 (D).length c16) hbl (by first | assumption | go_cell) (by first | exact World.block_lt_of_cell? _ _ k16 | (simp; omega)); have k14 := oldcell (b := b14) (o := 0) (v := .slice p14 (D).length c14) hbl (by first | assumption | go_cell) (by first | exact World.block_lt_of_cell? _ _ k14 | (simp; omega)); have k12 := oldcell (b := b12) (o := 0) (v := .slice p12 (D).length c12) hbl (by first | assumption | go_cell) (by first | exact World.block_lt_of_cell? _ _ k12 | (simp; omega)); have k8 := oldcell (b := b8) (o := 0) (v := .slice p8 (c).length c8) hbl (by first | assumption | go_cell) (by first | exact World.block_lt_of_cell? _ _ k8 | (simp; omega)); have HB : Below wc.heap.size wc w2 := by first | exact btr HB hbl | exact hbl | exact btr (by go_grown) hbl) | (go_at_call 27; (with_reducible refine (T1.out _ (by first | exact HB | exact Below.refl _ _ | go_grown)).mono ?_); rintro e w2 ⟨rfl, hbl⟩; have k28 := oldcell (b := b28) (o := 0) (v := .slice p28 (G).length c28) hbl (by first | assumption | go_cell) (by first | exact World.block_lt_of_cell? _ _ k28 | (simp; omega)); have k26 := oldcell (b := b26) (o := 0) (v := .slice p26 (G).length c26) hbl (by first | assumption | go_cell) (by first | exact World.block_lt_of_cell? _ _ k26 | (simp; omega)); have k24 := oldcell (b := b24) (o := 0) (v := .slice p24 (F).length c24) hbl (by first | assumption | go_cell) (by first | exact World.block_lt_of_cell? _ _ k24 | (simp; omega)); have k22 := oldcell (b := b22) (o := 0) (v := .slice p22 (F).length c22) hbl (by first | assumption | go_cell) (by first | exact World.block_lt_of_cell? _ _ k22 | (simp; omega)); have k20 := oldcell (b := b20) (o := 0) (v := .slice p20 (E).length c20) hbl (by first | assumption | go_cell) (by first | exact World.block_lt_of_cell? _ _ k20 | (simp; omega)); have k18 := oldcell (b := b18) (o := 0) (v := .slice p18 (E).length c18) hbl (by first | assumption | go_cell) (by first | exact World.block_lt_of_cell? _ _ k18 | (simp; omega)); have k16 := oldcell (b := b16) (o := 0) (v := .slice p16 (D).length c16) hbl (by first | assumption | go_cell) (by first | exact World.block_lt_of_cell? _ _ k16 | (simp; omega)); have k14 := oldcell (b := b14) (o := 0) (v := .slice p14 (D).length c14) hbl (by first | assumption | go_cell) (by first | exact World.block_lt_of_cell? _ _ k14 | (simp; omega)); have k12 := oldcell (b := b12) (o := 0) (v := .slice p12 (D).length c12) hbl (by first | assumption | go_cell) (by first | exact World.block_lt_of_cell? _ _ k12 | (simp; omega)); have k8 := oldcell (b := b8) (o := 0) (v := .slice p8 (c).length c8) hbl (by first | assumption | go_cell) (by first | exact World.block_lt_of_cell? _ _ k8 | (simp; omega)); have HB : Below wc.heap.size wc w2 := by first | exact btr HB hbl | exact hbl | exact btr (by go_grown) hbl) | (go_at_call 27; (with_reducible refine (T2.out _ (by first | exact HB | exact Below.refl _ _ | go_grown)).mono ?_); rintro e w2 ⟨rfl, hbl⟩; have k28 := oldcell (b := b28) (o := 0) (v := .slice p28 (G).length c28) hbl (by first | assumption | go_cell) (by first | exact World.block_lt_of_cell? _ _ k28 | (simp; omega)); have k26 := oldcell (b := b26) (o := 0) (v := .slice p26 (G).length c26) hbl (by first | assumption | go_cell) (by first | exact World.block_lt_of_cell? _ _ k26 | (simp; omega)); have k24 := oldcell (b := b24) (o := 0) (v := .slice p24 (F).length c24) hbl (by first | assumption | go_cell) (by first | exact World.block_lt_of_cell? _ _ k24 | (simp; omega)); have k22 := oldcell (b := b22) (o := 0) (v := .slice p22 (F).length c22) hbl (by first | assumption | go_cell) (by first | exact World.block_lt_of_cell? _ _ k22 | (simp; omega)); have k20 := oldcell (b := b20) (o := 0) (v := .slice p20 (E).length c20) hbl (by first | assumption | go_cell) (by first | exact World.block_lt_of_cell? _ _ k20 | (simp; omega)); have k18 := oldcell (b := b18) (o := 0) (v := .slice p18 (E).length c18) hbl (by first | assumption | go_cell) (by first | exact World.block_lt_of_cell? _ _ k18 | (simp; omega)); have k16 := oldcell (b := b16) (o := 0) (v := .slice p16 (D).length c16) hbl (by first | assumption | go_cell) (by first | exact World.block_lt_of_cell? _ _ k16 | (simp; omega)); have k14 := oldcell (b := b14) (o := 0) (v := .slice p14 (D).length c14) hbl (by first | assumption | go_cell) (by first | exact World.block_lt_of_cell? _ _ k14 | (simp; omega)); have k12 := oldcell (b := b12) (o := 0) (v := .slice p12 (D).length c12) hbl (by first | assumption | go_cell) (by first | exact World.block_lt_of_cell? _ _ k12 | (simp; omega)); have k8 := oldcell (b := b8) (o := 0) (v := .slice p8 (c).length c8) hbl (by first | assumption | go_cell) (by first | exact World.block_lt_of_cell? _ _ k8 | (simp; omega)); have HB : Below wc.heap.size wc w2 := by first | exact btr HB hbl | exact hbl | exact btr (by go_grown) hbl) | (go_at_call 27; (with_reducible refine (T3.out _ (by first | exact HB | exact Below.refl _ _ | go_grown)).mono ?_); rintro e w2 ⟨rfl, hbl⟩; have k28 := oldcell (b := b28) (o := 0) (v := .slice p28 (G).length c28) hbl (by first | assumption | go_cell) (by first | exact World.block_lt_of_cell? _ _ k28 | (simp; omega)); have k26 := oldcell (b := b26) (o := 0) (v := .slice p26 (G).length c26) hbl (by first | assumption | go_cell) (by first | exact World.block_lt_of_cell? _ _ k26 | (simp; omega)); have k24 := oldcell (b := b24) (o := 0) (v := .slice p24 (F).length c24) hbl (by first | assumption | go_cell) (by first | exact World.block_lt_of_cell? _ _ k24 | (simp; omega)); have k22 := oldcell (b := b22) (o := 0) (v := .slice p22 (F).length c22) hbl (by first | assumption | go_cell) (by first | exact World.block_lt_of_cell? _ _ k22 | (simp; omega)); have k20 := oldcell (b := b20) (o := 0) (v := .slice p20 (E).length c20) hbl (by first | assumption | go_cell) (by first | exact World.block_lt_of_cell? _ _ k20 | (simp; omega)); have k18 := oldcell (b := b18) (o := 0) (v := .slice p18 (E).length c18) hbl (by first | assumption | go_cell) (by first | exact World.block_lt_of_cell? _ _ k18 | (simp; omega)); have k16 := oldcell (b := b16) (o := 0) (v := .slice p16 (D).length c16) hbl (by first | assumption | go_cell) (by first | exact World.block_lt_of_cell? _ _ k16 | (simp; omega)); have k14 := oldcell (b := b14) (o := 0) (v := .slice p14 (D).length c14) hbl (by first | assumption | go_cell) (by first | exact World.block_lt_of_cell? _ _ k14 | (simp; omega)); have k12 := oldcell (b := b12) (o := 0) (v := .slice p12 (D).length c12) hbl (by first | assumption | go_cell) (by first | exact World.block_lt_of_cell? _ _ k12 | (simp; omega)); have k8 := oldcell (b := b8) (o := 0) (v := .slice p8 (c).length c8) hbl (by first | assumption | go_cell) (by first | exact World.block_lt_of_cell? _ _ k8 | (simp; omega)); have HB : Below wc.heap.size wc w2 := by first | exact btr HB hbl | exact hbl | exact btr (by go_grown) hbl) | (go_at_call 27; (with_reducible refine (T4.out _ (by first | exact HB | exact Below.refl _ _ | go_grown)).mono ?_); rintro e w2 ⟨rfl, hbl⟩; have k28 := oldcell (b := b28) (o := 0) (v := .slice p28 (G).length c28) hbl (by first | assumption | go_cell) (by first | exact World.block_lt_of_cell? _ _ k28 | (simp; omega)); have k26 := oldcell (b := b26) (o := 0) (v := .slice p26 (G).length c26) hbl (by first | assumption | go_cell) (by first | exact World.block_lt_of_cell? _ _ k26 | (simp; omega)); have k24 := oldcell (b := b24) (o := 0) (v := .slice p24 (F).length c24) hbl (by first | assumption | go_cell) (by first | exact World.block_lt_of_cell? _ _ k24 | (simp; omega)); have k22 := oldcell (b := b22) (o := 0) (v := .slice p22 (F).length c22) hbl (by first | assumption | go_cell) (by first | exact World.block_lt_of_cell? _ _ k22 | (simp; omega)); have k20 := oldcell (b := b20) (o := 0) (v := .slice p20 (E).length c20) hbl (by first | assumption | go_cell) (by first | exact World.block_lt_of_cell? _ _ k20 | (simp; omega)); have k18 := oldcell (b := b18) (o := 0) (v := .slice p18 (E).length c18) hbl (by first | assumption | go_cell) (by first | exact World.block_lt_of_cell? _ _ k18 | (simp; omega)); have k16 := oldcell (b := b16) (o := 0) (v := .slice p16 (D).length c16) hbl (by first | assumption | go_cell) (by first | exact World.block_lt_of_cell? _ _ k16 | (simp; omega)); have k14 := oldcell (b := b14) (o := 0) (v := .slice p14 (D).length c14) hbl (by first | assumption | go_cell) (by first | exact World.block_lt_of_cell? _ _ k14 | (simp; omega)); have k12 := oldcell (b := b12) (o := 0) (v := .slice p12 (D).length c12) hbl (by first | assumption | go_cell) (by first | exact World.block_lt_of_cell? _ _ k12 | (simp; omega)); have k8 := oldcell (b := b8) (o := 0) (v := .slice p8 (c).length c8) hbl (by first | assumption | go_cell) (by first | exact World.block_lt_of_cell? _ _ k8 | (simp; omega)); have HB : Below wc.heap.size wc w2 := by first | exact btr HB hbl | exact hbl | exact btr (by go_grown) hbl))
                        go_meet
                        exact ⟨rfl, hB8.up HB, hB12.up HB, hB22.up HB, btr hW HB⟩
                      case rest =>
                        clear hB8 hB12 hB22 hW k28 k28f hC28 k26 k26f hC26 k24 k24f hC24 k22 k22f hC22 k20 k20f hC20 k18 k18f hC18 k16 k16f hC16 k14 k14f hC14 k12 k12f hC12 k8 k8f hC8
                        obtain ⟨rfl, hB8, hB12, hB22, hW⟩ := hcut
                        obtain ⟨p8, c8, k8, k8f, hC8⟩ := id hB8
                        obtain ⟨p12, c12, k12, k12f, hC12⟩ := id hB12
                        obtain ⟨p22, c22, k22, k22f, hC22⟩ := id hB22
                        have dl3 := DL.out; have fl3 := FL.out
                        have dl4 : (D.length : Int) ≤ (c.length : Int) + 1 := by omega
                        have fl4 : (F.length : Int) ≤ (c.length : Int) + 3 := by omega
                        go_wp2_with fail
                        go_ret
                        exact ⟨rfl, hW⟩
end Go.Proofs.Ytanlecgpnknhoaa
