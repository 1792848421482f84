/- Walk of CircuitSimplifies. -/
import Derived.Test.YtanlecgpnknhoaaW17
import Derived.Test.YtanlecgpnknhoaaPlain5
namespace Go.Proofs.Ytanlecgpnknhoaa
set_option linter.unusedSimpArgs false
set_option linter.unusedVariables false
open Go.RowKit

set_option maxRecDepth 100000 in
set_option maxHeartbeats 8000000 in
theorem simplifies_any (l : List Step) (p0 : Option Addr) (cap0 : Nat) (a : Nat) (w : World) (hl : l.length ≤ maxLen) (hs : ∀ s ∈ l, s.k < 256 ∧ s.a < 256 ∧ s.b < 256) (hg : StepsAt w p0 l) (ha : a < 256) :
    Calls Try.prog 8 #[.slice p0 l.length cap0, .int .u8 a] w (RetB w true) := by
  unfold maxLen at hl
  by_cases h60 : (60 : Int) < (l.length : Int)
  · go_enter Try.func8, Try.ntmps8
    go_wp2_with (first | (go_at_call 17; refine (head_any _).mono ?_; rintro e w1 ⟨rfl, hb1⟩))
    go_ret
    exact ⟨rfl, by first | exact hb1 | go_grown⟩
  have Hs := Lib.hid hs; have Hg := Lib.hid hg; clear hs hg
  have HB := Lib.hid (built l (by omega))
  have Hx := Lib.hid (cpick_in HB.out.refs HB.out.good.ne a)
  have Hle := Lib.hid (cbuild_le l)
  have Hlen := Lib.hid HB.out.len
  obtain ⟨c, refs, hcb⟩ : ∃ c refs, cbuild l = (c, refs) := ⟨_, _, rfl⟩
  have Hcb := Lib.hid hcb
  obtain ⟨x, hx⟩ : ∃ x, cpick refs a = x := ⟨_, rfl⟩
  have h1 : 0 ≤ x := by have := Hx.out.1; rw [hcb] at this; dsimp only at this; rw [hx] at this; exact this
  have h2 : x < 2 * (c.length : Int) := by have := Hx.out.2; rw [hcb] at this; dsimp only at this; rw [hx] at this; exact this
  have hc : 0 < c.length := by have := HB.out.good.ne; rw [hcb] at this; exact this
  have hcl : c.length ≤ 181 := by have := Hlen.out; rw [hcb] at this; dsimp only at this; omega
  have hrl : refs.length ≤ 60 := by have := Hle.out.2.2; rw [hcb] at this; dsimp only at this; omega
  have Hr := Lib.hid (show ∀ r ∈ refs, r ≤ 9223372036854775807 from fun r hr => by have := Hle.out.2.1 r (by rw [hcb]; exact hr); omega)
  clear HB Hx Hle Hlen hcb
  have HX := Lib.hid hx; clear hx
  have hnx := cnot_bounds h1 h2
  have hm : x ≤ 9223372036854775807 := by omega
  have hmn : cnot x ≤ 9223372036854775807 := by omega
  have hl2 : c.length ≤ 20000 := by omega
  have EA1 := Lib.hid (and_0 h1 h2 hc); have EA2 := Lib.hid (and_1 h1 h2 hc); have EA3 := Lib.hid (and_self' h1 h2 hc); have EA4 := Lib.hid (and_not h1 h2 hc)
  have EO1 := Lib.hid (or_not h1 h2 hc); have EO2 := Lib.hid (or_1 h1 h2 hc); have EF1 := Lib.hid (iff_self h1 h2 hc); have EF2 := Lib.hid (iff_0 h1 h2 hc)
  have hinv := Lib.hid (cnot_invol h1)
  clear hnx
  go_enter Try.func8, Try.ntmps8
  go_upto_region 4 with (first | (go_at_call 17; refine (head_any _).mono ?_; rintro e w1 ⟨rfl, hb1⟩))
  have hsz := hb1.size
  go_cut [6, 7] (fun s6 s7 wx => ∃ (b6 : Nat) (q : Option Addr) (cq : Nat), s6 = .pointer (some ⟨b6, 0, none⟩) ∧ s7 = .slice q refs.length cq ∧ IntsAt wx q refs ∧ w.heap.size ≤ b6 ∧ Bx wx b6 c ∧ Below w.heap.size w wx)
  case first =>
    go_wp2_with (first | (go_at_call 36; refine (build_any l _ _ _ (by omega) Hs.out (Hg.out.mono (by go_grown))).mono ?_; rintro e w2 ⟨p2, cap2, q2, cq2, rfl, u1, u2, u3, u4, u5, u6, u7, u8, hbl⟩; rw [Hcb.out] at u1 u4 u5 u8; dsimp only at u1 u4 u5 u8; rw [Hcb.out]; dsimp only))
    have hs2 := hbl.size
    go_meet
    exact ⟨_, _, _, rfl, rfl, u8.mono (by go_grown), by omega, Bx.new ⟨u1, u2, u3, u4⟩ _, bal (btr hb1 hbl) _⟩
  case rest =>
    clear hb1 hsz
    obtain ⟨b6, q, cq, rfl, rfl, hq, hb6, hB6, hW⟩ := hcut
    go_upto_region 7 with (first | (go_at_call 37; refine (pick_any refs a q cq _ ha (by omega) Hr.out (hq.mono (by go_grown))).mono ?_; rintro e w' ⟨rfl, rfl⟩; rw [HX.out]) | (go_at_call 32; refine (not_any _ _ hm).mono ?_; rintro e w' ⟨rfl, rfl⟩))
    go_upto_region 7 with fail
    have hlt := hB6.lt
    obtain ⟨p, cap, k1, k1f, hC⟩ := id hB6
    go_cut [10, 11] (fun s10 s11 wx => ∃ b10 : Nat, s10 = .pointer (some ⟨b10, 0, none⟩) ∧ w.heap.size ≤ b10 ∧ s11 = .int .i64 x ∧ Bx wx b10 c ∧ Bx wx b6 c ∧ Below w.heap.size w wx)
    case first =>
      as_aux_lemma =>
        go_wp2_with (first | (go_at_call 21; refine (and_is hC (Below.refl _ _) hm (by decide) hl2 EA1.out).mono ?_; rintro e w2 ⟨p2, cap2, rfl, hC2, hbl⟩))
        have hsW := hW.size
        have hs := hbl.size
        have hl6 := hB6.lt
        go_meet
        exact ⟨_, rfl, (by omega), rfl, Bx.new hC2 _, (hB6.up hbl).alloc _, (bal (btr hW hbl) _)⟩
    case rest =>
      clear hlt k1 k1f hC hB6 hW
      obtain ⟨b10, rfl, hb10, rfl, hB10, hB6, hW⟩ := hcut
      go_upto_region 8 with fail
      have hlt := hB6.lt
      obtain ⟨p, cap, k1, k1f, hC⟩ := id hB6
      go_cut [12, 13] (fun s12 s13 wx => ∃ b12 : Nat, s12 = .pointer (some ⟨b12, 0, none⟩) ∧ w.heap.size ≤ b12 ∧ s13 = .int .i64 1 ∧ Bx wx b12 c ∧ Bx wx b10 c ∧ Bx wx b6 c ∧ Below w.heap.size w wx)
      case first =>
        as_aux_lemma =>
          go_wp2_with (first | (go_at_call 21; refine (and_is hC (Below.refl _ _) (by decide) hm hl2 EA2.out).mono ?_; rintro e w2 ⟨p2, cap2, rfl, hC2, hbl⟩))
          have hsW := hW.size
          have hs := hbl.size
          have hl10 := hB10.lt
          have hl6 := hB6.lt
          go_meet
          exact ⟨_, rfl, (by omega), rfl, Bx.new hC2 _, (hB10.up hbl).alloc _, (hB6.up hbl).alloc _, (bal (btr hW hbl) _)⟩
      case rest =>
        clear hlt k1 k1f hC hB10 hB6 hW
        obtain ⟨b12, rfl, hb12, rfl, hB12, hB10, hB6, hW⟩ := hcut
        go_upto_region 9 with fail
        have hlt := hB6.lt
        obtain ⟨p, cap, k1, k1f, hC⟩ := id hB6
        go_cut [14, 15] (fun s14 s15 wx => ∃ b14 : Nat, s14 = .pointer (some ⟨b14, 0, none⟩) ∧ w.heap.size ≤ b14 ∧ s15 = .int .i64 x ∧ Bx wx b14 c ∧ Bx wx b12 c ∧ Bx wx b10 c ∧ Bx wx b6 c ∧ Below w.heap.size w wx)
        case first =>
          as_aux_lemma =>
            go_wp2_with (first | (go_at_call 21; refine (and_is hC (Below.refl _ _) hm hm hl2 EA3.out).mono ?_; rintro e w2 ⟨p2, cap2, rfl, hC2, hbl⟩))
            have hsW := hW.size
            have hs := hbl.size
            have hl12 := hB12.lt
            have hl10 := hB10.lt
            have hl6 := hB6.lt
            go_meet
            exact ⟨_, rfl, (by omega), rfl, Bx.new hC2 _, (hB12.up hbl).alloc _, (hB10.up hbl).alloc _, (hB6.up hbl).alloc _, (bal (btr hW hbl) _)⟩
        case rest =>
          clear hlt k1 k1f hC hB12 hB10 hB6 hW
          obtain ⟨b14, rfl, hb14, rfl, hB14, hB12, hB10, hB6, hW⟩ := hcut
          go_upto_region 10 with fail
          have hlt := hB6.lt
          obtain ⟨p, cap, k1, k1f, hC⟩ := id hB6
          go_cut [16, 17] (fun s16 s17 wx => ∃ b16 : Nat, s16 = .pointer (some ⟨b16, 0, none⟩) ∧ w.heap.size ≤ b16 ∧ s17 = .int .i64 1 ∧ Bx wx b16 c ∧ Bx wx b14 c ∧ Bx wx b12 c ∧ Bx wx b10 c ∧ Bx wx b6 c ∧ Below w.heap.size w wx)
          case first =>
            as_aux_lemma =>
              go_wp2_with (first | (go_at_call 21; refine (and_is hC (Below.refl _ _) hmn hm hl2 EA4.out).mono ?_; rintro e w2 ⟨p2, cap2, rfl, hC2, hbl⟩))
              have hsW := hW.size
              have hs := hbl.size
              have hl14 := hB14.lt
              have hl12 := hB12.lt
              have hl10 := hB10.lt
              have hl6 := hB6.lt
              go_meet
              exact ⟨_, rfl, (by omega), rfl, Bx.new hC2 _, (hB14.up hbl).alloc _, (hB12.up hbl).alloc _, (hB10.up hbl).alloc _, (hB6.up hbl).alloc _, (bal (btr hW hbl) _)⟩
          case rest =>
            clear hlt k1 k1f hC hB14 hB12 hB10 hB6 hW
            obtain ⟨b16, rfl, hb16, rfl, hB16, hB14, hB12, hB10, hB6, hW⟩ := hcut
            go_upto_region 11 with fail
            have hlt := hB6.lt
            obtain ⟨p, cap, k1, k1f, hC⟩ := id hB6
            go_cut [18, 19] (fun s18 s19 wx => ∃ b18 : Nat, s18 = .pointer (some ⟨b18, 0, none⟩) ∧ w.heap.size ≤ b18 ∧ s19 = .int .i64 0 ∧ Bx wx b18 c ∧ Bx wx b16 c ∧ Bx wx b14 c ∧ Bx wx b12 c ∧ Bx wx b10 c ∧ Bx wx b6 c ∧ Below w.heap.size w wx)
            case first =>
              as_aux_lemma =>
                go_wp2_with (first | (go_at_call 23; refine (or_is hC (Below.refl _ _) hm hmn hl2 EO1.out).mono ?_; rintro e w2 ⟨p2, cap2, rfl, hC2, hbl⟩))
                have hsW := hW.size
                have hs := hbl.size
                have hl16 := hB16.lt
                have hl14 := hB14.lt
                have hl12 := hB12.lt
                have hl10 := hB10.lt
                have hl6 := hB6.lt
                go_meet
                exact ⟨_, rfl, (by omega), rfl, Bx.new hC2 _, (hB16.up hbl).alloc _, (hB14.up hbl).alloc _, (hB12.up hbl).alloc _, (hB10.up hbl).alloc _, (hB6.up hbl).alloc _, (bal (btr hW hbl) _)⟩
            case rest =>
              clear hlt k1 k1f hC hB16 hB14 hB12 hB10 hB6 hW
              obtain ⟨b18, rfl, hb18, rfl, hB18, hB16, hB14, hB12, hB10, hB6, hW⟩ := hcut
              go_upto_region 12 with fail
              have hlt := hB6.lt
              obtain ⟨p, cap, k1, k1f, hC⟩ := id hB6
              go_cut [20, 21] (fun s20 s21 wx => ∃ b20 : Nat, s20 = .pointer (some ⟨b20, 0, none⟩) ∧ w.heap.size ≤ b20 ∧ s21 = .int .i64 x ∧ Bx wx b20 c ∧ Bx wx b18 c ∧ Bx wx b16 c ∧ Bx wx b14 c ∧ Bx wx b12 c ∧ Bx wx b10 c ∧ Bx wx b6 c ∧ Below w.heap.size w wx)
              case first =>
                as_aux_lemma =>
                  go_wp2_with (first | (go_at_call 23; refine (or_is hC (Below.refl _ _) hm (by decide) hl2 EO2.out).mono ?_; rintro e w2 ⟨p2, cap2, rfl, hC2, hbl⟩))
                  have hsW := hW.size
                  have hs := hbl.size
                  have hl18 := hB18.lt
                  have hl16 := hB16.lt
                  have hl14 := hB14.lt
                  have hl12 := hB12.lt
                  have hl10 := hB10.lt
                  have hl6 := hB6.lt
                  go_meet
                  exact ⟨_, rfl, (by omega), rfl, Bx.new hC2 _, (hB18.up hbl).alloc _, (hB16.up hbl).alloc _, (hB14.up hbl).alloc _, (hB12.up hbl).alloc _, (hB10.up hbl).alloc _, (hB6.up hbl).alloc _, (bal (btr hW hbl) _)⟩
              case rest =>
                clear hlt k1 k1f hC hB18 hB16 hB14 hB12 hB10 hB6 hW
                obtain ⟨b20, rfl, hb20, rfl, hB20, hB18, hB16, hB14, hB12, hB10, hB6, hW⟩ := hcut
                go_upto_region 13 with fail
                have hlt := hB6.lt
                obtain ⟨p, cap, k1, k1f, hC⟩ := id hB6
                go_cut [22, 23] (fun s22 s23 wx => ∃ b22 : Nat, s22 = .pointer (some ⟨b22, 0, none⟩) ∧ w.heap.size ≤ b22 ∧ s23 = .int .i64 0 ∧ Bx wx b22 c ∧ Bx wx b20 c ∧ Bx wx b18 c ∧ Bx wx b16 c ∧ Bx wx b14 c ∧ Bx wx b12 c ∧ Bx wx b10 c ∧ Bx wx b6 c ∧ Below w.heap.size w wx)
                case first =>
                  as_aux_lemma =>
                    go_wp2_with (first | (go_at_call 25; refine (iff_is hC (Below.refl _ _) hm hm hl2 EF1.out).mono ?_; rintro e w2 ⟨p2, cap2, rfl, hC2, hbl⟩))
                    have hsW := hW.size
                    have hs := hbl.size
                    have hl20 := hB20.lt
                    have hl18 := hB18.lt
                    have hl16 := hB16.lt
                    have hl14 := hB14.lt
                    have hl12 := hB12.lt
                    have hl10 := hB10.lt
                    have hl6 := hB6.lt
                    go_meet
                    exact ⟨_, rfl, (by omega), rfl, Bx.new hC2 _, (hB20.up hbl).alloc _, (hB18.up hbl).alloc _, (hB16.up hbl).alloc _, (hB14.up hbl).alloc _, (hB12.up hbl).alloc _, (hB10.up hbl).alloc _, (hB6.up hbl).alloc _, (bal (btr hW hbl) _)⟩
                case rest =>
                  clear hlt k1 k1f hC hB20 hB18 hB16 hB14 hB12 hB10 hB6 hW
                  obtain ⟨b22, rfl, hb22, rfl, hB22, hB20, hB18, hB16, hB14, hB12, hB10, hB6, hW⟩ := hcut
                  go_upto_region 14 with fail
                  have hlt := hB6.lt
                  obtain ⟨p, cap, k1, k1f, hC⟩ := id hB6
                  go_cut [24, 25] (fun s24 s25 wx => ∃ b24 : Nat, s24 = .pointer (some ⟨b24, 0, none⟩) ∧ w.heap.size ≤ b24 ∧ s25 = .int .i64 x ∧ Bx wx b24 c ∧ Bx wx b22 c ∧ Bx wx b20 c ∧ Bx wx b18 c ∧ Bx wx b16 c ∧ Bx wx b14 c ∧ Bx wx b12 c ∧ Bx wx b10 c ∧ Bx wx b6 c ∧ Below w.heap.size w wx)
                  case first =>
                    as_aux_lemma =>
                      go_wp2_with (first | (go_at_call 25; refine (iff_is hC (Below.refl _ _) hm (by decide) hl2 EF2.out).mono ?_; rintro e w2 ⟨p2, cap2, rfl, hC2, hbl⟩))
                      have hsW := hW.size
                      have hs := hbl.size
                      have hl22 := hB22.lt
                      have hl20 := hB20.lt
                      have hl18 := hB18.lt
                      have hl16 := hB16.lt
                      have hl14 := hB14.lt
                      have hl12 := hB12.lt
                      have hl10 := hB10.lt
                      have hl6 := hB6.lt
                      go_meet
                      exact ⟨_, rfl, (by omega), rfl, Bx.new hC2 _, (hB22.up hbl).alloc _, (hB20.up hbl).alloc _, (hB18.up hbl).alloc _, (hB16.up hbl).alloc _, (hB14.up hbl).alloc _, (hB12.up hbl).alloc _, (hB10.up hbl).alloc _, (hB6.up hbl).alloc _, (bal (btr hW hbl) _)⟩
                  case rest =>
                    clear hlt k1 k1f hC hB22 hB20 hB18 hB16 hB14 hB12 hB10 hB6 hW
                    obtain ⟨b24, rfl, hb24, rfl, hB24, hB22, hB20, hB18, hB16, hB14, hB12, hB10, hB6, hW⟩ := hcut
                    obtain ⟨p24, c24, k24, _, _⟩ := id hB24
                    obtain ⟨p22, c22, k22, _, _⟩ := id hB22
                    obtain ⟨p20, c20, k20, _, _⟩ := id hB20
                    obtain ⟨p18, c18, k18, _, _⟩ := id hB18
                    obtain ⟨p16, c16, k16, _, _⟩ := id hB16
                    obtain ⟨p14, c14, k14, _, _⟩ := id hB14
                    obtain ⟨p12, c12, k12, _, _⟩ := id hB12
                    obtain ⟨p10, c10, k10, _, _⟩ := id hB10
                    obtain ⟨p6, c6, k6, _, _⟩ := id hB6
                    go_wp2_with (first | (go_at_call 32; refine (not_any _ _ hmn).mono ?_; rintro e w' ⟨rfl, rfl⟩; rw [hinv.out]))
                    go_ret
                    exact ⟨rfl, hW⟩
end Go.Proofs.Ytanlecgpnknhoaa
