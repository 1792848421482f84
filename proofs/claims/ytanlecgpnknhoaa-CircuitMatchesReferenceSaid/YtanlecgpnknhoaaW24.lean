/- Walk of CircuitMatchesReference. -/
import Derived.Test.YtanlecgpnknhoaaW17
import Derived.Test.YtanlecgpnknhoaaW15r
import Derived.Test.YtanlecgpnknhoaaPlain6
import Derived.Test.YtanlecgpnknhoaaSeq
namespace Go.Proofs.Ytanlecgpnknhoaa
set_option linter.unusedSimpArgs false
set_option linter.unusedVariables false
open Go.RowKit

set_option maxRecDepth 100000 in
set_option maxHeartbeats 8000000 in
theorem matches_any (l : List Step) (p0 : Option Addr) (cap0 : Nat) (raw : List Gate) (pr : Option Addr) (cr : Nat) (v : Int) (a : Int) (b : Int) (vals : List Bool) (pv : Option Addr) (cv : Nat) (w : World) (hl : l.length ≤ maxLen) (hs : ∀ s ∈ l, s.k < 256 ∧ s.a < 256 ∧ s.b < 256) (hg : StepsAt w p0 l) (hraw : CAt w pr cr raw) (hv : v ≤ 9223372036854775807) (ha : a ≤ 9223372036854775807) (hb : b ≤ 9223372036854775807) (hvalsl : vals.length ≤ maxLen) (hvals : BoolsAt w pv vals) :
    Calls Try.prog 3 #[.slice p0 l.length cap0, .agg #[.slice pr raw.length cr], .int .i64 v, .int .i64 a, .int .i64 b, .slice pv vals.length cv] w (RetB w true) := by
  unfold maxLen at hl hvalsl
  have Hs := Lib.hid hs; have Hg := Lib.hid hg; clear hs hg
  have hrawl : raw.length ≤ 9223372036854775807 := by have h1 := hraw.le; have h2 := hraw.cm; unfold maxLen at h2; omega
  have Hraw := Lib.hid hraw; clear hraw
  have Hvals := Lib.hid hvals; clear hvals
  by_cases h60l : (60 : Int) < (l.length : Int)
  · go_enter Try.func3, Try.ntmps3
    go_wp2_with (first | (go_at_call 17; refine (head_any _).mono ?_; rintro e w1 ⟨rfl, hb1⟩; have k7 := oldcell (b := w.heap.size) (o := 0) (v := .slice pr raw.length cr) hb1 (by go_cell) (by simp)))
    go_ret
    exact ⟨rfl, by first | exact hb1 | exact btr (bal (Below.refl _ _) _) hb1 | go_grown⟩
  by_cases h60raw : (60 : Int) < (raw.length : Int)
  · go_enter Try.func3, Try.ntmps3
    go_wp2_with (first | (go_at_call 17; refine (head_any _).mono ?_; rintro e w1 ⟨rfl, hb1⟩; have k7 := oldcell (b := w.heap.size) (o := 0) (v := .slice pr raw.length cr) hb1 (by go_cell) (by simp)))
    go_ret
    exact ⟨rfl, by first | exact hb1 | exact btr (bal (Below.refl _ _) _) hb1 | go_grown⟩
  by_cases h60vals : (60 : Int) < (vals.length : Int)
  · go_enter Try.func3, Try.ntmps3
    go_wp2_with (first | (go_at_call 17; refine (head_any _).mono ?_; rintro e w1 ⟨rfl, hb1⟩; have k7 := oldcell (b := w.heap.size) (o := 0) (v := .slice pr raw.length cr) hb1 (by go_cell) (by simp)))
    go_ret
    exact ⟨rfl, by first | exact hb1 | exact btr (bal (Below.refl _ _) _) hb1 | go_grown⟩
  have HB := Lib.hid (built l (by omega))
  have Hle := Lib.hid (cbuild_le l)
  have Hlen := Lib.hid HB.out.len
  obtain ⟨c, refs, hcb⟩ : ∃ c refs, cbuild l = (c, refs) := ⟨_, _, rfl⟩
  have Hcb := Lib.hid hcb
  have HG := Lib.hid (show Good c by have := HB.out.good; rw [hcb] at this; exact this)
  have HR := Lib.hid (show RefsIn refs c.length by have := HB.out.refs; rw [hcb] at this; exact this)
  have hc : 0 < c.length := HG.out.ne
  have hcl : c.length ≤ 181 := by have := Hlen.out; rw [hcb] at this; dsimp only at this; omega
  have hrl : refs.length ≤ 60 := by have := Hle.out.2.2; rw [hcb] at this; dsimp only at this; omega
  have Hr := Lib.hid (show ∀ r ∈ refs, r ≤ 9223372036854775807 from fun r hr => by have := Hle.out.2.1 r (by rw [hcb]; exact hr); omega)
  clear HB Hle Hlen hcb
  have hl2 : c.length ≤ 20000 := by omega
  have hl3 : c.length + 3 ≤ 20000 := by omega
  obtain ⟨D, i1, e1⟩ : ∃ D p, cinput c v = (D, p) := ⟨_, _, rfl⟩
  obtain ⟨E, i2, e2⟩ : ∃ D p, cand c a b = (D, p) := ⟨_, _, rfl⟩
  obtain ⟨F, i3, e3⟩ : ∃ D p, cor c a b = (D, p) := ⟨_, _, rfl⟩
  obtain ⟨G, i4, e4⟩ : ∃ D p, ciff c a b = (D, p) := ⟨_, _, rfl⟩
  obtain ⟨V, eV⟩ : ∃ z, cvalid raw = z := ⟨_, rfl⟩
  obtain ⟨X, eX⟩ : ∃ z, ceval c vals a = z := ⟨_, rfl⟩
  have E1 := Lib.hid e1; have E2 := Lib.hid e2; have E3 := Lib.hid e3; have E4 := Lib.hid e4; have EV := Lib.hid eV; have EX := Lib.hid eX
  have WC := Lib.hid HG.out.wf
  have CV := Lib.hid (HG.out.valid hl2)
  have hvm : vals.length ≤ maxLen := by unfold maxLen; omega
  clear e1 e2 e3 e4 eV eX
  go_enter Try.func3, Try.ntmps3
  go_upto_region 4 with (first | (go_at_call 17; refine (head_any _).mono ?_; rintro e w1 ⟨rfl, hb1⟩; have k7 := oldcell (b := w.heap.size) (o := 0) (v := .slice pr raw.length cr) hb1 (by go_cell) (by simp)))
  have hB7 := (Bx.new Hraw.out 25).up hb1
  have hb0 : Below w.heap.size w w1 := btr (bal (Below.refl _ _) _) hb1
  have hsz := hb0.size
  clear k7
  go_cut [7, 14, 15] (fun s7 s14 s15 wx => ∃ (b7 b14 : Nat) (q : Option Addr) (cq : Nat), s7 = .pointer (some ⟨b7, 0, none⟩) ∧ s14 = .pointer (some ⟨b14, 0, none⟩) ∧ s15 = .slice q refs.length cq ∧ w.heap.size ≤ b14 ∧ Bx wx b14 c ∧ Bx wx b7 raw ∧ Below w.heap.size w wx)
  case first =>
    go_wp2_with (first | (go_at_call 18; refine (rbuild_any l _ _ _ (by omega) Hs.out (Hg.out.mono (by first | exact hb0 | go_grown))).mono ?_; rintro e w2 ⟨p2, cap2, q2, cq2, rfl, u1, u2, u3, u4, u5, u6, u7, u8, hbl⟩; rw [Hcb.out] at u1 u4 u5 u8; dsimp only at u1 u4 u5 u8; rw [Hcb.out]; dsimp only))
    have hs2 := hbl.size
    go_meet
    exact ⟨_, _, _, _, rfl, rfl, rfl, by omega, Bx.new ⟨u1, u2, u3, u4⟩ _, (hB7.up hbl).alloc _, bal (btr hb0 hbl) _⟩
  case rest =>
    clear hb1 hb0 hsz hB7
    obtain ⟨b7, b14, q, cq, rfl, rfl, rfl, hb14, hB14, hB7, hW⟩ := hcut
    go_upto_region 5 with fail
    have hlt := hB14.lt
    obtain ⟨p, cap, k1, k1f, hC⟩ := id hB14
    go_cut [16, 17] (fun s16 s17 wx => ∃ b16 : Nat, s16 = .pointer (some ⟨b16, 0, none⟩) ∧ w.heap.size ≤ b16 ∧ s17 = .int .i64 i1 ∧ Bx wx b16 D ∧ Bx wx b14 c ∧ Bx wx b7 raw ∧ Below w.heap.size w wx)
    case first =>
      as_aux_lemma =>
        go_wp2_with (first | (go_at_call 19; refine (input_is hC (Below.refl _ _) E1.out hl2).mono ?_; rintro e w2 ⟨p2, cap2, rfl, hC2, hbl⟩))
        have hsW := hW.size
        have hs := hbl.size
        have hl14 := hB14.lt
        have hl7 := hB7.lt
        go_meet
        exact ⟨_, rfl, (by omega), rfl, Bx.new hC2 _, (hB14.up hbl).alloc _, (hB7.up hbl).alloc _, (bal (btr hW hbl) _)⟩
    case rest =>
      clear hlt k1 k1f hC hB14 hB7 hW
      obtain ⟨b16, rfl, hb16, rfl, hB16, hB14, hB7, hW⟩ := hcut
      go_upto_region 6 with fail
      have hlt := hB14.lt
      obtain ⟨p, cap, k1, k1f, hC⟩ := id hB14
      go_cut [18, 19] (fun s18 s19 wx => ∃ b18 : Nat, s18 = .pointer (some ⟨b18, 0, none⟩) ∧ w.heap.size ≤ b18 ∧ s19 = .int .i64 i1 ∧ Bx wx b18 D ∧ Bx wx b16 D ∧ Bx wx b14 c ∧ Bx wx b7 raw ∧ Below w.heap.size w wx)
      case first =>
        as_aux_lemma =>
          go_wp2_with (first | (go_at_call 20; refine (rinput_is hC (Below.refl _ _) E1.out hl2).mono ?_; rintro e w2 ⟨p2, cap2, rfl, hC2, hbl⟩))
          have hsW := hW.size
          have hs := hbl.size
          have hl16 := hB16.lt
          have hl14 := hB14.lt
          have hl7 := hB7.lt
          go_meet
          exact ⟨_, rfl, (by omega), rfl, Bx.new hC2 _, (hB16.up hbl).alloc _, (hB14.up hbl).alloc _, (hB7.up hbl).alloc _, (bal (btr hW hbl) _)⟩
      case rest =>
        clear hlt k1 k1f hC hB16 hB14 hB7 hW
        obtain ⟨b18, rfl, hb18, rfl, hB18, hB16, hB14, hB7, hW⟩ := hcut
        go_upto_region 7 with fail
        have hlt := hB14.lt
        obtain ⟨p, cap, k1, k1f, hC⟩ := id hB14
        go_cut [20, 21] (fun s20 s21 wx => ∃ b20 : Nat, s20 = .pointer (some ⟨b20, 0, none⟩) ∧ w.heap.size ≤ b20 ∧ s21 = .int .i64 i2 ∧ Bx wx b20 E ∧ Bx wx b18 D ∧ Bx wx b16 D ∧ Bx wx b14 c ∧ Bx wx b7 raw ∧ Below w.heap.size w wx)
        case first =>
          as_aux_lemma =>
            go_wp2_with (first | (go_at_call 21; refine (and_is hC (Below.refl _ _) ha hb hl2 E2.out).mono ?_; rintro e w2 ⟨p2, cap2, rfl, hC2, hbl⟩))
            have hsW := hW.size
            have hs := hbl.size
            have hl18 := hB18.lt
            have hl16 := hB16.lt
            have hl14 := hB14.lt
            have hl7 := hB7.lt
            go_meet
            exact ⟨_, rfl, (by omega), rfl, Bx.new hC2 _, (hB18.up hbl).alloc _, (hB16.up hbl).alloc _, (hB14.up hbl).alloc _, (hB7.up hbl).alloc _, (bal (btr hW hbl) _)⟩
        case rest =>
          clear hlt k1 k1f hC hB18 hB16 hB14 hB7 hW
          obtain ⟨b20, rfl, hb20, rfl, hB20, hB18, hB16, hB14, hB7, hW⟩ := hcut
          go_upto_region 8 with fail
          have hlt := hB14.lt
          obtain ⟨p, cap, k1, k1f, hC⟩ := id hB14
          go_cut [22, 23] (fun s22 s23 wx => ∃ b22 : Nat, s22 = .pointer (some ⟨b22, 0, none⟩) ∧ w.heap.size ≤ b22 ∧ s23 = .int .i64 i2 ∧ Bx wx b22 E ∧ Bx wx b20 E ∧ Bx wx b18 D ∧ Bx wx b16 D ∧ Bx wx b14 c ∧ Bx wx b7 raw ∧ Below w.heap.size w wx)
          case first =>
            as_aux_lemma =>
              go_wp2_with (first | (go_at_call 22; refine (rand_is hC (Below.refl _ _) ha hb hl2 E2.out).mono ?_; rintro e w2 ⟨p2, cap2, rfl, hC2, hbl⟩))
              have hsW := hW.size
              have hs := hbl.size
              have hl20 := hB20.lt
              have hl18 := hB18.lt
              have hl16 := hB16.lt
              have hl14 := hB14.lt
              have hl7 := hB7.lt
              go_meet
              exact ⟨_, rfl, (by omega), rfl, Bx.new hC2 _, (hB20.up hbl).alloc _, (hB18.up hbl).alloc _, (hB16.up hbl).alloc _, (hB14.up hbl).alloc _, (hB7.up hbl).alloc _, (bal (btr hW hbl) _)⟩
          case rest =>
            clear hlt k1 k1f hC hB20 hB18 hB16 hB14 hB7 hW
            obtain ⟨b22, rfl, hb22, rfl, hB22, hB20, hB18, hB16, hB14, hB7, hW⟩ := hcut
            go_upto_region 9 with fail
            have hlt := hB14.lt
            obtain ⟨p, cap, k1, k1f, hC⟩ := id hB14
            go_cut [24, 25] (fun s24 s25 wx => ∃ b24 : Nat, s24 = .pointer (some ⟨b24, 0, none⟩) ∧ w.heap.size ≤ b24 ∧ s25 = .int .i64 i3 ∧ Bx wx b24 F ∧ Bx wx b22 E ∧ Bx wx b20 E ∧ Bx wx b18 D ∧ Bx wx b16 D ∧ Bx wx b14 c ∧ Bx wx b7 raw ∧ Below w.heap.size w wx)
            case first =>
              as_aux_lemma =>
                go_wp2_with (first | (go_at_call 23; refine (or_is hC (Below.refl _ _) ha hb hl2 E3.out).mono ?_; rintro e w2 ⟨p2, cap2, rfl, hC2, hbl⟩))
                have hsW := hW.size
                have hs := hbl.size
                have hl22 := hB22.lt
                have hl20 := hB20.lt
                have hl18 := hB18.lt
                have hl16 := hB16.lt
                have hl14 := hB14.lt
                have hl7 := hB7.lt
                go_meet
                exact ⟨_, rfl, (by omega), rfl, Bx.new hC2 _, (hB22.up hbl).alloc _, (hB20.up hbl).alloc _, (hB18.up hbl).alloc _, (hB16.up hbl).alloc _, (hB14.up hbl).alloc _, (hB7.up hbl).alloc _, (bal (btr hW hbl) _)⟩
            case rest =>
              clear hlt k1 k1f hC hB22 hB20 hB18 hB16 hB14 hB7 hW
              obtain ⟨b24, rfl, hb24, rfl, hB24, hB22, hB20, hB18, hB16, hB14, hB7, hW⟩ := hcut
              go_upto_region 10 with fail
              have hlt := hB14.lt
              obtain ⟨p, cap, k1, k1f, hC⟩ := id hB14
              go_cut [26, 27] (fun s26 s27 wx => ∃ b26 : Nat, s26 = .pointer (some ⟨b26, 0, none⟩) ∧ w.heap.size ≤ b26 ∧ s27 = .int .i64 i3 ∧ Bx wx b26 F ∧ Bx wx b24 F ∧ Bx wx b22 E ∧ Bx wx b20 E ∧ Bx wx b18 D ∧ Bx wx b16 D ∧ Bx wx b14 c ∧ Bx wx b7 raw ∧ Below w.heap.size w wx)
              case first =>
                as_aux_lemma =>
                  go_wp2_with (first | (go_at_call 24; refine (ror_is hC (Below.refl _ _) ha hb hl2 E3.out).mono ?_; rintro e w2 ⟨p2, cap2, rfl, hC2, hbl⟩))
                  have hsW := hW.size
                  have hs := hbl.size
                  have hl24 := hB24.lt
                  have hl22 := hB22.lt
                  have hl20 := hB20.lt
                  have hl18 := hB18.lt
                  have hl16 := hB16.lt
                  have hl14 := hB14.lt
                  have hl7 := hB7.lt
                  go_meet
                  exact ⟨_, rfl, (by omega), rfl, Bx.new hC2 _, (hB24.up hbl).alloc _, (hB22.up hbl).alloc _, (hB20.up hbl).alloc _, (hB18.up hbl).alloc _, (hB16.up hbl).alloc _, (hB14.up hbl).alloc _, (hB7.up hbl).alloc _, (bal (btr hW hbl) _)⟩
              case rest =>
                clear hlt k1 k1f hC hB24 hB22 hB20 hB18 hB16 hB14 hB7 hW
                obtain ⟨b26, rfl, hb26, rfl, hB26, hB24, hB22, hB20, hB18, hB16, hB14, hB7, hW⟩ := hcut
                go_upto_region 11 with fail
                have hlt := hB14.lt
                obtain ⟨p, cap, k1, k1f, hC⟩ := id hB14
                go_cut [28, 29] (fun s28 s29 wx => ∃ b28 : Nat, s28 = .pointer (some ⟨b28, 0, none⟩) ∧ w.heap.size ≤ b28 ∧ s29 = .int .i64 i4 ∧ Bx wx b28 G ∧ Bx wx b26 F ∧ Bx wx b24 F ∧ Bx wx b22 E ∧ Bx wx b20 E ∧ Bx wx b18 D ∧ Bx wx b16 D ∧ Bx wx b14 c ∧ Bx wx b7 raw ∧ Below w.heap.size w wx)
                case first =>
                  as_aux_lemma =>
                    go_wp2_with (first | (go_at_call 25; refine (iff_is hC (Below.refl _ _) ha hb hl2 E4.out).mono ?_; rintro e w2 ⟨p2, cap2, rfl, hC2, hbl⟩))
                    have hsW := hW.size
                    have hs := hbl.size
                    have hl26 := hB26.lt
                    have hl24 := hB24.lt
                    have hl22 := hB22.lt
                    have hl20 := hB20.lt
                    have hl18 := hB18.lt
                    have hl16 := hB16.lt
                    have hl14 := hB14.lt
                    have hl7 := hB7.lt
                    go_meet
                    exact ⟨_, rfl, (by omega), rfl, Bx.new hC2 _, (hB26.up hbl).alloc _, (hB24.up hbl).alloc _, (hB22.up hbl).alloc _, (hB20.up hbl).alloc _, (hB18.up hbl).alloc _, (hB16.up hbl).alloc _, (hB14.up hbl).alloc _, (hB7.up hbl).alloc _, (bal (btr hW hbl) _)⟩
                case rest =>
                  clear hlt k1 k1f hC hB26 hB24 hB22 hB20 hB18 hB16 hB14 hB7 hW
                  obtain ⟨b28, rfl, hb28, rfl, hB28, hB26, hB24, hB22, hB20, hB18, hB16, hB14, hB7, hW⟩ := hcut
                  go_upto_region 12 with fail
                  have hlt := hB14.lt
                  obtain ⟨p, cap, k1, k1f, hC⟩ := id hB14
                  go_cut [30, 31] (fun s30 s31 wx => ∃ b30 : Nat, s30 = .pointer (some ⟨b30, 0, none⟩) ∧ w.heap.size ≤ b30 ∧ s31 = .int .i64 i4 ∧ Bx wx b30 G ∧ Bx wx b28 G ∧ Bx wx b26 F ∧ Bx wx b24 F ∧ Bx wx b22 E ∧ Bx wx b20 E ∧ Bx wx b18 D ∧ Bx wx b16 D ∧ Bx wx b14 c ∧ Bx wx b7 raw ∧ Below w.heap.size w wx)
                  case first =>
                    as_aux_lemma =>
                      go_wp2_with (first | (go_at_call 26; refine (riff_is hC (Below.refl _ _) ha hb hl2 E4.out).mono ?_; rintro e w2 ⟨p2, cap2, rfl, hC2, hbl⟩))
                      have hsW := hW.size
                      have hs := hbl.size
                      have hl28 := hB28.lt
                      have hl26 := hB26.lt
                      have hl24 := hB24.lt
                      have hl22 := hB22.lt
                      have hl20 := hB20.lt
                      have hl18 := hB18.lt
                      have hl16 := hB16.lt
                      have hl14 := hB14.lt
                      have hl7 := hB7.lt
                      go_meet
                      exact ⟨_, rfl, (by omega), rfl, Bx.new hC2 _, (hB28.up hbl).alloc _, (hB26.up hbl).alloc _, (hB24.up hbl).alloc _, (hB22.up hbl).alloc _, (hB20.up hbl).alloc _, (hB18.up hbl).alloc _, (hB16.up hbl).alloc _, (hB14.up hbl).alloc _, (hB7.up hbl).alloc _, (bal (btr hW hbl) _)⟩
                  case rest =>
                    clear hlt k1 k1f hC hB28 hB26 hB24 hB22 hB20 hB18 hB16 hB14 hB7 hW
                    obtain ⟨b30, rfl, hb30, rfl, hB30, hB28, hB26, hB24, hB22, hB20, hB18, hB16, hB14, hB7, hW⟩ := hcut
                    go_upto_region 13 with fail
                    obtain ⟨p22, c22, k22, k22f, hC22⟩ := id hB22
                    obtain ⟨p20, c20, k20, k20f, hC20⟩ := id hB20
                    obtain ⟨p18, c18, k18, k18f, hC18⟩ := id hB18
                    obtain ⟨p16, c16, k16, k16f, hC16⟩ := id hB16
                    go_cut [32] (fun sx wx => sx = .bool true ∧ Bx wx b30 G ∧ Bx wx b28 G ∧ Bx wx b26 F ∧ Bx wx b24 F ∧ Bx wx b14 c ∧ Bx wx b7 raw ∧ Below w.heap.size w wx)
                    case first =>
                      as_aux_lemma =>
                        have T1 := Lib.hid (fun (w' : World) (hB : Below wc.heap.size wc w') => show Calls Try.prog 27 #[.agg #[.slice p16 (D).length c16], .agg #[.slice p18 (D).length c18]] w' (RetB w' true) from same_is hC16 hC18 hB (csame_self _))
                        have T2 := Lib.hid (fun (w' : World) (hB : Below wc.heap.size wc w') => show Calls Try.prog 27 #[.agg #[.slice p20 (E).length c20], .agg #[.slice p22 (E).length c22]] w' (RetB w' true) from same_is hC20 hC22 hB (csame_self _))
                        go_wp2_with (first | (go_at_call 27; (with_reducible refine (T1.out _ (by first | exact HB | exact Below.refl _ _ | go_grown)).mono ?_); rintro e w2 ⟨rfl, hbl⟩; have k16 := oldcell (b := b16) (o := 0) (v := .slice p16 (D).length c16) hbl (by first | assumption | go_cell) (by first | exact World.block_lt_of_cell? _ _ k16 | (simp; omega)); have k18 := oldcell (b := b18) (o := 0) (v := .slice p18 (D).length c18) hbl (by first | assumption | go_cell) (by first | exact World.block_lt_of_cell? _ _ k18 | (simp; omega)); have k20 := oldcell (b := b20) (o := 0) (v := .slice p20 (E).length c20) hbl (by first | assumption | go_cell) (by first | exact World.block_lt_of_cell? _ _ k20 | (simp; omega)); have k22 := oldcell (b := b22) (o := 0) (v := .slice p22 (E).length c22) hbl (by first | assumption | go_cell) (by first | exact World.block_lt_of_cell? _ _ k22 | (simp; omega)); have HB : Below wc.heap.size wc w2 := by first | exact btr HB hbl | exact hbl | exact btr (by go_grown) hbl) | (go_at_call 27; (with_reducible refine (T2.out _ (by first | exact HB | exact Below.refl _ _ | go_grown)).mono ?_); rintro e w2 ⟨rfl, hbl⟩; have k16 := oldcell (b := b16) (o := 0) (v := .slice p16 (D).length c16) hbl (by first | assumption | go_cell) (by first | exact World.block_lt_of_cell? _ _ k16 | (simp; omega)); have k18 := oldcell (b := b18) (o := 0) (v := .slice p18 (D).length c18) hbl (by first | assumption | go_cell) (by first | exact World.block_lt_of_cell? _ _ k18 | (simp; omega)); have k20 := oldcell (b := b20) (o := 0) (v := .slice p20 (E).length c20) hbl (by first | assumption | go_cell) (by first | exact World.block_lt_of_cell? _ _ k20 | (simp; omega)); have k22 := oldcell (b := b22) (o := 0) (v := .slice p22 (E).length c22) hbl (by first | assumption | go_cell) (by first | exact World.block_lt_of_cell? _ _ k22 | (simp; omega)); have HB : Below wc.heap.size wc w2 := by first | exact btr HB hbl | exact hbl | exact btr (by go_grown) hbl))
                        go_meet
                        exact ⟨rfl, hB30.up HB, hB28.up HB, hB26.up HB, hB24.up HB, hB14.up HB, hB7.up HB, btr hW HB⟩
                    case rest =>
                      clear hW hB30 hB28 hB26 hB24 hB22 hB20 hB18 hB16 hB14 hB7 k16 k16f hC16 k18 k18f hC18 k20 k20f hC20 k22 k22f hC22
                      obtain ⟨rfl, hB30, hB28, hB26, hB24, hB14, hB7, hW⟩ := hcut
                      go_upto_region 14 with fail
                      obtain ⟨p30, c30, k30, k30f, hC30⟩ := id hB30
                      obtain ⟨p28, c28, k28, k28f, hC28⟩ := id hB28
                      obtain ⟨p26, c26, k26, k26f, hC26⟩ := id hB26
                      obtain ⟨p24, c24, k24, k24f, hC24⟩ := id hB24
                      go_cut [33] (fun sx wx => sx = .bool true ∧ Bx wx b14 c ∧ Bx wx b7 raw ∧ Below w.heap.size w wx)
                      case first =>
                        as_aux_lemma =>
                          have T1 := Lib.hid (fun (w' : World) (hB : Below wc.heap.size wc w') => show Calls Try.prog 27 #[.agg #[.slice p24 (F).length c24], .agg #[.slice p26 (F).length c26]] w' (RetB w' true) from same_is hC24 hC26 hB (csame_self _))
                          have T2 := Lib.hid (fun (w' : World) (hB : Below wc.heap.size wc w') => show Calls Try.prog 27 #[.agg #[.slice p28 (G).length c28], .agg #[.slice p30 (G).length c30]] w' (RetB w' true) from same_is hC28 hC30 hB (csame_self _))
                          go_wp2_with (first | (go_at_call 27; (with_reducible refine (T1.out _ (by first | exact HB | exact Below.refl _ _ | go_grown)).mono ?_); rintro e w2 ⟨rfl, hbl⟩; have k24 := oldcell (b := b24) (o := 0) (v := .slice p24 (F).length c24) hbl (by first | assumption | go_cell) (by first | exact World.block_lt_of_cell? _ _ k24 | (simp; omega)); have k26 := oldcell (b := b26) (o := 0) (v := .slice p26 (F).length c26) hbl (by first | assumption | go_cell) (by first | exact World.block_lt_of_cell? _ _ k26 | (simp; omega)); have k28 := oldcell (b := b28) (o := 0) (v := .slice p28 (G).length c28) hbl (by first | assumption | go_cell) (by first | exact World.block_lt_of_cell? _ _ k28 | (simp; omega)); have k30 := oldcell (b := b30) (o := 0) (v := .slice p30 (G).length c30) hbl (by first | assumption | go_cell) (by first | exact World.block_lt_of_cell? _ _ k30 | (simp; omega)); have HB : Below wc.heap.size wc w2 := by first | exact btr HB hbl | exact hbl | exact btr (by go_grown) hbl) | (go_at_call 27; (with_reducible refine (T2.out _ (by first | exact HB | exact Below.refl _ _ | go_grown)).mono ?_); rintro e w2 ⟨rfl, hbl⟩; have k24 := oldcell (b := b24) (o := 0) (v := .slice p24 (F).length c24) hbl (by first | assumption | go_cell) (by first | exact World.block_lt_of_cell? _ _ k24 | (simp; omega)); have k26 := oldcell (b := b26) (o := 0) (v := .slice p26 (F).length c26) hbl (by first | assumption | go_cell) (by first | exact World.block_lt_of_cell? _ _ k26 | (simp; omega)); have k28 := oldcell (b := b28) (o := 0) (v := .slice p28 (G).length c28) hbl (by first | assumption | go_cell) (by first | exact World.block_lt_of_cell? _ _ k28 | (simp; omega)); have k30 := oldcell (b := b30) (o := 0) (v := .slice p30 (G).length c30) hbl (by first | assumption | go_cell) (by first | exact World.block_lt_of_cell? _ _ k30 | (simp; omega)); have HB : Below wc.heap.size wc w2 := by first | exact btr HB hbl | exact hbl | exact btr (by go_grown) hbl))
                          go_meet
                          exact ⟨rfl, hB14.up HB, hB7.up HB, btr hW HB⟩
                      case rest =>
                        clear hW hB30 hB28 hB26 hB24 hB14 hB7 k24 k24f hC24 k26 k26f hC26 k28 k28f hC28 k30 k30f hC30
                        obtain ⟨rfl, hB14, hB7, hW⟩ := hcut
                        go_upto_region 15 with fail
                        obtain ⟨p14, c14, k14, k14f, hC14⟩ := id hB14
                        obtain ⟨p7, c7, k7, k7f, hC7⟩ := id hB7
                        have T1 := Lib.hid (fun (w' : World) (hB : Below wc.heap.size wc w') => show Calls Try.prog 28 #[.agg #[.slice p7 (raw).length c7]] w' (RetB w' V) from valid_is hC7 hB EV.out)
                        have T2 := Lib.hid (fun (w' : World) (hB : Below wc.heap.size wc w') => show Calls Try.prog 29 #[.agg #[.slice p7 (raw).length c7]] w' (RetB w' V) from rvalid_is hC7 hB EV.out)
                        have T3 := Lib.hid (fun (w' : World) (hB : Below wc.heap.size wc w') => show Calls Try.prog 28 #[.agg #[.slice p14 (c).length c14]] w' (RetB w' true) from valid_is hC14 hB CV.out)
                        have T4 := Lib.hid (fun (w' : World) (hB : Below wc.heap.size wc w') => show Calls Try.prog 30 #[.agg #[.slice p14 (c).length c14], .slice pv vals.length cv, .int .i64 a] w' (RetB w' X) from eval_is hC14 hB ((Hvals.out.mono hW).mono hB) WC.out EX.out rfl hl2 hvm)
                        have T5 := Lib.hid (fun (w' : World) (hB : Below wc.heap.size wc w') => show Calls Try.prog 31 #[.agg #[.slice p14 (c).length c14], .slice pv vals.length cv, .int .i64 a] w' (RetB w' X) from reval_is hC14 hB ((Hvals.out.mono hW).mono hB) WC.out EX.out rfl hl2 hvm)
                        clear hB7 hB14 hC7 hC14 k7f k14f E1 E2 E3 E4 EV EX WC CV hvm Hvals HG HR Hr Hcb Hs Hg hc hcl hrl hl2 hl3 Hraw hrawl
                        as_aux_lemma =>
                          refine wp_region_seq (fun w' => Below wc.heap.size wc w') (by kernel_rfl) (by kernel_rfl) (by go_grown) ?_
                          refine seq_pure (v := ?_) (by rfl) ?_ ?_
                          rotate_left
                          · (intro w hS; go_simp; try with_reducible rfl)
                          (try simp only [Act.put, List.setIfInBounds_toArray, List.set_cons_zero, List.set_cons_succ])
                          refine seq_pure (v := ?_) (by rfl) ?_ ?_
                          rotate_left
                          · (intro w hS; go_simp; try with_reducible rfl)
                          (try simp only [Act.put, List.setIfInBounds_toArray, List.set_cons_zero, List.set_cons_succ])
                          refine seq_pure (v := ?_) (by rfl) ?_ ?_
                          rotate_left
                          · (intro w hS; go_simp; try with_reducible rfl)
                          (try simp only [Act.put, List.setIfInBounds_toArray, List.set_cons_zero, List.set_cons_succ])
                          refine seq_pure (v := ?_) (by rfl) ?_ ?_
                          rotate_left
                          · (intro w hS; go_simp; try with_reducible rfl)
                          (try simp only [Act.put, List.setIfInBounds_toArray, List.set_cons_zero, List.set_cons_succ])
                          refine seq_pure (v := ?_) (by rfl) ?_ ?_
                          rotate_left
                          · (intro w hS; go_simp; try with_reducible rfl)
                          (try simp only [Act.put, List.setIfInBounds_toArray, List.set_cons_zero, List.set_cons_succ])
                          refine seq_pure (v := ?_) (by rfl) ?_ ?_
                          rotate_left
                          · (intro w hS; go_simp; try with_reducible rfl)
                          (try simp only [Act.put, List.setIfInBounds_toArray, List.set_cons_zero, List.set_cons_succ])
                          refine seq_pure (v := ?_) (by rfl) ?_ ?_
                          rotate_left
                          · (intro w hS; go_simp; try with_reducible rfl)
                          (try simp only [Act.put, List.setIfInBounds_toArray, List.set_cons_zero, List.set_cons_succ])
                          refine seq_pure (v := ?_) (by rfl) ?_ ?_
                          rotate_left
                          · (intro w hS; go_simp; try with_reducible rfl)
                          (try simp only [Act.put, List.setIfInBounds_toArray, List.set_cons_zero, List.set_cons_succ])
                          refine seq_pure (v := ?_) (by rfl) ?_ ?_
                          rotate_left
                          · (intro w hS; go_simp; try with_reducible rfl)
                          (try simp only [Act.put, List.setIfInBounds_toArray, List.set_cons_zero, List.set_cons_succ])
                          refine seq_pure (v := ?_) (by rfl) ?_ ?_
                          rotate_left
                          · (intro w hS; go_simp; try with_reducible rfl)
                          (try simp only [Act.put, List.setIfInBounds_toArray, List.set_cons_zero, List.set_cons_succ])
                          refine seq_pure (v := ?_) (by rfl) ?_ ?_
                          rotate_left
                          · (intro w hS; go_simp; try with_reducible rfl)
                          (try simp only [Act.put, List.setIfInBounds_toArray, List.set_cons_zero, List.set_cons_succ])
                          refine seq_pure (v := ?_) (by rfl) ?_ ?_
                          rotate_left
                          · (intro w hS; go_simp; try with_reducible rfl)
                          (try simp only [Act.put, List.setIfInBounds_toArray, List.set_cons_zero, List.set_cons_succ])
                          refine seq_pure (v := ?_) (by rfl) ?_ ?_
                          rotate_left
                          · (intro w hS; go_simp; try with_reducible rfl)
                          (try simp only [Act.put, List.setIfInBounds_toArray, List.set_cons_zero, List.set_cons_succ])
                          refine seq_pure (v := ?_) (by rfl) ?_ ?_
                          rotate_left
                          · (intro w hS; go_simp; try with_reducible rfl)
                          (try simp only [Act.put, List.setIfInBounds_toArray, List.set_cons_zero, List.set_cons_succ])
                          refine seq_pure (v := ?_) (by rfl) ?_ ?_
                          rotate_left
                          · (intro w hS; go_simp; try with_reducible rfl)
                          (try simp only [Act.put, List.setIfInBounds_toArray, List.set_cons_zero, List.set_cons_succ])
                          refine seq_pure (v := ?_) (by rfl) ?_ ?_
                          rotate_left
                          · (intro w hS; go_simp; try with_reducible rfl)
                          (try simp only [Act.put, List.setIfInBounds_toArray, List.set_cons_zero, List.set_cons_succ])
                          refine seq_pure (v := ?_) (by rfl) ?_ ?_
                          rotate_left
                          · (intro w hS; go_simp; try with_reducible rfl)
                          (try simp only [Act.put, List.setIfInBounds_toArray, List.set_cons_zero, List.set_cons_succ])
                          refine seq_pure (v := ?_) (by rfl) ?_ ?_
                          rotate_left
                          · (intro w hS; go_simp; try with_reducible rfl)
                          (try simp only [Act.put, List.setIfInBounds_toArray, List.set_cons_zero, List.set_cons_succ])
                          refine seq_pure (v := ?_) (by rfl) ?_ ?_
                          rotate_left
                          · (intro w hS; go_simp; try with_reducible rfl)
                          (try simp only [Act.put, List.setIfInBounds_toArray, List.set_cons_zero, List.set_cons_succ])
                          refine seq_pure (v := ?_) (by rfl) ?_ ?_
                          rotate_left
                          · (intro w hS; go_simp; try with_reducible rfl)
                          (try simp only [Act.put, List.setIfInBounds_toArray, List.set_cons_zero, List.set_cons_succ])
                          refine seq_pure (v := ?_) (by rfl) ?_ ?_
                          rotate_left
                          · (intro w hS; go_simp; try with_reducible rfl)
                          (try simp only [Act.put, List.setIfInBounds_toArray, List.set_cons_zero, List.set_cons_succ])
                          refine seq_pure (v := ?_) (by rfl) ?_ ?_
                          rotate_left
                          · (intro w hS; go_simp; try with_reducible rfl)
                          (try simp only [Act.put, List.setIfInBounds_toArray, List.set_cons_zero, List.set_cons_succ])
                          refine seq_pure (v := ?_) (by rfl) ?_ ?_
                          rotate_left
                          · (intro w hS; go_simp; try with_reducible rfl)
                          (try simp only [Act.put, List.setIfInBounds_toArray, List.set_cons_zero, List.set_cons_succ])
                          refine seq_pure (v := ?_) (by rfl) ?_ ?_
                          rotate_left
                          · (intro w hS; go_simp; try with_reducible rfl)
                          (try simp only [Act.put, List.setIfInBounds_toArray, List.set_cons_zero, List.set_cons_succ])
                          refine seq_pure (v := ?_) (by rfl) ?_ ?_
                          rotate_left
                          · (intro w hS; go_simp; try with_reducible rfl)
                          (try simp only [Act.put, List.setIfInBounds_toArray, List.set_cons_zero, List.set_cons_succ])
                          refine seq_pure (v := ?_) (by rfl) ?_ ?_
                          rotate_left
                          · (intro w hS; go_simp; try with_reducible rfl)
                          (try simp only [Act.put, List.setIfInBounds_toArray, List.set_cons_zero, List.set_cons_succ])
                          refine seq_pure (v := ?_) (by rfl) ?_ ?_
                          rotate_left
                          · (intro w hS; go_simp; try with_reducible rfl)
                          (try simp only [Act.put, List.setIfInBounds_toArray, List.set_cons_zero, List.set_cons_succ])
                          refine seq_pure (v := ?_) (by rfl) ?_ ?_
                          rotate_left
                          · (intro w hS; go_simp; try with_reducible rfl)
                          (try simp only [Act.put, List.setIfInBounds_toArray, List.set_cons_zero, List.set_cons_succ])
                          refine seq_pure (v := ?_) (by rfl) ?_ ?_
                          rotate_left
                          · (intro w hS; have kk := oldcell hS k7 (World.block_lt_of_cell? _ _ k7); go_simp; try with_reducible rfl)
                          (try simp only [Act.put, List.setIfInBounds_toArray, List.set_cons_zero, List.set_cons_succ])
                          refine seq_call (v := .bool V) (f := ?_) (args := ?_) (by rfl) ?_ ?_ ?_
                          rotate_left 2
                          · (intro w hS; go_simp; first | done | with_reducible rfl | (refine ⟨?_, ?_⟩ <;> with_reducible rfl))
                          · (intro w hS; refine (T1.out w hS).mono ?_; rintro e w' ⟨he, hb⟩; exact ⟨he, btr hS hb⟩)
                          (try simp only [Act.put, List.setIfInBounds_toArray, List.set_cons_zero, List.set_cons_succ])
                          refine seq_pure (v := ?_) (by rfl) ?_ ?_
                          rotate_left
                          · (intro w hS; have kk := oldcell hS k7 (World.block_lt_of_cell? _ _ k7); go_simp; try with_reducible rfl)
                          (try simp only [Act.put, List.setIfInBounds_toArray, List.set_cons_zero, List.set_cons_succ])
                          refine seq_call (v := .bool V) (f := ?_) (args := ?_) (by rfl) ?_ ?_ ?_
                          rotate_left 2
                          · (intro w hS; go_simp; first | done | with_reducible rfl | (refine ⟨?_, ?_⟩ <;> with_reducible rfl))
                          · (intro w hS; refine (T2.out w hS).mono ?_; rintro e w' ⟨he, hb⟩; exact ⟨he, btr hS hb⟩)
                          (try simp only [Act.put, List.setIfInBounds_toArray, List.set_cons_zero, List.set_cons_succ])
                          refine seq_pure (v := ?_) (by rfl) ?_ ?_
                          rotate_left
                          · (intro w hS; go_simp; try with_reducible rfl)
                          (try simp only [Act.put, List.setIfInBounds_toArray, List.set_cons_zero, List.set_cons_succ])
                          refine seq_pure (v := ?_) (by rfl) ?_ ?_
                          rotate_left
                          · (intro w hS; go_simp; try with_reducible rfl)
                          (try simp only [Act.put, List.setIfInBounds_toArray, List.set_cons_zero, List.set_cons_succ])
                          refine seq_pure (v := ?_) (by rfl) ?_ ?_
                          rotate_left
                          · (intro w hS; go_simp; try with_reducible rfl)
                          (try simp only [Act.put, List.setIfInBounds_toArray, List.set_cons_zero, List.set_cons_succ])
                          refine seq_pure (v := ?_) (by rfl) ?_ ?_
                          rotate_left
                          · (intro w hS; have kk := oldcell hS k14 (World.block_lt_of_cell? _ _ k14); go_simp; try with_reducible rfl)
                          (try simp only [Act.put, List.setIfInBounds_toArray, List.set_cons_zero, List.set_cons_succ])
                          refine seq_call (v := .bool true) (f := ?_) (args := ?_) (by rfl) ?_ ?_ ?_
                          rotate_left 2
                          · (intro w hS; go_simp; first | done | with_reducible rfl | (refine ⟨?_, ?_⟩ <;> with_reducible rfl))
                          · (intro w hS; refine (T3.out w hS).mono ?_; rintro e w' ⟨he, hb⟩; exact ⟨he, btr hS hb⟩)
                          (try simp only [Act.put, List.setIfInBounds_toArray, List.set_cons_zero, List.set_cons_succ])
                          refine seq_pure (v := ?_) (by rfl) ?_ ?_
                          rotate_left
                          · (intro w hS; go_simp; try with_reducible rfl)
                          (try simp only [Act.put, List.setIfInBounds_toArray, List.set_cons_zero, List.set_cons_succ])
                          refine seq_pure (v := ?_) (by rfl) ?_ ?_
                          rotate_left
                          · (intro w hS; go_simp; try with_reducible rfl)
                          (try simp only [Act.put, List.setIfInBounds_toArray, List.set_cons_zero, List.set_cons_succ])
                          refine seq_pure (v := ?_) (by rfl) ?_ ?_
                          rotate_left
                          · (intro w hS; have kk := oldcell hS k14 (World.block_lt_of_cell? _ _ k14); go_simp; try with_reducible rfl)
                          (try simp only [Act.put, List.setIfInBounds_toArray, List.set_cons_zero, List.set_cons_succ])
                          refine seq_pure (v := ?_) (by rfl) ?_ ?_
                          rotate_left
                          · (intro w hS; go_simp; try with_reducible rfl)
                          (try simp only [Act.put, List.setIfInBounds_toArray, List.set_cons_zero, List.set_cons_succ])
                          refine seq_pure (v := ?_) (by rfl) ?_ ?_
                          rotate_left
                          · (intro w hS; go_simp; try with_reducible rfl)
                          (try simp only [Act.put, List.setIfInBounds_toArray, List.set_cons_zero, List.set_cons_succ])
                          refine seq_call (v := .bool X) (f := ?_) (args := ?_) (by rfl) ?_ ?_ ?_
                          rotate_left 2
                          · (intro w hS; go_simp; first | done | with_reducible rfl | (refine ⟨?_, ?_⟩ <;> with_reducible rfl))
                          · (intro w hS; refine (T4.out w hS).mono ?_; rintro e w' ⟨he, hb⟩; exact ⟨he, btr hS hb⟩)
                          (try simp only [Act.put, List.setIfInBounds_toArray, List.set_cons_zero, List.set_cons_succ])
                          refine seq_pure (v := ?_) (by rfl) ?_ ?_
                          rotate_left
                          · (intro w hS; have kk := oldcell hS k14 (World.block_lt_of_cell? _ _ k14); go_simp; try with_reducible rfl)
                          (try simp only [Act.put, List.setIfInBounds_toArray, List.set_cons_zero, List.set_cons_succ])
                          refine seq_pure (v := ?_) (by rfl) ?_ ?_
                          rotate_left
                          · (intro w hS; go_simp; try with_reducible rfl)
                          (try simp only [Act.put, List.setIfInBounds_toArray, List.set_cons_zero, List.set_cons_succ])
                          refine seq_pure (v := ?_) (by rfl) ?_ ?_
                          rotate_left
                          · (intro w hS; go_simp; try with_reducible rfl)
                          (try simp only [Act.put, List.setIfInBounds_toArray, List.set_cons_zero, List.set_cons_succ])
                          refine seq_call (v := .bool X) (f := ?_) (args := ?_) (by rfl) ?_ ?_ ?_
                          rotate_left 2
                          · (intro w hS; go_simp; first | done | with_reducible rfl | (refine ⟨?_, ?_⟩ <;> with_reducible rfl))
                          · (intro w hS; refine (T5.out w hS).mono ?_; rintro e w' ⟨he, hb⟩; exact ⟨he, btr hS hb⟩)
                          (try simp only [Act.put, List.setIfInBounds_toArray, List.set_cons_zero, List.set_cons_succ])
                          refine seq_pure (v := ?_) (by rfl) ?_ ?_
                          rotate_left
                          · (intro w hS; go_simp; try with_reducible rfl)
                          (try simp only [Act.put, List.setIfInBounds_toArray, List.set_cons_zero, List.set_cons_succ])
                          refine seq_pure (v := ?_) (by rfl) ?_ ?_
                          rotate_left
                          · (intro w hS; go_simp; try with_reducible rfl)
                          (try simp only [Act.put, List.setIfInBounds_toArray, List.set_cons_zero, List.set_cons_succ])
                          refine seq_pure (v := ?_) (by rfl) ?_ ?_
                          rotate_left
                          · (intro w hS; go_simp; try with_reducible rfl)
                          (try simp only [Act.put, List.setIfInBounds_toArray, List.set_cons_zero, List.set_cons_succ])
                          refine seq_pure (v := ?_) (by rfl) ?_ ?_
                          rotate_left
                          · (intro w hS; go_simp; try with_reducible rfl)
                          (try simp only [Act.put, List.setIfInBounds_toArray, List.set_cons_zero, List.set_cons_succ])
                          refine seq_call (v := .int .i64 (cnot a)) (f := ?_) (args := ?_) (by rfl) ?_ ?_ ?_
                          rotate_left 2
                          · (intro w hS; go_simp; first | done | with_reducible rfl | (refine ⟨?_, ?_⟩ <;> with_reducible rfl))
                          · (intro w hS; refine (not_any _ _ ha).mono ?_; rintro e w' ⟨he, hb⟩; subst hb; exact ⟨he, hS⟩)
                          (try simp only [Act.put, List.setIfInBounds_toArray, List.set_cons_zero, List.set_cons_succ])
                          refine seq_pure (v := ?_) (by rfl) ?_ ?_
                          rotate_left
                          · (intro w hS; go_simp; try with_reducible rfl)
                          (try simp only [Act.put, List.setIfInBounds_toArray, List.set_cons_zero, List.set_cons_succ])
                          refine seq_call (v := .int .i64 (cnot a)) (f := ?_) (args := ?_) (by rfl) ?_ ?_ ?_
                          rotate_left 2
                          · (intro w hS; go_simp; first | done | with_reducible rfl | (refine ⟨?_, ?_⟩ <;> with_reducible rfl))
                          · (intro w hS; refine (rnot_any _ _ ha).mono ?_; rintro e w' ⟨he, hb⟩; subst hb; exact ⟨he, hS⟩)
                          (try simp only [Act.put, List.setIfInBounds_toArray, List.set_cons_zero, List.set_cons_succ])
                          refine seq_pure (v := ?_) (by rfl) ?_ ?_
                          rotate_left
                          · (intro w hS; go_simp; try with_reducible rfl)
                          (try simp only [Act.put, List.setIfInBounds_toArray, List.set_cons_zero, List.set_cons_succ])
                          refine seq_pure (v := ?_) (by rfl) ?_ ?_
                          rotate_left
                          · (intro w hS; go_simp; try with_reducible rfl)
                          (try simp only [Act.put, List.setIfInBounds_toArray, List.set_cons_zero, List.set_cons_succ])
                          refine seq_pure (v := ?_) (by rfl) ?_ ?_
                          rotate_left
                          · (intro w hS; go_simp; try with_reducible rfl)
                          (try simp only [Act.put, List.setIfInBounds_toArray, List.set_cons_zero, List.set_cons_succ])
                          refine seq_nil ?_
                          intro w2 HB
                          go_wp2_with fail
                          go_ret
                          exact ⟨rfl, btr hW HB⟩
end Go.Proofs.Ytanlecgpnknhoaa
