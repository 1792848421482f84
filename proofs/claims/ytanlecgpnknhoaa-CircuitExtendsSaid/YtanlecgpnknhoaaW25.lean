/- Walk of CircuitExtends. -/
import Derived.Test.YtanlecgpnknhoaaW17
import Derived.Test.YtanlecgpnknhoaaPlain7
import Derived.Test.YtanlecgpnknhoaaSeq
import Derived.Laws.OwnMore
namespace Go.Proofs.Ytanlecgpnknhoaa
set_option linter.unusedSimpArgs false
set_option linter.unusedVariables false
open Go.RowKit
/-- A variable that holds a step. -/
def SBx (w : World) (b : Nat) (s : Step) : Prop := w.cell? ⟨b, 0, none⟩ = some (.int .u8 s.k) ∧ w.cell? ⟨b, 1, none⟩ = some (.int .u8 s.a) ∧ w.cell? ⟨b, 2, none⟩ = some (.int .u8 s.b)
theorem SBx.up {w w' : World} {b : Nat} {s : Step} (h : SBx w b s) (hB : Below w.heap.size w w') : SBx w' b s := by
  have hb := World.block_lt_of_cell? _ _ h.1
  exact ⟨oldcell hB h.1 hb, oldcell hB h.2.1 hb, oldcell hB h.2.2 hb⟩
theorem gates_nth {w : World} {p : Option Addr} {gs : List Gate} {i : Nat} {g : Gate} (h : GatesAt w p gs) (hi : gs[i]? = some g) : ∃ b off, p = some ⟨b, off, none⟩ ∧ b < w.heap.size ∧ w.cell? ⟨b, off + i * 3, none⟩ = some (.int .i64 g.k) ∧ w.cell? ⟨b, off + i * 3 + 1, none⟩ = some (.int .i64 g.a) ∧ w.cell? ⟨b, off + i * 3 + 2, none⟩ = some (.int .i64 g.b) := by
  rcases h with rfl | ⟨b, off, h1, h2, h3⟩
  · simp at hi
  · exact ⟨b, off, h1, h2, gate_cells h3 hi⟩
theorem gates_addr {w : World} {p : Option Addr} {gs : List Gate} (h : GatesAt w p gs) (hne : 0 < gs.length) : ∃ b off, p = some ⟨b, off, none⟩ ∧ b < w.heap.size ∧ Hid (∀ i g, gs[i]? = some g → w.cell? ⟨b, off + i * 3, none⟩ = some (.int .i64 g.k) ∧ w.cell? ⟨b, off + i * 3 + 1, none⟩ = some (.int .i64 g.a) ∧ w.cell? ⟨b, off + i * 3 + 2, none⟩ = some (.int .i64 g.b)) := by
  rcases h with rfl | ⟨b, off, h1, h2, h3⟩
  · simp at hne
  · exact ⟨b, off, h1, h2, Lib.hid fun i g hi => gate_cells h3 hi⟩
end Go.Proofs.Ytanlecgpnknhoaa
namespace Go.Proofs.Ytanlecgpnknhoaa
open Go.RowKit

set_option maxRecDepth 100000 in
set_option maxHeartbeats 8000000 in
theorem extends_any (l : List Step) (p0 : Option Addr) (cap0 : Nat) (one : Step) (two : Step) (a : Nat) (vals : List Bool) (pv : Option Addr) (cv : Nat) (w : World) (hl : l.length ≤ maxLen) (hs : ∀ s ∈ l, s.k < 256 ∧ s.a < 256 ∧ s.b < 256) (hg : StepsAt w p0 l) (hone : one.k < 256 ∧ one.a < 256 ∧ one.b < 256) (htwo : two.k < 256 ∧ two.a < 256 ∧ two.b < 256) (ha : a < 256) (hvalsl : vals.length ≤ maxLen) (hvals : BoolsAt w pv vals) :
    Calls Try.prog 6 #[.slice p0 l.length cap0, .agg #[.int .u8 one.k, .int .u8 one.a, .int .u8 one.b], .agg #[.int .u8 two.k, .int .u8 two.a, .int .u8 two.b], .int .u8 a, .slice pv vals.length cv] w (RetB w true) := by
  unfold maxLen at hl hvalsl
  have Hs := Lib.hid hs; have Hg := Lib.hid hg; clear hs hg
  have Hone := Lib.hid hone; clear hone
  have Htwo := Lib.hid htwo; clear htwo
  have Hvals := Lib.hid hvals; clear hvals
  by_cases h60l : (60 : Int) < (l.length : Int)
  · go_enter Try.func6, Try.ntmps6
    go_wp2_with (first | (go_at_call 17; refine (head_any _).mono ?_; rintro e w1 ⟨rfl, hb1⟩))
    go_ret
    exact ⟨rfl, by first | exact hb1 | exact btr (bal (bal (Below.refl _ _) _) _) hb1 | go_grown⟩
  by_cases h60vals : (60 : Int) < (vals.length : Int)
  · go_enter Try.func6, Try.ntmps6
    go_wp2_with (first | (go_at_call 17; refine (head_any _).mono ?_; rintro e w1 ⟨rfl, hb1⟩))
    go_ret
    exact ⟨rfl, by first | exact hb1 | exact btr (bal (bal (Below.refl _ _) _) _) hb1 | go_grown⟩
  have HB := Lib.hid (built l (by omega))
  have Hle := Lib.hid (cbuild_le l)
  have Hlen := Lib.hid HB.out.len
  obtain ⟨c, refs, hcb⟩ : ∃ c refs, cbuild l = (c, refs) := ⟨_, _, rfl⟩
  have Hcb := Lib.hid hcb
  have HG := Lib.hid (show Good c by have := HB.out.good; rw [hcb] at this; exact this)
  have HR := Lib.hid (show RefsIn refs c.length by have := HB.out.refs; rw [hcb] at this; exact this)
  have hc : 0 < c.length := HG.out.ne
  have hcl : c.length ≤ 181 := by have := Hlen.out; rw [hcb] at this; dsimp only at this; omega
  have hrl : refs.length ≤ 60 := by have := Hle.out.2.2; rw [hcb] at this; dsimp only at this; omega
  have Hr := Lib.hid (show ∀ r ∈ refs, r ≤ 9223372036854775807 from fun r hr => by have := Hle.out.2.1 r (by rw [hcb]; exact hr); omega)
  clear HB Hle Hlen hcb
  have hl2 : c.length ≤ 20000 := by omega
  have hl3 : c.length + 3 ≤ 20000 := by omega
  obtain ⟨x, hx⟩ : ∃ z, cpick refs a = z := ⟨_, rfl⟩
  have x1 : 0 ≤ x := by have := (cpick_in HR.out hc a).1; rw [hx] at this; exact this
  have x2 : x < 2 * (c.length : Int) := by have := (cpick_in HR.out hc a).2; rw [hx] at this; exact this
  have Px := Lib.hid hx; clear hx
  have xm : x ≤ 9223372036854775807 := by omega
  have Hr2 := Lib.hid (show ∀ r ∈ refs, r ≤ 40001 from fun r hr => by have := (HR.out r hr).2; omega)
  have dk := keeps_do (s := one) HG.out hl3 HR.out
  have ek := keeps_do (s := two) HG.out hl3 HR.out
  obtain ⟨D, i1, e1⟩ : ∃ D p, cdo c refs one = (D, p) := ⟨_, _, rfl⟩
  obtain ⟨E, i2, e2⟩ : ∃ D p, cdo c refs two = (D, p) := ⟨_, _, rfl⟩
  obtain ⟨P, hP⟩ : ∃ z, ceval c vals x = z := ⟨_, rfl⟩
  have E1 := Lib.hid e1; have E2 := Lib.hid e2
  rw [e1] at dk; rw [e2] at ek
  have dl := dk.len; have el := ek.len; have dg := dk.le; have eg := ek.le
  dsimp only at dl el dg eg
  have dg2 : (c.length : Int) ≤ (D.length : Int) := by omega
  have eg2 : (c.length : Int) ≤ (E.length : Int) := by omega
  have dl2 : D.length ≤ 20000 := by omega
  have el2 : E.length ≤ 20000 := by omega
  have WC := Lib.hid HG.out.wf; have WD := Lib.hid dk.good.wf; have WE := Lib.hid ek.good.wf
  have HP := Lib.hid hP
  have SD := Lib.hid (show ceval D vals x = P by have := dk.old vals x1 x2; rw [hP] at this; exact this)
  have SE := Lib.hid (show ceval E vals x = P by have := ek.old vals x1 x2; rw [hP] at this; exact this)
  have XD := Lib.hid (show ∀ i g, c[i]? = some g → D[i]? = some g from fun i g h => prefix_get dk.ext h)
  have XE := Lib.hid (show ∀ i g, c[i]? = some g → E[i]? = some g from fun i g h => prefix_get ek.ext h)
  have hvm : vals.length ≤ maxLen := by unfold maxLen; omega
  obtain ⟨i0, hi0, hz0, hz1, hz2⟩ := info_parts gate_info
  clear e1 e2 dk ek hP dl el dg eg
  go_enter Try.func6, Try.ntmps6
  go_upto_region 4 with (first | (go_at_call 17; refine (head_any _).mono ?_; rintro e w1 ⟨rfl, hb1⟩))
  have hS6 : SBx w1 w.heap.size one := SBx.up (w := (w.alloc (.cells #[.int .u8 one.k, .int .u8 one.a, .int .u8 one.b] 42)).alloc (.cells #[.int .u8 two.k, .int .u8 two.a, .int .u8 two.b] 42)) ⟨by go_cell, by go_cell, by go_cell⟩ hb1
  have hS7 : SBx w1 (w.heap.size + 1) two := SBx.up (w := (w.alloc (.cells #[.int .u8 one.k, .int .u8 one.a, .int .u8 one.b] 42)).alloc (.cells #[.int .u8 two.k, .int .u8 two.a, .int .u8 two.b] 42)) ⟨by go_cell, by go_cell, by go_cell⟩ hb1
  have hb0 : Below w.heap.size w w1 := btr (bal (bal (Below.refl _ _) _) _) hb1
  have hsz := hb0.size
  go_cut [6, 7, 12, 13] (fun s6 s7 s12 s13 wx => ∃ (b6 b7 b12 : Nat) (q : Option Addr) (cq : Nat), s6 = .pointer (some ⟨b6, 0, none⟩) ∧ s7 = .pointer (some ⟨b7, 0, none⟩) ∧ s12 = .pointer (some ⟨b12, 0, none⟩) ∧ s13 = .slice q refs.length cq ∧ w.heap.size ≤ b12 ∧ Bx wx b12 c ∧ IntsAt wx q refs ∧ SBx wx b6 one ∧ SBx wx b7 two ∧ Below w.heap.size w wx)
  case first =>
    go_wp2_with (first | (go_at_call 36; refine (build_any l _ _ _ (by omega) Hs.out (Hg.out.mono (by first | exact hb0 | go_grown))).mono ?_; rintro e w2 ⟨p2, cap2, q2, cq2, rfl, u1, u2, u3, u4, u5, u6, u7, u8, hbl⟩; rw [Hcb.out] at u1 u4 u5 u8; dsimp only at u1 u4 u5 u8; rw [Hcb.out]; dsimp only))
    have hs2 := hbl.size
    go_meet
    exact ⟨_, _, _, _, _, rfl, rfl, rfl, rfl, by omega, Bx.new ⟨u1, u2, u3, u4⟩ _, u8.mono (by go_grown), hS6.up (bal hbl _), hS7.up (bal hbl _), bal (btr hb0 hbl) _⟩
  case rest =>
    clear hb1 hb0 hsz hS6 hS7
    obtain ⟨b6, b7, b12, q, cq, rfl, rfl, rfl, rfl, hb12, hB12, hq, hS6, hS7, hW⟩ := hcut
    go_upto_region 5 with fail
    have hlt := hB12.lt
    obtain ⟨p, cap, k1, k1f, hC⟩ := id hB12
    go_cut [14] (fun sx wx => ∃ (qwas : Option Addr) (cwas : Nat), sx = .slice qwas c.length cwas ∧ GatesAt wx qwas c ∧ Bx wx b12 c ∧ IntsAt wx q refs ∧ SBx wx b6 one ∧ SBx wx b7 two ∧ Below w.heap.size w wx)
    case first =>
      as_aux_lemma =>
        go_wp2_with (first | (at_builtin; go_must (refine wpList_app (enc := gEnc) rfl _ _ _ rfl wc.heap.size 47 i0 _ 24 Try.underlying23 hi0 hz0 hz1 hz2 rfl (by omega) (.slice (some ⟨wc.heap.size, 0, none⟩) 0 0) [] rfl (World.ownsRow_lit wc #[] 0 (Nat.le_refl _) (by decide) rfl) p c cap rfl hC.p0 (hC.at'.mono (by go_grown)) gEnc_one (by simp [maxLen]; omega) (by simp; omega) (by simp) ?_); intro v1 w2 hown1 hgr1 hbl1; obtain ⟨qa, ca, rfl, a1, a2, a3, a4⟩ := owns_val (by omega) hown1))
        have hbl : Below wc.heap.size wc w2 := Below.trans (by go_grown) hbl1
        go_meet
        exact ⟨_, _, rfl, a4, hB12.up hbl, hq.mono hbl, hS6.up hbl, hS7.up hbl, btr hW hbl⟩
    case rest =>
      clear hlt k1 k1f hC hB12 hq hS6 hS7 hW
      obtain ⟨qwas, cwas, rfl, hwas, hB12, hq, hS6, hS7, hW⟩ := hcut
      go_upto_region 7 with (first | (go_at_call 37; (with_reducible refine (pick_any refs a q cq _ (by assumption) (by omega) Hr.out (hq.mono (by go_grown))).mono ?_); rintro e w' ⟨rfl, rfl⟩; rw [Px.out]))
      go_upto_region 7 with fail
      have hlt := hB12.lt
      obtain ⟨p, cap, k1, k1f, hC⟩ := id hB12
      go_cut [16] (fun s16 wx => s16 = .bool P ∧ Bx wx b12 c ∧ GatesAt wx qwas c ∧ IntsAt wx q refs ∧ SBx wx b6 one ∧ SBx wx b7 two ∧ Below w.heap.size w wx)
      case first =>
        as_aux_lemma =>
          go_wp2_with (first | (go_at_call 30; refine (eval_is hC (Below.refl _ _) (Hvals.out.mono hW) WC.out HP.out rfl hl2 hvm).mono ?_; rintro e w2 ⟨rfl, hbl⟩))
          go_meet
          exact ⟨rfl, hB12.up hbl, hwas.mono hbl, hq.mono hbl, hS6.up hbl, hS7.up hbl, btr hW hbl⟩
      case rest =>
        clear hlt k1 k1f hC hB12 hwas hq hS6 hS7 hW
        obtain ⟨rfl, hB12, hwas, hq, hS6, hS7, hW⟩ := hcut
        go_upto_region 8 with fail
        have hlt := hB12.lt
        obtain ⟨p, cap, k1, k1f, hC⟩ := id hB12
        go_cut [17, 18] (fun s17 s18 wx => ∃ b17 : Nat, s17 = .pointer (some ⟨b17, 0, none⟩) ∧ w.heap.size ≤ b17 ∧ s18 = .int .i64 i1 ∧ Bx wx b17 D ∧ Bx wx b12 c ∧ GatesAt wx qwas c ∧ IntsAt wx q refs ∧ SBx wx b6 one ∧ SBx wx b7 two ∧ Below w.heap.size w wx)
        case first =>
          as_aux_lemma =>
            obtain ⟨f0, f1, f2⟩ := id hS6
            go_wp2_with (first | (go_at_call 35; refine (do_any c refs one p q cap cq _ Hone.out.1 Hone.out.2.1 Hone.out.2.2 (by omega) Hr2.out hl2 hC.le hC.cm hC.p0 hC.at' hq).mono ?_; rintro e w2 hR; obtain ⟨p2, cap2, rfl, hC2, hbl⟩ := RetCirc.c hR (show ((cdo c refs one).1, (cdo c refs one).2) = _ from E1.out)))
            have hsW := hW.size
            have hs := hbl.size
            have hl12 := hB12.lt
            go_meet
            exact ⟨_, rfl, (by omega), rfl, Bx.new hC2 _, (hB12.up hbl).alloc _, hwas.mono (bal hbl _), hq.mono (bal hbl _), hS6.up (bal hbl _), hS7.up (bal hbl _), (bal (btr hW hbl) _)⟩
        case rest =>
          clear hlt k1 k1f hC hB12 hwas hq hS6 hS7 hW
          obtain ⟨b17, rfl, hb17, rfl, hB17, hB12, hwas, hq, hS6, hS7, hW⟩ := hcut
          go_upto_region 9 with fail
          have hlt := hB17.lt
          obtain ⟨p, cap, k1, k1f, hC⟩ := id hB17
          go_cut [19] (fun sx wx => ∃ (qkept : Option Addr) (ckept : Nat), sx = .slice qkept D.length ckept ∧ GatesAt wx qkept D ∧ Bx wx b17 D ∧ Bx wx b12 c ∧ GatesAt wx qwas c ∧ IntsAt wx q refs ∧ SBx wx b6 one ∧ SBx wx b7 two ∧ Below w.heap.size w wx)
          case first =>
            as_aux_lemma =>
              go_wp2_with (first | (at_builtin; go_must (refine wpList_app (enc := gEnc) rfl _ _ _ rfl wc.heap.size 47 i0 _ 24 Try.underlying23 hi0 hz0 hz1 hz2 rfl (by omega) (.slice (some ⟨wc.heap.size, 0, none⟩) 0 0) [] rfl (World.ownsRow_lit wc #[] 0 (Nat.le_refl _) (by decide) rfl) p D cap rfl hC.p0 (hC.at'.mono (by go_grown)) gEnc_one (by simp [maxLen]; omega) (by simp; omega) (by simp) ?_); intro v1 w2 hown1 hgr1 hbl1; obtain ⟨qa, ca, rfl, a1, a2, a3, a4⟩ := owns_val (by omega) hown1))
              have hbl : Below wc.heap.size wc w2 := Below.trans (by go_grown) hbl1
              go_meet
              exact ⟨_, _, rfl, a4, hB17.up hbl, hB12.up hbl, hwas.mono hbl, hq.mono hbl, hS6.up hbl, hS7.up hbl, btr hW hbl⟩
          case rest =>
            clear hlt k1 k1f hC hB17 hB12 hwas hq hS6 hS7 hW
            obtain ⟨qkept, ckept, rfl, hkept, hB17, hB12, hwas, hq, hS6, hS7, hW⟩ := hcut
            go_upto_region 10 with fail
            have hlt := hB12.lt
            obtain ⟨p, cap, k1, k1f, hC⟩ := id hB12
            go_cut [20, 21] (fun s20 s21 wx => ∃ b20 : Nat, s20 = .pointer (some ⟨b20, 0, none⟩) ∧ w.heap.size ≤ b20 ∧ s21 = .int .i64 i2 ∧ Bx wx b20 E ∧ Bx wx b17 D ∧ Bx wx b12 c ∧ GatesAt wx qkept D ∧ GatesAt wx qwas c ∧ IntsAt wx q refs ∧ SBx wx b6 one ∧ SBx wx b7 two ∧ Below w.heap.size w wx)
            case first =>
              as_aux_lemma =>
                obtain ⟨f0, f1, f2⟩ := id hS7
                go_wp2_with (first | (go_at_call 35; refine (do_any c refs two p q cap cq _ Htwo.out.1 Htwo.out.2.1 Htwo.out.2.2 (by omega) Hr2.out hl2 hC.le hC.cm hC.p0 hC.at' hq).mono ?_; rintro e w2 hR; obtain ⟨p2, cap2, rfl, hC2, hbl⟩ := RetCirc.c hR (show ((cdo c refs two).1, (cdo c refs two).2) = _ from E2.out)))
                have hsW := hW.size
                have hs := hbl.size
                have hl17 := hB17.lt
                have hl12 := hB12.lt
                go_meet
                exact ⟨_, rfl, (by omega), rfl, Bx.new hC2 _, (hB17.up hbl).alloc _, (hB12.up hbl).alloc _, hkept.mono (bal hbl _), hwas.mono (bal hbl _), hq.mono (bal hbl _), hS6.up (bal hbl _), hS7.up (bal hbl _), (bal (btr hW hbl) _)⟩
            case rest =>
              clear hlt k1 k1f hC hB17 hB12 hkept hwas hq hS6 hS7 hW
              obtain ⟨b20, rfl, hb20, rfl, hB20, hB17, hB12, hkept, hwas, hq, hS6, hS7, hW⟩ := hcut
              have dpos : 0 < D.length := by omega
              have epos : 0 < E.length := by omega
              obtain ⟨p20, c20, k20, k20f, hC20⟩ := id hB20
              obtain ⟨p17, c17, k17, k17f, hC17⟩ := id hB17
              obtain ⟨p12, c12, k12, k12f, hC12⟩ := id hB12
              obtain ⟨bc, oc, rfl, hbc, Uc⟩ := gates_addr hC12.at' hc
              obtain ⟨bw, ow, rfl, hbw, Uw⟩ := gates_addr hwas hc
              obtain ⟨bd, od, rfl, hbd, Ud⟩ := gates_addr hC17.at' dpos
              obtain ⟨bk, ok, rfl, hbk, Uk⟩ := gates_addr hkept dpos
              obtain ⟨be, oe, rfl, hbe, Ue⟩ := gates_addr hC20.at' epos
              have h12 := hC12; have h17 := Lib.hid hC17; have h20 := Lib.hid hC20; clear hC12 hC17 hC20 h12 hB12 hB17 hB20
              have HWAS := Lib.hid hwas; have HKEPT := Lib.hid hkept; have HQ := Lib.hid hq; clear hwas hkept hq hS6 hS7 k12f k17f k20f
              go_wp2_with fail
              go_loopg [22] c.length (fun n v wr => ∃ k : Nat, v = .int .i64 k ∧ k ≤ c.length ∧ n = c.length - k ∧ Below wc.heap.size wc wr)
              case atStart => exact ⟨0, rfl, by omega, by omega, Below.refl _ _⟩
              case round =>
                obtain ⟨k, rfl, hk, rfl, hB⟩ := hrel
                have j20 := oldcell hB k20 (World.block_lt_of_cell? _ _ k20)
                have j17 := oldcell hB k17 (World.block_lt_of_cell? _ _ k17)
                have j12 := oldcell hB k12 (World.block_lt_of_cell? _ _ k12)
                by_cases hlt : k < c.length
                case pos =>
                  have hlt0 : (0 : Int) ≤ (k : Int) := by omega
                  obtain ⟨g, hg⟩ : ∃ g, c[k]? = some g := ⟨_, List.getElem?_eq_getElem hlt⟩
                  have hlc : (k : Int) < (c.length : Int) := by omega
                  obtain ⟨u0, u1, u2⟩ := Uc.out k g hg
                  have c0 := oldcell hB u0 (by omega)
                  have c1 := oldcell hB u1 (by omega)
                  have c2 := oldcell hB u2 (by omega)
                  clear u0 u1 u2
                  have hlw : (k : Int) < (c.length : Int) := by omega
                  obtain ⟨u0, u1, u2⟩ := Uw.out k g hg
                  have w0 := oldcell hB u0 (by omega)
                  have w1 := oldcell hB u1 (by omega)
                  have w2 := oldcell hB u2 (by omega)
                  clear u0 u1 u2
                  have hld : (k : Int) < (D.length : Int) := by omega
                  obtain ⟨u0, u1, u2⟩ := Ud.out k g (XD.out _ _ hg)
                  have d0 := oldcell hB u0 (by omega)
                  have d1 := oldcell hB u1 (by omega)
                  have d2 := oldcell hB u2 (by omega)
                  clear u0 u1 u2
                  have hle : (k : Int) < (E.length : Int) := by omega
                  obtain ⟨u0, u1, u2⟩ := Ue.out k g (XE.out _ _ hg)
                  have e0 := oldcell hB u0 (by omega)
                  have e1 := oldcell hB u1 (by omega)
                  have e2 := oldcell hB u2 (by omega)
                  clear u0 u1 u2
                  have hd := gEq_true (rfl : g = g)
                  have HGk := Lib.hid hg; clear hg
                  go_wp2_with fail
                  refine wp_region_seq (fun w' => Below wr.heap.size wr w') (by kernel_rfl) (by kernel_rfl) (by go_grown) ?_
                  refine seq_pure (v := ?_) (by rfl) ?_ ?_
                  rotate_left
                  · (intro w hS; go_simp; try with_reducible rfl)
                  (try simp only [Act.put, List.setIfInBounds_toArray, List.set_cons_zero, List.set_cons_succ])
                  refine seq_pure (v := ?_) (by rfl) ?_ ?_
                  rotate_left
                  · (intro w hS; have kk := oldcell hS j12 (World.block_lt_of_cell? _ _ j12); go_simp; try with_reducible rfl)
                  (try simp only [Act.put, List.setIfInBounds_toArray, List.set_cons_zero, List.set_cons_succ])
                  refine seq_pure (v := ?_) (by rfl) ?_ ?_
                  rotate_left
                  · (intro w hS; go_simp; try with_reducible rfl)
                  (try simp only [Act.put, List.setIfInBounds_toArray, List.set_cons_zero, List.set_cons_succ])
                  refine seq_pure (v := ?_) (by rfl) ?_ ?_
                  rotate_left
                  · (intro w hS; go_simp; try with_reducible rfl)
                  (try simp only [Act.put, List.setIfInBounds_toArray, List.set_cons_zero, List.set_cons_succ])
                  refine seq_pure (v := ?_) (by rfl) ?_ ?_
                  rotate_left
                  · (intro w hS; have m0 := oldcell hS c0 (World.block_lt_of_cell? _ _ c0); have m1 := oldcell hS c1 (World.block_lt_of_cell? _ _ c1); have m2 := oldcell hS c2 (World.block_lt_of_cell? _ _ c2); go_simp; try with_reducible rfl)
                  (try simp only [Act.put, List.setIfInBounds_toArray, List.set_cons_zero, List.set_cons_succ])
                  refine seq_pure (v := ?_) (by rfl) ?_ ?_
                  rotate_left
                  · (intro w hS; go_simp; try with_reducible rfl)
                  (try simp only [Act.put, List.setIfInBounds_toArray, List.set_cons_zero, List.set_cons_succ])
                  refine seq_pure (v := ?_) (by rfl) ?_ ?_
                  rotate_left
                  · (intro w hS; go_simp; try with_reducible rfl)
                  (try simp only [Act.put, List.setIfInBounds_toArray, List.set_cons_zero, List.set_cons_succ])
                  refine seq_pure (v := ?_) (by rfl) ?_ ?_
                  rotate_left
                  · (intro w hS; go_simp; try with_reducible rfl)
                  (try simp only [Act.put, List.setIfInBounds_toArray, List.set_cons_zero, List.set_cons_succ])
                  refine seq_pure (v := ?_) (by rfl) ?_ ?_
                  rotate_left
                  · (intro w hS; have m0 := oldcell hS w0 (World.block_lt_of_cell? _ _ w0); have m1 := oldcell hS w1 (World.block_lt_of_cell? _ _ w1); have m2 := oldcell hS w2 (World.block_lt_of_cell? _ _ w2); go_simp; try with_reducible rfl)
                  (try simp only [Act.put, List.setIfInBounds_toArray, List.set_cons_zero, List.set_cons_succ])
                  refine seq_pure (v := ?_) (by rfl) ?_ ?_
                  rotate_left
                  · (intro w hS; have h1 := gate_neq g.k g.a g.b g.k g.a g.b w; go_simp; try with_reducible rfl)
                  (try simp only [Act.put, List.setIfInBounds_toArray, List.set_cons_zero, List.set_cons_succ])
                  refine seq_pure (v := ?_) (by rfl) ?_ ?_
                  rotate_left
                  · (intro w hS; go_simp; try with_reducible rfl)
                  (try simp only [Act.put, List.setIfInBounds_toArray, List.set_cons_zero, List.set_cons_succ])
                  refine seq_pure (v := ?_) (by rfl) ?_ ?_
                  rotate_left
                  · (intro w hS; go_simp; try with_reducible rfl)
                  (try simp only [Act.put, List.setIfInBounds_toArray, List.set_cons_zero, List.set_cons_succ])
                  refine seq_pure (v := ?_) (by rfl) ?_ ?_
                  rotate_left
                  · (intro w hS; have kk := oldcell hS j17 (World.block_lt_of_cell? _ _ j17); go_simp; try with_reducible rfl)
                  (try simp only [Act.put, List.setIfInBounds_toArray, List.set_cons_zero, List.set_cons_succ])
                  refine seq_pure (v := ?_) (by rfl) ?_ ?_
                  rotate_left
                  · (intro w hS; go_simp; try with_reducible rfl)
                  (try simp only [Act.put, List.setIfInBounds_toArray, List.set_cons_zero, List.set_cons_succ])
                  refine seq_pure (v := ?_) (by rfl) ?_ ?_
                  rotate_left
                  · (intro w hS; go_simp; try with_reducible rfl)
                  (try simp only [Act.put, List.setIfInBounds_toArray, List.set_cons_zero, List.set_cons_succ])
                  refine seq_pure (v := ?_) (by rfl) ?_ ?_
                  rotate_left
                  · (intro w hS; have m0 := oldcell hS d0 (World.block_lt_of_cell? _ _ d0); have m1 := oldcell hS d1 (World.block_lt_of_cell? _ _ d1); have m2 := oldcell hS d2 (World.block_lt_of_cell? _ _ d2); go_simp; try with_reducible rfl)
                  (try simp only [Act.put, List.setIfInBounds_toArray, List.set_cons_zero, List.set_cons_succ])
                  refine seq_pure (v := ?_) (by rfl) ?_ ?_
                  rotate_left
                  · (intro w hS; go_simp; try with_reducible rfl)
                  (try simp only [Act.put, List.setIfInBounds_toArray, List.set_cons_zero, List.set_cons_succ])
                  refine seq_pure (v := ?_) (by rfl) ?_ ?_
                  rotate_left
                  · (intro w hS; go_simp; try with_reducible rfl)
                  (try simp only [Act.put, List.setIfInBounds_toArray, List.set_cons_zero, List.set_cons_succ])
                  refine seq_pure (v := ?_) (by rfl) ?_ ?_
                  rotate_left
                  · (intro w hS; go_simp; try with_reducible rfl)
                  (try simp only [Act.put, List.setIfInBounds_toArray, List.set_cons_zero, List.set_cons_succ])
                  refine seq_pure (v := ?_) (by rfl) ?_ ?_
                  rotate_left
                  · (intro w hS; have m0 := oldcell hS w0 (World.block_lt_of_cell? _ _ w0); have m1 := oldcell hS w1 (World.block_lt_of_cell? _ _ w1); have m2 := oldcell hS w2 (World.block_lt_of_cell? _ _ w2); go_simp; try with_reducible rfl)
                  (try simp only [Act.put, List.setIfInBounds_toArray, List.set_cons_zero, List.set_cons_succ])
                  refine seq_pure (v := ?_) (by rfl) ?_ ?_
                  rotate_left
                  · (intro w hS; have h1 := gate_neq g.k g.a g.b g.k g.a g.b w; go_simp; try with_reducible rfl)
                  (try simp only [Act.put, List.setIfInBounds_toArray, List.set_cons_zero, List.set_cons_succ])
                  refine seq_pure (v := ?_) (by rfl) ?_ ?_
                  rotate_left
                  · (intro w hS; go_simp; try with_reducible rfl)
                  (try simp only [Act.put, List.setIfInBounds_toArray, List.set_cons_zero, List.set_cons_succ])
                  refine seq_pure (v := ?_) (by rfl) ?_ ?_
                  rotate_left
                  · (intro w hS; go_simp; try with_reducible rfl)
                  (try simp only [Act.put, List.setIfInBounds_toArray, List.set_cons_zero, List.set_cons_succ])
                  refine seq_pure (v := ?_) (by rfl) ?_ ?_
                  rotate_left
                  · (intro w hS; go_simp; try with_reducible rfl)
                  (try simp only [Act.put, List.setIfInBounds_toArray, List.set_cons_zero, List.set_cons_succ])
                  refine seq_pure (v := ?_) (by rfl) ?_ ?_
                  rotate_left
                  · (intro w hS; have kk := oldcell hS j20 (World.block_lt_of_cell? _ _ j20); go_simp; try with_reducible rfl)
                  (try simp only [Act.put, List.setIfInBounds_toArray, List.set_cons_zero, List.set_cons_succ])
                  refine seq_pure (v := ?_) (by rfl) ?_ ?_
                  rotate_left
                  · (intro w hS; go_simp; try with_reducible rfl)
                  (try simp only [Act.put, List.setIfInBounds_toArray, List.set_cons_zero, List.set_cons_succ])
                  refine seq_pure (v := ?_) (by rfl) ?_ ?_
                  rotate_left
                  · (intro w hS; go_simp; try with_reducible rfl)
                  (try simp only [Act.put, List.setIfInBounds_toArray, List.set_cons_zero, List.set_cons_succ])
                  refine seq_pure (v := ?_) (by rfl) ?_ ?_
                  rotate_left
                  · (intro w hS; have m0 := oldcell hS e0 (World.block_lt_of_cell? _ _ e0); have m1 := oldcell hS e1 (World.block_lt_of_cell? _ _ e1); have m2 := oldcell hS e2 (World.block_lt_of_cell? _ _ e2); go_simp; try with_reducible rfl)
                  (try simp only [Act.put, List.setIfInBounds_toArray, List.set_cons_zero, List.set_cons_succ])
                  refine seq_pure (v := ?_) (by rfl) ?_ ?_
                  rotate_left
                  · (intro w hS; go_simp; try with_reducible rfl)
                  (try simp only [Act.put, List.setIfInBounds_toArray, List.set_cons_zero, List.set_cons_succ])
                  refine seq_pure (v := ?_) (by rfl) ?_ ?_
                  rotate_left
                  · (intro w hS; go_simp; try with_reducible rfl)
                  (try simp only [Act.put, List.setIfInBounds_toArray, List.set_cons_zero, List.set_cons_succ])
                  refine seq_pure (v := ?_) (by rfl) ?_ ?_
                  rotate_left
                  · (intro w hS; go_simp; try with_reducible rfl)
                  (try simp only [Act.put, List.setIfInBounds_toArray, List.set_cons_zero, List.set_cons_succ])
                  refine seq_pure (v := ?_) (by rfl) ?_ ?_
                  rotate_left
                  · (intro w hS; have m0 := oldcell hS w0 (World.block_lt_of_cell? _ _ w0); have m1 := oldcell hS w1 (World.block_lt_of_cell? _ _ w1); have m2 := oldcell hS w2 (World.block_lt_of_cell? _ _ w2); go_simp; try with_reducible rfl)
                  (try simp only [Act.put, List.setIfInBounds_toArray, List.set_cons_zero, List.set_cons_succ])
                  refine seq_pure (v := ?_) (by rfl) ?_ ?_
                  rotate_left
                  · (intro w hS; have h1 := gate_neq g.k g.a g.b g.k g.a g.b w; go_simp; try with_reducible rfl)
                  (try simp only [Act.put, List.setIfInBounds_toArray, List.set_cons_zero, List.set_cons_succ])
                  refine seq_pure (v := ?_) (by rfl) ?_ ?_
                  rotate_left
                  · (intro w hS; go_simp; try with_reducible rfl)
                  (try simp only [Act.put, List.setIfInBounds_toArray, List.set_cons_zero, List.set_cons_succ])
                  refine seq_nil ?_
                  intro w2 HB
                  go_wp2_with fail
                  go_roundg (c.length - (k + 1))
                  case measure => omega
                  case rel => exact ⟨k + 1, by go_num, by omega, rfl, btr hB HB⟩
                case neg =>
                  have hge : (c.length : Int) ≤ (k : Int) := by omega
                  go_wp2_with fail
                  clear j20
                  clear j17
                  clear j12
                  clear hge hlt hk
                  obtain ⟨w9, hw9⟩ : ∃ x : World, x = wr := ⟨_, rfl⟩
                  subst hw9
                  have hB9 := hB; clear hB
                  go_loopg [23] D.length (fun n v wr => ∃ k : Nat, v = .int .i64 k ∧ k ≤ D.length ∧ n = D.length - k ∧ Below wc.heap.size wc wr)
                  case atStart => exact ⟨0, rfl, by omega, by omega, hB9⟩
                  case round =>
                    obtain ⟨k, rfl, hk, rfl, hB⟩ := hrel
                    have j20 := oldcell hB k20 (World.block_lt_of_cell? _ _ k20)
                    have j17 := oldcell hB k17 (World.block_lt_of_cell? _ _ k17)
                    by_cases hlt : k < D.length
                    case pos =>
                      have hlt0 : (0 : Int) ≤ (k : Int) := by omega
                      obtain ⟨g, hg⟩ : ∃ g, D[k]? = some g := ⟨_, List.getElem?_eq_getElem hlt⟩
                      have hld : (k : Int) < (D.length : Int) := by omega
                      obtain ⟨u0, u1, u2⟩ := Ud.out k g hg
                      have d0 := oldcell hB u0 (by omega)
                      have d1 := oldcell hB u1 (by omega)
                      have d2 := oldcell hB u2 (by omega)
                      clear u0 u1 u2
                      have hlk : (k : Int) < (D.length : Int) := by omega
                      obtain ⟨u0, u1, u2⟩ := Uk.out k g hg
                      have k0 := oldcell hB u0 (by omega)
                      have k1 := oldcell hB u1 (by omega)
                      have k2 := oldcell hB u2 (by omega)
                      clear u0 u1 u2
                      have hd := gEq_true (rfl : g = g)
                      have HGk := Lib.hid hg; clear hg
                      go_wp2_with fail
                      refine wp_region_seq (fun w' => Below wr.heap.size wr w') (by kernel_rfl) (by kernel_rfl) (by go_grown) ?_
                      refine seq_pure (v := ?_) (by rfl) ?_ ?_
                      rotate_left
                      · (intro w hS; go_simp; try with_reducible rfl)
                      (try simp only [Act.put, List.setIfInBounds_toArray, List.set_cons_zero, List.set_cons_succ])
                      refine seq_pure (v := ?_) (by rfl) ?_ ?_
                      rotate_left
                      · (intro w hS; have kk := oldcell hS j17 (World.block_lt_of_cell? _ _ j17); go_simp; try with_reducible rfl)
                      (try simp only [Act.put, List.setIfInBounds_toArray, List.set_cons_zero, List.set_cons_succ])
                      refine seq_pure (v := ?_) (by rfl) ?_ ?_
                      rotate_left
                      · (intro w hS; go_simp; try with_reducible rfl)
                      (try simp only [Act.put, List.setIfInBounds_toArray, List.set_cons_zero, List.set_cons_succ])
                      refine seq_pure (v := ?_) (by rfl) ?_ ?_
                      rotate_left
                      · (intro w hS; go_simp; try with_reducible rfl)
                      (try simp only [Act.put, List.setIfInBounds_toArray, List.set_cons_zero, List.set_cons_succ])
                      refine seq_pure (v := ?_) (by rfl) ?_ ?_
                      rotate_left
                      · (intro w hS; have m0 := oldcell hS d0 (World.block_lt_of_cell? _ _ d0); have m1 := oldcell hS d1 (World.block_lt_of_cell? _ _ d1); have m2 := oldcell hS d2 (World.block_lt_of_cell? _ _ d2); go_simp; try with_reducible rfl)
                      (try simp only [Act.put, List.setIfInBounds_toArray, List.set_cons_zero, List.set_cons_succ])
                      refine seq_pure (v := ?_) (by rfl) ?_ ?_
                      rotate_left
                      · (intro w hS; go_simp; try with_reducible rfl)
                      (try simp only [Act.put, List.setIfInBounds_toArray, List.set_cons_zero, List.set_cons_succ])
                      refine seq_pure (v := ?_) (by rfl) ?_ ?_
                      rotate_left
                      · (intro w hS; go_simp; try with_reducible rfl)
                      (try simp only [Act.put, List.setIfInBounds_toArray, List.set_cons_zero, List.set_cons_succ])
                      refine seq_pure (v := ?_) (by rfl) ?_ ?_
                      rotate_left
                      · (intro w hS; go_simp; try with_reducible rfl)
                      (try simp only [Act.put, List.setIfInBounds_toArray, List.set_cons_zero, List.set_cons_succ])
                      refine seq_pure (v := ?_) (by rfl) ?_ ?_
                      rotate_left
                      · (intro w hS; have m0 := oldcell hS k0 (World.block_lt_of_cell? _ _ k0); have m1 := oldcell hS k1 (World.block_lt_of_cell? _ _ k1); have m2 := oldcell hS k2 (World.block_lt_of_cell? _ _ k2); go_simp; try with_reducible rfl)
                      (try simp only [Act.put, List.setIfInBounds_toArray, List.set_cons_zero, List.set_cons_succ])
                      refine seq_pure (v := ?_) (by rfl) ?_ ?_
                      rotate_left
                      · (intro w hS; have h1 := gate_neq g.k g.a g.b g.k g.a g.b w; go_simp; try with_reducible rfl)
                      (try simp only [Act.put, List.setIfInBounds_toArray, List.set_cons_zero, List.set_cons_succ])
                      refine seq_nil ?_
                      intro w2 HB
                      go_wp2_with fail
                      go_roundg (D.length - (k + 1))
                      case measure => omega
                      case rel => exact ⟨k + 1, by go_num, by omega, rfl, btr hB HB⟩
                    case neg =>
                      have hge : (D.length : Int) ≤ (k : Int) := by omega
                      have HB : Below wr.heap.size wr wr := Below.refl _ _
                      have T0 := Lib.hid (fun (w' : World) (hB' : Below wr.heap.size wr w') => eval_is (cv := cv) h17.out (btr hB hB') ((Hvals.out.mono hW).mono (btr hB hB')) WD.out SD.out rfl dl2 hvm)
                      have T1 := Lib.hid (fun (w' : World) (hB' : Below wr.heap.size wr w') => eval_is (cv := cv) h20.out (btr hB hB') ((Hvals.out.mono hW).mono (btr hB hB')) WE.out SE.out rfl el2 hvm)
                      clear k17 k20
                      have k17 := j17; have k20 := j20; clear j17 j20
                      go_wp2_with (first | (go_at_call 30; (with_reducible refine (T0.out _ (by first | exact HB | go_grown)).mono ?_); rintro e w2 ⟨rfl, hbl⟩; have k17 := oldcell hbl k17 (World.block_lt_of_cell? _ _ k17); have k20 := oldcell hbl k20 (World.block_lt_of_cell? _ _ k20); have HB : Below wr.heap.size wr w2 := by first | exact btr HB hbl | exact hbl) | (go_at_call 30; (with_reducible refine (T1.out _ (by first | exact HB | go_grown)).mono ?_); rintro e w2 ⟨rfl, hbl⟩; have k17 := oldcell hbl k17 (World.block_lt_of_cell? _ _ k17); have k20 := oldcell hbl k20 (World.block_lt_of_cell? _ _ k20); have HB : Below wr.heap.size wr w2 := by first | exact btr HB hbl | exact hbl))
                      go_ret
                      exact ⟨rfl, btr (btr hW hB) HB⟩
end Go.Proofs.Ytanlecgpnknhoaa
