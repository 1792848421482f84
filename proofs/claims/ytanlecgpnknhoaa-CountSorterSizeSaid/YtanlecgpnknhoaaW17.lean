/- Walks of layer 13: the fixed examples. -/
import Derived.Test.YtanlecgpnknhoaaW16
import Derived.Test.YtanlecgpnknhoaaSeq
namespace Go.Proofs.Ytanlecgpnknhoaa
set_option linter.unusedSimpArgs false
set_option linter.unusedVariables false
open Go.RowKit

def h1 : List Gate := [⟨0, 0, 0⟩, ⟨1, 3, 0⟩]
def h2 : List Gate := [⟨0, 0, 0⟩, ⟨1, 3, 0⟩, ⟨1, 1, 0⟩]
def h3 : List Gate := [⟨0, 0, 0⟩, ⟨1, 3, 0⟩, ⟨1, 1, 0⟩, ⟨2, 2, 4⟩]
def h4 : List Gate := [⟨0, 0, 0⟩, ⟨1, 3, 0⟩, ⟨1, 1, 0⟩, ⟨2, 2, 4⟩, ⟨2, 2, 5⟩, ⟨2, 3, 4⟩, ⟨2, 9, 11⟩]


theorem btr {w w1 w2 : World} (h1 : Below w.heap.size w w1) (h2 : Below w1.heap.size w1 w2) : Below w.heap.size w w2 := h1.trans (h2.mono h1.size)
theorem bal {w w1 : World} (h1 : Below w.heap.size w w1) (x : Obj) : Below w.heap.size w (w1.alloc x) := btr h1 (by go_grown)
theorem bst {w w1 : World} (h1 : Below w.heap.size w w1) {b o : Nat} (hb : w.heap.size ≤ b) {v : Value} : Below w.heap.size w (w1.setCell ⟨b, o, none⟩ v) := Below.setCell h1 hb _
theorem bdrew {w w1 : World} (h1 : Below w.heap.size w w1) : Below w.heap.size w w1.drew := btr h1 (by go_grown)
theorem Bx.drew {w : World} {b : Nat} {gs : List Gate} (h : Bx w b gs) : Bx w.drew b gs := h.up (by go_grown)

theorem Bx.own {w : World} {b : Nat} {p : Option Addr} {cap : Nat} {gs : List Gate} {a : Option Addr} {n c : Nat} (h : CAt w p cap gs) (h1 : w.cell? ⟨b, 0, none⟩ = some (.slice a n c)) (h2 : w.frozen? ⟨b, 0, none⟩ = false) : Bx (w.setCell ⟨b, 0, none⟩ (.slice p gs.length cap)) b gs :=
  ⟨p, cap, by go_cell, by rw [World.frozen?_setCell]; exact h2, h.le, h.cm, h.p0, h.at'.setBox h1 (gEnc_ne_slice _ _ _) _⟩
theorem Bx.farOwn {w : World} {b b' : Nat} {v : Value} {gs : List Gate} {a : Option Addr} {n c : Nat} (h : Bx w b gs) (h1 : w.cell? ⟨b', 0, none⟩ = some (.slice a n c)) (hne : b' ≠ b) : Bx (w.setCell ⟨b', 0, none⟩ v) b gs := by
  obtain ⟨p, cap, k1, k2, k3⟩ := h
  exact ⟨p, cap, keep_far k1 hne, by rw [World.frozen?_setCell]; exact k2, k3.le, k3.cm, k3.p0, k3.at'.setBox h1 (gEnc_ne_slice _ _ _) _⟩

theorem Bx.lit {w : World} {cs : Array Value} {gs : List Gate} {n : Nat} {t t2 : TypeId} (h : cs.toList = flat 3 gEnc gs) (hn : gs.length = n) (hm : n ≤ maxLen) : Bx ((w.alloc (.cells cs t)).alloc (.cells #[.slice (some ⟨w.heap.size, 0, none⟩) n n] t2)) (w.heap.size + 1) gs := by
  subst hn
  have e : (w.alloc (.cells cs t)).heap.size = w.heap.size + 1 := by simp
  have := Bx.new (w := w.alloc (.cells cs t)) (p := some ⟨w.heap.size, 0, none⟩) (cap := gs.length) (gs := gs) ⟨Nat.le_refl _, hm, fun h => (by cases h), SlAt.block h⟩ t2
  rw [e] at this
  exact this

theorem NewPost.c {w : World} {e : Ending} {w' : World} (h : NewPost w e w') : ∃ p, e = .returned (.agg #[.slice p cnew.length 1]) ∧ CAt w' p 1 cnew ∧ Below w.heap.size w w' := by
  obtain ⟨p, h1, h2, h3, h4, _⟩ := h
  exact ⟨p, h1, ⟨Nat.le_refl _, by decide, h3, h2⟩, h4⟩

theorem h4_flat : flat 3 gEnc h4 = [.int .i64 0, .int .i64 0, .int .i64 0, .int .i64 1, .int .i64 3, .int .i64 0, .int .i64 1, .int .i64 1, .int .i64 0, .int .i64 2, .int .i64 2, .int .i64 4, .int .i64 2, .int .i64 2, .int .i64 5, .int .i64 2, .int .i64 3, .int .i64 4, .int .i64 2, .int .i64 9, .int .i64 11] := by
  simp [flat, h4, gEnc, List.range, List.range.loop]

theorem e1 : cinput cnew 3 = (h1, 2) := by decide
theorem e2 : cinput h1 1 = (h2, 4) := by decide
theorem e3 : cand h2 4 2 = (h3, 6) := by decide
theorem e4 : ciff h3 2 4 = (h4, 12) := by decide
theorem e5 : cand h4 2 3 = (h4, 1) := by decide
theorem e6 : cinput h4 0 = (h4, -1) := by decide
theorem e7 : cand h4 99 2 = (h4, -1) := by decide

theorem wf4 : WfC h4 := by
  intro i g hg
  rcases i with _ | _ | _ | _ | _ | _ | _ | i <;> simp [h4] at hg <;> subst hg <;> simp

set_option maxRecDepth 100000 in
set_option maxHeartbeats 16000000 in
theorem head_any (w : World) : Calls Try.prog 17 #[] w (RetB w true) := by
  go_enter Try.func17, Try.ntmps17
-- GEN
  go_upto_region 1 with fail
  go_cut [1, 2] (fun s1 s2 wx => ∃ b1 : Nat, s1 = .pointer (some ⟨b1, 0, none⟩) ∧ w.heap.size ≤ b1 ∧ s2 = .int .i64 2 ∧ Bx wx b1 h1 ∧ Below w.heap.size w wx)
  case first =>
    as_aux_lemma =>
      go_wp2_with (first | (go_at_call 34; refine (new_any _).mono ?_; rintro e w1 hN; obtain ⟨p1, rfl, hC, hbl⟩ := hN.c) | (go_at_call 19; refine (input_is hC (Below.refl _ _) e1 (by decide)).mono ?_; rintro e w2 ⟨p2, cap2, rfl, hC2, hbl2⟩))
      have hs := hbl.size
      have hs2 := hbl2.size
      go_meet
      exact ⟨_, rfl, by omega, rfl, Bx.new hC2 _, bal (btr hbl hbl2) _⟩
  case rest =>
    obtain ⟨b1, rfl, hb1, rfl, hB1, hW⟩ := hcut
    go_upto_region 2 with fail
    have hlt := hB1.lt
    obtain ⟨p, cap, k1, k1f, hC⟩ := id hB1
    go_cut [3] (fun s3 wx => s3 = .int .i64 4 ∧ Bx wx b1 h2 ∧ Below w.heap.size w wx)
    case first =>
      as_aux_lemma =>
        go_wp2_with (first | (go_at_call 19; refine (input_is hC (Below.refl _ _) e2 (by decide)).mono ?_; rintro e w2 ⟨p2, cap2, rfl, hC2, hbl⟩; have j0 := oldcell hbl k1 hlt; have j1 := oldfree hbl k1f hlt))
        have hsW := hW.size
        have hs := hbl.size
        have hl1 := hB1.lt
        go_meet
        exact ⟨rfl, Bx.put hC2 (hB1.up hbl), (bst (btr hW hbl) hb1)⟩
    case rest =>
      clear hlt k1 k1f hC hB1 hW
      obtain ⟨rfl, hB1, hW⟩ := hcut
      go_upto_region 3 with fail
      have hlt := hB1.lt
      obtain ⟨p, cap, k1, k1f, hC⟩ := id hB1
      go_cut [4] (fun s4 wx => s4 = .int .i64 6 ∧ Bx wx b1 h3 ∧ Below w.heap.size w wx)
      case first =>
        as_aux_lemma =>
          go_wp2_with (first | (go_at_call 21; refine (and_is hC (Below.refl _ _) (by decide) (by decide) (by decide) e3).mono ?_; rintro e w2 ⟨p2, cap2, rfl, hC2, hbl⟩; have j0 := oldcell hbl k1 hlt; have j1 := oldfree hbl k1f hlt))
          have hsW := hW.size
          have hs := hbl.size
          have hl1 := hB1.lt
          go_meet
          exact ⟨rfl, Bx.put hC2 (hB1.up hbl), (bst (btr hW hbl) hb1)⟩
      case rest =>
        clear hlt k1 k1f hC hB1 hW
        obtain ⟨rfl, hB1, hW⟩ := hcut
        go_upto_region 4 with fail
        have hlt := hB1.lt
        obtain ⟨p, cap, k1, k1f, hC⟩ := id hB1
        go_cut [5] (fun s5 wx => s5 = .int .i64 12 ∧ Bx wx b1 h4 ∧ Below w.heap.size w wx)
        case first =>
          as_aux_lemma =>
            go_wp2_with (first | (go_at_call 25; refine (iff_is hC (Below.refl _ _) (by decide) (by decide) (by decide) e4).mono ?_; rintro e w2 ⟨p2, cap2, rfl, hC2, hbl⟩; have j0 := oldcell hbl k1 hlt; have j1 := oldfree hbl k1f hlt))
            have hsW := hW.size
            have hs := hbl.size
            have hl1 := hB1.lt
            go_meet
            exact ⟨rfl, Bx.put hC2 (hB1.up hbl), (bst (btr hW hbl) hb1)⟩
        case rest =>
          clear hlt k1 k1f hC hB1 hW
          obtain ⟨rfl, hB1, hW⟩ := hcut
          go_upto_region 5 with fail
          have hlt := hB1.lt
          obtain ⟨p, cap, k1, k1f, hC⟩ := id hB1
          go_cut [6, 7] (fun s6 s7 wx => ∃ b6 : Nat, s6 = .pointer (some ⟨b6, 0, none⟩) ∧ w.heap.size ≤ b6 ∧ s7 = .int .i64 1 ∧ Bx wx b6 h4 ∧ Bx wx b1 h4 ∧ Below w.heap.size w wx)
          case first =>
            as_aux_lemma =>
              go_region_held3 (fun w' => w'.cell? ⟨b1, 0, none⟩ = some (.slice p (h4).length cap)) ((repeat (first | (with_reducible assumption) | (with_reducible refine keep_drew ?_) | (with_reducible refine keep_far ?_ (by dsimp only; omega)) | (go_cell; done) | (with_reducible refine keep_alloc ?_)))) (first | (go_at_call 32; refine (not_any _ _ (by decide)).mono ?_; rintro e w' ⟨rfl, rfl⟩) | (go_at_call 21; refine (and_is hC (by go_grown) (by decide) (by decide) (by decide) e5).mono ?_; rintro e w2 ⟨p2, cap2, rfl, hC2, hbl⟩; have j0 := oldcell (b := b1) (o := 0) (v := .slice p (h4).length cap) hbl (by go_cell) (by simp <;> omega); have HZ := hbl.size; obtain ⟨hc1, hf1⟩ := bcell hbl))
              all_goals
                go_wp2_with fail
                have hsW := hW.size
                have HB : Below wc.heap.size wc w2 := btr (by go_grown) hbl
                have HZ2 := HB.size
                simp at HZ
                have hl1 := hB1.lt
                go_meet
                refine ⟨_, rfl, ?_, rfl, ?_, ?_, ?_⟩
                · first | omega | (simp; omega) | simp
                · first | exact Bx.new hC2 _ | (refine Bx.own (a := none) (n := 0) (c := 0) hC2 ?_ ?_ <;> go_cell)
                · first | exact (hB1.up HB).alloc _ | (refine Bx.farOwn (a := none) (n := 0) (c := 0) (hB1.up HB) ?_ ?_ <;> first | go_cell | omega)
                · first | exact bal (btr hW HB) _ | exact bst (btr hW HB) (by omega)
          case rest =>
            clear hlt k1 k1f hC hB1 hW
            obtain ⟨b6, rfl, hb6, rfl, hB6, hB1, hW⟩ := hcut
            go_upto_region 6 with fail
            have hlt := hB1.lt
            obtain ⟨p, cap, k1, k1f, hC⟩ := id hB1
            go_cut [8, 9] (fun s8 s9 wx => ∃ b8 : Nat, s8 = .pointer (some ⟨b8, 0, none⟩) ∧ w.heap.size ≤ b8 ∧ s9 = .int .i64 (-1) ∧ Bx wx b8 h4 ∧ Bx wx b6 h4 ∧ Bx wx b1 h4 ∧ Below w.heap.size w wx)
            case first =>
              as_aux_lemma =>
                go_wp2_with (first | (go_at_call 19; refine (input_is hC (Below.refl _ _) e6 (by decide)).mono ?_; rintro e w2 ⟨p2, cap2, rfl, hC2, hbl⟩))
                have hsW := hW.size
                have hs := hbl.size
                have hl6 := hB6.lt
                have hl1 := hB1.lt
                go_meet
                exact ⟨_, rfl, (by omega), rfl, Bx.new hC2 _, (hB6.up hbl).alloc _, (hB1.up hbl).alloc _, (bal (btr hW hbl) _)⟩
            case rest =>
              clear hlt k1 k1f hC hB6 hB1 hW
              obtain ⟨b8, rfl, hb8, rfl, hB8, hB6, hB1, hW⟩ := hcut
              go_upto_region 7 with fail
              have hlt := hB1.lt
              obtain ⟨p, cap, k1, k1f, hC⟩ := id hB1
              go_cut [10, 11] (fun s10 s11 wx => ∃ b10 : Nat, s10 = .pointer (some ⟨b10, 0, none⟩) ∧ w.heap.size ≤ b10 ∧ s11 = .int .i64 (-1) ∧ Bx wx b10 h4 ∧ Bx wx b8 h4 ∧ Bx wx b6 h4 ∧ Bx wx b1 h4 ∧ Below w.heap.size w wx)
              case first =>
                as_aux_lemma =>
                  go_wp2_with (first | (go_at_call 21; refine (and_is hC (Below.refl _ _) (by decide) (by decide) (by decide) e7).mono ?_; rintro e w2 ⟨p2, cap2, rfl, hC2, hbl⟩))
                  have hsW := hW.size
                  have hs := hbl.size
                  have hl8 := hB8.lt
                  have hl6 := hB6.lt
                  have hl1 := hB1.lt
                  go_meet
                  exact ⟨_, rfl, (by omega), rfl, Bx.new hC2 _, (hB8.up hbl).alloc _, (hB6.up hbl).alloc _, (hB1.up hbl).alloc _, (bal (btr hW hbl) _)⟩
              case rest =>
                clear hlt k1 k1f hC hB8 hB6 hB1 hW
                obtain ⟨b10, rfl, hb10, rfl, hB10, hB8, hB6, hB1, hW⟩ := hcut
                go_upto_region 8 with fail
                go_cut [12] (fun s12 wx => ∃ b12 : Nat, s12 = .pointer (some ⟨b12, 0, none⟩) ∧ Bx wx b12 h4 ∧ Bx wx b6 h4 ∧ Bx wx b1 h4 ∧ Below w.heap.size w wx)
                case first =>
                    go_wp2_with (first | ((refine wpList_run (o := ⟨some 65, _, _, _, _, _⟩) (v := .slice (some ⟨wc.heap.size, 0, none⟩) 7 7) (w' := wc.alloc (.cells #[.int .i64 0, .int .i64 0, .int .i64 0, .int .i64 1, .int .i64 3, .int .i64 0, .int .i64 1, .int .i64 1, .int .i64 0, .int .i64 2, .int .i64 2, .int .i64 4, .int .i64 2, .int .i64 2, .int .i64 5, .int .i64 2, .int .i64 3, .int .i64 4, .int .i64 2, .int .i64 9, .int .i64 11] 47)) rfl ?_ ?_); (kernel_rfl)))
                    go_meet
                    refine ⟨_, rfl, Bx.lit (by rw [h4_flat]) rfl (by decide), (hB6.alloc _).alloc _, (hB1.alloc _).alloc _, bal (bal hW _) _⟩
                case rest =>
                  clear hB10 hB8 hB6 hB1 hW
                  obtain ⟨b12, rfl, hB12, hB6, hB1, hW⟩ := hcut
                  go_upto_region 9 with fail
                  obtain ⟨p1, c1, k1, k1f, hC1⟩ := id hB1
                  obtain ⟨p6, c6, k6, k6f, hC6⟩ := id hB6
                  obtain ⟨p12, c12, k12, k12f, hC12⟩ := id hB12
                  have S1 := Lib.hid (fun (w' : World) (hB : Below (wc).heap.size wc w') => show Calls Try.prog 27 #[.agg #[.slice p1 h4.length c1], .agg #[.slice p12 h4.length c12]] w' (RetB w' true) from same_is hC1 hC12 hB (csame_self _))
                  have S2 := Lib.hid (fun (w' : World) (hB : Below (wc).heap.size wc w') => show Calls Try.prog 27 #[.agg #[.slice p6 h4.length c6], .agg #[.slice p1 h4.length c1]] w' (RetB w' true) from same_is hC6 hC1 hB (csame_self _))
                  go_cut [13] (fun s13 wx => s13 = .bool true ∧ Bx wx b1 h4 ∧ Below w.heap.size w wx)
                  case first =>
                    as_aux_lemma =>
                      go_wp2_with (first | (go_at_call 27; (with_reducible refine (S1.out _ (by first | exact HB | exact Below.refl _ _)).mono ?_); rintro e w2 ⟨rfl, hbl⟩; have k1 := oldcell hbl k1 (World.block_lt_of_cell? _ _ k1); have k6 := oldcell hbl k6 (World.block_lt_of_cell? _ _ k6); have HB : Below wc.heap.size wc w2 := by first | exact btr HB hbl | exact hbl) | (go_at_call 27; (with_reducible refine (S2.out _ (by first | exact HB | exact Below.refl _ _)).mono ?_); rintro e w2 ⟨rfl, hbl⟩; have k1 := oldcell hbl k1 (World.block_lt_of_cell? _ _ k1); have k6 := oldcell hbl k6 (World.block_lt_of_cell? _ _ k6); have HB : Below wc.heap.size wc w2 := by first | exact btr HB hbl | exact hbl))
                      go_meet
                      exact ⟨rfl, hB1.up HB, btr hW HB⟩
                  case rest =>
                    clear k1 k1f hC1 k6 k6f hC6 k12 k12f hC12 hB12 hB6 hB1 hW
                    obtain ⟨rfl, hB1, hW⟩ := hcut
                    obtain ⟨p1, c1, k1, k1f, hC1⟩ := id hB1
                    have hlt := hB1.lt
                    go_upto_region 10 with fail
                    go_cut [14] (fun s14 wx => ∃ bv : Nat, s14 = .slice (some ⟨bv, 0, none⟩) 3 3 ∧ BoolsAt wx (some ⟨bv, 0, none⟩) [true, false, true] ∧ Bx wx b1 h4 ∧ Below w.heap.size w wx)
                    case first =>
                      as_aux_lemma =>
                        go_wp2_with fail
                        go_meet
                        exact ⟨_, rfl, SlAt.block rfl, hB1.alloc _, bal hW _⟩
                    case rest =>
                      clear hB1 hW k1 k1f hC1 hlt
                      obtain ⟨bv, rfl, hV, hB1, hW⟩ := hcut
                      obtain ⟨p1, c1, k1, k1f, hC1⟩ := id hB1
                      have T1 := Lib.hid (fun (w' : World) (hB : Below (wc).heap.size wc w') => show Calls Try.prog 28 #[.agg #[.slice p1 h4.length c1]] w' (RetB w' true) from valid_is hC1 hB (by decide))
                      have T2 := Lib.hid (fun (w' : World) (hB : Below (wc).heap.size wc w') => show Calls Try.prog 28 #[.agg #[.slice none 0 0]] w' (RetB w' false) from valid_is (gs := []) (p := none) (cap := 0) ⟨Nat.le_refl _, by decide, fun _ => rfl, .inl rfl⟩ hB (by decide))
                      have T3 := Lib.hid (fun (w' : World) (hB : Below (wc).heap.size wc w') => show Calls Try.prog 30 #[.agg #[.slice p1 h4.length c1], .slice (some ⟨bv, 0, none⟩) 3 3, .int .i64 6] w' (RetB w' true) from eval_is (vals := [true, false, true]) hC1 hB (hV.mono hB) wf4 (by decide) rfl (by decide) (by decide))
                      have T4 := Lib.hid (fun (w' : World) (hB : Below (wc).heap.size wc w') => show Calls Try.prog 30 #[.agg #[.slice p1 h4.length c1], .slice (some ⟨bv, 0, none⟩) 3 3, .int .i64 12] w' (RetB w' true) from eval_is (vals := [true, false, true]) hC1 hB (hV.mono hB) wf4 (by decide) rfl (by decide) (by decide))
                      have T5 := Lib.hid (fun (w' : World) (hB : Below (wc).heap.size wc w') => show Calls Try.prog 30 #[.agg #[.slice p1 h4.length c1], .slice (some ⟨bv, 0, none⟩) 1 3, .int .i64 6] w' (RetB w' false) from eval_is (vals := [true]) hC1 hB ((hV.take 1).mono hB) wf4 (by decide) rfl (by decide) (by decide))
                      have T6 := Lib.hid (fun (w' : World) (hB : Below (wc).heap.size wc w') => show Calls Try.prog 30 #[.agg #[.slice p1 h4.length c1], .slice none 0 0, .int .i64 1] w' (RetB w' false) from eval_is (vals := []) hC1 hB (.inl rfl) wf4 (by decide) rfl (by decide) (by decide))
                      go_wp2_with fail
                      as_aux_lemma =>
                        dsimp only [List.append]
                        refine wp_region_seq (fun w' => Below wc.heap.size wc w') (by kernel_rfl) (by kernel_rfl) (by go_grown) ?_
                        refine seq_pure (v := ?_) (by rfl) ?_ ?_
                        rotate_left
                        · (intro w hS; go_simp; try with_reducible rfl)
                        (try simp only [Act.put, List.setIfInBounds_toArray, List.set_cons_zero, List.set_cons_succ])
                        refine seq_pure (v := ?_) (by rfl) ?_ ?_
                        rotate_left
                        · (intro w hS; go_simp; try with_reducible rfl)
                        (try simp only [Act.put, List.setIfInBounds_toArray, List.set_cons_zero, List.set_cons_succ])
                        refine seq_pure (v := ?_) (by rfl) ?_ ?_
                        rotate_left
                        · (intro w hS; go_simp; try with_reducible rfl)
                        (try simp only [Act.put, List.setIfInBounds_toArray, List.set_cons_zero, List.set_cons_succ])
                        refine seq_pure (v := ?_) (by rfl) ?_ ?_
                        rotate_left
                        · (intro w hS; go_simp; try with_reducible rfl)
                        (try simp only [Act.put, List.setIfInBounds_toArray, List.set_cons_zero, List.set_cons_succ])
                        refine seq_pure (v := ?_) (by rfl) ?_ ?_
                        rotate_left
                        · (intro w hS; go_simp; try with_reducible rfl)
                        (try simp only [Act.put, List.setIfInBounds_toArray, List.set_cons_zero, List.set_cons_succ])
                        refine seq_pure (v := ?_) (by rfl) ?_ ?_
                        rotate_left
                        · (intro w hS; go_simp; try with_reducible rfl)
                        (try simp only [Act.put, List.setIfInBounds_toArray, List.set_cons_zero, List.set_cons_succ])
                        refine seq_pure (v := ?_) (by rfl) ?_ ?_
                        rotate_left
                        · (intro w hS; go_simp; try with_reducible rfl)
                        (try simp only [Act.put, List.setIfInBounds_toArray, List.set_cons_zero, List.set_cons_succ])
                        refine seq_pure (v := ?_) (by rfl) ?_ ?_
                        rotate_left
                        · (intro w hS; go_simp; try with_reducible rfl)
                        (try simp only [Act.put, List.setIfInBounds_toArray, List.set_cons_zero, List.set_cons_succ])
                        refine seq_pure (v := ?_) (by rfl) ?_ ?_
                        rotate_left
                        · (intro w hS; go_simp; try with_reducible rfl)
                        (try simp only [Act.put, List.setIfInBounds_toArray, List.set_cons_zero, List.set_cons_succ])
                        refine seq_pure (v := ?_) (by rfl) ?_ ?_
                        rotate_left
                        · (intro w hS; go_simp; try with_reducible rfl)
                        (try simp only [Act.put, List.setIfInBounds_toArray, List.set_cons_zero, List.set_cons_succ])
                        refine seq_pure (v := ?_) (by rfl) ?_ ?_
                        rotate_left
                        · (intro w hS; go_simp; try with_reducible rfl)
                        (try simp only [Act.put, List.setIfInBounds_toArray, List.set_cons_zero, List.set_cons_succ])
                        refine seq_pure (v := ?_) (by rfl) ?_ ?_
                        rotate_left
                        · (intro w hS; go_simp; try with_reducible rfl)
                        (try simp only [Act.put, List.setIfInBounds_toArray, List.set_cons_zero, List.set_cons_succ])
                        refine seq_pure (v := ?_) (by rfl) ?_ ?_
                        rotate_left
                        · (intro w hS; go_simp; try with_reducible rfl)
                        (try simp only [Act.put, List.setIfInBounds_toArray, List.set_cons_zero, List.set_cons_succ])
                        refine seq_pure (v := ?_) (by rfl) ?_ ?_
                        rotate_left
                        · (intro w hS; go_simp; try with_reducible rfl)
                        (try simp only [Act.put, List.setIfInBounds_toArray, List.set_cons_zero, List.set_cons_succ])
                        refine seq_pure (v := ?_) (by rfl) ?_ ?_
                        rotate_left
                        · (intro w hS; go_simp; try with_reducible rfl)
                        (try simp only [Act.put, List.setIfInBounds_toArray, List.set_cons_zero, List.set_cons_succ])
                        refine seq_pure (v := ?_) (by rfl) ?_ ?_
                        rotate_left
                        · (intro w hS; go_simp; try with_reducible rfl)
                        (try simp only [Act.put, List.setIfInBounds_toArray, List.set_cons_zero, List.set_cons_succ])
                        refine seq_pure (v := ?_) (by rfl) ?_ ?_
                        rotate_left
                        · (intro w hS; go_simp; try with_reducible rfl)
                        (try simp only [Act.put, List.setIfInBounds_toArray, List.set_cons_zero, List.set_cons_succ])
                        refine seq_pure (v := ?_) (by rfl) ?_ ?_
                        rotate_left
                        · (intro w hS; go_simp; try with_reducible rfl)
                        (try simp only [Act.put, List.setIfInBounds_toArray, List.set_cons_zero, List.set_cons_succ])
                        refine seq_pure (v := ?_) (by rfl) ?_ ?_
                        rotate_left
                        · (intro w hS; go_simp; try with_reducible rfl)
                        (try simp only [Act.put, List.setIfInBounds_toArray, List.set_cons_zero, List.set_cons_succ])
                        refine seq_pure (v := ?_) (by rfl) ?_ ?_
                        rotate_left
                        · (intro w hS; go_simp; try with_reducible rfl)
                        (try simp only [Act.put, List.setIfInBounds_toArray, List.set_cons_zero, List.set_cons_succ])
                        refine seq_pure (v := ?_) (by rfl) ?_ ?_
                        rotate_left
                        · (intro w hS; go_simp; try with_reducible rfl)
                        (try simp only [Act.put, List.setIfInBounds_toArray, List.set_cons_zero, List.set_cons_succ])
                        refine seq_pure (v := ?_) (by rfl) ?_ ?_
                        rotate_left
                        · (intro w hS; go_simp; try with_reducible rfl)
                        (try simp only [Act.put, List.setIfInBounds_toArray, List.set_cons_zero, List.set_cons_succ])
                        refine seq_pure (v := ?_) (by rfl) ?_ ?_
                        rotate_left
                        · (intro w hS; go_simp; try with_reducible rfl)
                        (try simp only [Act.put, List.setIfInBounds_toArray, List.set_cons_zero, List.set_cons_succ])
                        refine seq_pure (v := ?_) (by rfl) ?_ ?_
                        rotate_left
                        · (intro w hS; go_simp; try with_reducible rfl)
                        (try simp only [Act.put, List.setIfInBounds_toArray, List.set_cons_zero, List.set_cons_succ])
                        refine seq_pure (v := ?_) (by rfl) ?_ ?_
                        rotate_left
                        · (intro w hS; go_simp; try with_reducible rfl)
                        (try simp only [Act.put, List.setIfInBounds_toArray, List.set_cons_zero, List.set_cons_succ])
                        refine seq_pure (v := ?_) (by rfl) ?_ ?_
                        rotate_left
                        · (intro w hS; go_simp; try with_reducible rfl)
                        (try simp only [Act.put, List.setIfInBounds_toArray, List.set_cons_zero, List.set_cons_succ])
                        refine seq_pure (v := ?_) (by rfl) ?_ ?_
                        rotate_left
                        · (intro w hS; go_simp; try with_reducible rfl)
                        (try simp only [Act.put, List.setIfInBounds_toArray, List.set_cons_zero, List.set_cons_succ])
                        refine seq_pure (v := ?_) (by rfl) ?_ ?_
                        rotate_left
                        · (intro w hS; go_simp; try with_reducible rfl)
                        (try simp only [Act.put, List.setIfInBounds_toArray, List.set_cons_zero, List.set_cons_succ])
                        refine seq_pure (v := ?_) (by rfl) ?_ ?_
                        rotate_left
                        · (intro w hS; go_simp; try with_reducible rfl)
                        (try simp only [Act.put, List.setIfInBounds_toArray, List.set_cons_zero, List.set_cons_succ])
                        refine seq_pure (v := ?_) (by rfl) ?_ ?_
                        rotate_left
                        · (intro w hS; go_simp; try with_reducible rfl)
                        (try simp only [Act.put, List.setIfInBounds_toArray, List.set_cons_zero, List.set_cons_succ])
                        refine seq_pure (v := ?_) (by rfl) ?_ ?_
                        rotate_left
                        · (intro w hS; have kk := oldcell hS k1 (World.block_lt_of_cell? _ _ k1); go_simp; try with_reducible rfl)
                        (try simp only [Act.put, List.setIfInBounds_toArray, List.set_cons_zero, List.set_cons_succ])
                        refine seq_call (v := .bool true) (f := ?_) (args := ?_) (by rfl) ?_ ?_ ?_
                        rotate_left 2
                        · (intro w hS; go_simp; first | done | with_reducible rfl | (refine ⟨?_, ?_⟩ <;> with_reducible rfl))
                        · (intro w hS; refine (T1.out w hS).mono ?_; rintro e w' ⟨he, hb⟩; exact ⟨he, btr hS hb⟩)
                        (try simp only [Act.put, List.setIfInBounds_toArray, List.set_cons_zero, List.set_cons_succ])
                        refine seq_pure (v := ?_) (by rfl) ?_ ?_
                        rotate_left
                        · (intro w hS; go_simp; try with_reducible rfl)
                        (try simp only [Act.put, List.setIfInBounds_toArray, List.set_cons_zero, List.set_cons_succ])
                        refine seq_pure (v := ?_) (by rfl) ?_ ?_
                        rotate_left
                        · (intro w hS; go_simp; try with_reducible rfl)
                        (try simp only [Act.put, List.setIfInBounds_toArray, List.set_cons_zero, List.set_cons_succ])
                        refine seq_pure (v := ?_) (by rfl) ?_ ?_
                        rotate_left
                        · (intro w hS; go_simp; try with_reducible rfl)
                        (try simp only [Act.put, List.setIfInBounds_toArray, List.set_cons_zero, List.set_cons_succ])
                        refine seq_call (v := .bool false) (f := ?_) (args := ?_) (by rfl) ?_ ?_ ?_
                        rotate_left 2
                        · (intro w hS; go_simp; first | done | with_reducible rfl | (refine ⟨?_, ?_⟩ <;> with_reducible rfl))
                        · (intro w hS; refine (T2.out w hS).mono ?_; rintro e w' ⟨he, hb⟩; exact ⟨he, btr hS hb⟩)
                        (try simp only [Act.put, List.setIfInBounds_toArray, List.set_cons_zero, List.set_cons_succ])
                        refine seq_pure (v := ?_) (by rfl) ?_ ?_
                        rotate_left
                        · (intro w hS; go_simp; try with_reducible rfl)
                        (try simp only [Act.put, List.setIfInBounds_toArray, List.set_cons_zero, List.set_cons_succ])
                        refine seq_pure (v := ?_) (by rfl) ?_ ?_
                        rotate_left
                        · (intro w hS; go_simp; try with_reducible rfl)
                        (try simp only [Act.put, List.setIfInBounds_toArray, List.set_cons_zero, List.set_cons_succ])
                        refine seq_pure (v := ?_) (by rfl) ?_ ?_
                        rotate_left
                        · (intro w hS; go_simp; try with_reducible rfl)
                        (try simp only [Act.put, List.setIfInBounds_toArray, List.set_cons_zero, List.set_cons_succ])
                        refine seq_pure (v := ?_) (by rfl) ?_ ?_
                        rotate_left
                        · (intro w hS; have kk := oldcell hS k1 (World.block_lt_of_cell? _ _ k1); go_simp; try with_reducible rfl)
                        (try simp only [Act.put, List.setIfInBounds_toArray, List.set_cons_zero, List.set_cons_succ])
                        refine seq_pure (v := ?_) (by rfl) ?_ ?_
                        rotate_left
                        · (intro w hS; go_simp; try with_reducible rfl)
                        (try simp only [Act.put, List.setIfInBounds_toArray, List.set_cons_zero, List.set_cons_succ])
                        refine seq_pure (v := ?_) (by rfl) ?_ ?_
                        rotate_left
                        · (intro w hS; go_simp; try with_reducible rfl)
                        (try simp only [Act.put, List.setIfInBounds_toArray, List.set_cons_zero, List.set_cons_succ])
                        refine seq_call (v := .bool true) (f := ?_) (args := ?_) (by rfl) ?_ ?_ ?_
                        rotate_left 2
                        · (intro w hS; go_simp; first | done | with_reducible rfl | (refine ⟨?_, ?_⟩ <;> with_reducible rfl))
                        · (intro w hS; refine (T3.out w hS).mono ?_; rintro e w' ⟨he, hb⟩; exact ⟨he, btr hS hb⟩)
                        (try simp only [Act.put, List.setIfInBounds_toArray, List.set_cons_zero, List.set_cons_succ])
                        refine seq_pure (v := ?_) (by rfl) ?_ ?_
                        rotate_left
                        · (intro w hS; go_simp; try with_reducible rfl)
                        (try simp only [Act.put, List.setIfInBounds_toArray, List.set_cons_zero, List.set_cons_succ])
                        refine seq_pure (v := ?_) (by rfl) ?_ ?_
                        rotate_left
                        · (intro w hS; go_simp; try with_reducible rfl)
                        (try simp only [Act.put, List.setIfInBounds_toArray, List.set_cons_zero, List.set_cons_succ])
                        refine seq_pure (v := ?_) (by rfl) ?_ ?_
                        rotate_left
                        · (intro w hS; have kk := oldcell hS k1 (World.block_lt_of_cell? _ _ k1); go_simp; try with_reducible rfl)
                        (try simp only [Act.put, List.setIfInBounds_toArray, List.set_cons_zero, List.set_cons_succ])
                        refine seq_pure (v := ?_) (by rfl) ?_ ?_
                        rotate_left
                        · (intro w hS; go_simp; try with_reducible rfl)
                        (try simp only [Act.put, List.setIfInBounds_toArray, List.set_cons_zero, List.set_cons_succ])
                        refine seq_pure (v := ?_) (by rfl) ?_ ?_
                        rotate_left
                        · (intro w hS; go_simp; try with_reducible rfl)
                        (try simp only [Act.put, List.setIfInBounds_toArray, List.set_cons_zero, List.set_cons_succ])
                        refine seq_call (v := .bool true) (f := ?_) (args := ?_) (by rfl) ?_ ?_ ?_
                        rotate_left 2
                        · (intro w hS; go_simp; first | done | with_reducible rfl | (refine ⟨?_, ?_⟩ <;> with_reducible rfl))
                        · (intro w hS; refine (T4.out w hS).mono ?_; rintro e w' ⟨he, hb⟩; exact ⟨he, btr hS hb⟩)
                        (try simp only [Act.put, List.setIfInBounds_toArray, List.set_cons_zero, List.set_cons_succ])
                        refine seq_pure (v := ?_) (by rfl) ?_ ?_
                        rotate_left
                        · (intro w hS; go_simp; try with_reducible rfl)
                        (try simp only [Act.put, List.setIfInBounds_toArray, List.set_cons_zero, List.set_cons_succ])
                        refine seq_pure (v := ?_) (by rfl) ?_ ?_
                        rotate_left
                        · (intro w hS; go_simp; try with_reducible rfl)
                        (try simp only [Act.put, List.setIfInBounds_toArray, List.set_cons_zero, List.set_cons_succ])
                        refine seq_pure (v := ?_) (by rfl) ?_ ?_
                        rotate_left
                        · (intro w hS; have kk := oldcell hS k1 (World.block_lt_of_cell? _ _ k1); go_simp; try with_reducible rfl)
                        (try simp only [Act.put, List.setIfInBounds_toArray, List.set_cons_zero, List.set_cons_succ])
                        refine seq_pure (v := ?_) (by rfl) ?_ ?_
                        rotate_left
                        · (intro w hS; go_simp; try with_reducible rfl)
                        (try simp only [Act.put, List.setIfInBounds_toArray, List.set_cons_zero, List.set_cons_succ])
                        refine seq_pure (v := ?_) (by rfl) ?_ ?_
                        rotate_left
                        · (intro w hS; go_simp; try with_reducible rfl)
                        (try simp only [Act.put, List.setIfInBounds_toArray, List.set_cons_zero, List.set_cons_succ])
                        refine seq_pure (v := ?_) (by rfl) ?_ ?_
                        rotate_left
                        · (intro w hS; go_simp; try with_reducible rfl)
                        (try simp only [Act.put, List.setIfInBounds_toArray, List.set_cons_zero, List.set_cons_succ])
                        refine seq_call (v := .bool false) (f := ?_) (args := ?_) (by rfl) ?_ ?_ ?_
                        rotate_left 2
                        · (intro w hS; go_simp; first | done | with_reducible rfl | (refine ⟨?_, ?_⟩ <;> with_reducible rfl))
                        · (intro w hS; refine (T5.out w hS).mono ?_; rintro e w' ⟨he, hb⟩; exact ⟨he, btr hS hb⟩)
                        (try simp only [Act.put, List.setIfInBounds_toArray, List.set_cons_zero, List.set_cons_succ])
                        refine seq_pure (v := ?_) (by rfl) ?_ ?_
                        rotate_left
                        · (intro w hS; go_simp; try with_reducible rfl)
                        (try simp only [Act.put, List.setIfInBounds_toArray, List.set_cons_zero, List.set_cons_succ])
                        refine seq_pure (v := ?_) (by rfl) ?_ ?_
                        rotate_left
                        · (intro w hS; go_simp; try with_reducible rfl)
                        (try simp only [Act.put, List.setIfInBounds_toArray, List.set_cons_zero, List.set_cons_succ])
                        refine seq_pure (v := ?_) (by rfl) ?_ ?_
                        rotate_left
                        · (intro w hS; go_simp; try with_reducible rfl)
                        (try simp only [Act.put, List.setIfInBounds_toArray, List.set_cons_zero, List.set_cons_succ])
                        refine seq_pure (v := ?_) (by rfl) ?_ ?_
                        rotate_left
                        · (intro w hS; have kk := oldcell hS k1 (World.block_lt_of_cell? _ _ k1); go_simp; try with_reducible rfl)
                        (try simp only [Act.put, List.setIfInBounds_toArray, List.set_cons_zero, List.set_cons_succ])
                        refine seq_call (v := .bool false) (f := ?_) (args := ?_) (by rfl) ?_ ?_ ?_
                        rotate_left 2
                        · (intro w hS; go_simp; first | done | with_reducible rfl | (refine ⟨?_, ?_⟩ <;> with_reducible rfl))
                        · (intro w hS; refine (T6.out w hS).mono ?_; rintro e w' ⟨he, hb⟩; exact ⟨he, btr hS hb⟩)
                        (try simp only [Act.put, List.setIfInBounds_toArray, List.set_cons_zero, List.set_cons_succ])
                        refine seq_pure (v := ?_) (by rfl) ?_ ?_
                        rotate_left
                        · (intro w hS; go_simp; try with_reducible rfl)
                        (try simp only [Act.put, List.setIfInBounds_toArray, List.set_cons_zero, List.set_cons_succ])
                        refine seq_pure (v := ?_) (by rfl) ?_ ?_
                        rotate_left
                        · (intro w hS; go_simp; try with_reducible rfl)
                        (try simp only [Act.put, List.setIfInBounds_toArray, List.set_cons_zero, List.set_cons_succ])
                        refine seq_pure (v := ?_) (by rfl) ?_ ?_
                        rotate_left
                        · (intro w hS; go_simp; try with_reducible rfl)
                        (try simp only [Act.put, List.setIfInBounds_toArray, List.set_cons_zero, List.set_cons_succ])
                        refine seq_call (v := .int .i64 (-1)) (f := ?_) (args := ?_) (by rfl) ?_ ?_ ?_
                        rotate_left 2
                        · (intro w hS; go_simp; first | done | with_reducible rfl | (refine ⟨?_, ?_⟩ <;> with_reducible rfl))
                        · (intro w hS; refine (not_any _ _ (by decide)).mono ?_; rintro e w' ⟨he, hb⟩; subst hb; exact ⟨he, hS⟩)
                        (try simp only [Act.put, List.setIfInBounds_toArray, List.set_cons_zero, List.set_cons_succ])
                        refine seq_pure (v := ?_) (by rfl) ?_ ?_
                        rotate_left
                        · (intro w hS; go_simp; try with_reducible rfl)
                        (try simp only [Act.put, List.setIfInBounds_toArray, List.set_cons_zero, List.set_cons_succ])
                        refine seq_pure (v := ?_) (by rfl) ?_ ?_
                        rotate_left
                        · (intro w hS; go_simp; try with_reducible rfl)
                        (try simp only [Act.put, List.setIfInBounds_toArray, List.set_cons_zero, List.set_cons_succ])
                        refine seq_pure (v := ?_) (by rfl) ?_ ?_
                        rotate_left
                        · (intro w hS; go_simp; try with_reducible rfl)
                        (try simp only [Act.put, List.setIfInBounds_toArray, List.set_cons_zero, List.set_cons_succ])
                        refine seq_nil ?_
                        intro w2 HB
                        go_wp2_with fail
                        go_ret
                        exact ⟨rfl, btr hW HB⟩
end Go.Proofs.Ytanlecgpnknhoaa
