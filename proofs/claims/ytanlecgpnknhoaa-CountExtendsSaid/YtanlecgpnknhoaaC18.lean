/- Walk of layer 16: head of the laws. -/
import Derived.Test.YtanlecgpnknhoaaC17
import Derived.Test.YtanlecgpnknhoaaSeqD
namespace Go.Proofs.Ytanlecgpnknhoaa
set_option linter.unusedSimpArgs false
set_option linter.unusedVariables false
open Go.RowKit

def hc1 : List Gate := [⟨0, 0, 0⟩, ⟨1, 1, 0⟩]
def hc2 : List Gate := [⟨0, 0, 0⟩, ⟨1, 1, 0⟩, ⟨1, 2, 0⟩]
theorem hc1_eq : cinput cnew 1 = (hc1, 2) := by rfl
theorem hc2_eq : cinput hc1 2 = (hc2, 4) := by rfl
theorem hc1_good : Good hc1 := by have := keeps_input (c := cnew) (v := 1) good_new (by decide) (by omega) (by omega); rw [hc1_eq] at this; exact this.good
theorem hc2_good : Good hc2 := by have := keeps_input (c := hc1) (v := 2) hc1_good (by decide) (by omega) (by omega); rw [hc2_eq] at this; exact this.good
theorem SA.nil (w : World) : SA w none 0 0 [] := ⟨rfl, Nat.le_refl _, Nat.zero_le _, fun _ => rfl, .inl rfl, fun a h => by cases h⟩
theorem SA.lit2 {w : World} {g : Nat} {x y : Int} (h0 : w.cell? ⟨g, 0, none⟩ = some (.int .i64 x)) (h1 : w.cell? ⟨g, 1, none⟩ = some (.int .i64 y)) : SA w (some ⟨g, 0, none⟩) 2 2 [x, y] :=
  ⟨rfl, Nat.le_refl _, by decide, fun h => (by cases h), .inr ⟨g, 0, rfl, World.block_lt_of_cell? _ _ h0, fun i z hz j hj => by
    obtain rfl : j = 0 := by omega
    match i, hz with
    | 0, hz => (obtain rfl : x = z := by simpa using hz); exact h0
    | 1, hz => (obtain rfl : y = z := by simpa using hz); exact h1
    | i + 2, hz => simp at hz⟩, fun a ha => by cases ha; exact World.block_lt_of_cell? _ _ h0⟩
theorem SA.lit1 {w : World} {g : Nat} {x : Int} (h0 : w.cell? ⟨g, 0, none⟩ = some (.int .i64 x)) : SA w (some ⟨g, 0, none⟩) 1 1 [x] :=
  ⟨rfl, Nat.le_refl _, by decide, fun h => (by cases h), SlAt.int1 h0, fun a ha => by cases ha; exact World.block_lt_of_cell? _ _ h0⟩
theorem SA.lit3 {w : World} {g : Nat} {x y z : Int} (h0 : w.cell? ⟨g, 0, none⟩ = some (.int .i64 x)) (h1 : w.cell? ⟨g, 1, none⟩ = some (.int .i64 y)) (h2 : w.cell? ⟨g, 2, none⟩ = some (.int .i64 z)) : SA w (some ⟨g, 0, none⟩) 3 3 [x, y, z] :=
  ⟨rfl, Nat.le_refl _, by decide, fun h => (by cases h), .inr ⟨g, 0, rfl, World.block_lt_of_cell? _ _ h0, fun i u hu j hj => by
    obtain rfl : j = 0 := by omega
    match i, hu with
    | 0, hu => (obtain rfl : x = u := by simpa using hu); exact h0
    | 1, hu => (obtain rfl : y = u := by simpa using hu); exact h1
    | 2, hu => (obtain rfl : z = u := by simpa using hu); exact h2
    | i + 3, hu => simp at hu⟩, fun a ha => by cases ha; exact World.block_lt_of_cell? _ _ h0⟩
theorem VA.lit2 {w : World} {g : Nat} {x y : Bool} (h0 : w.cell? ⟨g, 0, none⟩ = some (.bool x)) (h1 : w.cell? ⟨g, 1, none⟩ = some (.bool y)) : VA w (some ⟨g, 0, none⟩) 2 [x, y] :=
  ⟨rfl, by decide, .inr ⟨g, 0, rfl, World.block_lt_of_cell? _ _ h0, fun i z hz j hj => by
    obtain rfl : j = 0 := by omega
    match i, hz with
    | 0, hz => (obtain rfl : x = z := by simpa using hz); exact h0
    | 1, hz => (obtain rfl : y = z := by simpa using hz); exact h1
    | i + 2, hz => simp at hz⟩⟩

def hs1 : List Gate × List Int := (usorter 1 [2, 4]).run hc2
def hs2 : List Gate × List Int := (utotal 0 1 2 [4, 2]).run hc2
def hs3 : List Gate × Int := (uatleast 0 1 [2, 4] 2).run hc2
def hs4 : List Gate × List Int := (usorter 1 []).run hc2
def hs5 : List Gate × Int := (uless 0 1 cnot [] [] 1).run hc2
def hs6 : List Gate × Int := (uless 0 1 cnot [] [] 0).run hc2
def hs7 : List Gate × List Int := (uadd 0 1 [2] [4]).run hc2
def hs8 : List Gate × Int := (uatleast 0 1 [2, 4] 0).run hc2
def hs9 : List Gate × Int := (uatleast 0 1 [2, 4] 3).run hc2
theorem hr24 : RefsIn [2, 4] hc2.length := by intro r hr; simp at hr; rcases hr with rfl | rfl <;> decide
theorem hr42 : RefsIn [4, 2] hc2.length := by intro r hr; simp at hr; rcases hr with rfl | rfl <;> decide
theorem hn1 : Num hc2 [2] 1 (cntv hc2 [2]) := ⟨rfl, (by intro r hr; simp at hr; subst hr; decide), fun vals => un_small (by simp)⟩
theorem hn2 : Num hc2 [4] 1 (cntv hc2 [4]) := ⟨rfl, (by intro r hr; simp at hr; subst hr; decide), fun vals => un_small (by simp)⟩
theorem hn0 : Num hc2 [] 0 (fun _ => 0) := ⟨rfl, (by intro r hr; cases hr), fun vals => un_small (by simp)⟩
theorem hln : hc2.length = 3 := rfl
theorem hh20 : hc2.length ≤ 20000 := by decide
theorem hp0 : 0 < hc2.length := by decide
theorem hsn1 : Grow hc2 hs1.1 2 ∧ Num hs1.1 hs1.2 2 (cntv hc2 [2, 4]) := sorter_num hc2_good hr24 rfl (by rw [hln]; decide) rfl
theorem hsn2 : Grow hc2 hs2.1 (opsTotal 2) ∧ Num hs2.1 hs2.2 2 (cntv hc2 [4, 2]) := total_num hc2_good hr42 rfl (by rw [hln]; decide) rfl
theorem hsn3 : Grow hc2 hs3.1 (opsTotal 2) ∧ Rf hs3.1 hs3.2 (fun vals => decide (2 ≤ (cntv hc2 [2, 4] vals : Int))) := atleast_rf hc2_good hr24 rfl (by rw [hln]; decide) rfl
theorem hsn4 : Num hs4.1 hs4.2 0 (cntv hc2 []) := (sorter_num (l := []) hc2_good (by intro r hr; cases hr) rfl (by rw [hln]; decide) rfl).2
theorem hsn5 : Grow hc2 hs5.1 2 ∧ Rf hs5.1 hs5.2 (fun vals => decide (((0 : Nat) : Int) < ((0 : Nat) : Int) + 1)) := less_rf hc2_good hn0 hn0 (by rw [hln]; decide) rfl
theorem hsn6 : Rf hs6.1 hs6.2 (fun vals => decide (((0 : Nat) : Int) < ((0 : Nat) : Int) + 0)) := (less_rf hc2_good hn0 hn0 (by rw [hln]; decide) rfl).2
theorem hsn7 : Grow hc2 hs7.1 (opsAdd 1 1) ∧ Num hs7.1 hs7.2 2 (fun vals => cntv hc2 [2] vals + cntv hc2 [4] vals) := add_num hc2_good hn1 hn2 (by rw [hln]; decide) rfl
theorem hs6c : hs6.1 = hc2 := rfl
theorem hs8r : hs8.2 = 0 := rfl
theorem hs9r : hs9.2 = 1 := rfl
theorem hb1 : hs1.1.length ≤ 20000 := Nat.le_trans hsn1.1.len (by decide)
theorem hb2 : hs2.1.length ≤ 20000 := Nat.le_trans hsn2.1.len (by decide)
theorem hb3 : hs3.1.length ≤ 20000 := Nat.le_trans hsn3.1.len (by decide)
theorem hb5 : hs5.1.length ≤ 20000 := Nat.le_trans hsn5.1.len (by decide)
theorem hb7 : hs7.1.length ≤ 20000 := Nat.le_trans hsn7.1.len (by decide)
theorem hx3a : ceval hs3.1 [false, true] hs3.2 = false := by rw [hsn3.2.ceval]; rfl
theorem hx3b : ceval hs3.1 [true, true] hs3.2 = true := by rw [hsn3.2.ceval]; rfl
theorem hx5 : ceval hs5.1 [false, true] hs5.2 = true := by rw [hsn5.2.ceval]; rfl
theorem hx6 : ceval hc2 [false, true] hs6.2 = false := by have := hsn6.ceval [false, true]; rw [hs6c] at this; rw [this]; rfl
theorem hy1 : cnum hs1.1 [false, true] hs1.2 = 1 := (hsn1.2.count _).trans rfl
theorem hy2 : cnum hc2 [false, true] [2, 4, 4] = 2 := by rfl
theorem ha24 : AllLe [2, 4] := allLe_of hr24 hh20
theorem ha42 : AllLe [4, 2] := allLe_of hr42 hh20
theorem ha2 : AllLe [2] := allLe_of hn1.refs hh20
theorem ha4 : AllLe [4] := allLe_of hn2.refs hh20
theorem ha0 : AllLe [] := fun r hr => by cases hr
theorem hv1 : ((cntv hc2 [2, 4] [false, true] : Nat) : Int) = 1 := congrArg Int.ofNat (show cntv hc2 [2, 4] [false, true] = 1 from rfl)
theorem hv2 : ((cntv hc2 [4, 2] [false, true] : Nat) : Int) = 1 := congrArg Int.ofNat (show cntv hc2 [4, 2] [false, true] = 1 from rfl)
theorem hv3 : ((cntv hc2 [2] [false, true] + cntv hc2 [4] [false, true] : Nat) : Int) = 1 := congrArg Int.ofNat (show cntv hc2 [2] [false, true] + cntv hc2 [4] [false, true] = 1 from rfl)
theorem run6 : (uless 0 1 cnot [] [] 0).run hc2 = (hc2, hs6.2) := Prod.ext hs6c rfl
theorem run8 : (uatleast 0 1 [2, 4] 0).run hc2 = (hs8.1, 0) := rfl
theorem run9 : (uatleast 0 1 [2, 4] 3).run hc2 = (hs9.1, 1) := rfl

set_option maxRecDepth 100000 in
set_option maxHeartbeats 8000000 in
theorem head16_any (w : World) : Calls Try.prog 39 #[] w (RetB w true) := by
  go_enter Try.func39, Try.ntmps39
  have hW : Below w.heap.size w w := Below.refl _ _
  go_upto_region 1 with fail
  go_cut [1, 2] from 24 to 28 (fun s1 s2 wx => (∃ (b : Nat), s1 = .pointer (some ⟨b, 0, none⟩) ∧ s2 = .int .i64 2 ∧ Bx wx b hc1) ∧ Below w.heap.size w wx)
  case first =>
    as_aux_lemma =>
      go_wp2_with (first | (go_at_call 55; refine (rnew_any _).mono ?_; rintro e w1 ⟨p1, rfl, hn1, hn2, hbl1, _⟩) | (go_at_call 20; refine (rinput_is (gs := cnew) (p := p1) (cap := 1) ⟨by decide, by decide, hn2, hn1⟩ (Below.refl _ _) hc1_eq (by decide)).mono ?_; rintro e w2 ⟨p2, cap2, rfl, hC2, hbl⟩))
      go_meet
      exact ⟨⟨_, rfl, rfl, Bx.new hC2 _⟩, bal (btr hbl1 hbl) _⟩
  case rest =>
    obtain ⟨⟨b1, rfl, rfl, hB1⟩, hst⟩ := hcut
    replace hW := btr hW hst
    clear hst
    go_upto_region 2 with fail
    obtain ⟨p1, c1, k1, k1f, hC1⟩ := id hB1
    go_cut [3, 4] from 29 to 33 (fun s3 s4 wx => (∃ (b : Nat), s3 = .pointer (some ⟨b, 0, none⟩) ∧ s4 = .int .i64 4 ∧ Bx wx b hc2) ∧ Below wc.heap.size wc wx)
    case first =>
      as_aux_lemma =>
        go_wp2_with (first | (go_at_call 20; refine (rinput_is hC1 (Below.refl _ _) hc2_eq (by decide)).mono ?_; rintro e w2 ⟨p2, cap2, rfl, hC2, hbl⟩))
        go_meet
        exact ⟨⟨_, rfl, rfl, Bx.new hC2 _⟩, (by first | exact bal hbl _ | exact bal (btr (by go_grown) hbl) _)⟩
    case rest =>
      clear k1 k1f hC1
      obtain ⟨⟨b3, rfl, rfl, hB3⟩, hst⟩ := hcut
      replace hB1 := hB1.up hst
      replace hW := btr hW hst
      clear hst
      go_upto_region 3 with fail
      obtain ⟨p3, c3, k3, k3f, hC3⟩ := id hB3
      go_cut [5, 6] from 34 to 41 (fun s5 s6 wx => (∃ (b : Nat) (q : Option Addr) (cq : Nat), s5 = .pointer (some ⟨b, 0, none⟩) ∧ s6 = .slice q 2 cq ∧ Bx wx b hs1.1 ∧ SA wx q 2 cq hs1.2) ∧ Below wc.heap.size wc wx)
      case first =>
        as_aux_lemma =>
          go_wp2_with (first | (go_at_call 43; refine (sorter_is (d := hs1.1) (s := hs1.2) (hC3.mono (by go_grown)) (SA.lit2 (by go_cell) (by go_cell)) (Below.refl _ _) (by omega) ha24 hh20 hp0 rfl hsn1.2.len).mono ?_; rintro e w2 ⟨p2, cap2, q2, cq2, rfl, hC2, hS2, hbl⟩))
          go_meet
          exact ⟨⟨_, _, _, rfl, rfl, Bx.new hC2 _, hS2.up (bal (Below.refl _ _) _)⟩, (by first | exact bal hbl _ | exact bal (btr (by go_grown) hbl) _)⟩
      case rest =>
        clear k3 k3f hC3
        obtain ⟨⟨b5, q6, cq6, rfl, rfl, hB5, hS6⟩, hst⟩ := hcut
        replace hB1 := hB1.up hst
        replace hB3 := hB3.up hst
        replace hW := btr hW hst
        clear hst
        go_upto_region 4 with fail
        obtain ⟨p3, c3, k3, k3f, hC3⟩ := id hB3
        go_cut [7, 8] from 42 to 49 (fun s7 s8 wx => (∃ (b : Nat) (q : Option Addr) (cq : Nat), s7 = .pointer (some ⟨b, 0, none⟩) ∧ s8 = .slice q 2 cq ∧ Bx wx b hs2.1 ∧ SA wx q 2 cq hs2.2) ∧ Below wc.heap.size wc wx)
        case first =>
          as_aux_lemma =>
            go_wp2_with (first | (go_at_call 44; refine (totalizer_is (d := hs2.1) (s := hs2.2) (hC3.mono (by go_grown)) (SA.lit2 (by go_cell) (by go_cell)) (Below.refl _ _) (by omega) ha42 hh20 hp0 rfl hsn2.2.len).mono ?_; rintro e w2 ⟨p2, cap2, q2, cq2, rfl, hC2, hS2, hbl⟩))
            go_meet
            exact ⟨⟨_, _, _, rfl, rfl, Bx.new hC2 _, hS2.up (bal (Below.refl _ _) _)⟩, (by first | exact bal hbl _ | exact bal (btr (by go_grown) hbl) _)⟩
        case rest =>
          clear k3 k3f hC3
          obtain ⟨⟨b7, q8, cq8, rfl, rfl, hB7, hS8⟩, hst⟩ := hcut
          replace hB1 := hB1.up hst
          replace hB3 := hB3.up hst
          replace hB5 := hB5.up hst
          replace hS6 := hS6.up hst
          replace hW := btr hW hst
          clear hst
          go_upto_region 5 with fail
          obtain ⟨p3, c3, k3, k3f, hC3⟩ := id hB3
          go_cut [9, 10] from 50 to 57 (fun s9 s10 wx => (∃ (b : Nat), s9 = .pointer (some ⟨b, 0, none⟩) ∧ s10 = .int .i64 hs3.2 ∧ Bx wx b hs3.1) ∧ Below wc.heap.size wc wx)
          case first =>
            as_aux_lemma =>
              go_wp2_with (first | (go_at_call 46; refine (atleast_is (hC3.mono (by go_grown)) (SA.lit2 (by go_cell) (by go_cell)) (Below.refl _ _) (by omega) (by omega) ha24 hh20 hp0 (d := hs3.1) (r := hs3.2) rfl).mono ?_; rintro e w2 ⟨p2, cap2, rfl, hC2, hbl⟩))
              go_meet
              exact ⟨⟨_, rfl, rfl, Bx.new hC2 _⟩, (by first | exact bal hbl _ | exact bal (btr (by go_grown) hbl) _)⟩
          case rest =>
            clear k3 k3f hC3
            obtain ⟨⟨b9, rfl, rfl, hB9⟩, hst⟩ := hcut
            replace hB1 := hB1.up hst
            replace hB3 := hB3.up hst
            replace hB5 := hB5.up hst
            replace hS6 := hS6.up hst
            replace hB7 := hB7.up hst
            replace hS8 := hS8.up hst
            replace hW := btr hW hst
            clear hst
            go_upto_region 6 with fail
            obtain ⟨p3, c3, k3, k3f, hC3⟩ := id hB3
            go_cut [11, 12] from 58 to 62 (fun s11 s12 wx => (∃ (b : Nat) (q : Option Addr) (cq : Nat), s11 = .pointer (some ⟨b, 0, none⟩) ∧ s12 = .slice q 0 cq ∧ Bx wx b hs4.1 ∧ SA wx q 0 cq hs4.2) ∧ Below wc.heap.size wc wx)
            case first =>
              as_aux_lemma =>
                go_wp2_with (first | (go_at_call 43; refine (sorter_is (d := hs4.1) (s := hs4.2) hC3 (SA.nil _) (Below.refl _ _) (by omega) ha0 hh20 hp0 rfl hsn4.len).mono ?_; rintro e w2 ⟨p2, cap2, q2, cq2, rfl, hC2, hS2, hbl⟩))
                go_meet
                exact ⟨⟨_, _, _, rfl, rfl, Bx.new hC2 _, hS2.up (bal (Below.refl _ _) _)⟩, (by first | exact bal hbl _ | exact bal (btr (by go_grown) hbl) _)⟩
            case rest =>
              clear k3 k3f hC3
              obtain ⟨⟨b11, q12, cq12, rfl, rfl, hB11, hS12⟩, hst⟩ := hcut
              replace hB1 := hB1.up hst
              replace hB3 := hB3.up hst
              replace hB5 := hB5.up hst
              replace hS6 := hS6.up hst
              replace hB7 := hB7.up hst
              replace hS8 := hS8.up hst
              replace hB9 := hB9.up hst
              replace hW := btr hW hst
              clear hst
              go_upto_region 7 with fail
              obtain ⟨p3, c3, k3, k3f, hC3⟩ := id hB3
              go_cut [13, 14] from 63 to 67 (fun s13 s14 wx => (∃ (b : Nat), s13 = .pointer (some ⟨b, 0, none⟩) ∧ s14 = .int .i64 hs5.2 ∧ Bx wx b hs5.1) ∧ Below wc.heap.size wc wx)
              case first =>
                as_aux_lemma =>
                  go_wp2_with (first | (go_at_call 49; refine (less_is hC3 (SA.nil _) (SA.nil _) (Below.refl _ _) (by omega) (by omega) (by omega) (by omega) ha0 ha0 hh20 hp0 (d := hs5.1) (r := hs5.2) rfl).mono ?_; rintro e w2 ⟨p2, cap2, rfl, hC2, hbl⟩))
                  go_meet
                  exact ⟨⟨_, rfl, rfl, Bx.new hC2 _⟩, (by first | exact bal hbl _ | exact bal (btr (by go_grown) hbl) _)⟩
              case rest =>
                clear k3 k3f hC3
                obtain ⟨⟨b13, rfl, rfl, hB13⟩, hst⟩ := hcut
                replace hB1 := hB1.up hst
                replace hB3 := hB3.up hst
                replace hB5 := hB5.up hst
                replace hS6 := hS6.up hst
                replace hB7 := hB7.up hst
                replace hS8 := hS8.up hst
                replace hB9 := hB9.up hst
                replace hB11 := hB11.up hst
                replace hS12 := hS12.up hst
                replace hW := btr hW hst
                clear hst
                go_upto_region 8 with fail
                obtain ⟨p3, c3, k3, k3f, hC3⟩ := id hB3
                go_cut [15, 16] from 68 to 72 (fun s15 s16 wx => (∃ (b : Nat), s15 = .pointer (some ⟨b, 0, none⟩) ∧ s16 = .int .i64 hs6.2 ∧ Bx wx b hc2) ∧ Below wc.heap.size wc wx)
                case first =>
                  as_aux_lemma =>
                    go_wp2_with (first | (go_at_call 49; refine (less_is hC3 (SA.nil _) (SA.nil _) (Below.refl _ _) (by omega) (by omega) (by omega) (by omega) ha0 ha0 hh20 hp0 run6).mono ?_; rintro e w2 ⟨p2, cap2, rfl, hC2, hbl⟩))
                    go_meet
                    exact ⟨⟨_, rfl, rfl, Bx.new hC2 _⟩, (by first | exact bal hbl _ | exact bal (btr (by go_grown) hbl) _)⟩
                case rest =>
                  clear k3 k3f hC3
                  obtain ⟨⟨b15, rfl, rfl, hB15⟩, hst⟩ := hcut
                  replace hB1 := hB1.up hst
                  replace hB3 := hB3.up hst
                  replace hB5 := hB5.up hst
                  replace hS6 := hS6.up hst
                  replace hB7 := hB7.up hst
                  replace hS8 := hS8.up hst
                  replace hB9 := hB9.up hst
                  replace hB11 := hB11.up hst
                  replace hS12 := hS12.up hst
                  replace hB13 := hB13.up hst
                  replace hW := btr hW hst
                  clear hst
                  go_upto_region 9 with fail
                  obtain ⟨p3, c3, k3, k3f, hC3⟩ := id hB3
                  go_cut [17, 18] from 73 to 81 (fun s17 s18 wx => (∃ (b : Nat) (q : Option Addr) (cq : Nat), s17 = .pointer (some ⟨b, 0, none⟩) ∧ s18 = .slice q 2 cq ∧ Bx wx b hs7.1 ∧ SA wx q 2 cq hs7.2) ∧ Below wc.heap.size wc wx)
                  case first =>
                    as_aux_lemma =>
                      go_wp2_with (first | (go_at_call 48; refine (add_is (d := hs7.1) (s := hs7.2) (hC3.mono (by go_grown)) (SA.lit1 (by go_cell)) (SA.lit1 (by go_cell)) (Below.refl _ _) (by omega) (by omega) ha2 ha4 hh20 hp0 rfl hsn7.2.len).mono ?_; rintro e w2 ⟨p2, cap2, q2, cq2, rfl, hC2, hS2, hbl⟩))
                      go_meet
                      exact ⟨⟨_, _, _, rfl, rfl, Bx.new hC2 _, hS2.up (bal (Below.refl _ _) _)⟩, (by first | exact bal hbl _ | exact bal (btr (by go_grown) hbl) _)⟩
                  case rest =>
                    clear k3 k3f hC3
                    obtain ⟨⟨b17, q18, cq18, rfl, rfl, hB17, hS18⟩, hst⟩ := hcut
                    replace hB1 := hB1.up hst
                    replace hB3 := hB3.up hst
                    replace hB5 := hB5.up hst
                    replace hS6 := hS6.up hst
                    replace hB7 := hB7.up hst
                    replace hS8 := hS8.up hst
                    replace hB9 := hB9.up hst
                    replace hB11 := hB11.up hst
                    replace hS12 := hS12.up hst
                    replace hB13 := hB13.up hst
                    replace hB15 := hB15.up hst
                    replace hW := btr hW hst
                    clear hst
                    go_upto_region 10 with fail
                    obtain ⟨p3, c3, k3, k3f, hC3⟩ := id hB3
                    go_cut [19, 20] from 82 to 89 (fun s19 s20 wx => (∃ (b : Nat), s19 = .pointer (some ⟨b, 0, none⟩) ∧ s20 = .int .i64 0 ∧ Bx wx b hs8.1) ∧ Below wc.heap.size wc wx)
                    case first =>
                      as_aux_lemma =>
                        go_wp2_with (first | (go_at_call 46; refine (atleast_is (hC3.mono (by go_grown)) (SA.lit2 (by go_cell) (by go_cell)) (Below.refl _ _) (by omega) (by omega) ha24 hh20 hp0 run8).mono ?_; rintro e w2 ⟨p2, cap2, rfl, hC2, hbl⟩))
                        go_meet
                        exact ⟨⟨_, rfl, rfl, Bx.new hC2 _⟩, (by first | exact bal hbl _ | exact bal (btr (by go_grown) hbl) _)⟩
                    case rest =>
                      clear k3 k3f hC3
                      obtain ⟨⟨b19, rfl, rfl, hB19⟩, hst⟩ := hcut
                      replace hB1 := hB1.up hst
                      replace hB3 := hB3.up hst
                      replace hB5 := hB5.up hst
                      replace hS6 := hS6.up hst
                      replace hB7 := hB7.up hst
                      replace hS8 := hS8.up hst
                      replace hB9 := hB9.up hst
                      replace hB11 := hB11.up hst
                      replace hS12 := hS12.up hst
                      replace hB13 := hB13.up hst
                      replace hB15 := hB15.up hst
                      replace hB17 := hB17.up hst
                      replace hS18 := hS18.up hst
                      replace hW := btr hW hst
                      clear hst
                      go_upto_region 11 with fail
                      obtain ⟨p3, c3, k3, k3f, hC3⟩ := id hB3
                      go_cut [21, 22] from 90 to 97 (fun s21 s22 wx => (∃ (b : Nat), s21 = .pointer (some ⟨b, 0, none⟩) ∧ s22 = .int .i64 1 ∧ Bx wx b hs9.1) ∧ Below wc.heap.size wc wx)
                      case first =>
                        as_aux_lemma =>
                          go_wp2_with (first | (go_at_call 46; refine (atleast_is (hC3.mono (by go_grown)) (SA.lit2 (by go_cell) (by go_cell)) (Below.refl _ _) (by omega) (by omega) ha24 hh20 hp0 run9).mono ?_; rintro e w2 ⟨p2, cap2, rfl, hC2, hbl⟩))
                          go_meet
                          exact ⟨⟨_, rfl, rfl, Bx.new hC2 _⟩, (by first | exact bal hbl _ | exact bal (btr (by go_grown) hbl) _)⟩
                      case rest =>
                        clear k3 k3f hC3
                        obtain ⟨⟨b21, rfl, rfl, hB21⟩, hst⟩ := hcut
                        replace hB1 := hB1.up hst
                        replace hB3 := hB3.up hst
                        replace hB5 := hB5.up hst
                        replace hS6 := hS6.up hst
                        replace hB7 := hB7.up hst
                        replace hS8 := hS8.up hst
                        replace hB9 := hB9.up hst
                        replace hB11 := hB11.up hst
                        replace hS12 := hS12.up hst
                        replace hB13 := hB13.up hst
                        replace hB15 := hB15.up hst
                        replace hB17 := hB17.up hst
                        replace hS18 := hS18.up hst
                        replace hB19 := hB19.up hst
                        replace hW := btr hW hst
                        clear hst
                        go_upto_region 12 with fail
                        go_cut [23] from 98 to 98 (fun s23 wx => (∃ b : Nat, s23 = .slice (some ⟨b, 0, none⟩) 2 2 ∧ VA wx (some ⟨b, 0, none⟩) 2 [false, true]) ∧ Below wc.heap.size wc wx)
                        case first =>
                          as_aux_lemma =>
                            go_wp2_with fail
                            go_meet
                            exact ⟨⟨_, rfl, VA.lit2 (by go_cell) (by go_cell)⟩, by go_grown⟩
                        case rest =>
                          obtain ⟨⟨b23, rfl, hV⟩, hst⟩ := hcut
                          replace hB1 := hB1.up hst
                          replace hB3 := hB3.up hst
                          replace hB5 := hB5.up hst
                          replace hS6 := hS6.up hst
                          replace hB7 := hB7.up hst
                          replace hS8 := hS8.up hst
                          replace hB9 := hB9.up hst
                          replace hB11 := hB11.up hst
                          replace hS12 := hS12.up hst
                          replace hB13 := hB13.up hst
                          replace hB15 := hB15.up hst
                          replace hB17 := hB17.up hst
                          replace hS18 := hS18.up hst
                          replace hB19 := hB19.up hst
                          replace hB21 := hB21.up hst
                          replace hW := btr hW hst
                          clear hst
                          go_upto_region 15 with fail
                          obtain ⟨p3, c3, k3, k3f, hC3⟩ := id hB3
                          obtain ⟨p5, c5, k5, k5f, hC5⟩ := id hB5
                          obtain ⟨p7, c7, k7, k7f, hC7⟩ := id hB7
                          obtain ⟨p9, c9, k9, k9f, hC9⟩ := id hB9
                          obtain ⟨p13, c13, k13, k13f, hC13⟩ := id hB13
                          obtain ⟨p17, c17, k17, k17f, hC17⟩ := id hB17
                          have T1 := Lib.hid (fun (w' : World) (hB' : Below wc.heap.size wc w') => unary_is (cv := 2) hC5 hS6 hV hB' (by omega) hb1 hsn1.1.good.wf hsn1.2 (t := 1) hv1)
                          have T2 := Lib.hid (fun (w' : World) (hB' : Below wc.heap.size wc w') => unary_is (cv := 2) hC7 hS8 hV hB' (by omega) hb2 hsn2.1.good.wf hsn2.2 (t := 1) hv2)
                          have T3 := Lib.hid (fun (w' : World) (hB' : Below wc.heap.size wc w') => unary_is (cv := 2) hC17 hS18 hV hB' (by omega) hb7 hsn7.1.good.wf hsn7.2 (t := 1) hv3)
                          have T4 := Lib.hid (fun (w' : World) (hB' : Below wc.heap.size wc w') => reval_is (cv := 2) hC9 hB' (hV.at'.mono hB') hsn3.1.good.wf hx3a hV.len hb3 hV.cm)
                          have T6 := Lib.hid (fun (w' : World) (hB' : Below wc.heap.size wc w') => reval_is (cv := 2) hC13 hB' (hV.at'.mono hB') hsn5.1.good.wf hx5 hV.len hb5 hV.cm)
                          have T7 := Lib.hid (fun (w' : World) (hB' : Below wc.heap.size wc w') => reval_is (cv := 2) hC3 hB' (hV.at'.mono hB') hc2_good.wf hx6 hV.len hh20 hV.cm)
                          have T8 := Lib.hid (fun (w' : World) (hB' : Below wc.heap.size wc w') => value16_is (cv := 2) hC5 hS6 hV hB' (by omega) hb1 hsn1.1.good.wf hy1)
                          dsimp only [List.append]
                          refine wp_region_seqT' (fun w' => Below wc.heap.size wc w') (by first | exact Below.refl _ _ | go_grown) ?_
                          refine seqT_pure (v := ?_) (by rfl) ?_ ?_
                          rotate_left
                          · (intro w hS; have kk := oldcell hS k5 (World.block_lt_of_cell? _ _ k5); go_simp; try with_reducible rfl)
                          (try simp only [Act.put, List.setIfInBounds_toArray, List.set_cons_zero, List.set_cons_succ])
                          refine seqT_pure (v := ?_) (by rfl) ?_ ?_
                          rotate_left
                          · (intro w hS; go_simp; try with_reducible rfl)
                          (try simp only [Act.put, List.setIfInBounds_toArray, List.set_cons_zero, List.set_cons_succ])
                          refine seqT_pure (v := ?_) (by rfl) ?_ ?_
                          rotate_left
                          · (intro w hS; go_simp; try with_reducible rfl)
                          (try simp only [Act.put, List.setIfInBounds_toArray, List.set_cons_zero, List.set_cons_succ])
                          refine seqT_call (v := .bool true) (f := ?_) (args := ?_) (by rfl) ?_ ?_ ?_
                          rotate_left 2
                          · (intro w hS; go_simp; first | done | with_reducible rfl | (refine ⟨?_, ?_⟩ <;> with_reducible rfl))
                          · (intro w hS; refine (T1.out w hS).mono ?_; rintro e w' ⟨he, hb⟩; exact ⟨he, btr hS hb⟩)
                          (try simp only [Act.put, List.setIfInBounds_toArray, List.set_cons_zero, List.set_cons_succ])
                          refine seqT_pure (v := ?_) (by rfl) ?_ ?_
                          rotate_left
                          · (intro w hS; go_simp; try with_reducible rfl)
                          (try simp only [Act.put, List.setIfInBounds_toArray, List.set_cons_zero, List.set_cons_succ])
                          refine seqT_pure (v := ?_) (by rfl) ?_ ?_
                          rotate_left
                          · (intro w hS; have kk := oldcell hS k7 (World.block_lt_of_cell? _ _ k7); go_simp; try with_reducible rfl)
                          (try simp only [Act.put, List.setIfInBounds_toArray, List.set_cons_zero, List.set_cons_succ])
                          refine seqT_pure (v := ?_) (by rfl) ?_ ?_
                          rotate_left
                          · (intro w hS; go_simp; try with_reducible rfl)
                          (try simp only [Act.put, List.setIfInBounds_toArray, List.set_cons_zero, List.set_cons_succ])
                          refine seqT_pure (v := ?_) (by rfl) ?_ ?_
                          rotate_left
                          · (intro w hS; go_simp; try with_reducible rfl)
                          (try simp only [Act.put, List.setIfInBounds_toArray, List.set_cons_zero, List.set_cons_succ])
                          refine seqT_call (v := .bool true) (f := ?_) (args := ?_) (by rfl) ?_ ?_ ?_
                          rotate_left 2
                          · (intro w hS; go_simp; first | done | with_reducible rfl | (refine ⟨?_, ?_⟩ <;> with_reducible rfl))
                          · (intro w hS; refine (T2.out w hS).mono ?_; rintro e w' ⟨he, hb⟩; exact ⟨he, btr hS hb⟩)
                          (try simp only [Act.put, List.setIfInBounds_toArray, List.set_cons_zero, List.set_cons_succ])
                          refine seqT_pure (v := ?_) (by rfl) ?_ ?_
                          rotate_left
                          · (intro w hS; go_simp; try with_reducible rfl)
                          (try simp only [Act.put, List.setIfInBounds_toArray, List.set_cons_zero, List.set_cons_succ])
                          refine seqT_pure (v := ?_) (by rfl) ?_ ?_
                          rotate_left
                          · (intro w hS; go_simp; try with_reducible rfl)
                          (try simp only [Act.put, List.setIfInBounds_toArray, List.set_cons_zero, List.set_cons_succ])
                          refine seqT_pure (v := ?_) (by rfl) ?_ ?_
                          rotate_left
                          · (intro w hS; have kk := oldcell hS k17 (World.block_lt_of_cell? _ _ k17); go_simp; try with_reducible rfl)
                          (try simp only [Act.put, List.setIfInBounds_toArray, List.set_cons_zero, List.set_cons_succ])
                          refine seqT_pure (v := ?_) (by rfl) ?_ ?_
                          rotate_left
                          · (intro w hS; go_simp; try with_reducible rfl)
                          (try simp only [Act.put, List.setIfInBounds_toArray, List.set_cons_zero, List.set_cons_succ])
                          refine seqT_pure (v := ?_) (by rfl) ?_ ?_
                          rotate_left
                          · (intro w hS; go_simp; try with_reducible rfl)
                          (try simp only [Act.put, List.setIfInBounds_toArray, List.set_cons_zero, List.set_cons_succ])
                          refine seqT_call (v := .bool true) (f := ?_) (args := ?_) (by rfl) ?_ ?_ ?_
                          rotate_left 2
                          · (intro w hS; go_simp; first | done | with_reducible rfl | (refine ⟨?_, ?_⟩ <;> with_reducible rfl))
                          · (intro w hS; refine (T3.out w hS).mono ?_; rintro e w' ⟨he, hb⟩; exact ⟨he, btr hS hb⟩)
                          (try simp only [Act.put, List.setIfInBounds_toArray, List.set_cons_zero, List.set_cons_succ])
                          refine seqT_pure (v := ?_) (by rfl) ?_ ?_
                          rotate_left
                          · (intro w hS; go_simp; try with_reducible rfl)
                          (try simp only [Act.put, List.setIfInBounds_toArray, List.set_cons_zero, List.set_cons_succ])
                          refine seqT_pure (v := ?_) (by rfl) ?_ ?_
                          rotate_left
                          · (intro w hS; go_simp; try with_reducible rfl)
                          (try simp only [Act.put, List.setIfInBounds_toArray, List.set_cons_zero, List.set_cons_succ])
                          refine seqT_pure (v := ?_) (by rfl) ?_ ?_
                          rotate_left
                          · (intro w hS; have kk := oldcell hS k9 (World.block_lt_of_cell? _ _ k9); go_simp; try with_reducible rfl)
                          (try simp only [Act.put, List.setIfInBounds_toArray, List.set_cons_zero, List.set_cons_succ])
                          refine seqT_pure (v := ?_) (by rfl) ?_ ?_
                          rotate_left
                          · (intro w hS; go_simp; try with_reducible rfl)
                          (try simp only [Act.put, List.setIfInBounds_toArray, List.set_cons_zero, List.set_cons_succ])
                          refine seqT_pure (v := ?_) (by rfl) ?_ ?_
                          rotate_left
                          · (intro w hS; go_simp; try with_reducible rfl)
                          (try simp only [Act.put, List.setIfInBounds_toArray, List.set_cons_zero, List.set_cons_succ])
                          refine seqT_call (v := .bool false) (f := ?_) (args := ?_) (by rfl) ?_ ?_ ?_
                          rotate_left 2
                          · (intro w hS; go_simp; first | done | with_reducible rfl | (refine ⟨?_, ?_⟩ <;> with_reducible rfl))
                          · (intro w hS; refine (T4.out w hS).mono ?_; rintro e w' ⟨he, hb⟩; exact ⟨he, btr hS hb⟩)
                          (try simp only [Act.put, List.setIfInBounds_toArray, List.set_cons_zero, List.set_cons_succ])
                          refine seqT_pure (v := ?_) (by rfl) ?_ ?_
                          rotate_left
                          · (intro w hS; go_simp; try with_reducible rfl)
                          (try simp only [Act.put, List.setIfInBounds_toArray, List.set_cons_zero, List.set_cons_succ])
                          refine seqT_pure (v := ?_) (by rfl) ?_ ?_
                          rotate_left
                          · (intro w hS; go_simp; try with_reducible rfl)
                          (try simp only [Act.put, List.setIfInBounds_toArray, List.set_cons_zero, List.set_cons_succ])
                          refine seqT_pure (v := ?_) (by rfl) ?_ ?_
                          rotate_left
                          · (intro w hS; go_simp; try with_reducible rfl)
                          (try simp only [Act.put, List.setIfInBounds_toArray, List.set_cons_zero, List.set_cons_succ])
                          refine seqT_pure (v := ?_) (by rfl) ?_ ?_
                          rotate_left
                          · (intro w hS; have kk := oldcell hS k9 (World.block_lt_of_cell? _ _ k9); go_simp; try with_reducible rfl)
                          (try simp only [Act.put, List.setIfInBounds_toArray, List.set_cons_zero, List.set_cons_succ])
                          refine seqT_move (by rfl) ?_
                          intro w hS
                          refine ⟨_, _, (by go_simp; first | done | (refine ⟨?_, ?_⟩ <;> with_reducible rfl) | with_reducible rfl), fun x => Below wc.heap.size wc x ∧ VA x (some ⟨w.heap.size, 0, none⟩) 2 [true, true], ⟨bal hS _, VA.lit2 (by go_cell) (by go_cell)⟩, ?_⟩
                          obtain ⟨gA, hgA⟩ : ∃ g, w.heap.size = g := ⟨_, rfl⟩
                          rw [hgA]
                          clear hgA hS w
                          (try simp only [Act.put, List.setIfInBounds_toArray, List.set_cons_zero, List.set_cons_succ])
                          refine seqT_pure (v := ?_) (by rfl) ?_ ?_
                          rotate_left
                          · (intro w hS; have hV2 := hS.2; replace hS := hS.1; go_simp; try with_reducible rfl)
                          (try simp only [Act.put, List.setIfInBounds_toArray, List.set_cons_zero, List.set_cons_succ])
                          refine seqT_call (v := .bool true) (f := ?_) (args := ?_) (by rfl) ?_ ?_ ?_
                          rotate_left 2
                          · (intro w hS; go_simp; first | done | with_reducible rfl | (refine ⟨?_, ?_⟩ <;> with_reducible rfl))
                          · (intro w hS; have hV2 := hS.2; replace hS := hS.1; refine (reval_is (cv := 2) hC9 hS hV2.at' hsn3.1.good.wf hx3b hV2.len hb3 hV2.cm).mono ?_; rintro e w' ⟨he, hb⟩; exact ⟨he, btr hS hb, hV2.up hb⟩)
                          (try simp only [Act.put, List.setIfInBounds_toArray, List.set_cons_zero, List.set_cons_succ])
                          refine seqT_pure (v := ?_) (by rfl) ?_ ?_
                          rotate_left
                          · (intro w hS; have hV2 := hS.2; replace hS := hS.1; go_simp; try with_reducible rfl)
                          (try simp only [Act.put, List.setIfInBounds_toArray, List.set_cons_zero, List.set_cons_succ])
                          refine seqT_pure (v := ?_) (by rfl) ?_ ?_
                          rotate_left
                          · (intro w hS; have hV2 := hS.2; replace hS := hS.1; go_simp; try with_reducible rfl)
                          (try simp only [Act.put, List.setIfInBounds_toArray, List.set_cons_zero, List.set_cons_succ])
                          refine seqT_pure (v := ?_) (by rfl) ?_ ?_
                          rotate_left
                          · (intro w hS; have hV2 := hS.2; replace hS := hS.1; go_simp; try with_reducible rfl)
                          (try simp only [Act.put, List.setIfInBounds_toArray, List.set_cons_zero, List.set_cons_succ])
                          refine seqT_pure (v := ?_) (by rfl) ?_ ?_
                          rotate_left
                          · (intro w hS; have hV2 := hS.2; replace hS := hS.1; go_simp; try with_reducible rfl)
                          (try simp only [Act.put, List.setIfInBounds_toArray, List.set_cons_zero, List.set_cons_succ])
                          refine seqT_pure (v := ?_) (by rfl) ?_ ?_
                          rotate_left
                          · (intro w hS; have hV2 := hS.2; replace hS := hS.1; go_simp; try with_reducible rfl)
                          (try simp only [Act.put, List.setIfInBounds_toArray, List.set_cons_zero, List.set_cons_succ])
                          refine seqT_pure (v := ?_) (by rfl) ?_ ?_
                          rotate_left
                          · (intro w hS; have hV2 := hS.2; replace hS := hS.1; go_simp; try with_reducible rfl)
                          (try simp only [Act.put, List.setIfInBounds_toArray, List.set_cons_zero, List.set_cons_succ])
                          refine seqT_pure (v := ?_) (by rfl) ?_ ?_
                          rotate_left
                          · (intro w hS; have hV2 := hS.2; replace hS := hS.1; go_simp; try with_reducible rfl)
                          (try simp only [Act.put, List.setIfInBounds_toArray, List.set_cons_zero, List.set_cons_succ])
                          refine seqT_pure (v := ?_) (by rfl) ?_ ?_
                          rotate_left
                          · (intro w hS; have hV2 := hS.2; replace hS := hS.1; have kk := oldcell hS k13 (World.block_lt_of_cell? _ _ k13); go_simp; try with_reducible rfl)
                          (try simp only [Act.put, List.setIfInBounds_toArray, List.set_cons_zero, List.set_cons_succ])
                          refine seqT_pure (v := ?_) (by rfl) ?_ ?_
                          rotate_left
                          · (intro w hS; have hV2 := hS.2; replace hS := hS.1; go_simp; try with_reducible rfl)
                          (try simp only [Act.put, List.setIfInBounds_toArray, List.set_cons_zero, List.set_cons_succ])
                          refine seqT_pure (v := ?_) (by rfl) ?_ ?_
                          rotate_left
                          · (intro w hS; have hV2 := hS.2; replace hS := hS.1; go_simp; try with_reducible rfl)
                          (try simp only [Act.put, List.setIfInBounds_toArray, List.set_cons_zero, List.set_cons_succ])
                          refine seqT_call (v := .bool true) (f := ?_) (args := ?_) (by rfl) ?_ ?_ ?_
                          rotate_left 2
                          · (intro w hS; go_simp; first | done | with_reducible rfl | (refine ⟨?_, ?_⟩ <;> with_reducible rfl))
                          · (intro w hS; have hV2 := hS.2; replace hS := hS.1; refine (T6.out w hS).mono ?_; rintro e w' ⟨he, hb⟩; exact ⟨he, btr hS hb, hV2.up hb⟩)
                          (try simp only [Act.put, List.setIfInBounds_toArray, List.set_cons_zero, List.set_cons_succ])
                          refine seqT_pure (v := ?_) (by rfl) ?_ ?_
                          rotate_left
                          · (intro w hS; have hV2 := hS.2; replace hS := hS.1; go_simp; try with_reducible rfl)
                          (try simp only [Act.put, List.setIfInBounds_toArray, List.set_cons_zero, List.set_cons_succ])
                          refine seqT_pure (v := ?_) (by rfl) ?_ ?_
                          rotate_left
                          · (intro w hS; have hV2 := hS.2; replace hS := hS.1; go_simp; try with_reducible rfl)
                          (try simp only [Act.put, List.setIfInBounds_toArray, List.set_cons_zero, List.set_cons_succ])
                          refine seqT_pure (v := ?_) (by rfl) ?_ ?_
                          rotate_left
                          · (intro w hS; have hV2 := hS.2; replace hS := hS.1; have kk := oldcell hS k3 (World.block_lt_of_cell? _ _ k3); go_simp; try with_reducible rfl)
                          (try simp only [Act.put, List.setIfInBounds_toArray, List.set_cons_zero, List.set_cons_succ])
                          refine seqT_pure (v := ?_) (by rfl) ?_ ?_
                          rotate_left
                          · (intro w hS; have hV2 := hS.2; replace hS := hS.1; go_simp; try with_reducible rfl)
                          (try simp only [Act.put, List.setIfInBounds_toArray, List.set_cons_zero, List.set_cons_succ])
                          refine seqT_pure (v := ?_) (by rfl) ?_ ?_
                          rotate_left
                          · (intro w hS; have hV2 := hS.2; replace hS := hS.1; go_simp; try with_reducible rfl)
                          (try simp only [Act.put, List.setIfInBounds_toArray, List.set_cons_zero, List.set_cons_succ])
                          refine seqT_call (v := .bool false) (f := ?_) (args := ?_) (by rfl) ?_ ?_ ?_
                          rotate_left 2
                          · (intro w hS; go_simp; first | done | with_reducible rfl | (refine ⟨?_, ?_⟩ <;> with_reducible rfl))
                          · (intro w hS; have hV2 := hS.2; replace hS := hS.1; refine (T7.out w hS).mono ?_; rintro e w' ⟨he, hb⟩; exact ⟨he, btr hS hb, hV2.up hb⟩)
                          (try simp only [Act.put, List.setIfInBounds_toArray, List.set_cons_zero, List.set_cons_succ])
                          refine seqT_pure (v := ?_) (by rfl) ?_ ?_
                          rotate_left
                          · (intro w hS; have hV2 := hS.2; replace hS := hS.1; go_simp; try with_reducible rfl)
                          (try simp only [Act.put, List.setIfInBounds_toArray, List.set_cons_zero, List.set_cons_succ])
                          refine seqT_pure (v := ?_) (by rfl) ?_ ?_
                          rotate_left
                          · (intro w hS; have hV2 := hS.2; replace hS := hS.1; go_simp; try with_reducible rfl)
                          (try simp only [Act.put, List.setIfInBounds_toArray, List.set_cons_zero, List.set_cons_succ])
                          refine seqT_pure (v := ?_) (by rfl) ?_ ?_
                          rotate_left
                          · (intro w hS; have hV2 := hS.2; replace hS := hS.1; go_simp; try with_reducible rfl)
                          (try simp only [Act.put, List.setIfInBounds_toArray, List.set_cons_zero, List.set_cons_succ])
                          refine seqT_pure (v := ?_) (by rfl) ?_ ?_
                          rotate_left
                          · (intro w hS; have hV2 := hS.2; replace hS := hS.1; go_simp; try with_reducible rfl)
                          (try simp only [Act.put, List.setIfInBounds_toArray, List.set_cons_zero, List.set_cons_succ])
                          refine seqT_pure (v := ?_) (by rfl) ?_ ?_
                          rotate_left
                          · (intro w hS; have hV2 := hS.2; replace hS := hS.1; go_simp; try with_reducible rfl)
                          (try simp only [Act.put, List.setIfInBounds_toArray, List.set_cons_zero, List.set_cons_succ])
                          refine seqT_pure (v := ?_) (by rfl) ?_ ?_
                          rotate_left
                          · (intro w hS; have hV2 := hS.2; replace hS := hS.1; go_simp; try with_reducible rfl)
                          (try simp only [Act.put, List.setIfInBounds_toArray, List.set_cons_zero, List.set_cons_succ])
                          refine seqT_pure (v := ?_) (by rfl) ?_ ?_
                          rotate_left
                          · (intro w hS; have hV2 := hS.2; replace hS := hS.1; go_simp; try with_reducible rfl)
                          (try simp only [Act.put, List.setIfInBounds_toArray, List.set_cons_zero, List.set_cons_succ])
                          refine seqT_pure (v := ?_) (by rfl) ?_ ?_
                          rotate_left
                          · (intro w hS; have hV2 := hS.2; replace hS := hS.1; go_simp; try with_reducible rfl)
                          (try simp only [Act.put, List.setIfInBounds_toArray, List.set_cons_zero, List.set_cons_succ])
                          refine seqT_pure (v := ?_) (by rfl) ?_ ?_
                          rotate_left
                          · (intro w hS; have hV2 := hS.2; replace hS := hS.1; go_simp; try with_reducible rfl)
                          (try simp only [Act.put, List.setIfInBounds_toArray, List.set_cons_zero, List.set_cons_succ])
                          refine seqT_pure (v := ?_) (by rfl) ?_ ?_
                          rotate_left
                          · (intro w hS; have hV2 := hS.2; replace hS := hS.1; go_simp; try with_reducible rfl)
                          (try simp only [Act.put, List.setIfInBounds_toArray, List.set_cons_zero, List.set_cons_succ])
                          refine seqT_pure (v := ?_) (by rfl) ?_ ?_
                          rotate_left
                          · (intro w hS; have hV2 := hS.2; replace hS := hS.1; go_simp; try with_reducible rfl)
                          (try simp only [Act.put, List.setIfInBounds_toArray, List.set_cons_zero, List.set_cons_succ])
                          refine seqT_pure (v := ?_) (by rfl) ?_ ?_
                          rotate_left
                          · (intro w hS; have hV2 := hS.2; replace hS := hS.1; have kk := oldcell hS k5 (World.block_lt_of_cell? _ _ k5); go_simp; try with_reducible rfl)
                          (try simp only [Act.put, List.setIfInBounds_toArray, List.set_cons_zero, List.set_cons_succ])
                          refine seqT_pure (v := ?_) (by rfl) ?_ ?_
                          rotate_left
                          · (intro w hS; have hV2 := hS.2; replace hS := hS.1; go_simp; try with_reducible rfl)
                          (try simp only [Act.put, List.setIfInBounds_toArray, List.set_cons_zero, List.set_cons_succ])
                          refine seqT_pure (v := ?_) (by rfl) ?_ ?_
                          rotate_left
                          · (intro w hS; have hV2 := hS.2; replace hS := hS.1; go_simp; try with_reducible rfl)
                          (try simp only [Act.put, List.setIfInBounds_toArray, List.set_cons_zero, List.set_cons_succ])
                          refine seqT_call (v := .int .i64 ((1 : Nat) : Int)) (f := ?_) (args := ?_) (by rfl) ?_ ?_ ?_
                          rotate_left 2
                          · (intro w hS; go_simp; first | done | with_reducible rfl | (refine ⟨?_, ?_⟩ <;> with_reducible rfl))
                          · (intro w hS; have hV2 := hS.2; replace hS := hS.1; refine (T8.out w hS).mono ?_; rintro e w' ⟨he, hb⟩; exact ⟨he, btr hS hb, hV2.up hb⟩)
                          (try simp only [Act.put, List.setIfInBounds_toArray, List.set_cons_zero, List.set_cons_succ])
                          refine seqT_pure (v := ?_) (by rfl) ?_ ?_
                          rotate_left
                          · (intro w hS; have hV2 := hS.2; replace hS := hS.1; go_simp; try with_reducible rfl)
                          (try simp only [Act.put, List.setIfInBounds_toArray, List.set_cons_zero, List.set_cons_succ])
                          refine seqT_pure (v := ?_) (by rfl) ?_ ?_
                          rotate_left
                          · (intro w hS; have hV2 := hS.2; replace hS := hS.1; go_simp; try with_reducible rfl)
                          (try simp only [Act.put, List.setIfInBounds_toArray, List.set_cons_zero, List.set_cons_succ])
                          refine seqT_pure (v := ?_) (by rfl) ?_ ?_
                          rotate_left
                          · (intro w hS; have hV2 := hS.2; replace hS := hS.1; go_simp; try with_reducible rfl)
                          (try simp only [Act.put, List.setIfInBounds_toArray, List.set_cons_zero, List.set_cons_succ])
                          refine seqT_pure (v := ?_) (by rfl) ?_ ?_
                          rotate_left
                          · (intro w hS; have hV2 := hS.2; replace hS := hS.1; have kk := oldcell hS k3 (World.block_lt_of_cell? _ _ k3); go_simp; try with_reducible rfl)
                          (try simp only [Act.put, List.setIfInBounds_toArray, List.set_cons_zero, List.set_cons_succ])
                          refine seqT_pure (v := ?_) (by rfl) ?_ ?_
                          rotate_left
                          · (intro w hS; have hV2 := hS.2; replace hS := hS.1; go_simp; try with_reducible rfl)
                          (try simp only [Act.put, List.setIfInBounds_toArray, List.set_cons_zero, List.set_cons_succ])
                          refine seqT_pure (v := ?_) (by rfl) ?_ ?_
                          rotate_left
                          · (intro w hS; have hV2 := hS.2; replace hS := hS.1; go_simp; try with_reducible rfl)
                          (try simp only [Act.put, List.setIfInBounds_toArray, List.set_cons_zero, List.set_cons_succ])
                          refine seqT_pure (v := ?_) (by rfl) ?_ ?_
                          rotate_left
                          · (intro w hS; have hV2 := hS.2; replace hS := hS.1; go_simp; try with_reducible rfl)
                          (try simp only [Act.put, List.setIfInBounds_toArray, List.set_cons_zero, List.set_cons_succ])
                          refine seqT_move (by rfl) ?_
                          intro w hS
                          refine ⟨_, _, (by go_simp; first | done | (refine ⟨?_, ?_⟩ <;> with_reducible rfl) | with_reducible rfl), fun x => Below wc.heap.size wc x ∧ SA x (some ⟨w.heap.size, 0, none⟩) 3 3 [2, 4, 4], ⟨bal hS.1 _, SA.lit3 (by go_cell) (by go_cell) (by go_cell)⟩, ?_⟩
                          obtain ⟨gB, hgB⟩ : ∃ g, w.heap.size = g := ⟨_, rfl⟩
                          rw [hgB]
                          clear hgB hS w
                          (try simp only [Act.put, List.setIfInBounds_toArray, List.set_cons_zero, List.set_cons_succ])
                          refine seqT_pure (v := ?_) (by rfl) ?_ ?_
                          rotate_left
                          · (intro w hS; have hV2 := hS.2; replace hS := hS.1; go_simp; try with_reducible rfl)
                          (try simp only [Act.put, List.setIfInBounds_toArray, List.set_cons_zero, List.set_cons_succ])
                          refine seqT_call (v := .int .i64 ((2 : Nat) : Int)) (f := ?_) (args := ?_) (by rfl) ?_ ?_ ?_
                          rotate_left 2
                          · (intro w hS; go_simp; first | done | with_reducible rfl | (refine ⟨?_, ?_⟩ <;> with_reducible rfl))
                          · (intro w hS; have hV2 := hS.2; replace hS := hS.1; refine (value16_is (cv := 2) (hC3.mono hS) hV2 (hV.up hS) (Below.refl _ _) (by omega) hh20 hc2_good.wf hy2).mono ?_; rintro e w' ⟨he, hb⟩; exact ⟨he, btr hS hb, hV2.up hb⟩)
                          (try simp only [Act.put, List.setIfInBounds_toArray, List.set_cons_zero, List.set_cons_succ])
                          refine seqT_pure (v := ?_) (by rfl) ?_ ?_
                          rotate_left
                          · (intro w hS; have hV2 := hS.2; replace hS := hS.1; go_simp; try with_reducible rfl)
                          (try simp only [Act.put, List.setIfInBounds_toArray, List.set_cons_zero, List.set_cons_succ])
                          refine seqT_pure (v := ?_) (by rfl) ?_ ?_
                          rotate_left
                          · (intro w hS; have hV2 := hS.2; replace hS := hS.1; go_simp; try with_reducible rfl)
                          (try simp only [Act.put, List.setIfInBounds_toArray, List.set_cons_zero, List.set_cons_succ])
                          refine seqT_pure (v := ?_) (by rfl) ?_ ?_
                          rotate_left
                          · (intro w hS; have hV2 := hS.2; replace hS := hS.1; go_simp; try with_reducible rfl)
                          (try simp only [Act.put, List.setIfInBounds_toArray, List.set_cons_zero, List.set_cons_succ])
                          refine seqT_nil ?_
                          intro w2 HB0
                          have hB2 := HB0.1
                          go_wp2_with fail
                          go_ret
                          exact ⟨rfl, btr hW hB2⟩
end Go.Proofs.Ytanlecgpnknhoaa
