/- Texts PlainM9, R11, R12, PlainW, PlainX, PlainY in one. -/
import Derived.Test.YtadilppdlbhjnaaGB
import Derived.Test.YtadilppdlbhjnaaGU
import Derived.Test.YtadilppdlbhjnaaGF
import Derived.Test.YtadilppdlbhjnaaGT
import Derived.Test.YtadilppdlbhjnaaLB4
import Derived.Test.YtadilppdlbhjnaaGP
namespace Go.Proofs.Ytadilppdlbhjnaa
set_option linter.unusedSimpArgs false
set_option linter.unusedVariables false

def K01 (x : Int) : Prop := x = 0 ∨ x = 1
def KM (m : List Cell) : Prop := ∀ x ∈ m, x.ref = 0
theorem KM.mat {m : List Cell} (h : KM m) (r : Int) : K01 (mat m r) := by
  rcases mat_cases m r with e | ⟨x, hx, _, e⟩
  · exact .inr e
  · exact .inl (e.trans (h x hx))
theorem KM.put {m : List Cell} (h : KM m) (r : Int) {z : Int} (hz : K01 z) : KM (put m r z) := by
  unfold Proofs.Ytadilppdlbhjnaa.put
  split
  · exact h
  · rename_i hn
    intro x hx
    rcases List.mem_append.1 hx with h1 | h1
    · exact h x h1
    · rw [List.mem_singleton.1 h1]; exact hz.resolve_right hn
end Go.Proofs.Ytadilppdlbhjnaa

namespace Go.Proofs.Ytadilppdlbhjnaa
set_option linter.unusedSimpArgs false
set_option linter.unusedVariables false
open Go.RowKit


theorem rpow_is {n k p : Nat} {x : Int} (w : World) (hx : x = (k : Int)) (hn : n ≤ 12) (hk : k ≤ 3) (hp : n ^ k = p) :
    Calls Try.prog 112 #[.int .i64 n, .int .i64 x] w fun e w' => e = .returned (.int .i64 (p : Int)) ∧ w' = w := by
  subst hx hp; exact rpow_any n k w hn hk
set_option maxRecDepth 100000 in
theorem CMap.look {w : World} {bm n : Nat} {D : DM} {l : List Int} (hm : MapAt w bm n D) (hc : CMap D l) {t : Int} (h0 : 0 ≤ t) (h1 : t < 100000) :
    (Instr.lookup 105 (.map (some bm)) (.int .i64 t) false).run Try.prog w = .ok (.int .i64 ((l.count t : Nat) : Int)) w := by
  obtain ⟨c, hrun, hat, hwc⟩ := World.ownsMap.lookup_int (q := .i64) hm int_keyed' Try.underlying105 Try.underlying3 (Try.zeroValue3 _) (int_key h0 h1)
  rw [hrun, hc.read hat]

end Go.Proofs.Ytadilppdlbhjnaa

namespace Go.Proofs.Ytadilppdlbhjnaa
set_option linter.unusedSimpArgs false
set_option linter.unusedVariables false
open Go.RowKit

/-- the ranks of the pairs -/
def rProd (p : Int) (a b : List Int) : List Int := a.flatMap fun x => b.map fun y => x * p + y
/-- the same behind I whole rows and K further pairs -/
def rpst (p : Int) (a b : List Int) (I K : Nat) : List Int := rProd p (a.take I) b ++ (match a[I]? with | some x => (b.take K).map fun y => x * p + y | none => [])
theorem rpst_start {p : Int} {a b : List Int} : rpst p a b 0 0 = [] := by unfold rpst rProd; cases a <;> simp
theorem rpst_row {p : Int} {a b : List Int} {I : Nat} {x : Int} (hx : a[I]? = some x) : rpst p a b (I + 1) 0 = rpst p a b I b.length := by
  obtain ⟨hk, he⟩ := List.getElem?_eq_some_iff.1 hx
  unfold rpst rProd
  rw [hx, List.take_succ_eq_append_getElem hk, he, List.flatMap_append]
  have e : (match a[I + 1]? with | some x => (b.take 0).map fun y => x * p + y | none => []) = ([] : List Int) := by cases a[I + 1]? <;> simp
  rw [e]; simp
theorem rpst_end {p : Int} {a b : List Int} : rpst p a b a.length 0 = rProd p a b := by
  unfold rpst
  rw [List.take_length, List.getElem?_eq_none (Nat.le_refl _), List.append_nil]
theorem rpst_step {p : Int} {a b : List Int} {I K : Nat} {x y : Int} (hx : a[I]? = some x) (hy : b[K]? = some y) : rpst p a b I (K + 1) = rpst p a b I K ++ [x * p + y] := by
  obtain ⟨hk, he⟩ := List.getElem?_eq_some_iff.1 hy
  unfold rpst
  rw [hx, List.take_succ_eq_append_getElem hk, he]
  simp
theorem rpst_len {p : Int} {a b : List Int} {I K : Nat} : (rpst p a b I K).length ≤ I * b.length + K := by
  have h1 : (rProd p (a.take I) b).length ≤ I * b.length := by
    unfold rProd
    rw [List.length_flatMap]
    simp only [List.length_map, List.map_const', List.sum_replicate_nat]
    exact Nat.mul_le_mul_right _ (List.length_take_le _ _)
  unfold rpst
  rw [List.length_append]
  have h2 : (match a[I]? with | some x => (b.take K).map fun y => x * p + y | none => []).length ≤ K := by
    cases a[I]? with
    | none => simp
    | some x => simp; omega
  omega
theorem mem_rProd {p : Int} {a b : List Int} {r : Int} : r ∈ rProd p a b ↔ ∃ x ∈ a, ∃ y ∈ b, r = x * p + y := by
  unfold rProd
  simp only [List.mem_flatMap, List.mem_map]
  constructor
  · rintro ⟨x, hx, y, hy, e⟩; exact ⟨x, hx, y, hy, e.symm⟩
  · rintro ⟨x, hx, y, hy, e⟩; exact ⟨x, hx, y, hy, e.symm⟩

set_option maxRecDepth 100000 in
set_option maxHeartbeats 4000000 in
theorem relproduct_any (a b : List Int) (ar1 : Int) (k n p : Nat) (pa pb : Option Addr) (ca cb : Nat) (w : World) (hA : SI w pa ca a) (hD : SI w pb cb b) (hla : a.length ≤ 100) (hlb : b.length ≤ 100) (ha : ∀ x ∈ a, 0 ≤ x ∧ x < 100000) (hb : ∀ x ∈ b, 0 ≤ x ∧ x < 100000)
    (hr1 : 0 ≤ ar1) (hr2 : ar1 + (k : Int) ≤ 3) (hn0 : 0 < n) (hn : n ≤ 12) (hp : n ^ k = p) :
    Calls Try.prog 75 #[.int .i64 n, .agg #[.int .i64 ar1, .slice pa a.length ca], .agg #[.int .i64 k, .slice pb b.length cb]] w
      (fun e w' => ∃ q cq, e = .returned (.tuple #[.agg #[.int .i64 (ar1 + k), .slice q (rProd p a b).length cq], .int .i64 0]) ∧ SI w' q cq (rProd p a b) ∧ Below w.heap.size w w') := by
  obtain ⟨i0, hi0, hz0, hz1, hz2⟩ := info_parts int_info
  have hk3 : k ≤ 3 := by omega
  have hp1 : 0 < p := by rw [← hp]; exact Nat.pow_pos hn0
  have hp2 : p ≤ 1728 := by rw [← hp]; exact Nat.le_trans (Nat.pow_le_pow_left hn k) (Nat.le_trans (Nat.pow_le_pow_right (by decide) hk3) (by decide))
  have hw1 : IntKind.i64.wrap (ar1 + (k : Int)) = ar1 + (k : Int) := by rw [IntWalk.i64_in]; omega
  have hg1 : ¬ (3 : Int) < ar1 + (k : Int) := by omega
  have hab : a.length * b.length ≤ 10000 := Nat.mul_le_mul hla hlb
  have HP := Lib.hid hp; have HA := Lib.hid hA; have HD := Lib.hid hD; have HRA := Lib.hid ha; have HRB := Lib.hid hb; clear hp hA hD ha hb
  obtain ⟨s, hs⟩ : ∃ s, w.heap.size = s := ⟨_, rfl⟩
  obtain ⟨W2, hW2⟩ : ∃ W2, W2 = ((w.alloc (.cells #[.int .i64 ar1, .slice pa a.length ca] 44)).alloc (.cells #[.int .i64 k, .slice pb b.length cb] 44)).alloc (.cells #[.int .i64 0, .slice none 0 0] 44) := ⟨_, rfl⟩
  have hB : Below w.heap.size w W2 := by rw [hW2]; go_grown
  have z2 : W2.heap.size = s + 3 := by rw [hW2, ← hs]; simp
  have x0 : W2.cell? ⟨s, 0, none⟩ = some (.int .i64 ar1) := by rw [hW2, ← hs]; go_cell
  have x1 : W2.cell? ⟨s, 1, none⟩ = some (.slice pa a.length ca) := by rw [hW2, ← hs]; go_cell
  have y0 : W2.cell? ⟨s + 1, 0, none⟩ = some (.int .i64 k) := by rw [hW2, ← hs]; go_cell
  have y1 : W2.cell? ⟨s + 1, 1, none⟩ = some (.slice pb b.length cb) := by rw [hW2, ← hs]; go_cell
  have r0 : W2.cell? ⟨s + 2, 0, none⟩ = some (.int .i64 0) := by rw [hW2, ← hs]; go_cell
  have r1 : W2.cell? ⟨s + 2, 1, none⟩ = some (.slice none 0 0) := by rw [hW2, ← hs]; go_cell
  have r0f : W2.frozen? ⟨s + 2, 0, none⟩ = false := by rw [hW2, ← hs]; go_cell
  have r1f : W2.frozen? ⟨s + 2, 1, none⟩ = false := by rw [hW2, ← hs]; go_cell
  have HW2 := Lib.hid hW2; have HS := Lib.hid hs
  clear hW2 hs
  go_enter Try.func75, Try.ntmps75
  go_upto_region 1 with fail
  rw [← HW2.out]
  simp only [HS.out, Nat.add_assoc, Nat.reduceAdd]
  go_upto_region 4 with fail
  obtain ⟨W3, hW3⟩ : ∃ W3, W3 = W2.alloc (.cells #[.int .i64 (ar1 + k), .slice none 0 0] 44) := ⟨_, rfl⟩
  rw [← hW3]
  try rw [z2]
  have hB3 : Below W2.heap.size W2 W3 := by rw [hW3]; go_grown
  have z3 : W3.heap.size = s + 4 := by rw [hW3]; simp [z2]
  have G0 : W3.cell? ⟨s + 3, 0, none⟩ = some (.int .i64 (ar1 + k)) ∧ W3.cell? ⟨s + 3, 1, none⟩ = some (.slice none 0 0) ∧ W3.frozen? ⟨s + 3, 1, none⟩ = false := by rw [hW3]; exact ⟨by rw [← z2]; go_cell, by rw [← z2]; go_cell, by rw [← z2]; go_cell⟩
  replace x0 := oldcell hB3 x0 (by omega); replace x1 := oldcell hB3 x1 (by omega); replace y0 := oldcell hB3 y0 (by omega); replace y1 := oldcell hB3 y1 (by omega); replace r0 := oldcell hB3 r0 (by omega); replace r1 := oldcell hB3 r1 (by omega); replace r0f := oldfree hB3 r0f (by omega); replace r1f := oldfree hB3 r1f (by omega)
  replace hB := btr hB hB3
  have HB := Lib.hid hB; have HG0 := Lib.hid G0
  clear hW3 hB3 G0 hB
  go_upto_region 5 with (first | (go_at_call 112; refine (rpow_is (k := k) (p := p) _ rfl hn hk3 HP.out).mono ?_; rintro e w' ⟨rfl, hw⟩; replace hw := hw.symm; subst hw))
  go_wp2_with fail
  go_loopg [34] a.length (fun N s34 wr => ∃ (I : Nat) (v : Value) (L : List Int), s34 = .int .i64 I ∧ I ≤ a.length ∧ N = a.length - I ∧ rpst p a b I 0 = L ∧ wr.cell? ⟨s + 3, 0, none⟩ = some (.int .i64 (ar1 + k)) ∧ wr.cell? ⟨s + 3, 1, none⟩ = some v ∧ wr.frozen? ⟨s + 3, 1, none⟩ = false ∧ wr.ownsRow (s + 4) 3 1 v L.length (flat 1 iEnc L) ∧ s + 4 ≤ wr.heap.size ∧ Below (s + 3) W3 wr)
  case atStart => exact ⟨0, _, [], rfl, by omega, rfl, rpst_start, HG0.out.1, HG0.out.2.1, HG0.out.2.2, World.ownsRow_nil _ _ _ _, by omega, Below.refl _ _⟩
  case round =>
    obtain ⟨I, v, L, rfl, hI, hN, hL, g0, g1, g1f, hown, hz, hbr⟩ := hrel
    have HNk := Lib.hid hN; have HO := Lib.hid hown; have HBR := Lib.hid hbr; have HL := Lib.hid hL
    have hBW : Below w.heap.size w wr := HB.out.trans (hbr.mono (by rw [HS.out]; omega))
    have HBW := Lib.hid hBW
    have hLl : L.length ≤ I * b.length := by rw [← hL]; exact rpst_len
    have hIb : I * b.length ≤ a.length * b.length := Nat.mul_le_mul_right _ hI
    clear hN hown hBW hL
    by_cases hlt : I < a.length
    case neg =>
      obtain rfl : I = a.length := by omega
      have hLe := rpst_end.symm.trans HL.out
      have hO := HO.out
      obtain ⟨q3, c3, hv, o1, o2, o3, o4⟩ := owns_val (by decide) hO
      subst hv
      have O3 := Lib.hid o3; have O4 := Lib.hid o4; have HO2 := Lib.hid hO
      have r0 := oldcell hbr r0 (by omega)
      have r1 := oldcell hbr r1 (by omega)
      have r0f := oldfree hbr r0f (by omega)
      have r1f := oldfree hbr r1f (by omega)
      have HLE := Lib.hid hLe
      clear hO o3 o4 hbr HO hLe x0 x1 y0 y1
      go_wp2_with fail
      have KX : KeepX [s + 2] wr ((wr.setCell ⟨s + 2, 0, none⟩ (.int .i64 (ar1 + k))).setCell ⟨s + 2, 1, none⟩ (.slice q3 L.length c3)) := ((KeepX.refl _ wr).setCell (by simp) _).setCell (by simp) _
      have e0 : ((wr.setCell ⟨s + 2, 0, none⟩ (.int .i64 (ar1 + k))).setCell ⟨s + 2, 1, none⟩ (.slice q3 L.length c3)).cell? ⟨s + 2, 0, none⟩ = some (.int .i64 (ar1 + k)) := by go_cell
      have e1 : ((wr.setCell ⟨s + 2, 0, none⟩ (.int .i64 (ar1 + k))).setCell ⟨s + 2, 1, none⟩ (.slice q3 L.length c3)).cell? ⟨s + 2, 1, none⟩ = some (.slice q3 L.length c3) := by go_cell
      obtain ⟨W9, hW9⟩ : ∃ W9, W9 = ((wr.setCell ⟨s + 2, 0, none⟩ (.int .i64 (ar1 + k))).setCell ⟨s + 2, 1, none⟩ (.slice q3 L.length c3)) := ⟨_, rfl⟩
      rw [← hW9] at KX e0 e1 ⊢
      clear hW9
      refine bodyPost_ret (by simp [results, Try.results75, go_sem, e0, e1]; try rfl) rfl ?_
      have hqr : ∀ ad, q3 = some ad → s + 4 ≤ ad.block ∧ ad.block < wr.heap.size := fun ad h => HO2.out.lt ad.block (by rw [h]; rfl)
      have hq8 : ∀ ad, q3 = some ad → ad.block ∉ [s + 2] := fun ad h hm => by have := (hqr ad h).1; simp at hm; omega
      rw [HLE.out]
      refine ⟨q3, c3, rfl, ⟨o1, o2, O3.out, O4.out.keep KX hq8, fun ad h => Nat.lt_of_lt_of_le (hqr ad h).2 KX.size⟩, ?_⟩
      exact HBW.out.trans (KX.below (by have := HBW.out.size; exact this) (by rw [HS.out]; simp))
    case pos =>
      have hlt0 : (0 : Int) ≤ (I : Int) := by omega
      have hlt1 : (I : Int) < (a.length : Int) := by omega
      obtain ⟨x, hx⟩ : ∃ x, a[I]? = some x := ⟨_, List.getElem?_eq_getElem hlt⟩
      obtain ⟨bx, ox, rfl, hbx, jx⟩ := int_cell HA.out.at' hx
      have hx1 := HRA.out x (List.mem_of_getElem? hx)
      have k0 := oldcell HBW.out jx hbx
      have y1r := oldcell hbr y1 (by omega)
      have HX := Lib.hid hx
      have hIb2 : (I + 1) * b.length ≤ a.length * b.length := Nat.mul_le_mul_right _ hlt
      rw [Nat.succ_mul] at hIb2
      clear hx jx
      go_upto_region 9 with fail
      go_loopg [41] b.length (fun N s41 wq => ∃ (K : Nat) (v : Value) (L : List Int), s41 = .int .i64 K ∧ K ≤ b.length ∧ N = b.length - K ∧ rpst p a b I K = L ∧ wq.cell? ⟨s + 3, 0, none⟩ = some (.int .i64 (ar1 + k)) ∧ wq.cell? ⟨s + 3, 1, none⟩ = some v ∧ wq.frozen? ⟨s + 3, 1, none⟩ = false ∧ wq.ownsRow (s + 4) 3 1 v L.length (flat 1 iEnc L) ∧ s + 4 ≤ wq.heap.size ∧ Below (s + 3) W3 wq)
      case atStart => exact ⟨0, v, L, rfl, by omega, rfl, HL.out, g0, g1, g1f, HO.out, hz, HBR.out⟩
      case round =>
        clear g0 g1 g1f HO hz hbr HBR HL hLl k0 y1r HBW v L
        obtain ⟨K, v, L, rfl, hK, hN, hL, g0, g1, g1f, hown, hz, hbr⟩ := hrel
        have HNj := Lib.hid hN; have HO := Lib.hid hown; have HBR := Lib.hid hbr; have HL := Lib.hid hL
        have hBW : Below w.heap.size w wr := HB.out.trans (hbr.mono (by rw [HS.out]; omega))
        have HBW := Lib.hid hBW
        have hLl : L.length ≤ I * b.length + K := by rw [← hL]; exact rpst_len
        clear hN hown hBW hL
        by_cases hlt2 : K < b.length
        case neg =>
          obtain rfl : K = b.length := by omega
          go_wp2_with fail
          go_roundg (a.length - (I + 1))
          case measure => (have := HNk.out; omega)
          case rel => exact ⟨I + 1, v, L, by go_num, by omega, rfl, (rpst_row HX.out).trans HL.out, g0, g1, g1f, HO.out, hz, HBR.out⟩
        case pos =>
          have hlt3 : (0 : Int) ≤ (K : Int) := by omega
          have hlt4 : (K : Int) < (b.length : Int) := by omega
          obtain ⟨y, hy⟩ : ∃ y, b[K]? = some y := ⟨_, List.getElem?_eq_getElem hlt2⟩
          obtain ⟨by', oy, rfl, hby, jy⟩ := int_cell HD.out.at' hy
          have hy1 := HRB.out y (List.mem_of_getElem? hy)
          have k1 := oldcell HBW.out jy hby
          have HY := Lib.hid hy
          obtain ⟨Q, hQ⟩ : ∃ Q, x * (p : Int) = Q := ⟨_, rfl⟩
          have hQ0 : 0 ≤ Q := by rw [← hQ]; exact Int.mul_nonneg hx1.1 (by omega)
          have hQ1 : Q ≤ 100000 * 1728 := by rw [← hQ]; exact Int.mul_le_mul (by omega) (by omega) (by omega) (by omega)
          have hw2 : IntKind.i64.wrap Q = Q := by rw [IntWalk.i64_in]; omega
          have hw3 : IntKind.i64.wrap (Q + y) = Q + y := by rw [IntWalk.i64_in]; omega
          have HST := Lib.hid (show rpst p a b I (K + 1) = L ++ [Q + y] by rw [rpst_step HX.out hy, HL.out, hQ])
          clear hy jy
          go_wp2_with (first | (at_builtin; go_must (refine wpList_app2 (enc := iEnc) rfl _ _ _ rfl (s + 4) 3 i0 _ 8 Try.underlying42 hi0 hz0 hz1 hz2 rfl (by omega) _ L rfl (HO.out.alloc _) (some ⟨wr.heap.size, 0, none⟩) [Q + y] 1 rfl (fun h => by cases h) (SlAt.int1 (by go_cell)) iEnc_one (by simp [maxLen]; omega) (by simp; omega) (by simp; omega) ?_); intro v2 w3 hown2 hgr2 hbl2 hat2; obtain ⟨q2, cq2, rfl, -, -, -, -⟩ := owns_val (by decide) hown2; have HOW2 := Lib.hid hown2; have hbl3 : Below (s + 4) wr w3 := (Below.alloc (Below.refl _ _) (by omega) _).trans hbl2; have g0 := oldcell hbl3 g0 (by omega); have g1 := oldcell hbl3 g1 (by omega); have g1f := oldfree hbl3 g1f (by omega); have z3 := hbl3.size; have HBL3 := Lib.hid hbl3; clear hown2 hgr2 hbl2 hat2 hbl3))
          go_roundg (b.length - (K + 1))
          case measure => (have := HNj.out; omega)
          case rel =>
            refine ⟨K + 1, _, L ++ [Q + y], by go_num, by omega, rfl, HST.out, by go_cell, by go_cell, by rw [World.frozen?_setCell]; exact g1f, ?_, by simp; omega, ?_⟩
            · have hq := HOW2.out
              rw [show (L ++ [Q + y]).length = L.length + 1 by simp] at hq ⊢
              exact ownsRow_setCell_below (a := ⟨s + 3, 1, none⟩) hq (by show s + 3 < s + 4; omega) _
            · exact Below.setCell (HBR.out.trans (HBL3.out.mono (by omega))) (by show _ ≤ s + 3; omega) _
end Go.Proofs.Ytadilppdlbhjnaa

namespace Go.Proofs.Ytadilppdlbhjnaa
set_option linter.unusedSimpArgs false
set_option linter.unusedVariables false
open Go.RowKit

end Go.Proofs.Ytadilppdlbhjnaa

namespace Go.Proofs.Ytadilppdlbhjnaa
set_option linter.unusedSimpArgs false
set_option linter.unusedVariables false
open Go.RowKit

theorem mem_val {c : List Gate} {N : Int} {m : List Cell} (V : List Bool) (h : MOk c N m) (r : Int) : r ∈ mValue c V m ↔ ∃ x ∈ m, cv c V x.ref = true ∧ x.rank = r := by
  rw [mValue_cv V h]
  simp only [List.mem_map, List.mem_filter]
  constructor
  · rintro ⟨x, ⟨h1, h2⟩, h3⟩; exact ⟨x, h1, h2, h3⟩
  · rintro ⟨x, h1, h2, h3⟩; exact ⟨x, ⟨h1, h2⟩, h3⟩
theorem rprod_rs {a b : List Int} {p : Int} (ha : RS a) (hb : RS b) (h0 : 0 ≤ p) (hr : ∀ y ∈ b, 0 ≤ y ∧ y < p) : RS (rProd p a b) := by
  unfold rProd RS
  rw [List.pairwise_flatMap]
  refine ⟨fun x hx => ?_, ?_⟩
  · rw [List.pairwise_map]
    refine List.Pairwise.imp ?_ hb
    intro y z h
    omega
  · refine List.Pairwise.imp ?_ ha
    intro x z hxz s hs t ht
    obtain ⟨y, hy, rfl⟩ := List.mem_map.1 hs
    obtain ⟨u, hu, rfl⟩ := List.mem_map.1 ht
    have h1 := hr y hy
    have h2 := hr u hu
    have h4 := mul_step hxz h0
    omega
theorem product_rel {c : List Gate} {A p : Int} {a b : List Cell} (hg : Good c) (hl : c.length + a.length * b.length ≤ 20000) (ha : MOk c A a) (hb : MOk c p b) (h0 : 0 ≤ p) (V : List Bool) :
    mValue (mProduct c p a b).1 V (mProduct c p a b).2 = rProd p (mValue c V a) (mValue c V b) := by
  obtain ⟨g, h, v⟩ := product_ok ha hb hg hl
  have hrb : ∀ y ∈ mValue c V b, 0 ≤ y ∧ y < p := fun y hy => by
    obtain ⟨x, hx, -, rfl⟩ := (mem_val V hb y).1 hy
    exact hb.ranks x hx
  refine rs_ext (value_rs V h) (rprod_rs (value_rs V ha) (value_rs V hb) h0 hrb) fun r => ?_
  rw [mem_value g.good h, mem_rProd]
  constructor
  · intro hr
    by_cases ht : ∃ t ∈ ppairs p a b, t.rank = r
    · obtain ⟨t, ht, rfl⟩ := ht
      rw [v V t ht, Bool.and_eq_true] at hr
      obtain ⟨x, hx, y, hy, rfl⟩ := mem_ppairs.1 ht
      exact ⟨x.rank, (mem_val V ha _).2 ⟨x, hx, hr.1, rfl⟩, y.rank, (mem_val V hb _).2 ⟨y, hy, hr.2, rfl⟩, rfl⟩
    · rw [product_out ha hb hg hl (fun t h1 h2 => ht ⟨t, h1, h2⟩), cv_1 g.good] at hr; cases hr
  · rintro ⟨x, hx, y, hy, rfl⟩
    obtain ⟨X, hX, hXt, rfl⟩ := (mem_val V ha x).1 hx
    obtain ⟨Y, hY, hYt, rfl⟩ := (mem_val V hb y).1 hy
    have := v V ⟨X.rank * p + Y.rank, X.ref, Y.ref⟩ (mem_ppairs.2 ⟨X, hX, Y, hY, rfl⟩)
    rw [this, Bool.and_eq_true]; exact ⟨hXt, hYt⟩
theorem join_rel {c : List Gate} {A B : Int} {N : Nat} {n p : Int} {a b : List Cell} (hg : Good c) (hl : c.length + 2 * (a.length * b.length) ≤ 20000) (ha : MOk c A a) (hb : MOk c B b) (hN : ∀ t ∈ jpairs n p a b, 0 ≤ t.rank ∧ t.rank < (N : Int)) (V : List Bool) :
    mValue (mJoin c N n p a b).1 V (mJoin c N n p a b).2 = rJoin n p (mValue c V a) (mValue c V b) := by
  obtain ⟨g, h, v⟩ := join_ok hg hl ha hb hN
  refine rs_ext (value_rs V h) (nrm_rs _) fun r => ?_
  rw [mem_value g.good h, v V r, mem_join, List.any_eq_true]
  constructor
  · rintro ⟨t, ht, htt⟩
    rw [Bool.and_eq_true, Bool.and_eq_true, beq_iff_eq] at htt
    obtain ⟨x, hx, y, hy, h1, rfl⟩ := mem_jpairs.1 ht
    exact ⟨x.rank, (mem_val V ha _).2 ⟨x, hx, htt.2.1, rfl⟩, y.rank, (mem_val V hb _).2 ⟨y, hy, htt.2.2, rfl⟩, h1.symm, htt.1.symm⟩
  · rintro ⟨x, hx, y, hy, h1, h2⟩
    obtain ⟨X, hX, hXt, rfl⟩ := (mem_val V ha x).1 hx
    obtain ⟨Y, hY, hYt, rfl⟩ := (mem_val V hb y).1 hy
    refine ⟨_, mem_jpairs.2 ⟨X, hX, Y, hY, h1.symm, rfl⟩, ?_⟩
    rw [Bool.and_eq_true, Bool.and_eq_true, beq_iff_eq]
    exact ⟨h2.symm, hXt, hYt⟩
theorem transp_rel {c : List Gate} {n : Nat} {a : List Cell} (hg : Good c) (ha : MOk c ((n * n : Nat) : Int) a) (V : List Bool) : mValue c V (mTranspose n a) = rTr n (mValue c V a) := by
  have h := transpose_ok hg ha
  have hrk := value_rk V ha
  refine rs_ext (value_rs V h) (nrm_rs _) fun r => ?_
  by_cases hr : 0 ≤ r ∧ r < ((n * n : Nat) : Int)
  · rw [mem_rTr hrk hr.1 hr.2, mem_value hg h, mem_value hg ha]
    unfold mTranspose
    rw [gather_mat (ranksTo_sl _), if_pos (mem_ranksTo.2 hr)]
    rfl
  · constructor
    · intro q
      obtain ⟨x, hx, -, rfl⟩ := (mem_val V h r).1 q
      exact absurd (h.ranks x hx) hr
    · intro q
      exfalso; apply hr
      unfold rTr at q
      rw [mem_nrm, List.mem_map] at q
      obtain ⟨x, hx, rfl⟩ := q
      have hx2 := hrk x hx
      obtain ⟨p1, p2, p3, p4, p5⟩ := rank_lt hx2.1 hx2.2
      obtain ⟨q0, q1, -, -⟩ := pair_lt p3 p4 p1 p2
      exact ⟨q0, q1⟩
/-- what the law wants of the join -/
structure PJ (V : List Bool) (c d : List Gate) (N : Nat) (m : List Cell) (l : List Int) : Prop where
  good : Good d
  len : d.length ≤ 10000
  ok : MOk d (N : Int) m
  mlen : m.length ≤ 81
  val : mValue d V m = l
section
variable {c : List Gate} {a b : List Cell} {n kk k2 : Nat} (hk0 : 0 < kk) (hk : kk ≤ 2) (h20 : 0 < k2) (h2 : k2 ≤ 2) (hn0 : 0 < n) (hn : n ≤ 3) (hg : Good c) (hcl : c.length ≤ 61)
  (ha : MOk c ((n ^ kk : Nat) : Int) a) (hb : MOk c ((n ^ k2 : Nat) : Int) b)
include hk0 hk h20 h2 hn0 hn hg hcl ha hb in
theorem join_plain (V : List Bool) : ∃ d m, mJoin c (n ^ (kk - 1 + (k2 - 1))) n ((n ^ (k2 - 1) : Nat) : Int) a b = (d, m) ∧ PJ V c d (n ^ (kk - 1 + (k2 - 1))) m (rJoin n ((n ^ (k2 - 1) : Nat) : Int) (mValue c V a) (mValue c V b)) := by
  obtain ⟨k1, l1, rfl, rfl, h3, ha9, hb9, hT⟩ := joinL_facts hk0 hk h20 h2 hn0 hn ha hb
  have hab : a.length * b.length ≤ 81 := Nat.mul_le_mul ha9 hb9
  obtain ⟨g1, o1, -⟩ := join_ok (N := n ^ (k1 + l1)) hg (by omega) ha hb hT
  have r1 := join_rel (N := n ^ (k1 + l1)) hg (by omega) ha hb hT V
  obtain ⟨d, m, e⟩ : ∃ d m, mJoin c (n ^ (k1 + l1)) n ((n ^ l1 : Nat) : Int) a b = (d, m) := ⟨_, _, rfl⟩
  rw [e] at g1 o1 r1
  dsimp only at g1 o1 r1
  exact ⟨d, m, e, g1.good, by have := g1.len; omega, o1, by have := Nat.le_trans o1.len (pow_9 hn h3); omega, r1⟩
include hk h2 hn hg hcl ha hb in
theorem prod_plain (V : List Bool) : ∃ d m, mProduct c ((n ^ k2 : Nat) : Int) a b = (d, m) ∧ PJ V c d (n ^ (kk + k2)) m (rProd ((n ^ k2 : Nat) : Int) (mValue c V a) (mValue c V b)) := by
  have ha9 := Nat.le_trans ha.len (pow_9 hn hk)
  have hb9 := Nat.le_trans hb.len (pow_9 hn h2)
  have hab : a.length * b.length ≤ 81 := Nat.mul_le_mul ha9 hb9
  obtain ⟨d, m, e⟩ : ∃ d m, mProduct c ((n ^ k2 : Nat) : Int) a b = (d, m) := ⟨_, _, rfl⟩
  obtain ⟨g, o, l⟩ := productL_ok hk h2 hn hg (by omega) ha hb e
  have r := product_rel hg (by omega) ha hb (by omega) V
  rw [e] at r
  exact ⟨d, m, e, g.good, by have := g.len; omega, o, l, r⟩
end
end Go.Proofs.Ytadilppdlbhjnaa

namespace Go.Proofs.Ytadilppdlbhjnaa
set_option linter.unusedSimpArgs false
set_option linter.unusedVariables false
open Go.RowKit

end Go.Proofs.Ytadilppdlbhjnaa
