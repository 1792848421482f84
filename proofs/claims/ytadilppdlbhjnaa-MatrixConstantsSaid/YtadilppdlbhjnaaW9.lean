/- Walks of layer 13: Same, formed, Valid of the reference. -/
import Derived.Test.YtadilppdlbhjnaaW8
import Derived.Test.YtadilppdlbhjnaaGA
namespace Go.Proofs.Ytadilppdlbhjnaa
set_option linter.unusedSimpArgs false
set_option linter.unusedVariables false
open Go.RowKit

attribute [local go_sem ↓] gate_eql gate_neq gate_guard

def csame (a b : List Gate) : Bool := decide (a = b)
theorem csame_of {a b : List Gate} (hl : a.length = b.length) (h : ∀ j, j < a.length → a[j]? = b[j]?) : csame a b = true := by
  simp only [csame, decide_eq_true_eq]
  apply List.ext_getElem? 
  intro i
  rcases Nat.lt_or_ge i a.length with hi | hi
  · exact h i hi
  · rw [List.getElem?_eq_none hi, List.getElem?_eq_none (by omega)]
theorem csame_not {a b : List Gate} {j : Nat} {x y : Gate} (h1 : a[j]? = some x) (h2 : b[j]? = some y) (h : x ≠ y) : csame a b = false := by
  simp only [csame, decide_eq_false_iff_not]
  rintro rfl
  rw [h1] at h2
  exact h (Option.some.inj h2)

set_option maxRecDepth 100000 in
set_option maxHeartbeats 1000000 in
theorem same_any (xs ys : List Gate) (p q : Option Addr) (cp cq : Nat) (w : World) (hla : xs.length ≤ maxLen) (hlb : ys.length ≤ maxLen) (hp : GatesAt w p xs) (hq : GatesAt w q ys) :
    Calls Try.prog 26 #[.agg #[.slice p xs.length cp], .agg #[.slice q ys.length cq]] w fun e w' => e = .returned (.bool (csame xs ys)) ∧ Below w.heap.size w w' := by
  unfold maxLen at hla hlb
  by_cases hlen : xs.length = ys.length
  case neg =>
    have hr := Lib.hid (show csame xs ys = false from by simp only [csame, decide_eq_false_iff_not]; rintro rfl; exact hlen rfl)
    have hne : ((xs.length : Int) == (ys.length : Int)) = false := by simp; omega
    have Hp := Lib.hid hp; have Hq := Lib.hid hq; clear hp hq hlen
    go_enter Try.func26, Try.ntmps26
    go_wp2
    go_ret
    exact ⟨ret_bool hr.out.symm, by go_grown⟩
  case pos =>
    rcases hp with rfl | ⟨b, off, rfl, hb, hc⟩
    · obtain rfl : ys = [] := List.eq_nil_of_length_eq_zero hlen.symm
      have Hq := Lib.hid hq; clear hq hlen
      go_enter Try.func26, Try.ntmps26
      go_wp2
      go_rounds 1
      go_ret
      exact ⟨rfl, by go_grown⟩
    · rcases hq with rfl | ⟨b', off', rfl, hb', hc'⟩
      · obtain rfl : xs = [] := List.eq_nil_of_length_eq_zero hlen
        clear hlen hc
        go_enter Try.func26, Try.ntmps26
        go_wp2
        go_rounds 1
        go_ret
        exact ⟨rfl, by go_grown⟩
      · have HL := Lib.hid hlen
        have hne : ((xs.length : Int) == (ys.length : Int)) = true := by simp; omega
        clear hlen
        go_enter Try.func26, Try.ntmps26
        go_wp2
        go_loopg [5] xs.length (fun n v wr => ∃ k : Nat, v = .int .i64 k ∧ k ≤ xs.length ∧ n = xs.length - k ∧ (∀ j, j < k → xs[j]? = ys[j]?) ∧ Below (w.heap.size + 2) ((w.alloc (Obj.cells #[Value.slice (some ⟨b, off, none⟩) xs.length cp] 27)).alloc (Obj.cells #[Value.slice (some ⟨b', off', none⟩) ys.length cq] 27)) wr)
        case atStart => exact ⟨0, rfl, by omega, by omega, by omega, Below.refl _ _⟩
        case round =>
          obtain ⟨k, rfl, hk, rfl, hno, hB⟩ := hrel
          have h1 := oldcell (b := w.heap.size) (o := 0) (v := .slice (some ⟨b, off, none⟩) xs.length cp) hB (by go_cell) (by omega)
          have h2 := oldcell (b := w.heap.size + 1) (o := 0) (v := .slice (some ⟨b', off', none⟩) ys.length cq) hB (by go_cell) (by omega)
          have HB0 := Lib.hid (show Below w.heap.size w wr from Below.trans (by go_grown) (hB.mono (by omega)))
          have HB := Lib.hid hB; clear hB
          have H2 := Lib.hid hno; clear hno
          by_cases hlt : k < xs.length
          · have hlt0 : (0 : Int) ≤ (k : Int) := by omega
            have hlt1 : (k : Int) < (xs.length : Int) := by omega
            have hlt2 : (k : Int) < (ys.length : Int) := by have := HL.out; omega
            obtain ⟨gk, hgk⟩ : ∃ gk, xs[k]? = some gk := ⟨_, List.getElem?_eq_getElem hlt⟩
            obtain ⟨gl, hgl⟩ : ∃ gl, ys[k]? = some gl := ⟨_, List.getElem?_eq_getElem (by have := HL.out; omega)⟩
            obtain ⟨e4, e5, e6⟩ := gate_cells hc hgk
            have h4 := oldcell HB0.out e4 hb
            have h5 := oldcell HB0.out e5 hb
            have h6 := oldcell HB0.out e6 hb
            obtain ⟨d4, d5, d6⟩ := gate_cells hc' hgl
            have f4 := oldcell HB0.out d4 hb'
            have f5 := oldcell HB0.out d5 hb'
            have f6 := oldcell HB0.out d6 hb'
            clear e4 e5 e6 d4 d5 d6
            have H1 := Lib.hid hgk; have H1' := Lib.hid hgl; clear hgk hgl
            have H3 := Lib.hid hc; have H3' := Lib.hid hc'; clear hc hc'
            by_cases he : gk = gl
            · have hd := gEq_true he
              have H4 := Lib.hid he; clear he
              go_wp2
              go_quiet (fail)
              go_wp2
              go_roundg (xs.length - (k + 1))
              case measure => omega
              case rel =>
                refine ⟨k + 1, by go_num, by omega, rfl, fun j hj => ?_, Below.drewN HB.out _⟩
                rcases Nat.lt_or_ge j k with h | h
                · exact H2.out j h
                · obtain rfl : j = k := by omega
                  rw [H1.out, H1'.out, H4.out]
            · have hd := gEq_false he
              have H4 := Lib.hid he; clear he
              go_wp2
              go_quiet (fail)
              go_wp2
              go_ret
              exact ⟨ret_bool (csame_not H1.out H1'.out H4.out).symm, Below.drewN HB0.out _⟩
          · go_wp2
            go_ret
            exact ⟨ret_bool (csame_of HL.out (fun j hj => H2.out j (by omega))).symm, HB0.out⟩

set_option maxRecDepth 100000 in
set_option maxHeartbeats 1000000 in
theorem formed_any (k a b : Int) (i : Int) (w : World) (hi : 0 ≤ i) (hi' : i ≤ 20000) :
    Calls Try.prog 102 #[.agg #[.int .i64 k, .int .i64 a, .int .i64 b], .int .i64 i] w fun e w' => e = .returned (.bool (formedB k a b i)) ∧ Below w.heap.size w w' := by
  go_enter Try.func102, Try.ntmps102
  go_wp2
  all_goals
    go_ret
    refine ⟨ret_bool ?_, by go_grown⟩
    unfold formedB
    simp only [beq_iff_eq, beq_eq_false_iff_ne] at *
    first | (simp [*]; done) | (simp [*]; omega) | (simp [*]; rfl)

set_option maxRecDepth 100000 in
set_option maxHeartbeats 2000000 in
theorem rvalid_any (gs : List Gate) (p : Option Addr) (cap : Nat) (w : World) (hl : gs.length ≤ maxLen) (hg : GatesAt w p gs) :
    Calls Try.prog 45 #[.agg #[.slice p gs.length cap]] w fun e w' => e = .returned (.bool (cvalid gs)) ∧ Below w.heap.size w w' := by
  unfold maxLen at hl
  rcases hg with rfl | ⟨b, off, rfl, hb, hc⟩
  · go_enter Try.func45, Try.ntmps45
    go_wp2
    go_ret
    exact ⟨rfl, by go_grown⟩
  · by_cases h0 : gs.length = 0
    · obtain rfl : gs = [] := List.eq_nil_of_length_eq_zero h0
      clear hc h0
      go_enter Try.func45, Try.ntmps45
      go_wp2
      go_ret
      exact ⟨rfl, by go_grown⟩
    have hne : ((gs.length : Int) == 0) = false := beq_eq_false_iff_ne.2 (by omega)
    by_cases hlong : 20000 < gs.length
    · have hr := Lib.hid (cvalid_long hlong)
      have hlong' : (20000 : Int) < (gs.length : Int) := by omega
      clear h0 hc
      go_enter Try.func45, Try.ntmps45
      go_wp2
      go_ret
      exact ⟨ret_bool hr.out.symm, by go_grown⟩
    have hlong' : ¬ (20000 : Int) < (gs.length : Int) := by omega
    obtain ⟨g0, hg0⟩ : ∃ g0, gs[0]? = some g0 := ⟨_, List.getElem?_eq_getElem (by omega)⟩
    obtain ⟨e1, e2, e3⟩ := gate_cells hc hg0
    simp only [Nat.zero_mul, Nat.add_zero] at e1 e2 e3
    have hpos : (0 : Int) < (gs.length : Int) := by omega
    clear h0
    by_cases hz : g0 = ⟨0, 0, 0⟩
    case neg =>
      have hd := gEq_false hz
      have hr := Lib.hid (cvalid_head hg0 hz)
      clear hz hg0 hc
      go_enter Try.func45, Try.ntmps45
      go_wp2
      go_ret
      exact ⟨ret_bool hr.out.symm, by go_grown⟩
    case pos =>
      have hd := gEq_true hz
      have hr := Lib.hid (cvalid_start hg0 hz (by omega))
      have Hc := Lib.hid hc
      clear hz hg0 hc
      go_enter Try.func45, Try.ntmps45
      go_wp2
      go_loopg [3] (gs.length - 1) (fun n v wr => ∃ k : Nat, v = .int .i64 k ∧ 1 ≤ k ∧ k ≤ gs.length ∧ n = gs.length - k ∧ cvalid gs = cvalidFrom (gs.take k) (gs.drop k) ∧ Below (w.heap.size + 1) (w.alloc (Obj.cells #[Value.slice (some ⟨b, off, none⟩) gs.length cap] 27)) wr)
      case atStart => exact ⟨1, rfl, by omega, by omega, rfl, hr.out, Below.refl _ _⟩
      case round =>
        obtain ⟨k, rfl, hk1, hk, rfl, hv, hB⟩ := hrel
        have h1 := oldcell (b := w.heap.size) (o := 0) (v := .slice (some ⟨b, off, none⟩) gs.length cap) hB (by go_cell) (by omega)
        have HB0 := Lib.hid (show Below w.heap.size w wr from Below.trans (by go_grown) (hB.mono (by omega)))
        have HB := Lib.hid hB; clear hB
        have HV := Lib.hid hv; clear hv hr
        have hz0 : w.heap.size < wr.heap.size := World.block_lt_of_cell? _ _ h1
        by_cases hlt : k < gs.length
        case neg =>
          have HE := Lib.hid (cvalidFrom_end (c := gs) (k := k) (by omega))
          go_wp2
          go_ret
          exact ⟨ret_bool (HV.out.trans HE.out).symm, HB0.out⟩
        case pos =>
          have hlt0 : (0 : Int) ≤ (k : Int) := by omega
          have hlt1 : (k : Int) < (gs.length : Int) := by omega
          obtain ⟨gk, hgk⟩ : ∃ gk, gs[k]? = some gk := ⟨_, List.getElem?_eq_getElem hlt⟩
          obtain ⟨e4, e5, e6⟩ := gate_cells Hc.out hgk
          have h4 := oldcell HB0.out e4 hb
          have h5 := oldcell HB0.out e5 hb
          have h6 := oldcell HB0.out e6 hb
          have HS := Lib.hid (cvalidFrom_step hgk)
          have HT := Lib.hid (take_contains hgk)
          clear e4 e5 e6 hgk
          go_wp2_with (first | (go_at_call 102; refine (formed_any gk.k gk.a gk.b k _ (by omega) (by omega)).mono ?_; rintro e w1 ⟨rfl, hbl⟩; have j0 := oldcell hbl h1 (World.block_lt_of_cell? _ _ h1); have j4 := oldcell hbl h4 (World.block_lt_of_cell? _ _ h4); have j5 := oldcell hbl h5 (World.block_lt_of_cell? _ _ h5); have j6 := oldcell hbl h6 (World.block_lt_of_cell? _ _ h6); have Hbl := Lib.hid hbl; clear hbl))
          have HBa : Hid (Below w.heap.size w w1) := HB0.out.trans (Hbl.out.mono (by omega))
          have HBb : Hid (Below (w.heap.size + 1) (w.alloc (Obj.cells #[Value.slice (some ⟨b, off, none⟩) gs.length cap] 27)) w1) := HB.out.trans (Hbl.out.mono (by omega))
          have hz1 : w.heap.size < w1.heap.size := World.block_lt_of_cell? _ _ j0
          go_region_held3 (fun w' => w'.cell? ⟨w.heap.size, 0, none⟩ = some (.slice (some ⟨b, off, none⟩) gs.length cap) ∧ w'.cell? ⟨b, off + k * 3, none⟩ = some (.int .i64 gk.k) ∧ w'.cell? ⟨b, off + k * 3 + 1, none⟩ = some (.int .i64 gk.a) ∧ w'.cell? ⟨b, off + k * 3 + 2, none⟩ = some (.int .i64 gk.b)) (refine ⟨?_, ?_, ?_, ?_⟩ <;> (repeat (first | (with_reducible assumption) | (with_reducible refine keep_drew ?_) | (with_reducible refine keep_far ?_ (by dsimp only; omega)) | (go_cell; done) | (with_reducible refine keep_alloc ?_)))) (first | (go_at_call 103; refine (rfind_any gs gk (some ⟨b, off, none⟩) cap _ (by unfold maxLen; omega) (SlAt.mono (.inr ⟨b, off, rfl, hb, Hc.out⟩) (HBa.out.trans (by go_grown)))).mono ?_; rintro e w2 ⟨rfl, hbl2⟩; have i0 := oldcell hbl2 j0 (World.block_lt_of_cell? _ _ j0); have i4 := oldcell hbl2 j4 (World.block_lt_of_cell? _ _ j4); have i5 := oldcell hbl2 j5 (World.block_lt_of_cell? _ _ j5); have i6 := oldcell hbl2 j6 (World.block_lt_of_cell? _ _ j6)))
          all_goals
            have HBc : Hid (Below w.heap.size w w2) := HBa.out.trans (Below.trans (by go_grown) (hbl2.mono (by simp <;> omega)))
            have HBd : Hid (Below (w.heap.size + 1) (w.alloc (Obj.cells #[Value.slice (some ⟨b, off, none⟩) gs.length cap] 27)) w2) := HBb.out.trans (Below.trans (by go_grown) (hbl2.mono (by simp <;> omega)))
            clear hbl2
            cases hfo : formedB gk.k gk.a gk.b k with
            | false =>
              have HR : Hid (cvalid gs = false) := by have := HV.out; rw [HS.out, hfo] at this; exact Lib.hid (by simpa using this)
              go_wp2
              go_ret
              exact ⟨ret_bool HR.out.symm, HBc.out⟩
            | true =>
              by_cases hfi : findI gs gk < (k : Int)
              · have HR : Hid (cvalid gs = false) := by have := HV.out; rw [HS.out, hfo, HT.out.2 hfi] at this; exact Lib.hid (by simpa using this)
                go_wp2
                go_ret
                exact ⟨ret_bool HR.out.symm, HBc.out⟩
              · have HR : Hid (cvalid gs = cvalidFrom (gs.take (k + 1)) (gs.drop (k + 1))) := by
                  have h2 : (gs.take k).contains gk = false := by
                    cases hq : (gs.take k).contains gk with
                    | false => rfl
                    | true => exact absurd (HT.out.1 hq) hfi
                  have := HV.out; rw [HS.out, hfo, h2] at this; exact Lib.hid (by simpa using this)
                go_wp2
                go_roundg (gs.length - (k + 1))
                case measure => omega
                case rel => exact ⟨k + 1, by go_num, by omega, by omega, rfl, HR.out, HBd.out⟩

end Go.Proofs.Ytadilppdlbhjnaa
