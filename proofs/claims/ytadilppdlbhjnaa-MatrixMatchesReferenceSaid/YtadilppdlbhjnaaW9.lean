import Derived.Test.YtadilppdlbhjnaaW8
import Derived.Test.YtadilppdlbhjnaaGA
namespace Go.Proofs.Ytadilppdlbhjnaa
set_option linter.unusedSimpArgs false
set_option linter.unusedVariables false
open Go.RowKit
attribute [local go_sem ↓] gate_eql gate_neq gate_guard
def csame (a b : List Gate) : Bool := decide (a = b)
theorem csame_of {a b : List Gate} (hl : a.length = b.length) (h : ∀ j, j < a.length → a[j]? = b[j]?) : csame a b = true := by
 simp only [csame, decide_eq_true_eq]
 apply List.ext_getElem?
 intro i
 rcases Nat.lt_or_ge i a.length with hi | hi
 · exact h i hi
 · rw [List.getElem?_eq_none hi, List.getElem?_eq_none (by omega)]
theorem csame_not {a b : List Gate} {j : Nat} {x y : Gate} (h1 : a[j]? = some x) (h2 : b[j]? = some y) (h : x ≠ y) : csame a b = false := by
 simp only [csame, decide_eq_false_iff_not]
 rintro rfl
 rw [h1] at h2
 exact h (Option.some.inj h2)
set_option maxRecDepth 100000 in
set_option maxHeartbeats 1000000 in
theorem same_any (xs ys : List Gate) (p q : Option Addr) (cp cq : Nat) (w : World) (hla : xs.length ≤ maxLen) (hlb : ys.length ≤ maxLen) (hp : GatesAt w p xs) (hq : GatesAt w q ys) :
 Calls Try.prog 26 #[.agg #[.slice p xs.length cp], .agg #[.slice q ys.length cq]] w fun e w' => e = .returned (.bool (csame xs ys)) ∧ Below w.heap.size w w' := by
 unfold maxLen at hla hlb
 by_cases hlen : xs.length = ys.length
 case neg =>
  have hr := Lib.hid (show csame xs ys = false from by simp only [csame, decide_eq_false_iff_not]; rintro rfl; exact hlen rfl)
  have hne : ((xs.length : Int) == (ys.length : Int)) = false := by simp; omega
  have Hp := Lib.hid hp; have Hq := Lib.hid hq; clear hp hq hlen
  go_enter Try.func26, Try.ntmps26
  go_wp2
  go_ret
  exact ⟨ret_bool hr.out.symm, by go_grown⟩
 rcases hp with rfl | ⟨b, off, rfl, hb, hc⟩
 · obtain rfl : ys = [] := List.eq_nil_of_length_eq_zero hlen.symm
   have Hq := Lib.hid hq; clear hq hlen
   go_enter Try.func26, Try.ntmps26
   go_wp2
   go_rounds 1
   go_ret
   exact ⟨rfl, by go_grown⟩
 · rcases hq with rfl | ⟨b', off', rfl, hb', hc'⟩
   · obtain rfl : xs = [] := List.eq_nil_of_length_eq_zero hlen
     clear hlen hc
     go_enter Try.func26, Try.ntmps26
     go_wp2
     go_rounds 1
     go_ret
     exact ⟨rfl, by go_grown⟩
   · have HL := Lib.hid hlen
     have hne : ((xs.length : Int) == (ys.length : Int)) = true := by simp; omega
     clear hlen
     go_enter Try.func26, Try.ntmps26
     go_wp2
     go_loopg [5] xs.length (fun n v wr => ∃ k : Nat, v = .int .i64 k ∧ k ≤ xs.length ∧ n = xs.length - k ∧ (∀ j, j < k → xs[j]? = ys[j]?) ∧ Below (w.heap.size + 2) ((w.alloc (Obj.cells #[Value.slice (some ⟨b, off, none⟩) xs.length cp] 27)).alloc (Obj.cells #[Value.slice (some ⟨b', off', none⟩) ys.length cq] 27)) wr)
     case atStart => exact ⟨0, rfl, by omega, by omega, by omega, Below.refl _ _⟩
     obtain ⟨k, rfl, hk, rfl, hno, hB⟩ := hrel
     have h1 := oldcell (b := w.heap.size) (o := 0) (v := .slice (some ⟨b, off, none⟩) xs.length cp) hB (by go_cell) (by omega)
     have h2 := oldcell (b := w.heap.size + 1) (o := 0) (v := .slice (some ⟨b', off', none⟩) ys.length cq) hB (by go_cell) (by omega)
     have HB0 := Lib.hid (show Below w.heap.size w wr from Below.trans (by go_grown) (hB.mono (by omega)))
     have HB := Lib.hid hB; clear hB
     have H2 := Lib.hid hno; clear hno
     by_cases hlt : k < xs.length
     · have hlt0 : (0 : Int) ≤ (k : Int) := by omega
       have hlt1 : (k : Int) < (xs.length : Int) := by omega
       have hlt2 : (k : Int) < (ys.length : Int) := by have := HL.out; omega
       obtain ⟨gk, hgk⟩ : ∃ gk, xs[k]? = some gk := ⟨_, List.getElem?_eq_getElem hlt⟩
       obtain ⟨gl, hgl⟩ : ∃ gl, ys[k]? = some gl := ⟨_, List.getElem?_eq_getElem (by have := HL.out; omega)⟩
       obtain ⟨e4, e5, e6⟩ := gate_cells hc hgk
       have h4 := oldcell HB0.out e4 hb
       have h5 := oldcell HB0.out e5 hb
       have h6 := oldcell HB0.out e6 hb
       obtain ⟨d4, d5, d6⟩ := gate_cells hc' hgl
       have f4 := oldcell HB0.out d4 hb'
       have f5 := oldcell HB0.out d5 hb'
       have f6 := oldcell HB0.out d6 hb'
       clear e4 e5 e6 d4 d5 d6
       have H1 := Lib.hid hgk; have H1' := Lib.hid hgl; clear hgk hgl
       have H3 := Lib.hid hc; have H3' := Lib.hid hc'; clear hc hc'
       by_cases he : gk = gl
       · have hd := gEq_true he
         have H4 := Lib.hid he; clear he
         go_wp2
         go_quiet (fail)
         go_wp2
         go_roundg (xs.length - (k + 1))
         case measure => omega
         refine ⟨k + 1, by go_num, by omega, rfl, fun j hj => ?_, Below.drewN HB.out _⟩
         rcases Nat.lt_or_ge j k with h | h
         · exact H2.out j h
         · obtain rfl : j = k := by omega
           rw [H1.out, H1'.out, H4.out]
       · have hd := gEq_false he
         have H4 := Lib.hid he; clear he
         go_wp2
         go_quiet (fail)
         go_wp2
         go_ret
         exact ⟨ret_bool (csame_not H1.out H1'.out H4.out).symm, Below.drewN HB0.out _⟩
     · go_wp2
       go_ret
       exact ⟨ret_bool (csame_of HL.out (fun j hj => H2.out j (by omega))).symm, HB0.out⟩
end Go.Proofs.Ytadilppdlbhjnaa
