import Derived.Test.YtadilppdlbhjnaaMH
import Derived.Test.YtadilppdlbhjnaaGF
import Derived.Test.YtadilppdlbhjnaaSh
namespace Go.Proofs.Ytadilppdlbhjnaa
set_option linter.unusedSimpArgs false
set_option linter.unusedVariables false
open Go.RowKit
theorem sleq_any (a b : List Int) (p q : Option Addr) (c d : Nat) (w : World) (ha : SI w p c a) (hb : SI w q d b) :
 Calls Try.prog 104 #[.slice p a.length c, .slice q b.length d] w fun e w' => e = .returned (.bool (a == b)) ∧ Below w.heap.size w w' := by
 have l1 := Nat.le_trans ha.le ha.cm; have l2 := Nat.le_trans hb.le hb.cm
 have m1 : maxLen ≤ 9223372036854775807 := by simp [maxLen]
 by_cases hlen : a.length = b.length
 · rcases ha.at' with rfl | ⟨b1, o1, rfl, hb1, hc1⟩
   · have hbn : b = [] := List.length_eq_zero_iff.1 hlen.symm
     subst hbn
     refine (Try.slices_Equal_int_empty p q c 0 d w (by omega)).mono ?_
     rintro e w' ⟨rfl, rfl⟩
     exact ⟨rfl, Below.refl _ _⟩
   · rcases hb.at' with rfl | ⟨b2, o2, rfl, hb2, hc2⟩
     · have han : a = [] := List.length_eq_zero_iff.1 hlen
       subst han
       refine (Try.slices_Equal_int_empty _ q c 0 d w (by omega)).mono ?_
       rintro e w' ⟨rfl, rfl⟩
       exact ⟨rfl, Below.refl _ _⟩
     · refine (Try.slices_Equal_int b1 o1 a.length c b2 o2 b.length d a b w (Nat.le_refl _) (Nat.le_refl _) (by omega) (by omega) (fun j hj => ?_) (fun j hj => ?_)).mono ?_
       · have h := hc1 j _ (List.getElem?_eq_getElem hj) 0 (by omega)
         rw [Nat.mul_one, Nat.add_zero] at h
         rw [h, List.getD_eq_getElem?_getD, List.getElem?_eq_getElem hj]; rfl
       · have h := hc2 j _ (List.getElem?_eq_getElem hj) 0 (by omega)
         rw [Nat.mul_one, Nat.add_zero] at h
         rw [h, List.getD_eq_getElem?_getD, List.getElem?_eq_getElem hj]; rfl
       · rintro e w' ⟨rfl, n, rfl⟩
         rw [List.take_length, List.take_length]
         exact ⟨rfl, Below.drewN (Below.refl _ _) n⟩
 · refine (Try.slices_Equal_int_lens p q a.length c b.length d w hlen).mono ?_
   rintro e w' ⟨rfl, rfl⟩
   refine ⟨?_, Below.refl _ _⟩
   rw [show (a == b) = false from beq_eq_false_iff_ne.2 fun h => hlen (by rw [h])]
set_option maxRecDepth 100000 in
set_option maxHeartbeats 4000000 in
theorem requal_any (a1 a2 : Int) (a b : List Int) (p q : Option Addr) (c d : Nat) (w : World) (ha : SI w p c a) (hb : SI w q d b) :
 Calls Try.prog 47 #[.agg #[.int .i64 a1, .slice p a.length c], .agg #[.int .i64 a2, .slice q b.length d]] w fun e w' => e = .returned (.bool (a1 == a2 && a == b)) ∧ Below w.heap.size w w' := by
 obtain ⟨s, hs⟩ : ∃ s, w.heap.size = s := ⟨_, rfl⟩
 obtain ⟨W2, hW2⟩ : ∃ W2, W2 = (w.alloc (.cells #[.int .i64 a1, .slice p a.length c] 44)).alloc (.cells #[.int .i64 a2, .slice q b.length d] 44) := ⟨_, rfl⟩
 have hB : Below w.heap.size w W2 := by rw [hW2]; go_grown
 have z2 : W2.heap.size = s + 2 := by rw [hW2, ← hs]; simp
 have y0 : W2.cell? ⟨s, 0, none⟩ = some (.int .i64 a1) := by rw [hW2, ← hs]; go_cell
 have y1 : W2.cell? ⟨s, 1, none⟩ = some (.slice p a.length c) := by rw [hW2, ← hs]; go_cell
 have x0 : W2.cell? ⟨s + 1, 0, none⟩ = some (.int .i64 a2) := by rw [hW2, ← hs]; go_cell
 have x1 : W2.cell? ⟨s + 1, 1, none⟩ = some (.slice q b.length d) := by rw [hW2, ← hs]; go_cell
 have HA := Lib.hid (ha.up hB); have HD := Lib.hid (hb.up hB)
 have HB := Lib.hid hB; have HW2 := Lib.hid hW2; have HS := Lib.hid hs
 clear hB hW2 hs ha hb
 go_enter Try.func47, Try.ntmps47
 go_upto_region 1 with fail
 rw [← HW2.out]
 simp only [HS.out, Nat.add_assoc, Nat.reduceAdd]
 by_cases he : a1 = a2
 · subst he
   go_wp2_with (first | (go_at_call 104; refine (sleq_any a b p q c d _ HA.out HD.out).mono ?_; rintro e w3 ⟨rfl, hbl⟩))
   refine bodyPost_ret (by simp [results, Try.results47, go_sem]; try rfl) rfl ?_
   exact ⟨by simp, btr HB.out hbl⟩
 · go_wp2_with fail
   refine bodyPost_ret (by simp [results, Try.results47, go_sem]; try rfl) rfl ?_
   exact ⟨by rw [show (a1 == a2) = false from beq_eq_false_iff_ne.2 he, Bool.false_and], HB.out⟩
end Go.Proofs.Ytadilppdlbhjnaa
