/- Walks of the reference of layer 21: has, Negated. -/
import Derived.Test.YtdibfjcmgbpnpaaKG
namespace Go.Proofs.Ytdibfjcmgbpnpaa
set_option linter.unusedSimpArgs false
set_option linter.unusedVariables false
open Go.RowKit

set_option maxRecDepth 100000 in
set_option maxHeartbeats 2000000 in
theorem has_any {w : World} {p : Option Addr} {cap : Nat} {l : List Int} (hl : SI w p cap l) (hlen : l.length ≤ 1000000) (x : Int) :
    Calls Try.prog 54 #[.slice p l.length cap, .int .i64 x] w fun e w' => e = .returned (.bool (decide (x ∈ l))) ∧ w' = w := by
 have HL := Lib.hid hl; clear hl
 obtain ⟨n, hn⟩ : ∃ z, l.length = z := ⟨_, rfl⟩
 rw [hn] at hlen ⊢
 have HN := Lib.hid hn; clear hn
 go_enter Try.func54, Try.ntmps54
 go_wp2_with fail
 go_loopg [5] n (fun G s5 wr => ∃ j : Nat, s5 = .int .i64 j ∧ j ≤ n ∧ G = n - j ∧ wr = w ∧ ∀ i, i < j → l.getD i 0 ≠ x)
 case atStart => exact ⟨0, rfl, by omega, rfl, rfl, fun i hi => by omega⟩
 case round =>
  obtain ⟨j, rfl, hj, hG, hw, hne⟩ := hrel
  replace hw := hw.symm; subst hw
  have HG := Lib.hid hG; have HNE := Lib.hid hne; clear hG hne
  by_cases hlt : j < n
  case pos =>
   obtain ⟨y, hy⟩ : ∃ z, l.getD j 0 = z := ⟨_, rfl⟩
   have hy2 : l[j]? = some y := by rw [← hy, List.getD_eq_getElem?_getD, List.getElem?_eq_getElem (by rw [HN.out]; exact hlt)]; rfl
   obtain ⟨b, o, rfl, hb, c0⟩ := int_cell' HL.out.at' hy2
   have hjl : (j : Int) < (n : Int) := by omega
   have HY := Lib.hid hy; have HY2 := Lib.hid hy2
   clear hy hy2
   by_cases hxy : y = x
   · have hxb : (y == x) = true := by simpa using hxy
     have hxm : x ∈ l := by rw [← hxy]; exact List.mem_of_getElem? HY2.out
     go_wp2_with fail
     go_ret
     exact ⟨by rw [decide_eq_true hxm]; rfl, rfl⟩
   · have hxb : (y == x) = false := by simpa using hxy
     go_wp2_with fail
     go_roundg (n - (j + 1))
     case measure => (have := HG.out; omega)
     case rel =>
       refine ⟨j + 1, by go_num, by omega, rfl, rfl, fun i hi => ?_⟩
       rcases Nat.lt_or_ge i j with q | q
       · exact HNE.out i q
       · rw [show i = j by omega, HY.out]; exact fun e => hxy e
  case neg =>
   obtain rfl : j = n := by omega
   have hxm : ¬ x ∈ l := by
     intro q
     obtain ⟨i, hi⟩ := List.mem_iff_getElem?.1 q
     have hil := (List.getElem?_eq_some_iff.1 hi).1
     refine absurd ?_ (HNE.out i (by rw [← HN.out]; exact hil))
     rw [List.getD_eq_getElem?_getD, hi]; rfl
   go_wp2_with fail
   go_ret
   exact ⟨by rw [decide_eq_false hxm]; rfl, rfl⟩
set_option maxRecDepth 100000 in
set_option maxHeartbeats 2000000 in
theorem negated_any {w : World} {p : Option Addr} {cap : Nat} {l : List Int} (hl : SI w p cap l) (hlen : l.length ≤ 1000000) (hin : ∀ x ∈ l, -1000000 ≤ x ∧ x ≤ 1000000) :
    Calls Try.prog 30 #[.slice p l.length cap] w fun e w' => ∃ q cq, e = .returned (.slice q l.length cq) ∧ w'.ownsRow w.heap.size 3 1 (.slice q l.length cq) l.length (iV (l.map fun y => -y)) ∧ Below w.heap.size w w' := by
 obtain ⟨i0, hi0, hz0, hz1, hz2⟩ := info_parts int_info
 have HL := Lib.hid hl; have HIN := Lib.hid hin; clear hl hin
 obtain ⟨n, hn⟩ : ∃ z, l.length = z := ⟨_, rfl⟩
 rw [hn] at hlen ⊢
 have HN := Lib.hid hn; clear hn
 go_enter Try.func30, Try.ntmps30
 go_upto_region 2 with fail
 obtain ⟨w1, hw1⟩ : ∃ z, z = w.alloc (.cells #[] 3) := ⟨_, rfl⟩
 have hb1 : Below w.heap.size w w1 := by rw [hw1]; go_grown
 have own1 : w1.ownsRow w.heap.size 3 1 (.slice (some ⟨w.heap.size, 0, none⟩) 0 0) 0 [] := by rw [hw1]; exact World.ownsRow_made w #[] 0 (Nat.le_refl _) (Nat.zero_le _) rfl
 rw [← hw1]
 clear hw1
 go_wp2_with fail
 go_loopg [3, 4] n (fun G s3 s4 wr => ∃ (j : Nat) (q : Option Addr) (c : Nat), s4 = .int .i64 j ∧ s3 = .slice q j c ∧ j ≤ n ∧ G = n - j ∧ wr.ownsRow w.heap.size 3 1 (.slice q j c) j (iV ((l.take j).map fun y => -y)) ∧ Below w.heap.size w wr)
 case atStart => exact ⟨0, _, _, rfl, rfl, by omega, rfl, own1, hb1⟩
 case round =>
  obtain ⟨j, q, c, rfl, rfl, hj, hG, hO, hbw⟩ := hrel
  have HG := Lib.hid hG; clear hG own1 hb1
  by_cases hlt : j < n
  case pos =>
   obtain ⟨x, hx⟩ : ∃ z, l.getD j 0 = z := ⟨_, rfl⟩
   have hx2 : l[j]? = some x := by rw [← hx, List.getD_eq_getElem?_getD, List.getElem?_eq_getElem (by rw [HN.out]; exact hlt)]; rfl
   obtain ⟨b, o, rfl, hb, c0⟩ := int_cell' HL.out.at' hx2
   replace c0 := oldcell hbw c0 (World.block_lt_of_cell? _ _ c0)
   have hjl : (j : Int) < (n : Int) := by omega
   have hwx : IntKind.i64.wrap (-x) = -x := by have := HIN.out x (List.mem_of_getElem? hx2); exact wrapI (by omega) (by omega)
   obtain ⟨q2, c2, w3, hrun, hO3, hb3⟩ := own_app1 hi0 hz0 hz1 hz2 hO (-x) (Below.refl _ _) (Below.refl _ _) (by omega) hbw.size
   have HX3 := Lib.hid hx; have HO3 := Lib.hid hO3; have HB3 := Lib.hid (hbw.trans hb3)
   clear hx hx2 hO3 hb3 hO hbw
   go_wp2_with (first | (at_builtin; go_must (refine wpList_run rfl (exec_app rfl rfl rfl hrun) ?_)))
   go_roundg (n - (j + 1))
   case measure => (have := HG.out; omega)
   case rel =>
     refine ⟨j + 1, q2, c2, by go_num, rfl, by omega, rfl, ?_, HB3.out⟩
     rw [take_getD_succ (by rw [HN.out]; exact hlt), List.map_append, HX3.out, iV_append]
     exact HO3.out
  case neg =>
   obtain rfl : j = n := by omega
   rw [← HN.out, List.take_length, HN.out] at hO
   have HO := Lib.hid hO; have HB := Lib.hid hbw
   clear hO hbw
   go_wp2_with fail
   go_ret
   exact ⟨q, c, rfl, HO.out, HB.out⟩

end Go.Proofs.Ytdibfjcmgbpnpaa
