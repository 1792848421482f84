/- Walks of the reference of layer 21: Valid. -/
import Derived.Test.YtdibfjcmgbpnpaaKI
namespace Go.Proofs.Ytdibfjcmgbpnpaa
set_option linter.unusedSimpArgs false
set_option linter.unusedVariables false
open Go.RowKit

set_option maxRecDepth 100000 in
set_option maxHeartbeats 4000000 in
theorem rvalid21_any {w : World} {p : Option Addr} {cap : Nat} {l : List Int} (hl : SI w p cap l) (hlen : l.length ≤ 1000000) (n : Nat) (hn : n ≤ 1000000) :
    Calls Try.prog 14 #[.int .i64 n, .slice p l.length cap] w fun e w' => e = .returned (.bool (!l.any (badl n))) ∧ w' = w := by
 have HL := Lib.hid hl; clear hl
 obtain ⟨N, hN⟩ : ∃ z, l.length = z := ⟨_, rfl⟩
 rw [hN] at hlen ⊢
 have HN := Lib.hid hN; clear hN
 have hwn : IntKind.i64.wrap (-(n : Int)) = -(n : Int) := wrapI (by omega) (by omega)
 go_enter Try.func14, Try.ntmps14
 go_wp2_with fail
 go_loopg [5] N (fun G s5 wr => ∃ j : Nat, s5 = .int .i64 j ∧ j ≤ N ∧ G = N - j ∧ wr = w ∧ ∀ i, i < j → badl n (l.getD i 0) = false)
 case atStart => exact ⟨0, rfl, by omega, rfl, rfl, fun i hi => by omega⟩
 case round =>
  obtain ⟨j, rfl, hj, hG, hw, hne⟩ := hrel
  replace hw := hw.symm; subst hw
  have HG := Lib.hid hG; have HNE := Lib.hid hne; clear hG hne
  by_cases hlt : j < N
  case pos =>
   obtain ⟨y, hy⟩ : ∃ z, l.getD j 0 = z := ⟨_, rfl⟩
   have hy2 : l[j]? = some y := by rw [← hy, List.getD_eq_getElem?_getD, List.getElem?_eq_getElem (by rw [HN.out]; exact hlt)]; rfl
   obtain ⟨b, o, rfl, hb, c0⟩ := int_cell' HL.out.at' hy2
   have hjl : (j : Int) < (N : Int) := by omega
   have HY := Lib.hid hy; have HY2 := Lib.hid hy2
   clear hy hy2
   have hany : badl n y = true → (!l.any (badl n)) = false := fun q => by
     rw [List.any_eq_true.2 ⟨y, List.mem_of_getElem? HY2.out, q⟩]; rfl
   have HANY := Lib.hid hany; clear hany
   by_cases h0 : y = 0
   · have hb2 := HANY.out (by unfold badl; rw [h0]; rfl)
     have HB2 := Lib.hid hb2; clear hb2
     have h0b : (y == 0) = true := by simpa using h0
     subst h0
     go_wp2_with fail
     go_ret
     rw [HB2.out]
     exact ⟨rfl, rfl⟩
   · have h0b : (y == 0) = false := by simpa using h0
     by_cases h1 : (n : Int) < y
     · have hb2 := HANY.out (by unfold badl; rw [h0b]; simp [h1])
       have HB2 := Lib.hid hb2; clear hb2
       go_wp2_with fail
       go_ret
       rw [HB2.out]
       exact ⟨rfl, rfl⟩
     · by_cases h2 : y < -(n : Int)
       · have hb2 := HANY.out (by unfold badl; rw [h0b]; simp [h2])
         have HB2 := Lib.hid hb2; clear hb2
         go_wp2_with fail
         go_ret
         rw [HB2.out]
         exact ⟨rfl, rfl⟩
       · have hbf : badl n y = false := by unfold badl; rw [h0b]; simp [h1, h2] <;> omega
         have HBF := Lib.hid hbf; clear hbf
         go_wp2_with fail
         go_roundg (N - (j + 1))
         case measure => (have := HG.out; omega)
         case rel =>
           refine ⟨j + 1, by go_num, by omega, rfl, rfl, fun i hi => ?_⟩
           rcases Nat.lt_or_ge i j with q | q
           · exact HNE.out i q
           · rw [show i = j by omega, HY.out]; exact HBF.out
  case neg =>
   obtain rfl : j = N := by omega
   have hall : (!l.any (badl n)) = true := by
     cases hq : l.any (badl n) with
     | false => rfl
     | true =>
       obtain ⟨y, hy, hyb⟩ := List.any_eq_true.1 hq
       obtain ⟨i, hi⟩ := List.mem_iff_getElem?.1 hy
       have hil := (List.getElem?_eq_some_iff.1 hi).1
       have := HNE.out i (by rw [← HN.out]; exact hil)
       rw [List.getD_eq_getElem?_getD, hi] at this
       have h2 : badl n y = false := this
       rw [hyb] at h2; cases h2
   have HA := Lib.hid hall; clear hall
   go_wp2_with fail
   go_ret
   rw [HA.out]
   exact ⟨rfl, rfl⟩

end Go.Proofs.Ytdibfjcmgbpnpaa
