/- Walks of the solver: slices.Contains, valid. -/
import Derived.Test.YtdibfjcmgbpnpaaKD
namespace Go.Proofs.Ytdibfjcmgbpnpaa
set_option linter.unusedSimpArgs false
set_option linter.unusedVariables false
open Go.RowKit

theorem int_cell' {w : World} {p : Option Addr} {l : List Int} (h : IntsAt w p l) {i : Nat} {x : Int} (hi : l[i]? = some x) : ∃ b o, p = some ⟨b, o, none⟩ ∧ b < w.heap.size ∧ w.cell? ⟨b, o + i, none⟩ = some (.int .i64 x) := by
  rcases h with rfl | ⟨b, o, h1, h2, h3⟩
  · simp at hi
  · exact ⟨b, o, h1, h2, by have := h3 i x hi 0 (by omega); simpa [iEnc] using this⟩
set_option maxRecDepth 100000 in
set_option maxHeartbeats 2000000 in
theorem index_ints {w : World} {p : Option Addr} {cap : Nat} {l : List Int} (hl : SI w p cap l) (hlen : l.length ≤ 1000000) (x : Int) :
    Calls Try.prog 51 #[.slice p l.length cap, .int .i64 x] w fun e w' => (∃ r : Int, e = .returned (.int .i64 r) ∧ (0 ≤ r ↔ x ∈ l)) ∧ w' = w := by
 have HL := Lib.hid hl; clear hl
 obtain ⟨n, hn⟩ : ∃ z, l.length = z := ⟨_, rfl⟩
 rw [hn] at hlen ⊢
 have HN := Lib.hid hn; clear hn
 go_enter Try.func51, Try.ntmps51
 go_wp2_with fail
 go_loopg [8] n (fun G s8 wr => ∃ j : Nat, s8 = .int .i64 j ∧ j ≤ n ∧ G = n - j ∧ wr = w ∧ ∀ i, i < j → l.getD i 0 ≠ x)
 case atStart => exact ⟨0, rfl, by omega, rfl, rfl, fun i hi => by omega⟩
 case round =>
  obtain ⟨j, rfl, hj, hG, hw, hne⟩ := hrel
  replace hw := hw.symm; subst hw
  have HG := Lib.hid hG; have HNE := Lib.hid hne; clear hG hne
  by_cases hlt : j < n
  case pos =>
   obtain ⟨y, hy⟩ : ∃ z, l.getD j 0 = z := ⟨_, rfl⟩
   have hy2 : l[j]? = some y := by rw [← hy, List.getD_eq_getElem?_getD, List.getElem?_eq_getElem (by rw [HN.out]; exact hlt)]; rfl
   obtain ⟨b, o, rfl, hb, c0⟩ := int_cell' HL.out.at' hy2
   have hjl : (j : Int) < (n : Int) := by omega
   have HY := Lib.hid hy; have HY2 := Lib.hid hy2
   clear hy hy2
   by_cases hxy : x = y
   · have hxb : (x == y) = true := by simpa using hxy
     go_wp2_with fail
     go_ret
     refine ⟨⟨j, rfl, fun _ => ?_, fun _ => by omega⟩, rfl⟩
     rw [hxy]; exact List.mem_of_getElem? HY2.out
   · have hxb : (x == y) = false := by simpa using hxy
     go_wp2_with fail
     go_roundg (n - (j + 1))
     case measure => (have := HG.out; omega)
     case rel =>
       refine ⟨j + 1, by go_num, by omega, rfl, rfl, fun i hi => ?_⟩
       rcases Nat.lt_or_ge i j with q | q
       · exact HNE.out i q
       · rw [show i = j by omega, HY.out]; exact fun e => hxy e.symm
  case neg =>
   obtain rfl : j = n := by omega
   go_wp2_with fail
   go_ret
   refine ⟨⟨-1, rfl, fun q => by omega, fun q => ?_⟩, rfl⟩
   obtain ⟨i, hi⟩ := List.mem_iff_getElem?.1 q
   have hil := (List.getElem?_eq_some_iff.1 hi).1
   refine absurd ?_ (HNE.out i (by rw [← HN.out]; exact hil))
   rw [List.getD_eq_getElem?_getD, hi]; rfl
set_option maxRecDepth 100000 in
set_option maxHeartbeats 2000000 in
theorem contains_ints {w : World} {p : Option Addr} {cap : Nat} {l : List Int} (hl : SI w p cap l) (hlen : l.length ≤ 1000000) (x : Int) :
    Calls Try.prog 33 #[.slice p l.length cap, .int .i64 x] w fun e w' => e = .returned (.bool (decide (x ∈ l))) ∧ w' = w := by
 have hi := index_ints hl hlen x
 have HI := Lib.hid hi; clear hi hl
 go_enter Try.func33, Try.ntmps33
 go_upto_region 1 with fail
 by_cases hx : x ∈ l
 · go_wp2_with (first | (go_at_call 51; refine HI.out.mono ?_; rintro e w' ⟨⟨r, rfl, hr⟩, hw⟩; replace hw := hw.symm; subst hw; have hr0 : 0 ≤ r := hr.2 hx; clear hr))
   go_ret
   exact ⟨by simp [hx], rfl⟩
 · go_wp2_with (first | (go_at_call 51; refine HI.out.mono ?_; rintro e w' ⟨⟨r, rfl, hr⟩, hw⟩; replace hw := hw.symm; subst hw; have hr0 : ¬ 0 ≤ r := fun q => hx (hr.1 q); clear hr))
   go_ret
   exact ⟨by simp [hx]; omega, rfl⟩

end Go.Proofs.Ytdibfjcmgbpnpaa
