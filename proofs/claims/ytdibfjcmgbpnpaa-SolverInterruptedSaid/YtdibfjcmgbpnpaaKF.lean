/- Walks of the solver: valid. -/
import Derived.Test.YtdibfjcmgbpnpaaKE
namespace Go.Proofs.Ytdibfjcmgbpnpaa
set_option linter.unusedSimpArgs false
set_option linter.unusedVariables false
open Go.RowKit

def badl (n : Nat) (x : Int) : Bool := x == 0 || decide ((n : Int) < x) || decide (x < -(n : Int))
set_option maxRecDepth 100000 in
set_option maxHeartbeats 2000000 in
theorem valid1_any (n : Nat) (hn : n ≤ 1000000) (x : Int) (bn : Nat) (w : World) (hp : w.cell? ⟨bn, 0, none⟩ = some (.int .i64 n)) :
    Calls Try.prog 50 #[.int .i64 x, .pointer (some ⟨bn, 0, none⟩)] w fun e w' => e = .returned (.bool (badl n x)) ∧ w' = w := by
 have hw : IntKind.i64.wrap (-(n : Int)) = -(n : Int) := wrapI (by omega) (by omega)
 have hc : badl n x = true ∨ badl n x = false := by cases badl n x <;> simp
 by_cases h0 : x = 0
 · have h0b : (x == 0) = true := by simpa using h0
   have hb : badl n x = true := by unfold badl; rw [h0b]; rfl
   rw [hb]
   subst h0
   go_enter Try.func50, Try.ntmps50
   go_wp2_with fail
   go_ret
   exact ⟨by simp, rfl⟩
 · have h0b : (x == 0) = false := by simpa using h0
   by_cases h1 : (n : Int) < x
   · have hb : badl n x = true := by unfold badl; rw [h0b]; simp [h1]
     rw [hb]
     go_enter Try.func50, Try.ntmps50
     go_wp2_with fail
     go_ret
     exact ⟨by simp [h1], rfl⟩
   · by_cases h2 : x < -(n : Int)
     · have hb : badl n x = true := by unfold badl; rw [h0b]; simp [h2]
       rw [hb]
       go_enter Try.func50, Try.ntmps50
       go_wp2_with fail
       go_ret
       exact ⟨by simp [h2], rfl⟩
     · have hb : badl n x = false := by unfold badl; rw [h0b]; simp [h1, h2] <;> omega
       rw [hb]
       go_enter Try.func50, Try.ntmps50
       go_wp2_with fail
       go_ret
       exact ⟨by simp [h1, h2] <;> omega, rfl⟩
set_option maxRecDepth 100000 in
set_option maxHeartbeats 2000000 in
theorem indexf_valid {w : World} {p : Option Addr} {cap : Nat} {l : List Int} (hl : SI w p cap l) (hlen : l.length ≤ 1000000) (n : Nat) (hn : n ≤ 1000000) (bn : Nat) (hp : w.cell? ⟨bn, 0, none⟩ = some (.int .i64 n)) :
    Calls Try.prog 56 #[.slice p l.length cap, .func (.func 50) #[] #[.pointer (some ⟨bn, 0, none⟩)]] w fun e w' => (∃ r : Int, e = .returned (.int .i64 r) ∧ (0 ≤ r ↔ l.any (badl n) = true)) ∧ w' = w := by
 have HL := Lib.hid hl; clear hl
 have HC := Lib.hid (fun x => valid1_any n hn x bn w hp); clear hp
 obtain ⟨N, hN⟩ : ∃ z, l.length = z := ⟨_, rfl⟩
 rw [hN] at hlen ⊢
 have HN := Lib.hid hN; clear hN
 go_enter Try.func56, Try.ntmps56
 go_wp2_with fail
 go_loopg [8] N (fun G s8 wr => ∃ j : Nat, s8 = .int .i64 j ∧ j ≤ N ∧ G = N - j ∧ wr = w ∧ ∀ i, i < j → badl n (l.getD i 0) = false)
 case atStart => exact ⟨0, rfl, by omega, rfl, rfl, fun i hi => by omega⟩
 case round =>
  obtain ⟨j, rfl, hj, hG, hw, hne⟩ := hrel
  replace hw := hw.symm; subst hw
  have HG := Lib.hid hG; have HNE := Lib.hid hne; clear hG hne
  by_cases hlt : j < N
  case pos =>
   obtain ⟨y, hy⟩ : ∃ z, l.getD j 0 = z := ⟨_, rfl⟩
   have hy2 : l[j]? = some y := by rw [← hy, List.getD_eq_getElem?_getD, List.getElem?_eq_getElem (by rw [HN.out]; exact hlt)]; rfl
   obtain ⟨b, o, rfl, hb, c0⟩ := int_cell' HL.out.at' hy2
   have hjl : (j : Int) < (N : Int) := by omega
   have HY := Lib.hid hy; have HY2 := Lib.hid hy2
   clear hy hy2
   obtain ⟨t, ht⟩ : ∃ t, badl n y = t := ⟨_, rfl⟩
   have HT := Lib.hid ht; clear ht
   cases t with
   | true =>
     go_wp2_with (first | (go_at_call 50; refine (HC.out y).mono ?_; rw [HT.out]; rintro e w2 ⟨rfl, hw⟩; replace hw := hw.symm; subst hw))
     go_ret
     exact ⟨⟨j, rfl, fun _ => List.any_eq_true.2 ⟨y, List.mem_of_getElem? HY2.out, HT.out⟩, fun _ => by omega⟩, rfl⟩
   | false =>
     go_wp2_with (first | (go_at_call 50; refine (HC.out y).mono ?_; rw [HT.out]; rintro e w2 ⟨rfl, hw⟩; replace hw := hw.symm; subst hw))
     go_roundg (N - (j + 1))
     case measure => (have := HG.out; omega)
     case rel =>
       refine ⟨j + 1, by go_num, by omega, rfl, rfl, fun i hi => ?_⟩
       rcases Nat.lt_or_ge i j with q | q
       · exact HNE.out i q
       · rw [show i = j by omega, HY.out]; exact HT.out
  case neg =>
   obtain rfl : j = N := by omega
   go_wp2_with fail
   go_ret
   refine ⟨⟨-1, rfl, fun q => by omega, fun q => ?_⟩, rfl⟩
   obtain ⟨y, hy, hyb⟩ := List.any_eq_true.1 q
   obtain ⟨i, hi⟩ := List.mem_iff_getElem?.1 hy
   have hil := (List.getElem?_eq_some_iff.1 hi).1
   have := HNE.out i (by rw [← HN.out]; exact hil)
   rw [List.getD_eq_getElem?_getD, hi] at this
   have h2 : badl n y = false := this
   rw [hyb] at h2; cases h2
set_option maxRecDepth 100000 in
set_option maxHeartbeats 2000000 in
theorem containsf_valid {w : World} {p : Option Addr} {cap : Nat} {l : List Int} (hl : SI w p cap l) (hlen : l.length ≤ 1000000) (n : Nat) (hn : n ≤ 1000000) (bn : Nat) (hp : w.cell? ⟨bn, 0, none⟩ = some (.int .i64 n)) :
    Calls Try.prog 49 #[.slice p l.length cap, .func (.func 50) #[] #[.pointer (some ⟨bn, 0, none⟩)]] w fun e w' => e = .returned (.bool (l.any (badl n))) ∧ w' = w := by
 have hi := indexf_valid hl hlen n hn bn hp
 have HI := Lib.hid hi; clear hi hl hp
 obtain ⟨t, ht⟩ : ∃ t, l.any (badl n) = t := ⟨_, rfl⟩
 rw [ht]
 have HT := Lib.hid ht; clear ht
 go_enter Try.func49, Try.ntmps49
 go_upto_region 1 with fail
 cases t with
 | true =>
   go_wp2_with (first | (go_at_call 56; refine HI.out.mono ?_; rintro e w' ⟨⟨r, rfl, hr⟩, hw⟩; replace hw := hw.symm; subst hw; have hr0 : 0 ≤ r := hr.2 HT.out; clear hr))
   go_ret
   exact ⟨by simp <;> omega, rfl⟩
 | false =>
   go_wp2_with (first | (go_at_call 56; refine HI.out.mono ?_; rintro e w' ⟨⟨r, rfl, hr⟩, hw⟩; replace hw := hw.symm; subst hw; have hr0 : ¬ 0 ≤ r := (fun q => by have := hr.1 q; rw [HT.out] at this; cases this); clear hr))
   go_ret
   exact ⟨by simp <;> omega, rfl⟩
set_option maxRecDepth 100000 in
set_option maxHeartbeats 2000000 in
theorem valid_any {n : Nat} {w : World} {o : Nat → Option Role} {b : Nat} {s : SS} (h : SolAt w o b s) (hv : s.value.length = n + 1) (hn : n ≤ 20000) {p : Option Addr} {cap : Nat} {l : List Int} (hl : SI w p cap l) (hlen : l.length ≤ 1000000) :
    Calls Try.prog 31 #[.pointer (some ⟨b, 0, none⟩), .slice p l.length cap] w fun e w' => e = .returned (.bool (s.validl l)) ∧ Below w.heap.size w w' := by
 obtain ⟨oc, hd, hs⟩ := h.sl
 obtain ⟨gv, cv, ev⟩ := hs.value_arr (by omega)
 obtain ⟨f0, -⟩ := hs.fld 0 (u := hd .value) rfl
 obtain ⟨N1, hN1⟩ : ∃ z, n + 1 = z := ⟨_, rfl⟩
 rw [hv, hN1] at ev
 rw [ev] at f0
 have e : s.validl l = !(l.any (badl n)) := by
   unfold SS.validl badl
   rw [hv]
   have : (((n + 1 : Nat) : Int) - 1) = n := by omega
   rw [this]
   rw [List.not_any_eq_all_not]
 have hwn : IntKind.i64.wrap ((N1 : Int) - 1) = (n : Int) := by rw [wrapI (by omega) (by omega)]; omega
 rw [e]
 have HLI := Lib.hid hl
 clear hs h ev hl e hv hN1
 go_enter Try.func31, Try.ntmps31
 go_upto_region 2 with fail
 obtain ⟨w1, hw1⟩ : ∃ z, z = w.alloc (.cells #[.int .i64 n] 3) := ⟨_, rfl⟩
 have hb : Below w.heap.size w w1 := by rw [hw1]; go_grown
 have hc : w1.cell? ⟨w.heap.size, 0, none⟩ = some (.int .i64 n) := by rw [hw1]; go_cell
 rw [← hw1]
 clear hw1 f0
 have hcf := containsf_valid (HLI.out.up hb) hlen n (by omega) w.heap.size hc
 have HCF := Lib.hid hcf; have HB := Lib.hid hb
 clear hcf hc hb
 obtain ⟨t, ht⟩ : ∃ t, l.any (badl n) = t := ⟨_, rfl⟩
 have HT := Lib.hid ht; clear ht
 go_wp2_with (first | (go_at_call 49; refine HCF.out.mono ?_; rintro e w' ⟨rfl, hw⟩; rw [HT.out]; replace hw := hw.symm; subst hw))
 go_ret
 rw [HT.out]
 exact ⟨rfl, HB.out⟩

end Go.Proofs.Ytdibfjcmgbpnpaa
