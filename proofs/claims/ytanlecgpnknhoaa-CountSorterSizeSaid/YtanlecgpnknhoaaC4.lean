/- Walks of layer 16: Totalizer, Add, AtLeast, Less, Value. -/
import Derived.Test.YtanlecgpnknhoaaC3
namespace Go.Proofs.Ytanlecgpnknhoaa
set_option linter.unusedSimpArgs false
set_option linter.unusedVariables false
open Go.RowKit

theorem creach_any' (u : List Int) (k : Int) (n : Nat) (p : Option Addr) (cap : Nat) (w : World) (hn : u.length = n) (hl : n ≤ 20000) (hk2 : k ≤ 1000000) (hu : IntsAt w p u) :
    Calls Try.prog 70 #[.slice p n cap, .int .i64 k] w fun e w' => e = .returned (.int .i64 (ureach 0 1 u k)) ∧ w = w' := by
  subst hn
  exact creach_any u k p cap w hl hk2 hu
/-- A circuit and a slice of ints are returned. -/
def RetCL (w : World) (x : List Gate × List Int) (e : Ending) (w' : World) : Prop :=
  ∃ p cap q cq, e = .returned (.tuple #[.agg #[.slice p x.1.length cap], .slice q x.2.length cq]) ∧ CAt w' p cap x.1 ∧ IntsAt w' q x.2 ∧ (∀ a, q = some a → a.block < w'.heap.size) ∧ x.2.length ≤ cq ∧ cq ≤ maxLen ∧ (q = none → cq = 0) ∧ Below w.heap.size w w'

theorem CAt.spot {w : World} {p : Option Addr} {cap : Nat} {gs : List Gate} (h : CAt w p cap gs) (hc : 0 < gs.length) : ∀ a, p = some a → a.block < w.heap.size := by
  intro a ha
  rcases h.at' with h | ⟨b', off, hp, hb, _⟩
  · rw [h] at hc; cases hc
  · rw [ha] at hp; cases hp; exact hb
theorem BxA.of_litL {L : List Nat} {w : World} {p : Option Addr} {cap : Nat} {gs : List Gate} (h : CAt w p cap gs) (hL : ∀ a, p = some a → a.block ∉ L) (t : TypeId) : BxA L (w.alloc (.cells #[.slice p gs.length cap] t)) w.heap.size gs :=
  ⟨p, cap, by go_cell, by go_cell, h.mono (by go_grown), hL⟩
theorem BxA.of_lit {w : World} {p : Option Addr} {cap : Nat} {gs : List Gate} (h : CAt w p cap gs) (t : TypeId) : BxA [] (w.alloc (.cells #[.slice p gs.length cap] t)) w.heap.size gs := by
  obtain ⟨p', cap', h1, h2, h3⟩ := Bx.new h t
  exact ⟨p', cap', h1, h2, h3, fun a _ hm => by cases hm⟩

set_option maxRecDepth 100000 in
set_option maxHeartbeats 2000000 in
theorem totalizer_any (c : List Gate) (l : List Int) (n : Nat) (p pi : Option Addr) (cap ci : Nat) (w : World) (hn : l.length = n) (h6 : n ≤ 500) (hcap : n ≤ ci) (hcm : ci ≤ maxLen) (hp0 : pi = none → ci = 0) (hr : AllLe l) (hl : c.length ≤ 20000) (hc : 0 < c.length)
    (hC : CAt w p cap c) (hi : IntsAt w pi l) (hpl : ∀ a, pi = some a → a.block < w.heap.size) :
    Calls Try.prog 44 #[.agg #[.slice p c.length cap], .slice pi n ci] w (RetCL w ((utotal 0 1 n l).run c)) := by
  have HN := Lib.hid hn; have HP0 := Lib.hid hp0; have HR := Lib.hid hr; have HC := Lib.hid hC; have HI := Lib.hid hi; have HPL := Lib.hid hpl
  clear hn hp0 hr hC hi hpl
  go_enter Try.func44, Try.ntmps44
  go_wp2_with fail
  have K0 := Lib.hid (show Below w.heap.size w (((w.alloc (.cells #[.slice p c.length cap] 25)).alloc (.cells #[.slice none 0 0] 25)).alloc (.cells #[.slice p c.length cap] 80)) from by go_grown)
  have hb3 := Lib.hid (show BxA [] (((w.alloc (.cells #[.slice p c.length cap] 25)).alloc (.cells #[.slice none 0 0] 25)).alloc (.cells #[.slice p c.length cap] 80)) (w.heap.size + 1 + 1) c by
    have := BxA.of_lit (w := (w.alloc (.cells #[.slice p c.length cap] 25)).alloc (.cells #[.slice none 0 0] 25)) (HC.out.mono (by go_grown)) 80
    simpa using this)
  have c4 : (((w.alloc (.cells #[.slice p c.length cap] 25)).alloc (.cells #[.slice none 0 0] 25)).alloc (.cells #[.slice p c.length cap] 80)).cell? ⟨w.heap.size + 1, 0, none⟩ = some (.slice none 0 0) := by go_cell
  have f4 : (((w.alloc (.cells #[.slice p c.length cap] 25)).alloc (.cells #[.slice none 0 0] 25)).alloc (.cells #[.slice p c.length cap] 80)).frozen? ⟨w.heap.size + 1, 0, none⟩ = false := by go_cell
  refine (totalM_any n [] c l n (w.heap.size + 1 + 1) pi ci _ HN.out (by rw [HN.out]; exact Nat.le_refl _) h6 hcap hcm HP0.out HR.out hl hc hb3.out (by simp) (HI.out.mono K0.out) (fun a ha => by have := HPL.out a ha; omega)).mono ?_
  rintro e w4 ⟨q, cq, rfl, v1, v2, v3, v4, v5, v6, v7⟩
  obtain ⟨pb, capb, g1, g2, g3, _⟩ := v6
  have k4 := v7.cell c4 (by simp)
  have k5 := v7.free f4 (by simp) (by simp)
  have hz := v7.size
  simp at hz
  have V1 := Lib.hid v1; have V2 := Lib.hid v2; have V5 := Lib.hid v5; have V7 := Lib.hid v7; have G3 := Lib.hid g3
  clear v1 v2 v5 v7 g3 c4 f4
  go_wp2_with fail
  refine bodyPost_ret (by simp [results, Try.results44, go_sem, k4]; try rfl) rfl ?_
  refine ⟨pb, capb, q, cq, rfl, ⟨G3.out.le, G3.out.cm, G3.out.p0, G3.out.at'.setBox k4 (gEnc_ne_slice _ _ _) _⟩, V1.out.setBox k4 (fun x j => by simp [iEnc]) _, (fun a ha => by have := (V2.out a ha).2; simpa using this), v3, v4, V5.out, ?_⟩
  exact Below.setCell (K0.out.trans (V7.out.below (by simp; omega) (by simp; omega))) (by show _ ≤ w.heap.size + 1; omega) _

set_option maxRecDepth 100000 in
set_option maxHeartbeats 2000000 in
theorem add_any (c : List Gate) (x y : List Int) (nx ny : Nat) (p px py : Option Addr) (cap cx cy : Nat) (w : World) (hnx : x.length = nx) (hny : y.length = ny) (hx : nx ≤ 1000) (hy : ny ≤ 1000) (hxr : AllLe x) (hyr : AllLe y) (hl : c.length ≤ 20000) (hc : 0 < c.length)
    (hC : CAt w p cap c) (hix : IntsAt w px x) (hiy : IntsAt w py y) (hpx : ∀ a, px = some a → a.block < w.heap.size) (hpy : ∀ a, py = some a → a.block < w.heap.size) :
    Calls Try.prog 48 #[.agg #[.slice p c.length cap], .slice px nx cx, .slice py ny cy] w (RetCL w ((uadd 0 1 x y).run c)) := by
  subst hnx hny
  have HXR := Lib.hid hxr; have HYR := Lib.hid hyr; have HC := Lib.hid hC; have HIX := Lib.hid hix; have HIY := Lib.hid hiy; have HPX := Lib.hid hpx; have HPY := Lib.hid hpy
  clear hxr hyr hC hix hiy hpx hpy
  go_enter Try.func48, Try.ntmps48
  go_wp2_with fail
  have K0 := Lib.hid (show Below w.heap.size w (((w.alloc (.cells #[.slice p c.length cap] 25)).alloc (.cells #[.slice none 0 0] 25)).alloc (.cells #[.slice p c.length cap] 80)) from by go_grown)
  have hb3 := Lib.hid (show BxA [] (((w.alloc (.cells #[.slice p c.length cap] 25)).alloc (.cells #[.slice none 0 0] 25)).alloc (.cells #[.slice p c.length cap] 80)) (w.heap.size + 1 + 1) c by
    have := BxA.of_lit (w := (w.alloc (.cells #[.slice p c.length cap] 25)).alloc (.cells #[.slice none 0 0] 25)) (HC.out.mono (by go_grown)) 80
    simpa using this)
  have c4 : (((w.alloc (.cells #[.slice p c.length cap] 25)).alloc (.cells #[.slice none 0 0] 25)).alloc (.cells #[.slice p c.length cap] 80)).cell? ⟨w.heap.size + 1, 0, none⟩ = some (.slice none 0 0) := by go_cell
  have f4 : (((w.alloc (.cells #[.slice p c.length cap] 25)).alloc (.cells #[.slice none 0 0] 25)).alloc (.cells #[.slice p c.length cap] 80)).frozen? ⟨w.heap.size + 1, 0, none⟩ = false := by go_cell
  refine (addM_any [] c x y (w.heap.size + 1 + 1) px py cx cy _ hx hy HXR.out HYR.out hl hc hb3.out (by simp) (HIX.out.mono K0.out) (HIY.out.mono K0.out) (fun a ha => by have := HPX.out a ha; omega) (fun a ha => by have := HPY.out a ha; omega)).mono ?_
  rintro e w4 ⟨q, cq, rfl, v1, v2, v3, v4, v5, v6, v7⟩
  obtain ⟨pb, capb, g1, g2, g3, _⟩ := v6
  have k4 := v7.cell c4 (by simp)
  have k5 := v7.free f4 (by simp) (by simp)
  have hz := v7.size
  simp at hz
  have V1 := Lib.hid v1; have V2 := Lib.hid v2; have V5 := Lib.hid v5; have V7 := Lib.hid v7; have G3 := Lib.hid g3
  clear v1 v2 v5 v7 g3 c4 f4
  go_wp2_with fail
  refine bodyPost_ret (by simp [results, Try.results48, go_sem, k4]; try rfl) rfl ?_
  refine ⟨pb, capb, q, cq, rfl, ⟨G3.out.le, G3.out.cm, G3.out.p0, G3.out.at'.setBox k4 (gEnc_ne_slice _ _ _) _⟩, V1.out.setBox k4 (fun x j => by simp [iEnc]) _, (fun a ha => by have := (V2.out a ha).2; simpa using this), v3, v4, V5.out, ?_⟩
  exact Below.setCell (K0.out.trans (V7.out.below (by simp; omega) (by simp; omega))) (by show _ ≤ w.heap.size + 1; omega) _
end Go.Proofs.Ytanlecgpnknhoaa
