/- Walks of layer 13: And of the program and its closure. -/
import Derived.Test.YtanlecgpnknhoaaW2
namespace Go.Proofs.Ytanlecgpnknhoaa
set_option linter.unusedSimpArgs false
set_option linter.unusedVariables false
open Go.RowKit

set_option maxHeartbeats 400000 in
theorem refok_any (r : Int) (n cap b : Nat) (p : Option Addr) (w : World) (hn : n ≤ 20000) (hc : w.cell? ⟨b, 0, none⟩ = some (.slice p n cap)) :
    Calls Try.prog 60 #[.int .i64 r, .pointer (some ⟨b, 0, none⟩)] w fun e w' => e = .returned (.bool (refOk r n)) ∧ w' = w := by
  by_cases h : 0 ≤ r
  · have H : Hid (decide (r < 2 * (n : Int)) = refOk r n) := by unfold refOk; exact decide_eq_decide.2 ⟨fun x => ⟨h, x⟩, fun x => x.2⟩
    go_enter Try.func60, Try.ntmps60
    go_wp2
    go_ret
    exact ⟨ret_bool H.out, rfl⟩
  · have H : Hid (false = refOk r n) := by unfold refOk; exact (decide_eq_false (fun x => h x.1)).symm
    go_enter Try.func60, Try.ntmps60
    go_wp2
    go_ret
    exact ⟨ret_bool H.out, rfl⟩

theorem SlAt.setBox {α : Type} {E : Nat} {enc : α → Nat → Value} {w : World} {p : Option Addr} {xs : List α} (h : SlAt E enc w p xs) {q : Addr} {v0 : Value} (hq : w.cell? q = some v0) (hne : ∀ x j, enc x j ≠ v0) (u : Value) : SlAt E enc (w.setCell q u) p xs := by
  rcases h with h | ⟨b, off, hp, hb, hc⟩
  · exact .inl h
  · refine .inr ⟨b, off, hp, by simpa using hb, fun i x hx j hj => ?_⟩
    have hcc := hc i x hx j hj
    rw [World.cell?_setCell_other w q ⟨b, off + i * E + j, none⟩ u (fun e => ?_)]
    · exact hcc
    · subst e
      rw [hcc] at hq
      exact hne x j (Option.some.inj hq)
theorem gEnc_ne_slice (a : Option Addr) (n c : Nat) (x : Gate) (j : Nat) : gEnc x j ≠ .slice a n c := by
  unfold gEnc; split <;> simp

theorem cand_bad {c : List Gate} {a b : Int} (h : refOk a c.length = false ∨ refOk b c.length = false) : cand c a b = (c, -1) := by simp [cand, h]
theorem cand_lie {c : List Gate} {a b : Int} (h1 : refOk a c.length = true) (h2 : refOk b c.length = true) (h : a = 1 ∨ b = 1 ∨ a = cnot b) : cand c a b = (c, 1) := by simp [cand, h1, h2, h]
theorem cand_a0 {c : List Gate} {a b : Int} (h1 : refOk a c.length = true) (h2 : refOk b c.length = true) (h : ¬ (a = 1 ∨ b = 1 ∨ a = cnot b)) (h3 : a = 0) : cand c a b = (c, b) := by
  unfold cand; rw [if_neg (by simp [h1, h2]), if_neg h, if_pos h3]
theorem cand_b0 {c : List Gate} {a b : Int} (h1 : refOk a c.length = true) (h2 : refOk b c.length = true) (h : ¬ (a = 1 ∨ b = 1 ∨ a = cnot b)) (h3 : ¬ a = 0) (h4 : b = 0 ∨ a = b) : cand c a b = (c, a) := by
  unfold cand; rw [if_neg (by simp [h1, h2]), if_neg h, if_neg h3, if_pos h4]
theorem cand_new {c : List Gate} {a b : Int} (h1 : refOk a c.length = true) (h2 : refOk b c.length = true) (h : ¬ (a = 1 ∨ b = 1 ∨ a = cnot b)) (h3 : ¬ a = 0) (h4 : ¬ (b = 0 ∨ a = b)) : cand c a b = cshare c ⟨2, min a b, max a b⟩ := by
  unfold cand; rw [if_neg (by simp [h1, h2]), if_neg h, if_neg h3, if_neg h4]; rfl

/-- What And does, given what became of its tests. -/
def AndPost (w : World) (p : Option Addr) (gs : List Gate) (a b : Int) : Ending → World → Prop := RetCirc w p (cand gs a b).1 (cand gs a b).2

set_option maxRecDepth 100000 in
set_option maxHeartbeats 1000000 in
theorem and_new (gs : List Gate) (a b : Int) (p : Option Addr) (cap : Nat) (w : World) (ha1 : a ≤ 9223372036854775807) (hb1 : b ≤ 9223372036854775807) (hl : gs.length ≤ 20000) (hcap : gs.length ≤ cap) (hcm : cap ≤ maxLen) (hp : p = none → cap = 0) (hg : GatesAt w p gs)
    (ra : refOk a gs.length = true) (rb : refOk b gs.length = true) (a1 : (a == 1) = false) (b1 : (b == 1) = false) (ab : (a == cnot b) = false) (a0 : (a == 0) = false) (b0 : (b == 0) = false) (aeb : (a == b) = false) (hn : ¬ (a = 1 ∨ b = 1 ∨ a = cnot b)) :
    Calls Try.prog 21 #[.agg #[.slice p gs.length cap], .int .i64 a, .int .i64 b] w (AndPost w p gs a b) := by
  have HP : RetCirc w p (cand gs a b).1 (cand gs a b).2 = AndPost w p gs a b := rfl
  rw [← HP]; clear HP
  rw [cand_new ra rb hn (by simpa using a0) (by simp at b0 aeb; simp [b0, aeb])]
  clear hn
  have hne : a ≠ b := by simpa using aeb
  rcases Int.lt_or_gt_of_ne hne with hlt | hlt <;> clear hne
  · rw [show (⟨2, min a b, max a b⟩ : Gate) = ⟨2, a, b⟩ from by rw [Int.min_eq_left (by omega), Int.max_eq_right (by omega)]]
    have Hcm := Lib.hid hcm; have Hp := Lib.hid hp; have Hg := Lib.hid hg; clear hcm hp hg
    go_enter Try.func21, Try.ntmps21
    go_wp2_with (first | (go_at_call 60; refine (refok_any _ gs.length cap _ p _ hl (by go_cell)).mono ?_; rintro e w' ⟨rfl, rfl⟩) | (go_at_call 32; refine (not_any _ _ hb1).mono ?_; rintro e w' ⟨rfl, rfl⟩))
    refine (share_any gs ⟨2, a, b⟩ p cap _ hl hcap Hcm.out Hp.out (Hg.out.mono (by go_grown))).mono ?_
    rintro e w1 ⟨p1, cap1, rfl, hq1, hq2, hq3, hq4, hbl, hfr⟩
    obtain ⟨hc1, hf1⟩ := bcell hbl
    have HB1 : Below w.heap.size w w1 := Below.trans (by go_grown) (hbl.mono (by simp; omega))
    have Hq3 := Lib.hid hq3; have Hq4 := Lib.hid hq4; have Hfr := Lib.hid hfr; clear hq3 hq4 hfr
    generalize cshare gs ⟨2, a, b⟩ = R at *
    obtain ⟨gs1, r1⟩ := R
    dsimp only at *
    have kz : w.heap.size + 1 < w1.heap.size := by have := hbl.size; simp at this; omega
    go_wp2_with fail
    refine bodyPost_ret (by simp [results, Try.results21, go_sem, hc1, kz]; try rfl) rfl ?_
    refine ⟨p1, cap1, rfl, hq1, hq2, Hq3.out, Hq4.out.setBox (v0 := .slice none 0 0) (oldcell hbl (by go_cell) (by simp)) (gEnc_ne_slice _ _ _) _, Below.setCell HB1 (by show _ ≤ w.heap.size + 1; omega) _, Hfr.out.up (by simp; omega)⟩
  · rw [show (⟨2, min a b, max a b⟩ : Gate) = ⟨2, b, a⟩ from by rw [Int.min_eq_right (by omega), Int.max_eq_left (by omega)]]
    have Hcm := Lib.hid hcm; have Hp := Lib.hid hp; have Hg := Lib.hid hg; clear hcm hp hg
    go_enter Try.func21, Try.ntmps21
    go_wp2_with (first | (go_at_call 60; refine (refok_any _ gs.length cap _ p _ hl (by go_cell)).mono ?_; rintro e w' ⟨rfl, rfl⟩) | (go_at_call 32; refine (not_any _ _ hb1).mono ?_; rintro e w' ⟨rfl, rfl⟩))
    refine (share_any gs ⟨2, b, a⟩ p cap _ hl hcap Hcm.out Hp.out (Hg.out.mono (by go_grown))).mono ?_
    rintro e w1 ⟨p1, cap1, rfl, hq1, hq2, hq3, hq4, hbl, hfr⟩
    obtain ⟨hc1, hf1⟩ := bcell hbl
    have HB1 : Below w.heap.size w w1 := Below.trans (by go_grown) (hbl.mono (by simp; omega))
    have Hq3 := Lib.hid hq3; have Hq4 := Lib.hid hq4; have Hfr := Lib.hid hfr; clear hq3 hq4 hfr
    generalize cshare gs ⟨2, b, a⟩ = R at *
    obtain ⟨gs1, r1⟩ := R
    dsimp only at *
    have kz : w.heap.size + 1 < w1.heap.size := by have := hbl.size; simp at this; omega
    go_wp2_with fail
    refine bodyPost_ret (by simp [results, Try.results21, go_sem, hc1, kz]; try rfl) rfl ?_
    refine ⟨p1, cap1, rfl, hq1, hq2, Hq3.out, Hq4.out.setBox (v0 := .slice none 0 0) (oldcell hbl (by go_cell) (by simp)) (gEnc_ne_slice _ _ _) _, Below.setCell HB1 (by show _ ≤ w.heap.size + 1; omega) _, Hfr.out.up (by simp; omega)⟩

set_option maxRecDepth 100000 in
set_option maxHeartbeats 1000000 in
theorem and_any (gs : List Gate) (a b : Int) (p : Option Addr) (cap : Nat) (w : World) (ha1 : a ≤ 9223372036854775807) (hb1 : b ≤ 9223372036854775807) (hl : gs.length ≤ 20000) (hcap : gs.length ≤ cap) (hcm : cap ≤ maxLen) (hp : p = none → cap = 0) (hg : GatesAt w p gs) :
    Calls Try.prog 21 #[.agg #[.slice p gs.length cap], .int .i64 a, .int .i64 b] w (AndPost w p gs a b) := by
  have HP : RetCirc w p (cand gs a b).1 (cand gs a b).2 = AndPost w p gs a b := rfl
  cases ra : refOk a gs.length with
  | false =>
    rw [← HP]; clear HP
    rw [cand_bad (.inl ra)]
    have Hcm := Lib.hid hcm; have Hp := Lib.hid hp; have Hg := Lib.hid hg; clear hcm hp hg
    go_enter Try.func21, Try.ntmps21
    go_wp2_with (first | (go_at_call 60; refine (refok_any _ gs.length cap _ p _ hl (by go_cell)).mono ?_; rintro e w' ⟨rfl, rfl⟩) | (go_at_call 32; refine (not_any _ _ hb1).mono ?_; rintro e w' ⟨rfl, rfl⟩))
    refine bodyPost_ret (by simp [results, Try.results21, go_sem]; try rfl) rfl ?_
    exact ⟨p, cap, rfl, hcap, Hcm.out, Hp.out, Hg.out.mono (by go_grown), by go_grown, .inl rfl⟩
  | true =>
    cases rb : refOk b gs.length with
    | false =>
      rw [← HP]; clear HP
      rw [cand_bad (.inr rb)]
      have Hcm := Lib.hid hcm; have Hp := Lib.hid hp; have Hg := Lib.hid hg; clear hcm hp hg
      go_enter Try.func21, Try.ntmps21
      go_wp2_with (first | (go_at_call 60; refine (refok_any _ gs.length cap _ p _ hl (by go_cell)).mono ?_; rintro e w' ⟨rfl, rfl⟩) | (go_at_call 32; refine (not_any _ _ hb1).mono ?_; rintro e w' ⟨rfl, rfl⟩))
      refine bodyPost_ret (by simp [results, Try.results21, go_sem]; try rfl) rfl ?_
      exact ⟨p, cap, rfl, hcap, Hcm.out, Hp.out, Hg.out.mono (by go_grown), by go_grown, .inl rfl⟩
    | true =>
      cases a1 : (a == 1) with
      | true =>
        rw [← HP]; clear HP
        rw [cand_lie ra rb (.inl (by simpa using a1))]
        have Hcm := Lib.hid hcm; have Hp := Lib.hid hp; have Hg := Lib.hid hg; clear hcm hp hg
        go_enter Try.func21, Try.ntmps21
        go_wp2_with (first | (go_at_call 60; refine (refok_any _ gs.length cap _ p _ hl (by go_cell)).mono ?_; rintro e w' ⟨rfl, rfl⟩) | (go_at_call 32; refine (not_any _ _ hb1).mono ?_; rintro e w' ⟨rfl, rfl⟩))
        refine bodyPost_ret (by simp [results, Try.results21, go_sem]; try rfl) rfl ?_
        exact ⟨p, cap, rfl, hcap, Hcm.out, Hp.out, Hg.out.mono (by go_grown), by go_grown, .inl rfl⟩
      | false =>
        cases b1 : (b == 1) with
        | true =>
          rw [← HP]; clear HP
          rw [cand_lie ra rb (.inr (.inl (by simpa using b1)))]
          have Hcm := Lib.hid hcm; have Hp := Lib.hid hp; have Hg := Lib.hid hg; clear hcm hp hg
          go_enter Try.func21, Try.ntmps21
          go_wp2_with (first | (go_at_call 60; refine (refok_any _ gs.length cap _ p _ hl (by go_cell)).mono ?_; rintro e w' ⟨rfl, rfl⟩) | (go_at_call 32; refine (not_any _ _ hb1).mono ?_; rintro e w' ⟨rfl, rfl⟩))
          refine bodyPost_ret (by simp [results, Try.results21, go_sem]; try rfl) rfl ?_
          exact ⟨p, cap, rfl, hcap, Hcm.out, Hp.out, Hg.out.mono (by go_grown), by go_grown, .inl rfl⟩
        | false =>
          cases ab : (a == cnot b) with
          | true =>
            rw [← HP]; clear HP
            rw [cand_lie ra rb (.inr (.inr (by simpa using ab)))]
            have Hcm := Lib.hid hcm; have Hp := Lib.hid hp; have Hg := Lib.hid hg; clear hcm hp hg
            go_enter Try.func21, Try.ntmps21
            go_wp2_with (first | (go_at_call 60; refine (refok_any _ gs.length cap _ p _ hl (by go_cell)).mono ?_; rintro e w' ⟨rfl, rfl⟩) | (go_at_call 32; refine (not_any _ _ hb1).mono ?_; rintro e w' ⟨rfl, rfl⟩))
            refine bodyPost_ret (by simp [results, Try.results21, go_sem]; try rfl) rfl ?_
            exact ⟨p, cap, rfl, hcap, Hcm.out, Hp.out, Hg.out.mono (by go_grown), by go_grown, .inl rfl⟩
          | false =>
            have hn := Lib.hid (show ¬ (a = 1 ∨ b = 1 ∨ a = cnot b) from by simp at a1 b1 ab; simp [a1, b1, ab])
            cases a0 : (a == 0) with
            | true =>
              rw [← HP]; clear HP
              rw [cand_a0 ra rb hn.out (by simpa using a0)]
              have Hcm := Lib.hid hcm; have Hp := Lib.hid hp; have Hg := Lib.hid hg; clear hcm hp hg
              go_enter Try.func21, Try.ntmps21
              go_wp2_with (first | (go_at_call 60; refine (refok_any _ gs.length cap _ p _ hl (by go_cell)).mono ?_; rintro e w' ⟨rfl, rfl⟩) | (go_at_call 32; refine (not_any _ _ hb1).mono ?_; rintro e w' ⟨rfl, rfl⟩))
              refine bodyPost_ret (by simp [results, Try.results21, go_sem]; try rfl) rfl ?_
              exact ⟨p, cap, rfl, hcap, Hcm.out, Hp.out, Hg.out.mono (by go_grown), by go_grown, .inl rfl⟩
            | false =>
              cases b0 : (b == 0) with
              | true =>
                rw [← HP]; clear HP
                rw [cand_b0 ra rb hn.out (by simpa using a0) (.inl (by simpa using b0))]
                have Hcm := Lib.hid hcm; have Hp := Lib.hid hp; have Hg := Lib.hid hg; clear hcm hp hg
                go_enter Try.func21, Try.ntmps21
                go_wp2_with (first | (go_at_call 60; refine (refok_any _ gs.length cap _ p _ hl (by go_cell)).mono ?_; rintro e w' ⟨rfl, rfl⟩) | (go_at_call 32; refine (not_any _ _ hb1).mono ?_; rintro e w' ⟨rfl, rfl⟩))
                refine bodyPost_ret (by simp [results, Try.results21, go_sem]; try rfl) rfl ?_
                exact ⟨p, cap, rfl, hcap, Hcm.out, Hp.out, Hg.out.mono (by go_grown), by go_grown, .inl rfl⟩
              | false =>
                cases aeb : (a == b) with
                | true =>
                  rw [← HP]; clear HP
                  rw [cand_b0 ra rb hn.out (by simpa using a0) (.inr (by simpa using aeb))]
                  have Hcm := Lib.hid hcm; have Hp := Lib.hid hp; have Hg := Lib.hid hg; clear hcm hp hg
                  go_enter Try.func21, Try.ntmps21
                  go_wp2_with (first | (go_at_call 60; refine (refok_any _ gs.length cap _ p _ hl (by go_cell)).mono ?_; rintro e w' ⟨rfl, rfl⟩) | (go_at_call 32; refine (not_any _ _ hb1).mono ?_; rintro e w' ⟨rfl, rfl⟩))
                  refine bodyPost_ret (by simp [results, Try.results21, go_sem]; try rfl) rfl ?_
                  exact ⟨p, cap, rfl, hcap, Hcm.out, Hp.out, Hg.out.mono (by go_grown), by go_grown, .inl rfl⟩
                | false =>
                  exact and_new gs a b p cap w ha1 hb1 hl hcap hcm hp hg ra rb a1 b1 ab a0 b0 aeb hn.out
end Go.Proofs.Ytanlecgpnknhoaa
