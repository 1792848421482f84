/- Walk of layer 16: Less. -/
import Derived.Test.YtanlecgpnknhoaaC4
namespace Go.Proofs.Ytanlecgpnknhoaa
set_option linter.unusedSimpArgs false
set_option linter.unusedVariables false
open Go.RowKit

theorem lessTo_succ (x y : List Int) (b : Int) (j : Nat) (c : List Gate) : (lessTo 0 1 cnot x y b (j + 1)).run c =
    cor (cand ((lessTo 0 1 cnot x y b j).run c).1 (ureach 0 1 y (j : Int)) (cnot (ureach 0 1 x ((j : Int) + b)))).1 ((lessTo 0 1 cnot x y b j).run c).2 (cand ((lessTo 0 1 cnot x y b j).run c).1 (ureach 0 1 y (j : Int)) (cnot (ureach 0 1 x ((j : Int) + b)))).2 := by
  rw [show lessTo 0 1 cnot x y b (j + 1) = (lessTo 0 1 cnot x y b j).bind fun any => .and (ureach 0 1 y (j : Int)) (cnot (ureach 0 1 x ((j : Int) + b))) fun t => .or any t .ret from rfl, CM.run_bind]; rfl
theorem lessTo_le (x y : List Int) (b : Int) {c : List Gate} (hc : c.length ≤ 20000) : ∀ j, ((lessTo 0 1 cnot x y b j).run c).2 ≤ 40001
  | 0 => by show (1 : Int) ≤ _; omega
  | j + 1 => by
    rw [lessTo_succ]
    exact (cor_le (cand_le (run_le _ c hc)).1).2

set_option maxRecDepth 100000 in
set_option maxHeartbeats 4000000 in
theorem less_any (c : List Gate) (x y : List Int) (by' : Int) (nx ny : Nat) (p px py : Option Addr) (cap cx cy : Nat) (w : World) (hnx : x.length = nx) (hny : y.length = ny) (hx : nx ≤ 1000) (hy : ny ≤ 1000) (hb1 : -100000 ≤ by') (hb2 : by' ≤ 100000) (hxr : AllLe x) (hyr : AllLe y) (hl : c.length ≤ 20000) (hc : 0 < c.length)
    (hC : CAt w p cap c) (hix : IntsAt w px x) (hiy : IntsAt w py y) (hpx : ∀ a, px = some a → a.block < w.heap.size) (hpy : ∀ a, py = some a → a.block < w.heap.size) :
    Calls Try.prog 49 #[.agg #[.slice p c.length cap], .slice px nx cx, .slice py ny cy, .int .i64 by'] w (RetC w ((uless 0 1 cnot x y by').run c).1 ((uless 0 1 cnot x y by').run c).2) := by
  have HNX := Lib.hid hnx; have HNY := Lib.hid hny; have HXR := Lib.hid hxr; have HYR := Lib.hid hyr; have HC := Lib.hid hC; have HIX := Lib.hid hix; have HIY := Lib.hid hiy; have HPX := Lib.hid hpx; have HPY := Lib.hid hpy
  clear hnx hny hxr hyr hC hix hiy hpx hpy
  obtain ⟨W3, hW3⟩ : ∃ W, W = (((w.alloc (.cells #[.slice p c.length cap] 25)).alloc (.cells #[.slice none 0 0] 25)).alloc (.cells #[.slice p c.length cap] 80)) := ⟨_, rfl⟩
  have K0 := Lib.hid (show Below w.heap.size w W3 from by rw [hW3]; go_grown)
  have hb3 := Lib.hid (show BxA [w.heap.size + 1] W3 (w.heap.size + 1 + 1) c by
    have := BxA.of_litL (L := [w.heap.size + 1]) (w := (w.alloc (.cells #[.slice p c.length cap] 25)).alloc (.cells #[.slice none 0 0] 25)) (HC.out.mono (by go_grown)) (fun a ha hm => by have := HC.out.spot hc a ha; simp at hm; omega) 80
    rw [hW3]; simpa using this)
  have Q4 := Lib.hid (show W3.cell? ⟨w.heap.size + 1, 0, none⟩ = some (.slice none 0 0) by rw [hW3]; go_cell)
  have R4 := Lib.hid (show W3.frozen? ⟨w.heap.size + 1, 0, none⟩ = false by rw [hW3]; go_cell)
  have hs3 : W3.heap.size = w.heap.size + 3 := by rw [hW3]; simp
  have HS3 := Lib.hid hs3; have HW3 := Lib.hid hW3; clear hs3 hW3
  go_enter Try.func49, Try.ntmps49
  go_wp2_with fail
  go_loopg [11, 12] (ny + 1) (fun N v11 v12 wr => ∃ j : Nat, v11 = .int .i64 ((lessTo 0 1 cnot x y by' j).run c).2 ∧ v12 = .int .i64 j ∧ j ≤ ny + 1 ∧ N = ny + 1 - j ∧ BxA [w.heap.size + 1] wr (w.heap.size + 1 + 1) ((lessTo 0 1 cnot x y by' j).run c).1 ∧ KeepX [w.heap.size + 1 + 1] W3 wr)
  case atStart => exact ⟨0, rfl, rfl, by omega, by omega, by rw [← HW3.out]; exact hb3.out, by rw [← HW3.out]; exact KeepX.refl _ _⟩
  case round =>
    obtain ⟨j, hv11, rfl, hj, hN, hbx, hk⟩ := hrel
    obtain ⟨d, a1, hd⟩ : ∃ d a, (lessTo 0 1 cnot x y by' j).run c = (d, a) := ⟨_, _, rfl⟩
    rw [hd] at hbx hv11
    dsimp only at hbx hv11
    subst hv11
    have hdl : d.length ≤ 20000 := by have := run_le (lessTo 0 1 cnot x y by' j) c hl; rw [hd] at this; exact this
    have ha1 : a1 ≤ 9223372036854775807 := by have := lessTo_le x y by' hl j; rw [hd] at this; omega
    have HD := Lib.hid hd; have HN := Lib.hid hN; have HB := Lib.hid hbx; have HK := Lib.hid hk; clear hd hN hbx hk
    have hszr := HK.out.size
    have hs3 := HS3.out
    by_cases hlt : j < ny + 1
    case neg =>
      have hge : (ny : Int) < (j : Int) := by omega
      have HJ := Lib.hid (show j = ny + 1 by omega)
      have k4 := HK.out.cell Q4.out (by simp)
      have k5 := HK.out.free R4.out (by omega) (by simp)
      have e : (uless 0 1 cnot x y by').run c = (d, a1) := by unfold uless; rw [HNY.out, ← HJ.out]; exact HD.out
      have HE := Lib.hid e
      obtain ⟨pb, capb, g1, g2, g3, g4⟩ := HB.out
      have G3 := Lib.hid g3; have G4 := Lib.hid g4; clear g3 g4 e
      have hW := Lib.hid (K0.out.trans (HK.out.below (B := w.heap.size) (by omega) (by simp; omega)))
      go_wp2_with fail
      refine bodyPost_ret (by simp [results, Try.results49, go_sem, k4]; try rfl) rfl ?_
      rw [HE.out]
      exact ⟨pb, capb, rfl, ⟨G3.out.le, G3.out.cm, G3.out.p0, G3.out.at'.setBox k4 (gEnc_ne_slice _ _ _) _⟩, Below.setCell hW.out (by show _ ≤ w.heap.size + 1; omega) _⟩
    case pos =>
      have hle : (j : Int) ≤ (ny : Int) := by omega
      have hj0 : (0 : Int) ≤ (j : Int) := by omega
      obtain ⟨r1, hr1⟩ : ∃ z, ureach 0 1 y (j : Int) = z := ⟨_, rfl⟩
      obtain ⟨r2, hr2⟩ : ∃ z, ureach 0 1 x ((j : Int) + by') = z := ⟨_, rfl⟩
      have hr1l : r1 ≤ 9223372036854775807 := by rw [← hr1]; have := ureach_le HYR.out (j : Int); omega
      have hr2l : r2 ≤ 9223372036854775807 := by rw [← hr2]; have := ureach_le HXR.out ((j : Int) + by'); omega
      have hr3l : cnot r2 ≤ 9223372036854775807 := cnot_le hr2l
      obtain ⟨d2, t2, hd2⟩ : ∃ z a, cand d r1 (cnot r2) = (z, a) := ⟨_, _, rfl⟩
      obtain ⟨d3, a3, hd3⟩ : ∃ z a, cor d2 a1 t2 = (z, a) := ⟨_, _, rfl⟩
      have hd2l : d2.length ≤ 20000 := by have := (cand_le (a := r1) (b := cnot r2) hdl).1; rw [hd2] at this; exact this
      have ht2 : t2 ≤ 9223372036854775807 := by have := (cand_le (a := r1) (b := cnot r2) hdl).2; rw [hd2] at this; omega
      have HR1 := Lib.hid hr1; have HR2 := Lib.hid hr2; have HD2 := Lib.hid hd2; have HD3 := Lib.hid hd3; clear hr1 hr2 hd2 hd3
      have HYr := Lib.hid ((HIY.out.mono K0.out).keep2 HK.out (fun a ha _ => by have := HPY.out a ha; simp; omega))
      have HXr := Lib.hid ((HIX.out.mono K0.out).keep2 HK.out (fun a ha _ => by have := HPX.out a ha; simp; omega))
      have T1 := Lib.hid (creach_any' y (j : Int) ny py cy wr HNY.out (by omega) (by omega) HYr.out)
      have T2 := Lib.hid (creach_any' x ((j : Int) + by') nx px cx wr HNX.out (by omega) (by omega) HXr.out)
      go_wp2_with (first
        | (go_at_call 70; (with_reducible refine T1.out.mono ?_); rw [HR1.out]; rintro e w' ⟨rfl, rfl⟩)
        | (go_at_call 70; (with_reducible refine T2.out.mono ?_); rw [HR2.out]; rintro e w' ⟨rfl, rfl⟩)
        | (go_at_call 32; refine (not_any _ _ hr2l).mono ?_; rintro e w' ⟨rfl, rfl⟩)
        | (go_at_call 66; refine (andM_any [w.heap.size + 1] d r1 (cnot r2) (w.heap.size + 1 + 1) _ hr1l hr3l hdl HB.out (by simp; omega)).mono ?_; rintro e w2 ⟨he, hb2', hk2⟩; rw [HD2.out] at he hb2'; subst he; have HB2 := Lib.hid hb2'; have HK2 := Lib.hid hk2; have hz2 := hk2.size; clear hb2' hk2)
        | (go_at_call 65; refine (orM_any [w.heap.size + 1] d2 a1 t2 (w.heap.size + 1 + 1) _ ha1 ht2 hd2l HB2.out (by simp; omega)).mono ?_; rintro e w3 ⟨he, hb3', hk3⟩; rw [HD3.out] at he hb3'; subst he; have HB3 := Lib.hid hb3'; have HK3 := Lib.hid hk3; have hz3 := hk3.size; clear hb3' hk3))
      go_roundg (ny + 1 - (j + 1))
      case measure => (have := HN.out; omega)
      case rel =>
        have e := lessTo_succ x y by' j c
        rw [HD.out] at e
        dsimp only at e
        rw [HR1.out, HR2.out, HD2.out] at e
        dsimp only at e
        rw [HD3.out] at e
        refine ⟨j + 1, by rw [e], by go_num, by omega, rfl, by rw [e]; exact HB3.out, (HK.out.trans HK2.out).trans HK3.out⟩
end Go.Proofs.Ytanlecgpnknhoaa
