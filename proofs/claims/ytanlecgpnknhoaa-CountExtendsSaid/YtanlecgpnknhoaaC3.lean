/- Walk of layer 16: total. -/
import Derived.Test.YtanlecgpnknhoaaC2
namespace Go.Proofs.Ytanlecgpnknhoaa
set_option linter.unusedSimpArgs false
set_option linter.unusedVariables false
open Go.RowKit

theorem SlAt.drop {α : Type} {E : Nat} {enc : α → Nat → Value} {w : World} {b off : Nat} {xs : List α} (h : SlAt E enc w (some ⟨b, off, none⟩) xs) (n : Nat) : SlAt E enc w (some ⟨b, off + n * E, none⟩) (xs.drop n) := by
  rcases h with rfl | ⟨b', off', hp, hb, hc⟩
  · exact .inl (by simp)
  · obtain ⟨rfl, rfl⟩ : b = b' ∧ off = off' := by injection hp with hp; injection hp with h1 h2; exact ⟨h1, h2⟩
    refine .inr ⟨b, off + n * E, rfl, hb, fun i x hx j hj => ?_⟩
    rw [List.getElem?_drop] at hx
    have := hc (n + i) x hx j hj
    rw [Nat.add_mul] at this
    rwa [show off + n * E + i * E + j = off + (n * E + i * E) + j by omega]

theorem utotal_le : ∀ (f : Nat) (l : List Int) (c : List Gate), AllLe l → c.length ≤ 20000 → AllLe ((utotal 0 1 f l).run c).2
  | 0, l, c, h, _ => h
  | f + 1, l, c, h, hc => by
    unfold utotal
    split
    · exact h
    · rw [CM.run_bind, CM.run_bind]
      exact addTo_le _ _ (run_le _ _ (run_le _ c hc)) _
theorem utotal_len (f : Nat) (l : List Int) (c : List Gate) : ((utotal 0 1 f l).run c).2.length = l.length := by
  have hV : AllV (fun _ _ : Int => True) l l := ⟨rfl, fun _ _ _ _ _ => trivial⟩
  have h := utotal_alike (z := (0 : Int)) (o := (1 : Int)) (z' := (0 : Int)) (o' := (1 : Int)) f (fun _ _ => True) l l trivial trivial hV
  clear hV
  revert h
  generalize utotal 0 1 f l = p
  intro h
  have key : ∀ {n : Nat} {V : Int → Int → Prop} {p q : CM Int (List Int)}, Rel n V (RL l.length) p q → ∀ c, (p.run c).2.length = l.length := by
    intro n V p q h
    generalize hR : RL (ρ := Int) (σ := Int) l.length = R at h
    induction h with
    | ret h => intro c; subst hR; exact h.2
    | and h1 h2 h3 ih => intro c; exact ih (fun _ _ => True) (fun _ _ _ => trivial) _ (0 : Int) trivial hR _
    | or h1 h2 h3 ih => intro c; exact ih (fun _ _ => True) (fun _ _ _ => trivial) _ (0 : Int) trivial hR _
  exact key h c

set_option maxRecDepth 100000 in
set_option maxHeartbeats 2000000 in
theorem totalM_small (L : List Nat) (c : List Gate) (l : List Int) (n : Nat) (b : Nat) (p : Option Addr) (cap : Nat) (w : World) (hn : l.length = n) (h2 : n < 2) (hp0 : p = none → cap = 0)
    (hB : BxA L w b c) (hi : IntsAt w p l) :
    Calls Try.prog 69 #[.pointer (some ⟨b, 0, none⟩), .slice p n cap] w (MRetL L w b (c, l)) := by
  subst hn
  obtain ⟨i0, hi0, hz0, hz1, hz2⟩ := info_parts int_info
  have h2I : (l.length : Int) < 2 := by omega
  have HP0 := Lib.hid hp0; have HB := Lib.hid hB; have HI := Lib.hid hi
  clear hp0 hB hi
  go_enter Try.func69, Try.ntmps69
  go_wp2_with (first | (at_builtin; go_must (refine wpList_app (enc := iEnc) rfl _ _ _ rfl w.heap.size 3 i0 _ 8 Try.underlying28 hi0 hz0 hz1 hz2 rfl (by omega) (.slice (some ⟨w.heap.size, 0, none⟩) 0 0) [] rfl (World.ownsRow_lit w #[] 0 (Nat.le_refl _) (by decide) rfl) p l cap rfl HP0.out (HI.out.mono (by go_grown)) iEnc_one (by simp [maxLen]; omega) (by simp; omega) (by simp) ?_); intro v1 w2 hown1 hgr1 hbl1; have HO1 := Lib.hid hown1; have HB1 := Lib.hid hbl1; clear hown1 hgr1 hbl1))
  go_ret
  have hBl : Below w.heap.size w w2 := Below.trans (by go_grown) HB1.out
  obtain ⟨q, cq, rfl, a1, a2, a3, a4⟩ := owns_val (by omega) HO1.out
  refine ⟨q, cq, rfl, a4, fun a ha => ?_, a1, a2, a3, HB.out.keep (X := []) (KeepX.of_below hBl) (by simp) (by simp), KeepX.of_below hBl⟩
  exact HO1.out.lt a.block (by rw [ha]; rfl)

set_option maxRecDepth 100000 in
set_option maxHeartbeats 4000000 in
theorem totalM_any : ∀ (f : Nat) (L : List Nat) (c : List Gate) (l : List Int) (n : Nat) (b : Nat) (p : Option Addr) (cap : Nat) (w : World) (hn : l.length = n) (hf : l.length ≤ f) (h6 : n ≤ 500) (hcap : n ≤ cap) (hcm : cap ≤ maxLen) (hp0 : p = none → cap = 0) (hr : AllLe l) (hl : c.length ≤ 20000) (hc : 0 < c.length)
    (hB : BxA L w b c) (hL : ∀ k ∈ L, k < w.heap.size) (hi : IntsAt w p l) (hnb : ∀ a, p = some a → a.block ≠ b),
    Calls Try.prog 69 #[.pointer (some ⟨b, 0, none⟩), .slice p n cap] w (MRetL L w b ((utotal 0 1 f l).run c)) := by
  intro f
  induction f with
  | zero =>
    intro L c l n b p cap w hn hf h6 hcap hcm hp0 hr hl hc hB hL hi hnb
    exact totalM_small L c l n b p cap w hn (by omega) hp0 hB hi
  | succ f ih =>
    intro L c l n b p cap w hn hf h6 hcap hcm hp0 hr hl hc hB hL hi hnb
    have IH := Lib.hid ih; clear ih
    obtain ⟨i0, hi0, hz0, hz1, hz2⟩ := info_parts int_info
    have HN := Lib.hid hn; have HP0 := Lib.hid hp0; have HR := Lib.hid hr; have HB := Lib.hid hB; have HL := Lib.hid hL; have HI := Lib.hid hi; have HNB := Lib.hid hnb
    clear hn hp0 hr hB hL hi hnb
    by_cases h2 : n < 2
    · have e : (utotal 0 1 (f + 1) l).run c = (c, l) := by
        show (if l.length < 2 then CM.ret l else (utotal 0 1 f (l.take (l.length / 2))).bind fun u => (utotal 0 1 f (l.drop (l.length / 2))).bind fun v => uadd 0 1 u v).run c = _
        rw [if_pos (by rw [HN.out]; exact h2)]; rfl
      rw [e]
      exact totalM_small L c l n b p cap w HN.out h2 HP0.out HB.out HI.out
    · have h2I : (2 : Int) ≤ (n : Int) := by omega
      obtain ⟨hf2, hhf⟩ : ∃ h, n / 2 = h := ⟨_, rfl⟩
      have hq : (n : Int) / 2 = (hf2 : Int) := by omega
      have hh0 : (0 : Int) ≤ (hf2 : Int) := by omega
      have hh1 : (hf2 : Int) ≤ (n : Int) := by omega
      have hh2 : (hf2 : Int) ≤ (cap : Int) := by omega
      have HHF := Lib.hid hhf; clear hhf
      rcases HI.out with h0 | ⟨bp, off, rfl, hbp, hcc⟩
      · exfalso; have := HN.out; rw [h0] at this; simp at this; omega
      clear hcc
      go_enter Try.func69, Try.ntmps69
      go_wp2_with fail
      have hne : ¬ cap = hf2 := by omega
      have hbw := HB.out.lt
      have hl1 := Lib.hid (show (l.take hf2).length = hf2 by rw [List.length_take]; have := HN.out; omega)
      have hl2 := Lib.hid (show (l.drop hf2).length = n - hf2 by rw [List.length_drop]; have := HN.out; omega)
      have hr1 := Lib.hid (show AllLe (l.take hf2) from fun r hr => HR.out r (List.mem_of_mem_take hr))
      have hr2 := Lib.hid (show AllLe (l.drop hf2) from fun r hr => HR.out r (List.mem_of_mem_drop hr))
      have K0 := Lib.hid (show KeepX [] w w.drew from KeepX.of_below (by go_grown))
      have C1 := Lib.hid (IH.out L c (l.take hf2) hf2 b (some ⟨bp, off, none⟩) cap w.drew hl1.out (by rw [hl1.out]; have := HN.out; omega) (by omega) (by omega) hcm (fun h => by cases h) hr1.out hl hc (HB.out.keep K0.out (by simp) (by simp)) HL.out (SlAt.take HI.out hf2) HNB.out)
      obtain ⟨c1, u, hu⟩ : ∃ d r, (utotal 0 1 f (l.take hf2)).run c = (d, r) := ⟨_, _, rfl⟩
      obtain ⟨c2, v, hv⟩ : ∃ d r, (utotal 0 1 f (l.drop hf2)).run c1 = (d, r) := ⟨_, _, rfl⟩
      have hul := Lib.hid (show u.length = hf2 by have := utotal_len f (l.take hf2) c; rw [hu] at this; exact this.trans hl1.out)
      have hvl := Lib.hid (show v.length = n - hf2 by have := utotal_len f (l.drop hf2) c1; rw [hv] at this; exact this.trans hl2.out)
      have hc1 : c1.length ≤ 20000 := by have := run_le (utotal 0 1 f (l.take hf2)) c hl; rw [hu] at this; exact this
      have hc1p : 0 < c1.length := by have := run_ge (utotal 0 1 f (l.take hf2)) c; rw [hu] at this; exact Nat.lt_of_lt_of_le hc this
      have hc2 : c2.length ≤ 20000 := by have := run_le (utotal 0 1 f (l.drop hf2)) c1 hc1; rw [hv] at this; exact this
      have hc2p : 0 < c2.length := by have := run_ge (utotal 0 1 f (l.drop hf2)) c1; rw [hv] at this; exact Nat.lt_of_lt_of_le hc1p this
      have hur := Lib.hid (show AllLe u by have := utotal_le f (l.take hf2) c hr1.out hl; rw [hu] at this; exact this)
      have hvr := Lib.hid (show AllLe v by have := utotal_le f (l.drop hf2) c1 hr2.out hc1; rw [hv] at this; exact this)
      rw [hu] at C1
      have HU := Lib.hid hu; have HV := Lib.hid hv; clear hu hv
      have HDR := Lib.hid (show IntsAt w (some ⟨bp, off + hf2, none⟩) (l.drop hf2) by have := SlAt.drop HI.out hf2; rwa [Nat.mul_one] at this)
      go_region_held3 (fun _ => True) (trivial) (first | (go_at_call 69; (with_reducible refine C1.out.mono ?_); rintro e w1 ⟨q1, cq1, rfl, v1, v2, v3, v4, v5, v6, v7⟩; have V1 := Lib.hid v1; have V2 := Lib.hid v2; have V6 := Lib.hid v6; have V5 := Lib.hid v5; have V7 := Lib.hid ((K0.out.sub (by simp)).trans v7); clear v1 v2 v5 v6 v7) | (go_at_call 69; (with_reducible refine (IH.out L c1 (l.drop hf2) (n - hf2) b (some ⟨bp, off + hf2, none⟩) (cap - hf2) w1 hl2.out (by rw [hl2.out]; have := HN.out; omega) (by omega) (by omega) (by omega) (fun h => by cases h) hr2.out hc1 hc1p V6.out (fun k hk => Nat.lt_of_lt_of_le (HL.out k hk) V7.out.size) (HDR.out.keep V7.out (fun a ha => by cases ha; have := HNB.out _ rfl; simpa using this)) (fun a ha => by cases ha; exact HNB.out ⟨bp, off, none⟩ rfl)).mono ?_); rw [HV.out]; rintro e w2 ⟨q2, cq2, rfl, x1, x2, x3, x4, x5, x6, x7⟩; have X1 := Lib.hid x1; have X2 := Lib.hid x2; have X6 := Lib.hid x6; have X7 := Lib.hid x7; have X5 := Lib.hid x5; clear x1 x2 x5 x6 x7) | (go_at_call 72; (with_reducible refine (addM_any L c2 u v b q1 q2 cq1 cq2 w2 (by have := hul.out; omega) (by have := hvl.out; omega) hur.out hvr.out hc2 hc2p X6.out (fun k hk => Nat.lt_of_lt_of_le (HL.out k hk) (Nat.le_trans V7.out.size X7.out.size)) (V1.out.keep X7.out (fun a ha hm => by have := (V2.out a ha).1; simp at hm this; omega)) X1.out (fun a ha => by have := (V2.out a ha).1; simp at this; omega) (fun a ha => by have := (X2.out a ha).1; have := V7.out.size; omega)).mono ?_); rintro e w3 ⟨q3, cq3, rfl, y1, y2, y3, y4, y5, y6, y7⟩; have Y1 := Lib.hid y1; have Y2 := Lib.hid y2; have Y6 := Lib.hid y6; have Y7 := Lib.hid y7; have Y5 := Lib.hid y5; clear y1 y2 y5 y6 y7))
      go_wp2_with fail
      go_ret
      have e : (utotal 0 1 (f + 1) l).run c = (uadd 0 1 u v).run c2 := by
        have hnl : ¬ l.length < 2 := by have := HN.out; omega
        have hh : l.length / 2 = hf2 := by have := HN.out; have := HHF.out; omega
        show (if l.length < 2 then CM.ret l else (utotal 0 1 f (l.take (l.length / 2))).bind fun u => (utotal 0 1 f (l.drop (l.length / 2))).bind fun v => uadd 0 1 u v).run c = _
        rw [if_neg hnl, CM.run_bind, CM.run_bind, hh, HU.out, HV.out]
      rw [e]
      exact ⟨q3, cq3, rfl, Y1.out, (fun a ha => ⟨Nat.le_trans (Nat.le_trans V7.out.size X7.out.size) (Y2.out a ha).1, (Y2.out a ha).2⟩), y3, y4, Y5.out, Y6.out, (V7.out.trans X7.out).trans Y7.out⟩
end Go.Proofs.Ytanlecgpnknhoaa
