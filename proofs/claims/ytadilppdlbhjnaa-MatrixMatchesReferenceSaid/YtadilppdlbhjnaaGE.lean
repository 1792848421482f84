import Derived.Test.YtadilppdlbhjnaaW8
import Derived.Test.YtadilppdlbhjnaaGA
namespace Go.Proofs.Ytadilppdlbhjnaa
set_option linter.unusedSimpArgs false
set_option linter.unusedVariables false
open Go.RowKit
def NewPost (w : World) (e : Ending) (w' : World) : Prop :=
 ∃ p, e = .returned (.agg #[.slice p 1 1]) ∧ GatesAt w' p cnew ∧ (p = none → 1 = 0) ∧ Below w.heap.size w w' ∧ Fresh w none p
set_option maxHeartbeats 400000 in
theorem rnew_any (w : World) : Calls Try.prog 31 #[] w (NewPost w) := by
 go_enter Try.func31, Try.ntmps31
 go_wp2
 refine bodyPost_ret (by simp [results, Try.results31, go_sem]; try rfl) rfl ?_
 exact ⟨_, rfl, SlAt.gate1 (g := ⟨0, 0, 0⟩) (by go_cell) (by go_cell) (by go_cell), (fun h => by cases h), by go_grown, Fresh.new (by omega)⟩
theorem cpick_at {refs : List Int} {n K : Nat} (hK : n / 2 % (refs.length + 1) = K) : cpick refs n = if n % 2 = 1 then cnot (if 0 < K then refs.getD (K - 1) 0 else 0) else (if 0 < K then refs.getD (K - 1) 0 else 0) := by
 simp only [cpick, cpickR, hK]
theorem int_cell {w : World} {p : Option Addr} {xs : List Int} {i : Nat} {x : Int} (h : IntsAt w p xs) (hi : xs[i]? = some x) : ∃ b off, p = some ⟨b, off, none⟩ ∧ b < w.heap.size ∧ w.cell? ⟨b, off + i, none⟩ = some (.int .i64 x) := by
 rcases h with rfl | ⟨b, off, hp, hb, hc⟩
 · simp at hi
 · exact ⟨b, off, hp, hb, by simpa [iEnc] using hc i x hi 0 (by omega)⟩
set_option maxHeartbeats 800000 in
theorem pick_any (refs : List Int) (n : Nat) (p : Option Addr) (cap : Nat) (w : World) (hn : n < 256) (hl : refs.length ≤ 20000) (hr : ∀ r ∈ refs, r ≤ 9223372036854775807) (hg : IntsAt w p refs) :
 Calls Try.prog 89 #[.slice p refs.length cap, .int .u8 n] w fun e w' => e = .returned (.int .i64 (cpick refs n)) ∧ w' = w := by
 obtain ⟨K, hK⟩ : ∃ K : Nat, n / 2 % (refs.length + 1) = K := ⟨_, rfl⟩
 have HP := Lib.hid (cpick_at (refs := refs) hK)
 have hKl : K ≤ refs.length := by rw [← hK]; have := Nat.mod_lt (n / 2) (show 0 < refs.length + 1 by omega); omega
 have hKi : (n : Int) / 2 % ((refs.length : Int) + 1) = (K : Int) := by rw [← hK]; simp
 clear hK
 by_cases h0 : 0 < K
 · obtain ⟨x, hx⟩ : ∃ x, refs[K - 1]? = some x := ⟨_, List.getElem?_eq_getElem (by omega)⟩
   have hxm := hr x (List.mem_of_getElem? hx)
   obtain ⟨b, off, rfl, hb, hc⟩ := int_cell hg hx
   obtain ⟨J, rfl⟩ : ∃ J, K = J + 1 := ⟨K - 1, by omega⟩
   simp only [Nat.add_sub_cancel] at hc hx
   have hq : (J : Int) < (refs.length : Int) := by omega
   have HR := Lib.hid (show (if 0 < J + 1 then refs.getD (J + 1 - 1) 0 else 0) = x from by simp [List.getD_eq_getElem?_getD, hx])
   clear hg hr hx h0
   cases hodd : ((n : Int) % 2 == 1) with
   | true =>
    have HF := Lib.hid (show cpick refs n = cnot x from by rw [HP.out, if_pos (by have := beq_iff_eq.1 hodd; omega), HR.out])
    go_enter Try.func89, Try.ntmps89
    go_wp2_with (first | (go_at_call 83; refine (rnot_any _ _ hxm).mono ?_; rintro e w' ⟨rfl, rfl⟩))
    go_ret
    exact ⟨ret_int HF.out.symm, rfl⟩
   | false =>
    have HF := Lib.hid (show cpick refs n = x from by rw [HP.out, if_neg (by have := beq_eq_false_iff_ne.1 hodd; omega), HR.out])
    go_enter Try.func89, Try.ntmps89
    go_wp2_with fail
    go_ret
    exact ⟨ret_int HF.out.symm, rfl⟩
 · obtain rfl : K = 0 := by omega
   have HR := Lib.hid (show (if 0 < 0 then refs.getD (0 - 1) 0 else 0) = (0 : Int) from by simp)
   clear hg hr h0
   cases hodd : ((n : Int) % 2 == 1) with
   | true =>
    have HF := Lib.hid (show cpick refs n = cnot 0 from by rw [HP.out, if_pos (by have := beq_iff_eq.1 hodd; omega), HR.out])
    go_enter Try.func89, Try.ntmps89
    go_wp2_with (first | (go_at_call 83; refine (rnot_any _ _ (by omega)).mono ?_; rintro e w' ⟨rfl, rfl⟩))
    go_ret
    exact ⟨ret_int HF.out.symm, rfl⟩
   | false =>
    have HF := Lib.hid (show cpick refs n = 0 from by rw [HP.out, if_neg (by have := beq_eq_false_iff_ne.1 hodd; omega), HR.out])
    go_enter Try.func89, Try.ntmps89
    go_wp2_with fail
    go_ret
    exact ⟨ret_int HF.out.symm, rfl⟩
end Go.Proofs.Ytadilppdlbhjnaa
namespace Go.Proofs.Ytadilppdlbhjnaa
set_option linter.unusedSimpArgs false
set_option linter.unusedVariables false
open Go.RowKit
def DoPost (w : World) (p : Option Addr) (gs : List Gate) (refs : List Int) (s : Step) : Ending → World → Prop := RetCirc w p (cdo gs refs s).1 (cdo gs refs s).2
theorem cpick_le {refs : List Int} {n : Nat} (h : ∀ r ∈ refs, r ≤ 40001) : cpick refs n ≤ 40002 := by
 have h1 : cpickR refs n ≤ 40001 := by
  unfold cpickR
  split
  · rw [List.getD_eq_getElem?_getD]
    cases hx : refs[n / 2 % (refs.length + 1) - 1]? with
    | none => simp
    | some x => exact h x (List.mem_of_getElem? hx)
  · omega
 unfold cpick
 split
 · unfold cnot; split <;> (try split) <;> omega
 · omega
set_option maxRecDepth 100000 in
set_option maxHeartbeats 2000000 in
theorem rdo_any (gs : List Gate) (refs : List Int) (s : Step) (p q : Option Addr) (cap cq : Nat) (w : World) (hs1 : s.k < 256) (hs2 : s.a < 256) (hs3 : s.b < 256) (hrl : refs.length ≤ 20000) (hrr : ∀ r ∈ refs, r ≤ 40001) (hl : gs.length ≤ 20000) (hcap : gs.length ≤ cap) (hcm : cap ≤ maxLen) (hp : p = none → cap = 0) (hg : GatesAt w p gs) (hq : IntsAt w q refs) :
 Calls Try.prog 88 #[.agg #[.slice p gs.length cap], .slice q refs.length cq, .agg #[.int .u8 s.k, .int .u8 s.a, .int .u8 s.b]] w (DoPost w p gs refs s) := by
 have Hcm := Lib.hid hcm; have Hp := Lib.hid hp; have Hg := Lib.hid hg; have Hq := Lib.hid hq; clear hcm hp hg hq
 have PA := Lib.hid (show cpick refs s.a ≤ 9223372036854775807 from Int.le_trans (cpick_le hrr) (by omega))
 have PB := Lib.hid (show cpick refs s.b ≤ 9223372036854775807 from Int.le_trans (cpick_le hrr) (by omega))
 have Hrr := Lib.hid (show ∀ r ∈ refs, r ≤ 9223372036854775807 from fun r h => Int.le_trans (hrr r h) (by omega)); clear hrr
 have hsk : s.k % 4 = 0 ∨ s.k % 4 = 1 ∨ s.k % 4 = 2 ∨ s.k % 4 = 3 := by omega
 obtain ⟨sk, sa, sb⟩ := s
 dsimp only at *
 rcases hsk with hsk | hsk | hsk | hsk
 all_goals
  have m0 : ((sk : Int) % 4 == 0) = decide (sk % 4 = 0) := by rw [Bool.eq_iff_iff]; simp; omega
  have m1 : ((sk : Int) % 4 == 1) = decide (sk % 4 = 1) := by rw [Bool.eq_iff_iff]; simp; omega
  have m2 : ((sk : Int) % 4 == 2) = decide (sk % 4 = 2) := by rw [Bool.eq_iff_iff]; simp; omega
  rw [hsk] at m0 m1 m2
  simp only [decide_true, decide_false, Nat.reduceEqDiff, Nat.one_ne_zero, Nat.zero_ne_one] at m0 m1 m2
 · have HP : Hid (RetCirc w p (cinput gs ((sa : Int) % 8 + 1)).1 (cinput gs ((sa : Int) % 8 + 1)).2 = DoPost w p gs refs ⟨sk, sa, sb⟩) := by unfold DoPost; rw [show cdo gs refs ⟨sk, sa, sb⟩ = cinput gs ((sa : Int) % 8 + 1) from by simp [cdo, hsk]]; exact Lib.hid rfl
   clear hsk
   go_enter Try.func88, Try.ntmps88
   go_wp2_with (first | (go_at_call 89; refine (pick_any refs _ q cq _ (by assumption) hrl Hrr.out (Hq.out.mono (by go_grown))).mono ?_; rintro e w' ⟨rfl, rfl⟩))
   refine (rinput_any gs ((sa : Int) % 8 + 1) p cap _ hl hcap Hcm.out Hp.out (Hg.out.mono (by go_grown))).mono ?_
   rintro e w1 ⟨p1, cap1, rfl, hq1, hq2, hq3, hq4, hbl, hfr⟩
   obtain ⟨hc1, hf1⟩ := bcell hbl
   have HB1 : Below w.heap.size w w1 := Below.trans (by go_grown) (hbl.mono (by simp; omega))
   have Hq3 := Lib.hid hq3; have Hq4 := Lib.hid hq4; have Hfr := Lib.hid hfr; clear hq3 hq4 hfr
   have kz : w.heap.size + 1 + 1 < w1.heap.size := by have := hbl.size; simp at this; omega
   go_wp2_with fail
   rw [← HP.out]
   refine bodyPost_ret (by simp [results, Try.results88, go_sem, hc1, kz]; try rfl) rfl ?_
   exact ⟨p1, cap1, rfl, hq1, hq2, Hq3.out, Hq4.out.setBox (v0 := .slice none 0 0) (oldcell hbl (by go_cell) (by simp)) (gEnc_ne_slice _ _ _) _, Below.setCell HB1 (by show _ ≤ w.heap.size + 1 + 1; omega) _, Hfr.out.up (by simp; omega)⟩
 · have HP : Hid (RetCirc w p (cand gs (cpick refs sa) (cpick refs sb)).1 (cand gs (cpick refs sa) (cpick refs sb)).2 = DoPost w p gs refs ⟨sk, sa, sb⟩) := by unfold DoPost; rw [show cdo gs refs ⟨sk, sa, sb⟩ = cand gs (cpick refs sa) (cpick refs sb) from by simp [cdo, hsk]]; exact Lib.hid rfl
   clear hsk
   go_enter Try.func88, Try.ntmps88
   go_wp2_with (first | (go_at_call 89; refine (pick_any refs _ q cq _ (by assumption) hrl Hrr.out (Hq.out.mono (by go_grown))).mono ?_; rintro e w' ⟨rfl, rfl⟩))
   refine (rand_any gs (cpick refs sa) (cpick refs sb) p cap _ (PA.out) (PB.out) hl hcap Hcm.out Hp.out (Hg.out.mono (by go_grown))).mono ?_
   rintro e w1 ⟨p1, cap1, rfl, hq1, hq2, hq3, hq4, hbl, hfr⟩
   obtain ⟨hc1, hf1⟩ := bcell hbl
   have HB1 : Below w.heap.size w w1 := Below.trans (by go_grown) (hbl.mono (by simp; omega))
   have Hq3 := Lib.hid hq3; have Hq4 := Lib.hid hq4; have Hfr := Lib.hid hfr; clear hq3 hq4 hfr
   have kz : w.heap.size + 1 + 1 < w1.heap.size := by have := hbl.size; simp at this; omega
   go_wp2_with fail
   rw [← HP.out]
   refine bodyPost_ret (by simp [results, Try.results88, go_sem, hc1, kz]; try rfl) rfl ?_
   exact ⟨p1, cap1, rfl, hq1, hq2, Hq3.out, Hq4.out.setBox (v0 := .slice none 0 0) (oldcell hbl (by go_cell) (by simp)) (gEnc_ne_slice _ _ _) _, Below.setCell HB1 (by show _ ≤ w.heap.size + 1 + 1; omega) _, Hfr.out.up (by simp; omega)⟩
 · have HP : Hid (RetCirc w p (cor gs (cpick refs sa) (cpick refs sb)).1 (cor gs (cpick refs sa) (cpick refs sb)).2 = DoPost w p gs refs ⟨sk, sa, sb⟩) := by unfold DoPost; rw [show cdo gs refs ⟨sk, sa, sb⟩ = cor gs (cpick refs sa) (cpick refs sb) from by simp [cdo, hsk]]; exact Lib.hid rfl
   clear hsk
   go_enter Try.func88, Try.ntmps88
   go_wp2_with (first | (go_at_call 89; refine (pick_any refs _ q cq _ (by assumption) hrl Hrr.out (Hq.out.mono (by go_grown))).mono ?_; rintro e w' ⟨rfl, rfl⟩))
   refine (ror_any gs (cpick refs sa) (cpick refs sb) p cap _ (PA.out) (PB.out) hl hcap Hcm.out Hp.out (Hg.out.mono (by go_grown))).mono ?_
   rintro e w1 ⟨p1, cap1, rfl, hq1, hq2, hq3, hq4, hbl, hfr⟩
   obtain ⟨hc1, hf1⟩ := bcell hbl
   have HB1 : Below w.heap.size w w1 := Below.trans (by go_grown) (hbl.mono (by simp; omega))
   have Hq3 := Lib.hid hq3; have Hq4 := Lib.hid hq4; have Hfr := Lib.hid hfr; clear hq3 hq4 hfr
   have kz : w.heap.size + 1 + 1 < w1.heap.size := by have := hbl.size; simp at this; omega
   go_wp2_with fail
   rw [← HP.out]
   refine bodyPost_ret (by simp [results, Try.results88, go_sem, hc1, kz]; try rfl) rfl ?_
   exact ⟨p1, cap1, rfl, hq1, hq2, Hq3.out, Hq4.out.setBox (v0 := .slice none 0 0) (oldcell hbl (by go_cell) (by simp)) (gEnc_ne_slice _ _ _) _, Below.setCell HB1 (by show _ ≤ w.heap.size + 1 + 1; omega) _, Hfr.out.up (by simp; omega)⟩
 · have HP : Hid (RetCirc w p (ciff gs (cpick refs sa) (cpick refs sb)).1 (ciff gs (cpick refs sa) (cpick refs sb)).2 = DoPost w p gs refs ⟨sk, sa, sb⟩) := by unfold DoPost; rw [show cdo gs refs ⟨sk, sa, sb⟩ = ciff gs (cpick refs sa) (cpick refs sb) from by simp [cdo, hsk]]; exact Lib.hid rfl
   clear hsk
   go_enter Try.func88, Try.ntmps88
   go_wp2_with (first | (go_at_call 89; refine (pick_any refs _ q cq _ (by assumption) hrl Hrr.out (Hq.out.mono (by go_grown))).mono ?_; rintro e w' ⟨rfl, rfl⟩))
   refine (riff_any gs (cpick refs sa) (cpick refs sb) p cap _ (PA.out) (PB.out) hl hcap Hcm.out Hp.out (Hg.out.mono (by go_grown))).mono ?_
   rintro e w1 ⟨p1, cap1, rfl, hq1, hq2, hq3, hq4, hbl, hfr⟩
   obtain ⟨hc1, hf1⟩ := bcell hbl
   have HB1 : Below w.heap.size w w1 := Below.trans (by go_grown) (hbl.mono (by simp; omega))
   have Hq3 := Lib.hid hq3; have Hq4 := Lib.hid hq4; have Hfr := Lib.hid hfr; clear hq3 hq4 hfr
   have kz : w.heap.size + 1 + 1 < w1.heap.size := by have := hbl.size; simp at this; omega
   go_wp2_with fail
   rw [← HP.out]
   refine bodyPost_ret (by simp [results, Try.results88, go_sem, hc1, kz]; try rfl) rfl ?_
   exact ⟨p1, cap1, rfl, hq1, hq2, Hq3.out, Hq4.out.setBox (v0 := .slice none 0 0) (oldcell hbl (by go_cell) (by simp)) (gEnc_ne_slice _ _ _) _, Below.setCell HB1 (by show _ ≤ w.heap.size + 1 + 1; omega) _, Hfr.out.up (by simp; omega)⟩
end Go.Proofs.Ytadilppdlbhjnaa
namespace Go.Proofs.Ytadilppdlbhjnaa
set_option linter.unusedSimpArgs false
set_option linter.unusedVariables false
open Go.RowKit
def sEnc (s : Step) : Nat → Value
 | 0 => .int .u8 s.k
 | 1 => .int .u8 s.a
 | _ => .int .u8 s.b
abbrev StepsAt := SlAt 3 sEnc
theorem int_info : (Try.prog.info? 3).map (fun i => (i.zero, i.size, i.bytes)) = some (some (.int .i64 0), 1, 8) := by kernel_rfl
theorem iEnc_one (n : Int) (j : Nat) : (iEnc n j).oneCell' = true := rfl
theorem SlAt.int1 {w : World} {b : Nat} {x : Int} (h0 : w.cell? ⟨b, 0, none⟩ = some (.int .i64 x)) : IntsAt w (some ⟨b, 0, none⟩) [x] := by
 refine .inr ⟨b, 0, rfl, World.block_lt_of_cell? w _ h0, fun i y hy j hj => ?_⟩
 cases i with
 | zero =>
  obtain rfl : x = y := by simpa using hy
  obtain rfl : j = 0 := by omega
  exact h0
 | succ i => simp at hy
theorem step_cells {w : World} {p : Option Addr} {l : List Step} {i : Nat} {s : Step} (h : StepsAt w p l) (hi : l[i]? = some s) : ∃ b off, p = some ⟨b, off, none⟩ ∧ b < w.heap.size ∧
 w.cell? ⟨b, off + i * 3, none⟩ = some (.int .u8 s.k) ∧ w.cell? ⟨b, off + i * 3 + 1, none⟩ = some (.int .u8 s.a) ∧ w.cell? ⟨b, off + i * 3 + 2, none⟩ = some (.int .u8 s.b) := by
 rcases h with rfl | ⟨b, off, hp, hb, hc⟩
 · simp at hi
 · exact ⟨b, off, hp, hb, hc i s hi 0 (by omega), hc i s hi 1 (by omega), hc i s hi 2 (by omega)⟩
theorem owns_val {α : Type} {E : Nat} {enc : α → Nat → Value} {w : World} {base : Nat} {e : TypeId} {v : Value} {xs : List α} (hE : 0 < E) (h : w.ownsRow base e E v xs.length (flat E enc xs)) :
 ∃ q cq, v = .slice q xs.length cq ∧ xs.length ≤ cq ∧ cq ≤ maxLen ∧ (q = none → cq = 0) ∧ SlAt E enc w q xs := by
 rcases h.2 with ⟨hv, h0⟩ | ⟨g, c, cur, hv, hg, hh, h1, h2, hs, ht⟩
 · have hx : xs = [] := List.eq_nil_of_length_eq_zero h0
   subst hx
   exact ⟨none, 0, hv, Nat.le_refl _, Nat.zero_le _, fun _ => rfl, .inl rfl⟩
 · subst hv
   exact ⟨_, c, rfl, h1, h2, (fun e => by cases e), SlAt.of_owns hE h⟩
theorem cdo_le {c : List Gate} {refs : List Int} {s : Step} (h : c.length ≤ 20000) : (cdo c refs s).1.length ≤ 20000 ∧ (cdo c refs s).2 ≤ 40001 := by
 have hn : ∀ {r : Int}, r ≤ 40000 → cnot r ≤ 40001 := by
  intro r hr; unfold cnot; split <;> (try split) <;> omega
 unfold cdo
 split
 · unfold cinput
   split
   · exact ⟨h, by show (-1 : Int) ≤ _; omega⟩
   · exact ⟨(cshare_le h).1, Int.le_trans (cshare_le h).2 (by omega)⟩
 · split
   · exact ⟨(cand_le h).1, Int.le_trans (cand_le h).2 (by omega)⟩
   · split
     · exact ⟨(cand_le h).1, hn (cand_le h).2⟩
     · have h1 := cand_le (a := cpick refs s.a) (b := cnot (cpick refs s.b)) h
       have h2 := cand_le (a := cnot (cpick refs s.a)) (b := cpick refs s.b) h1.1
       exact ⟨(cand_le h2.1).1, Int.le_trans (cand_le h2.1).2 (by omega)⟩
theorem cbuild_le (l : List Step) : (cbuild l).1.length ≤ 20000 ∧ (∀ r ∈ (cbuild l).2, r ≤ 40001) ∧ (cbuild l).2.length = l.length := by
 have key : ∀ (l : List Step) (x : List Gate × List Int), x.1.length ≤ 20000 → (∀ r ∈ x.2, r ≤ 40001) → (l.foldl cstep x).1.length ≤ 20000 ∧ (∀ r ∈ (l.foldl cstep x).2, r ≤ 40001) ∧ (l.foldl cstep x).2.length = x.2.length + l.length := by
  intro l
  induction l with
  | nil => intro x h1 h2; exact ⟨h1, h2, by simp⟩
  | cons s t ih =>
   intro x h1 h2
   have h := ih (cstep x s) (cdo_le h1).1 (by
    intro r hr
    rcases List.mem_append.1 hr with h | h
    · exact h2 r h
    · rw [List.mem_singleton.1 h]; exact (cdo_le h1).2)
   refine ⟨h.1, h.2.1, ?_⟩
   simp only [List.foldl_cons]
   rw [h.2.2]; simp [cstep]; omega
 have h := key l (cnew, []) (by decide) (by simp)
 exact ⟨h.1, h.2.1, h.2.2.trans (by simp)⟩
theorem owns_below {w w' : World} {base : Nat} {e : TypeId} {size : Nat} {v : Value} {n : Nat} {xs : List Value} (h : w.ownsRow base e size v n xs) (hB : Below w.heap.size w w') : w'.ownsRow base e size v n xs := by
 refine ⟨h.1, ?_⟩
 rcases h.2 with h0 | ⟨g, cap, cur, hv, hb, hg, hr⟩
 · exact .inl h0
 · exact .inr ⟨g, cap, cur, hv, hb, by rw [hB.block g (Array.getElem?_eq_some_iff.1 hg).1]; exact hg, hr⟩
theorem wpList_app2 {α : Type} {E : Nat} {enc : α → Nat → Value} {P : Program} {w : World} {ops : Array Oper} {rest : List Oper} {o : Oper} {a : Act} {Q : Exit → Act → World → Prop} (hgd : o.guard = none) (s x : Operand) (t : TypeId)
 (ho : o.op = .call { callee := .builtin .append, args := #[s, x], argTypes := #[t, t] })
 (B : Nat) (ty : TypeId) (i : TypeInfo) (z : Value) (bytes : Nat) (ht : P.underlying t = some (.slice ty)) (hi : P.info? ty = some i) (hz : i.zero = some z) (hsize : i.size = E) (hby : i.bytes = bytes) (hzs : z.cells.size = E) (hsz : 0 < E)
 (v : Value) (xs : List α) (hs : a.eval s = v) (hown : w.ownsRow B ty E v xs.length (flat E enc xs)) (p : Option Addr) (ys : List α) (c : Nat) (hx : a.eval x = .slice p ys.length c) (hpc : p = none → c = 0) (hys : SlAt E enc w p ys) (hone : ∀ y j, (enc y j).oneCell' = true)
 (h63 : xs.length + ys.length ≤ maxLen) (hbytes : (xs.length + ys.length) * bytes ≤ 140737488355328) (hbase : B ≤ w.heap.size)
 (h : ∀ v' w', w'.ownsRow B ty E v' (xs ++ ys).length (flat E enc (xs ++ ys)) → w.grownBy w' v.ownBlock → Below B w w' → (v'.ownBlock = v.ownBlock ∨ v'.ownBlock = some w.heap.size) → wpList P ops Q rest (a.put o.dst v') w') : wpList P ops Q (o :: rest) a w := by
 cases p with
 | none =>
  obtain rfl := hpc rfl
  have hy : ys = [] := by
   rcases hys with h | ⟨b, off, hp, _⟩
   · exact h
   · cases hp
  subst hy
  refine wpList_append_own_none hgd s x t ho B ty i E ht hi v xs.length _ hs hown hx ?_
  refine h v w (by simpa using hown) ⟨rfl, rfl, rfl, Nat.le_refl _, fun _ _ _ => rfl⟩ (Below.refl _ _) (.inl rfl)
 | some ad =>
  refine wpList_append_own_at w hgd s x t ho B ty i z E bytes ht hi hz hsize hby hzs hsz v xs.length _ hs hown ad ys.length c (flat E enc ys) hx (flat_length _ _ _) hys.news ?_ h63 hbytes hbase ?_
  · intro u hu
    obtain ⟨n, hn⟩ := List.getElem?_of_mem hu
    obtain ⟨i, y, j, hy, hj, _, rfl⟩ := flat_inv hn
    exact hone y j
  · intro v' w' h1 h2 _ h4
    exact h v' w' (by rw [flat_append, List.length_append]; exact h1) h2 (Below.grown (Below.refl _ _) h2 hbase (fun k hk => (hown.lt k hk).1)) h4
theorem SlAt.grown {α : Type} {E : Nat} {enc : α → Nat → Value} {w w' : World} {p : Option Addr} {xs : List α} {row : Option Nat} (h : SlAt E enc w p xs) (hg : w.grownBy w' row) (hne : ∀ a, p = some a → some a.block ≠ row) : SlAt E enc w' p xs := by
 rcases h with h | ⟨b, off, hp, hb, hc⟩
 · exact .inl h
 · refine .inr ⟨b, off, hp, Nat.lt_of_lt_of_le hb hg.size, fun i x hx j hj => ?_⟩
   rw [World.cell?_of_block (w := w) (hg.block b hb (hne _ hp))]
   exact hc i x hx j hj
theorem cdo_ne {c : List Gate} {refs : List Int} {s : Step} (h : c ≠ []) : (cdo c refs s).1 ≠ [] := by
 have hs : ∀ {c : List Gate} {g : Gate}, c ≠ [] → (cshare c g).1 ≠ [] := by
  intro c g h; unfold cshare; split
  · exact h
  · split
    · exact h
    · simp
 have ha : ∀ {c : List Gate} {a b : Int}, c ≠ [] → (cand c a b).1 ≠ [] := by
  intro c a b h; unfold cand; split
  · exact h
  · split
    · exact h
    · split
      · exact h
      · split
        · exact h
        · exact hs h
 unfold cdo
 split
 · unfold cinput; split
   · exact h
   · exact hs h
 · split
   · exact ha h
   · split
     · exact ha h
     · exact ha (ha (ha h))
theorem cbuild_ne {l : List Step} {c : List Gate} {refs : List Int} (h : cbuild l = (c, refs)) : c ≠ [] := by
 have key : ∀ (l : List Step) (x : List Gate × List Int), x.1 ≠ [] → (l.foldl cstep x).1 ≠ [] := by
  intro l
  induction l with
  | nil => intro x hx; exact hx
  | cons s t ih => intro x hx; exact ih _ (cdo_ne hx)
 have := key l (cnew, []) (by decide)
 have e : (l.foldl cstep (cnew, [])) = (c, refs) := h
 rw [e] at this; exact this
theorem free_alloc {w : World} {b o : Nat} {x : Obj} (h : w.frozen? ⟨b, o, none⟩ = false) (hb : b < w.heap.size) : (w.alloc x).frozen? ⟨b, o, none⟩ = false := by
 rw [World.frozen?_alloc_past _ _ _ hb]; exact h
theorem free_set {w : World} {b o : Nat} {a : Addr} {u : Value} (h : w.frozen? ⟨b, o, none⟩ = false) : (w.setCell a u).frozen? ⟨b, o, none⟩ = false := by
 rw [World.frozen?_setCell]; exact h
theorem cell_set {w : World} {b o : Nat} {u x : Value} (h : w.cell? ⟨b, o, none⟩ = some x) : (w.setCell ⟨b, o, none⟩ u).cell? ⟨b, o, none⟩ = some u := by go_cell
def BuildPost (w : World) (l : List Step) (e : Ending) (w' : World) : Prop :=
 ∃ p cap q cq, e = .returned (.tuple #[.agg #[.slice p (cbuild l).1.length cap], .slice q (cbuild l).2.length cq]) ∧ (cbuild l).1.length ≤ cap ∧ cap ≤ maxLen ∧ (p = none → cap = 0) ∧ GatesAt w' p (cbuild l).1 ∧
  (cbuild l).2.length ≤ cq ∧ cq ≤ maxLen ∧ (q = none → cq = 0) ∧ IntsAt w' q (cbuild l).2 ∧ Below w.heap.size w w'
end Go.Proofs.Ytadilppdlbhjnaa
namespace Go.Proofs.Ytadilppdlbhjnaa
set_option linter.unusedSimpArgs false
set_option linter.unusedVariables false
open Go.RowKit
set_option maxRecDepth 100000 in
set_option maxHeartbeats 4000000 in
theorem rbuild_any (l : List Step) (p : Option Addr) (cap : Nat) (w : World) (hl : l.length ≤ 20000) (hs : ∀ s ∈ l, s.k < 256 ∧ s.a < 256 ∧ s.b < 256) (hg : StepsAt w p l) :
 Calls Try.prog 33 #[.slice p l.length cap] w (BuildPost w l) := by
 obtain ⟨i0, hi0, hz0, hz1, hz2⟩ := info_parts int_info
 have Hs := Lib.hid hs; have Hg := Lib.hid hg; clear hs hg
 go_enter Try.func33, Try.ntmps33
 go_wp2_with (first | (go_at_call 31; refine (rnew_any _).mono ?_; rintro e w1 ⟨p1, rfl, hn1, hn2, hbl, _⟩; obtain ⟨hc1, hf1⟩ := bcell hbl; have hZ := hbl.size; simp at hZ))
 have HB1 : Below w.heap.size w w1 := Below.trans (by go_grown) (hbl.mono (by simp))
 have HN := Lib.hid hn1
 go_loopg [5, 6] l.length (fun n v iv wr => ∃ k B : Nat, iv = .int .i64 k ∧ k ≤ l.length ∧ n = l.length - k ∧ w1.heap.size < B ∧ B ≤ wr.heap.size ∧ BoxC (fun p => ∀ a, p = some a → some a.block ≠ v.ownBlock) wr w1.heap.size (cbuild (l.take k)).1 ∧ BoxN wr w.heap.size ∧ wr.ownsRow B 3 1 v (cbuild (l.take k)).2.length (flat 1 iEnc (cbuild (l.take k)).2) ∧ Below w.heap.size w wr)
 case atStart =>
  refine ⟨0, w1.heap.size + 1, rfl, by omega, by omega, by omega, by simp, BoxC.new (gs := cnew) (Nat.le_refl _) (by decide) hn2 hn1 (fun a _ h => by cases h), ?_, World.ownsRow_nil _ _ _ _, by go_grown⟩
  exact BoxN.alloc ⟨by rw [hc1 _ _ (by simp)]; go_cell, by rw [hf1 _ _ (by simp)]; go_cell⟩ (by omega) _
 clear hn1 HN hn2 hc1 hf1 hbl
 obtain ⟨k, B, rfl, hk, rfl, hBl, hB, ⟨pc, capc, h0, h0f, hq1, hq2, hq3, hq4, hne⟩, ⟨h1, h1f⟩, hown, hbw⟩ := hrel
 have HL := Lib.hid (cbuild_le (l.take k))
 have HRl : Hid ((cbuild (l.take k)).2.length = k) := by rw [HL.out.2.2, List.length_take]; exact Nat.min_eq_left hk
 have Hq3 := Lib.hid hq3; have Hq4 := Lib.hid hq4; have HO := Lib.hid hown; have HBW := Lib.hid hbw; have HNE := Lib.hid hne; have HLT := Lib.hid hown.lt; clear hq3 hq4 hown hbw hne
 have hw0 : w.heap.size < wr.heap.size := by omega
 have hw1 : w1.heap.size < wr.heap.size := by omega
 by_cases hlt : k < l.length
 case neg =>
  have hkl : l.take k = l := List.take_of_length_le (by omega)
  obtain ⟨q, cq, rfl, ho1, ho2, ho3, ho4⟩ := owns_val (by omega) HO.out
  go_wp2_with fail
  refine bodyPost_ret (by simp [results, Try.results33, go_sem, h1]; try rfl) rfl ?_
  refine ⟨pc, capc, q, cq, by rw [hkl], by rw [hkl] at hq1; exact hq1, hq2, Hq3.out, ?_, ?_, ho2, ho3, ?_, Below.setCell HBW.out (Nat.le_refl _) _⟩
  · have := Hq4.out; rw [hkl] at this; exact this.setBox h1 (gEnc_ne_slice _ _ _) _
  · rw [hkl] at ho1; exact ho1
  · have := ho4; rw [hkl] at this; exact this.setBox h1 (fun x j => by simp [iEnc]) _
 have hlt0 : (0 : Int) ≤ (k : Int) := by omega
 have hlt1 : (k : Int) < (l.length : Int) := by omega
 obtain ⟨s, hs⟩ : ∃ s, l[k]? = some s := ⟨_, List.getElem?_eq_getElem hlt⟩
 obtain ⟨hs1, hs2, hs3⟩ := Hs.out s (List.mem_of_getElem? hs)
 obtain ⟨b, off, rfl, hb, e4, e5, e6⟩ := step_cells Hg.out hs
 have h4 := oldcell HBW.out e4 hb
 have h5 := oldcell HBW.out e5 hb
 have h6 := oldcell HBW.out e6 hb
 have hb2 : b < wr.heap.size := World.block_lt_of_cell? _ _ h4
 have HS := Lib.hid (show cbuild (l.take (k + 1)) = cstep (cbuild (l.take k)) s from by
  obtain ⟨hk', he⟩ := List.getElem?_eq_some_iff.1 hs
  rw [List.take_succ_eq_append_getElem hk', he, cbuild_snoc])
 have Hsb := Lib.hid (show s.k < 256 ∧ s.a < 256 ∧ s.b < 256 from ⟨hs1, hs2, hs3⟩)
 clear e4 e5 e6 hs hs1 hs2 hs3
 obtain ⟨q, cq, rfl, ho1, ho2, ho3, ho4⟩ := owns_val (by omega) HO.out
 have Ho3 := Lib.hid ho3; have Ho4 := Lib.hid ho4; clear ho3 ho4
 generalize hcb : cbuild (l.take k) = X at *
 obtain ⟨gs, refs⟩ := X
 dsimp only at *
 have HCB := Lib.hid hcb; clear hcb
 go_upto_region 6 with fail
 go_cut [7, 8] (fun s7 s8 wx => ∃ b7 : Nat, s7 = .pointer (some ⟨b7, 0, none⟩) ∧ wr.heap.size ≤ b7 ∧ s8 = .int .i64 (cdo gs refs s).2 ∧ BoxC (Fresh wr pc) wx b7 (cdo gs refs s).1 ∧ Below wr.heap.size wr wx)
 case first =>
  go_region_held3 (fun w' => w'.cell? ⟨w1.heap.size, 0, none⟩ = some (.slice pc gs.length capc) ∧ w'.cell? ⟨b, off + k * 3, none⟩ = some (.int .u8 s.k) ∧ w'.cell? ⟨b, off + k * 3 + 1, none⟩ = some (.int .u8 s.a) ∧ w'.cell? ⟨b, off + k * 3 + 2, none⟩ = some (.int .u8 s.b)) (refine ⟨?_, ?_, ?_, ?_⟩ <;> (repeat (first | (with_reducible assumption) | (with_reducible refine keep_drew ?_) | (with_reducible refine keep_far ?_ (by dsimp only; omega)) | (go_cell; done) | (with_reducible refine keep_alloc ?_)))) (first | (go_at_call 88; (refine (rdo_any gs refs s pc q capc cq _ Hsb.out.1 Hsb.out.2.1 Hsb.out.2.2 (by rw [HRl.out]; omega) HL.out.2.1 HL.out.1 hq1 hq2 Hq3.out (Hq4.out.mono (by go_grown)) (Ho4.out.mono (by go_grown))).mono ?_); rintro e w2 ⟨p2, cap2, rfl, hr1, hr2, hr3, hr4, hbl, hfr⟩; have j0 := oldcell (b := w1.heap.size) (o := 0) (v := .slice pc gs.length capc) hbl (by go_cell) (by simp <;> omega); have j4 := oldcell (b := b) (o := off + k * 3) (v := .int .u8 s.k) hbl (by go_cell) (by simp <;> omega); have j5 := oldcell (b := b) (o := off + k * 3 + 1) (v := .int .u8 s.a) hbl (by go_cell) (by simp <;> omega); have j6 := oldcell (b := b) (o := off + k * 3 + 2) (v := .int .u8 s.b) hbl (by go_cell) (by simp <;> omega); have HZ := hbl.size; obtain ⟨hc1, hf1⟩ := bcell hbl))
  all_goals
   have HB : Below wr.heap.size wr w2 := Below.trans (by go_grown) (hbl.mono (by simp <;> omega))
   have HF : Fresh wr pc p2 := hfr.up (by simp)
   simp at HZ
   go_wp2_with fail
   go_meet
   refine ⟨_, rfl, ?_, rfl, ?_, ?_⟩
   · first | omega | (simp; omega) | simp
   · first | exact BoxC.new hr1 hr2 hr3 hr4 HF | (refine BoxC.put (a := none) (n := 0) (c := 0) ?_ ?_ hr1 hr2 hr3 hr4 HF <;> go_cell)
   · go_grown
 obtain ⟨b7, rfl, hb7, rfl, ⟨p2, cap2, g0, g0f, hr1, hr2, hr3, hr4, hfr⟩, hbx⟩ := hcut
 have f0 := oldcell hbx h0 (by omega)
 have f0f := oldfree hbx h0f (by omega)
 have f1 := oldcell hbx h1 (by omega)
 have f1f := oldfree hbx h1f (by omega)
 have HBX := Lib.hid hbx; have Hr3 := Lib.hid hr3; have Hr4 := Lib.hid hr4; have HFR := Lib.hid hfr; clear hbx hr3 hr4 hfr
 have hwx := HBX.out.size
 have HO2 := Lib.hid (ownsRow_setCell_below (owns_below HO.out HBX.out) (a := ⟨w1.heap.size, 0, none⟩) (by show w1.heap.size < B; omega) (.slice p2 (cdo gs refs s).1.length cap2))
 go_wp2_with (first | (at_builtin; go_must (refine wpList_app2 (enc := iEnc) rfl _ _ _ rfl B 3 i0 _ 8 Try.underlying42 hi0 hz0 hz1 hz2 rfl (by omega) _ refs rfl (HO2.out.alloc _) (some ⟨wc.heap.size, 0, none⟩) [(cdo gs refs s).2] 1 rfl (fun h => by cases h) (SlAt.int1 (by go_cell)) iEnc_one (by rw [HRl.out]; simp [maxLen]; omega) (by rw [HRl.out]; simp; omega) (by simp; omega) ?_); intro v2 w3 hown2 hgr2 hbl2 hat2; have n0 := oldcell hbl2 (keep_alloc (cell_set f0)) (by omega); have n0f := oldfree hbl2 (free_alloc (free_set f0f) (by simp; omega)) (by omega); have n1 := oldcell hbl2 (keep_alloc (keep_far f1 (by dsimp only; omega))) (by omega); have n1f := oldfree hbl2 (free_alloc (free_set f1f) (by simp; omega)) (by omega); have HOW2 := Lib.hid hown2; have HGR2 := Lib.hid hgr2; have HBL2 := Lib.hid hbl2; have HAT2 := Lib.hid hat2; clear hown2 hgr2 hbl2 hat2))
 have hfx : ∀ a, p2 = some a → some a.block ≠ (Value.slice q refs.length cq).ownBlock := by
  intro a ha
  rcases HFR.out with h | h
  · exact HNE.out a (h ▸ ha)
  · intro e
    have := (HLT.out a.block e.symm).2
    have := h a ha
    omega
 have hg5 := SlAt.grown (((Hr4.out.setBox f0 (gEnc_ne_slice _ _ _) (.slice p2 (cdo gs refs s).1.length cap2)).mono (w' := (wc.setCell ⟨w1.heap.size, 0, none⟩ (.slice p2 (cdo gs refs s).1.length cap2)).alloc (.cells #[.int .i64 (cdo gs refs s).2] 3)) (by go_grown))) HGR2.out hfx
 have hp2 : ∀ a, p2 = some a → a.block < wc.heap.size := by
  intro a ha
  rcases Hr4.out with h | ⟨b, off, hp, hb, _⟩
  · exact absurd h (cdo_ne (cbuild_ne HCB.out))
  · rw [ha] at hp; cases hp; exact hb
 go_roundg (l.length - (k + 1))
 case measure => omega
 refine ⟨k + 1, B, by go_num, by omega, rfl, hBl, by have := HBL2.out.size; simp at this; omega, ?_, ⟨n1, n1f⟩, ?_, HBW.out.trans (HBX.out.mono (by have := HBW.out.size; exact this) |>.trans (Below.trans (by go_grown) (HBL2.out.mono (by omega))))⟩
 · rw [HS.out]
   refine ⟨p2, cap2, n0, n0f, hr1, hr2, Hr3.out, hg5, fun a ha => ?_⟩
   rcases HAT2.out with h | h
   · rw [h]; exact hfx a ha
   · rw [h]; have := hp2 a ha; simp; omega
 · rw [HS.out]; exact HOW2.out
end Go.Proofs.Ytadilppdlbhjnaa
