/- The reference of layer 21 over memory. -/
import Derived.Test.YtdibfjcmgbpnpaaKV
import Derived.Test.YtdibfjcmgbpnpaaS10
import Derived.Test.YtdibfjcmgbpnpaaKW
namespace Go.Proofs.Ytdibfjcmgbpnpaa
set_option linter.unusedSimpArgs false
set_option linter.unusedVariables false
open Go.RowKit

/-- a slice of slices of ints in memory -/
structure CsAt (K : Nat → Prop) (w : World) (q : Option Addr) (cq : Nat) (L : List (List Int)) : Prop where
  le : L.length ≤ cq
  cm : cq ≤ maxLen
  q0 : q = none → cq = 0
  lt : ∀ a, q = some a → a.block < w.heap.size ∧ K a.block
  at' : ∀ (i : Nat) (l : List Int), L[i]? = some l → ∃ b off p c, q = some ⟨b, off, none⟩ ∧ w.cell? ⟨b, off + i, none⟩ = some (.slice p l.length c) ∧ SI w p c l ∧ (l ≠ [] → ∀ a, p = some a → K a.block)
theorem SI.keep' {w w' : World} {p : Option Addr} {c : Nat} {l : List Int} (h : SI w p c l) (hs : w.heap.size ≤ w'.heap.size) (hk : l ≠ [] → ∀ a, p = some a → w'.heap[a.block]? = w.heap[a.block]?) : SI w' p c l := by
  refine ⟨h.le, h.cm, h.q0, ?_, fun h0 a ha => Nat.lt_of_lt_of_le (h.lt h0 a ha) hs⟩
  by_cases h0 : l = []
  · exact .inl h0
  · rcases h.at' with e | ⟨b, off, hp, hb, hc⟩
    · exact .inl e
    · refine .inr ⟨b, off, hp, Nat.lt_of_lt_of_le hb hs, fun i x hi j hj => ?_⟩
      have hbk : w'.heap[b]? = w.heap[b]? := hk h0 _ hp
      rw [World.cell?_of_block hbk]
      exact hc i x hi j hj
theorem CsAt.keep {K : Nat → Prop} {w w' : World} {q : Option Addr} {cq : Nat} {L : List (List Int)} (h : CsAt K w q cq L) (hs : w.heap.size ≤ w'.heap.size) (hk : ∀ g, K g → g < w.heap.size → w'.heap[g]? = w.heap[g]?) : CsAt K w' q cq L :=
  ⟨h.le, h.cm, h.q0, fun a ha => ⟨Nat.lt_of_lt_of_le (h.lt a ha).1 hs, (h.lt a ha).2⟩, fun i l hi => by
    obtain ⟨b, off, p, c, h1, h2, h3, h4⟩ := h.at' i l hi
    have hb := h.lt _ h1
    exact ⟨b, off, p, c, h1, (World.cell?_of_block (hk b hb.2 hb.1)).trans h2, h3.keep' hs fun h0 a ha => hk _ (h4 h0 a ha) (h3.lt h0 a ha), h4⟩⟩
theorem CsAt.up {K : Nat → Prop} {w w' : World} {q : Option Addr} {cq : Nat} {L : List (List Int)} (h : CsAt K w q cq L) (hB : Below w.heap.size w w') : CsAt K w' q cq L :=
  h.keep hB.size fun g _ hg => hB.block g hg
theorem CsAt.imp {K K' : Nat → Prop} {w : World} {q : Option Addr} {cq : Nat} {L : List (List Int)} (h : CsAt K w q cq L) (hk : ∀ g, K g → g < w.heap.size → K' g) : CsAt K' w q cq L :=
  ⟨h.le, h.cm, h.q0, fun a ha => ⟨(h.lt a ha).1, hk _ (h.lt a ha).2 (h.lt a ha).1⟩, fun i l hi => by
    obtain ⟨b, off, p, c, h1, h2, h3, h4⟩ := h.at' i l hi
    exact ⟨b, off, p, c, h1, h2, h3, fun h0 a ha => hk _ (h4 h0 a ha) (h3.lt h0 a ha)⟩⟩
theorem any_take_succ {α : Type} {f : α → Bool} {l : List α} {k : Nat} {x : α} (h : l[k]? = some x) : (l.take (k + 1)).any f = ((l.take k).any f || f x) := by
  rw [take_succ_eq h, List.any_append]; simp
theorem all_take_succ {α : Type} {f : α → Bool} {l : List α} {k : Nat} {x : α} (h : l[k]? = some x) : (l.take (k + 1)).all f = ((l.take k).all f && f x) := by
  rw [take_succ_eq h, List.all_append]; simp
theorem all_false {α : Type} {f : α → Bool} {l : List α} {k : Nat} {x : α} (h : l[k]? = some x) (hx : f x = false) : l.all f = false := by
  rw [List.all_eq_false]; exact ⟨x, List.mem_of_getElem? h, by rw [hx]; simp⟩
set_option maxRecDepth 100000 in
set_option maxHeartbeats 4000000 in
theorem satisfies_any {n : Nat} {w : World} {p q r : Option Addr} {cp cq cr : Nat} {vs : List Bool} {L : List (List Int)} {am : List Int} {K : Nat → Prop} (hv : SB w p cp vs) (hvl : vs.length = n) (hn : n ≤ 1000000) (hc : CsAt K w q cq L) (hL : ∀ c ∈ L, ∀ x ∈ c, LOk n x) (ha : SI w r cr am) (hA : ∀ x ∈ am, LOk n x) :
    Calls Try.prog 24 #[.slice p n cp, .slice q L.length cq, .slice r am.length cr] w fun e w' => e = .returned (.bool (rsat vs L am)) ∧ w' = w := by
 have hlm := ha.cm; have hll := ha.le
 have hcm := hc.cm; have hcl := hc.le
 simp only [maxLen] at hlm hcm
 obtain ⟨t, ht⟩ : ∃ z, rsat vs L am = z := ⟨_, rfl⟩
 rw [ht]
 obtain ⟨N, hN⟩ : ∃ z, am.length = z := ⟨_, rfl⟩
 obtain ⟨M, hM⟩ : ∃ z, L.length = z := ⟨_, rfl⟩
 rw [hN] at hll ⊢; rw [hM] at hcl ⊢
 have HV := Lib.hid hv; have HVL := Lib.hid hvl; have HC := Lib.hid hc; have HL := Lib.hid hL; have HA := Lib.hid ha; have HAA := Lib.hid hA; have HT := Lib.hid ht; have HN := Lib.hid hN; have HM := Lib.hid hM
 clear hv hvl hc hL ha hA ht hN hM
 go_enter Try.func24, Try.ntmps24
 go_wp2_with fail
 go_loopg [7] N (fun G s7 wr => ∃ j : Nat, s7 = .int .i64 j ∧ j ≤ N ∧ G = N - j ∧ wr = w ∧ (am.take j).all (rtru vs) = true)
 case atStart => exact ⟨0, rfl, by omega, rfl, rfl, rfl⟩
 case round =>
  obtain ⟨j, rfl, hj, hG, hw, hT⟩ := hrel
  replace hw := hw.symm; subst hw
  have HG := Lib.hid hG; have HTT := Lib.hid hT; clear hG hT
  by_cases hlt : j < N
  case pos =>
   obtain ⟨x, hx⟩ : ∃ x, am[j]? = some x := ⟨_, List.getElem?_eq_getElem (by rw [HN.out]; exact hlt)⟩
   obtain ⟨b1, o1, rfl, hb1, c0⟩ := int_cell' HA.out.at' hx
   have hjl : (j : Int) < (N : Int) := by omega
   have htr := rtrue_any HV.out HVL.out hn (HAA.out x (List.mem_of_getElem? hx))
   obtain ⟨u, hu⟩ : ∃ z, rtru vs x = z := ⟨_, rfl⟩
   rw [hu] at htr
   have HX := Lib.hid hx; have HTR := Lib.hid htr; have HU := Lib.hid hu
   clear hx htr hu hb1
   cases u with
   | true =>
     go_wp2_with (first | (go_at_call 46; refine HTR.out.mono ?_; rintro e w1 ⟨rfl, hw⟩; replace hw := hw.symm; subst hw))
     go_roundg (N - (j + 1))
     case measure => (have := HG.out; omega)
     case rel => exact ⟨j + 1, by go_num, by omega, rfl, rfl, by rw [all_take_succ HX.out, HTT.out, HU.out]; rfl⟩
   | false =>
     go_wp2_with (first | (go_at_call 46; refine HTR.out.mono ?_; rintro e w1 ⟨rfl, hw⟩; replace hw := hw.symm; subst hw))
     go_ret
     refine ⟨?_, rfl⟩
     rw [← HT.out]; unfold rsat
     rw [all_false HX.out HU.out]; rfl
  case neg =>
   obtain rfl : j = N := by omega
   have hall : am.all (rtru vs) = true := by have h := HTT.out; rw [← HN.out, List.take_length] at h; exact h
   have HALL := Lib.hid hall; clear hall HTT HG
   go_wp2_with fail
   go_loopg [8] M (fun G s8 wr => ∃ j : Nat, s8 = .int .i64 j ∧ j ≤ M ∧ G = M - j ∧ wr = w ∧ (L.take j).all (fun c => c.any (rtru vs)) = true)
   case atStart => exact ⟨0, rfl, by omega, rfl, rfl, rfl⟩
   case round =>
    obtain ⟨k, rfl, hk, hG, hw, hT⟩ := hrel
    replace hw := hw.symm; subst hw
    have HG := Lib.hid hG; have HTT := Lib.hid hT; clear hG hT
    by_cases hlk : k < M
    case neg =>
     obtain rfl : k = M := by omega
     have hall2 : L.all (fun c => c.any (rtru vs)) = true := by have h := HTT.out; rw [← HM.out, List.take_length] at h; exact h
     have HALL2 := Lib.hid hall2; clear hall2
     go_wp2_with fail
     go_ret
     refine ⟨?_, rfl⟩
     rw [← HT.out]; unfold rsat
     rw [HALL.out, HALL2.out]; rfl
    case pos =>
     obtain ⟨c, hc⟩ : ∃ x, L[k]? = some x := ⟨_, List.getElem?_eq_getElem (by rw [HM.out]; exact hlk)⟩
     obtain ⟨b1, o1, p1, c1, rfl, x0, hsi, -⟩ := HC.out.at' k c hc
     obtain ⟨P, hP⟩ : ∃ z, c.length = z := ⟨_, rfl⟩
     have hsm := hsi.cm; have hsl := hsi.le
     simp only [maxLen] at hsm
     rw [hP] at x0 hsl
     have hkl : (k : Int) < (M : Int) := by omega
     have HX := Lib.hid hc; have HSI := Lib.hid hsi; have HP := Lib.hid hP
     clear hc hsi hP
     go_wp2_with fail
     go_loopg [9, 10] P (fun G s9 s10 wr => ∃ i : Nat, s10 = .int .i64 i ∧ i ≤ P ∧ G = P - i ∧ wr = w ∧ s9 = .bool ((c.take i).any (rtru vs)))
     case atStart => exact ⟨0, rfl, by omega, rfl, rfl, rfl⟩
     case round =>
      obtain ⟨i, rfl, hi, hG, hw, rfl⟩ := hrel
      replace hw := hw.symm; subst hw
      have HG2 := Lib.hid hG; clear hG
      obtain ⟨u, hu⟩ : ∃ z, (c.take i).any (rtru vs) = z := ⟨_, rfl⟩
      rw [hu]
      have HU := Lib.hid hu; clear hu
      by_cases hli : i < P
      case neg =>
       obtain rfl : i = P := by omega
       have hany : c.any (rtru vs) = u := by have h := HU.out; rw [← HP.out, List.take_length] at h; exact h
       have HANY := Lib.hid hany; clear hany
       cases u with
       | true =>
         go_wp2_with fail
         go_roundg (M - (k + 1))
         case measure => (have := HG.out; omega)
         case rel => exact ⟨k + 1, by go_num, by omega, rfl, rfl, by rw [all_take_succ HX.out, HTT.out, HANY.out]; rfl⟩
       | false =>
         go_wp2_with fail
         go_ret
         refine ⟨?_, rfl⟩
         rw [← HT.out]; unfold rsat
         rw [all_false (f := fun c => c.any (rtru vs)) HX.out HANY.out, Bool.and_false]; rfl
      case pos =>
       obtain ⟨y, hy⟩ : ∃ x, c[i]? = some x := ⟨_, List.getElem?_eq_getElem (by rw [HP.out]; exact hli)⟩
       obtain ⟨b2, o2, rfl, hb2, c2⟩ := int_cell' HSI.out.at' hy
       have hil : (i : Int) < (P : Int) := by omega
       have htr := rtrue_any HV.out HVL.out hn (HL.out c (List.mem_of_getElem? HX.out) y (List.mem_of_getElem? hy))
       obtain ⟨t2, ht2⟩ : ∃ z, rtru vs y = z := ⟨_, rfl⟩
       rw [ht2] at htr
       have HTR := Lib.hid htr; have HY := Lib.hid hy; have HT2 := Lib.hid ht2
       clear htr hy ht2 hb2
       cases u with
       | true =>
         go_wp2_with fail
         go_roundg (P - (i + 1))
         case measure => (have := HG2.out; omega)
         case rel => exact ⟨i + 1, by go_num, by omega, rfl, rfl, by rw [any_take_succ HY.out, HU.out]; rfl⟩
       | false =>
         go_wp2_with (first | (go_at_call 46; refine HTR.out.mono ?_; rintro e w1 ⟨rfl, hw⟩; replace hw := hw.symm; subst hw))
         go_roundg (P - (i + 1))
         case measure => (have := HG2.out; omega)
         case rel => exact ⟨i + 1, by go_num, by omega, rfl, rfl, by rw [any_take_succ HY.out, HU.out, HT2.out]; rfl⟩
/-- a value of one cell is appended to a slice of its own -/
theorem own_app1g {w wb wa : World} {B n : Nat} {p : Option Addr} {c : Nat} {xs : List Value} {i0 : TypeInfo} {S T : TypeId} {z u : Value} {bytes : Nat} (hS : Try.prog.underlying S = some (.slice T)) (hi0 : Try.prog.info? T = some i0) (hz0 : i0.zero = some z) (hz1 : i0.size = 1) (hz2 : i0.bytes = bytes) (hzc : z.cells.size = 1) (hu : u.oneCell' = true) (hby : bytes ≤ 100)
    (h : w.ownsRow B T 1 (.slice p n c) n xs) (h1 : Below w.heap.size w wb) (h2 : Below (wb.alloc (.cells #[u] T)).heap.size (wb.alloc (.cells #[u] T)) wa) (hn : n ≤ 2000000) (hb : B ≤ w.heap.size) :
    ∃ q c' w', (Builtin.append_ #[S, S] S #[.slice p n c, .slice (some ⟨wb.heap.size, 0, none⟩) 1 1]).run Try.prog wa = .ok (.slice q (n + 1) c') w' ∧ w'.ownsRow B T 1 (.slice q (n + 1) c') (n + 1) (xs ++ [u]) ∧ Below B w w' := by
  have hB0 : Below wb.heap.size wb (wb.alloc (.cells #[u] T)) := by go_grown
  have hB : Below w.heap.size w wa := btr (btr h1 hB0) h2
  have ho : wa.ownsRow B T 1 (.slice p n c) n xs := owns_keep h fun g hg => hB.block g (owns_lt h hg)
  obtain ⟨v', w', hr, h3, h4, -, h5⟩ := run_append_own_at (P := Try.prog) wa B S S T i0 _ 1 bytes hS hi0 hz0 hz1 hz2 hzc (by decide) _ n xs ho (⟨wb.heap.size, 0, none⟩) 1 1 [u] rfl (fun j u' hu' => by
    have e := one_new wb u T j u' hu'
    rw [World.cell?_of_block (h2.block _ (World.block_lt_of_cell? _ _ e))]; exact e) (fun u' hu' => by simp only [List.mem_singleton] at hu'; subst hu'; exact hu) (by simp only [maxLen]; omega) (by have := Nat.mul_le_mul_right bytes (show n + 1 ≤ 2000001 by omega); have := Nat.mul_le_mul_left 2000001 hby; omega) (Nat.le_trans hb hB.size)
  have hbl : Below B w w' := (hB.mono hb).grown h4 (Nat.le_trans hb hB.size) fun k hk => (World.ownsRow.lt ho k hk).1
  rcases id h3.2 with ⟨q, q2⟩ | ⟨g', cap, cur, rfl, -⟩
  · omega
  · exact ⟨_, _, w', hr, h3, hbl⟩
theorem flat_bV (l : List Bool) : flat 1 bEnc l = bV l := by
  unfold flat bV bEnc
  induction l with
  | nil => rfl
  | cons x t ih =>
    rw [List.flatMap_cons, ih, List.map_cons]; rfl
theorem SB.of_owns {w : World} {B : Nat} {p : Option Addr} {c : Nat} {l : List Bool} (h : w.ownsRow B 4 1 (.slice p l.length c) l.length (bV l)) : SB w p c l := by
  have h' : OwnG 1 bEnc 4 w B (.slice p l.length c) l := by unfold OwnG; rw [flat_bV]; exact h
  obtain ⟨q, cq, e, h1, h2, h3, h4, h5⟩ := h'.val (by decide)
  simp only [Value.slice.injEq] at e
  obtain ⟨rfl, -, rfl⟩ := e
  exact ⟨h1, h2, h3, h4, fun a ha => (h5 a ha).2⟩
theorem bV_snoc (l : List Bool) (x : Bool) : bV l ++ [.bool x] = bV (l ++ [x]) := by unfold bV; rw [List.map_append]; rfl
theorem mvals_snoc (n : Nat) (m : List Int) (v : Nat) (h : v < n) : (mvals n m).take (v + 1) = (mvals n m).take v ++ [Decidable.decide (0 < m.getD (v + 1) 0)] := by
  have e : (mvals n m)[v]? = some (Decidable.decide (0 < m.getD (v + 1) 0)) := by unfold mvals; simp [h]
  exact take_succ_eq e
set_option maxRecDepth 100000 in
set_option maxHeartbeats 4000000 in
/-- the values behind a search -/
theorem values_any {n : Nat} {w : World} {o : Nat → Option Role} {b : Nat} {s : SS} (h : SolAt w o b s) (hn : n ≤ 10) (hm : s.model.length = n + 1) :
    Calls Try.prog 23 #[.pointer (some ⟨b, 0, none⟩), .int .i64 n] w fun e w' => ∃ q cq, e = .returned (.slice q n cq) ∧ w'.ownsRow w.heap.size 4 1 (.slice q n cq) n (bV (mvals n s.model)) ∧ Below w.heap.size w w' := by
 obtain ⟨i0, hi0, hz0, hz1, hz2⟩ := info_parts bool_info'
 have HS := Lib.hid h; have HM := Lib.hid hm; clear h hm
 go_enter Try.func23, Try.ntmps23
 go_upto_region 2 with fail
 obtain ⟨w1, hw1⟩ : ∃ z, z = w.alloc (.cells #[] 4) := ⟨_, rfl⟩
 have hb1 : Below w.heap.size w w1 := by rw [hw1]; go_grown
 have own1 : w1.ownsRow w.heap.size 4 1 (.slice (some ⟨w.heap.size, 0, none⟩) 0 0) 0 [] := by rw [hw1]; exact World.ownsRow_made w #[] 0 (Nat.le_refl _) (Nat.zero_le _) rfl
 rw [← hw1]
 clear hw1
 go_wp2_with fail
 go_loopg [5, 6] n (fun G s5 s6 wr => ∃ (j : Nat) (q : Option Addr) (c : Nat), s6 = .int .i64 (j + 1 : Nat) ∧ s5 = .slice q j c ∧ j ≤ n ∧ G = n - j ∧ wr.ownsRow w.heap.size 4 1 (.slice q j c) j (bV ((mvals n s.model).take j)) ∧ Below w.heap.size w wr)
 case atStart => exact ⟨0, _, _, rfl, rfl, by omega, rfl, own1, hb1⟩
 case round =>
  obtain ⟨j, q, c, rfl, rfl, hj, hG, hO, hbw⟩ := hrel
  have HG := Lib.hid hG; clear hG own1 hb1
  obtain ⟨v, hv⟩ : ∃ z, j + 1 = z := ⟨_, rfl⟩
  rw [hv]
  by_cases hlt : j < n
  case pos =>
   have hvn : (v : Int) ≤ (n : Int) := by omega
   have hv10 : (v : Int) ≤ 10 := by omega
   have hva := fun (wx : World) (hb : Below w.heap.size w wx) => value_any (HS.out.up hb) (v : Int)
   obtain ⟨t, ht⟩ : ∃ t, (decide (0 < (v : Int)) && decide ((v : Int) < (s.model.length : Int)) && decide (0 < s.model.getD (v : Int).toNat 0)) = t := ⟨_, rfl⟩
   have htm : decide (0 < s.model.getD (j + 1) 0) = t := by
     rw [← ht, decide_eq_true (show (0 : Int) < (v : Int) by omega), decide_eq_true (show (v : Int) < (s.model.length : Int) by rw [HM.out]; omega), Int.toNat_natCast, hv]; rfl
   rw [ht] at hva
   obtain ⟨q2, c2, w3, hrun, hO3, hb3⟩ := own_app1g (u := .bool t) Try.underlying37 hi0 hz0 hz1 hz2 rfl rfl (by decide) hO (Below.refl _ _) (Below.refl _ _) (by omega) hbw.size
   have hvv := hva wr hbw
   have HVA := Lib.hid hvv; have HTM := Lib.hid htm; have HO3 := Lib.hid hO3; have HB3 := Lib.hid (hbw.trans hb3); have HVJ := Lib.hid hv
   clear hva hvv ht htm hO3 hb3 hO hbw hv
   go_wp2_with (first | (go_at_call 18; refine HVA.out.mono ?_; rintro e w2 ⟨rfl, hw⟩; replace hw := hw.symm; subst hw) | (at_builtin; go_must (refine wpList_run rfl (exec_app rfl rfl rfl hrun) ?_)))
   go_roundg (n - (j + 1))
   case measure => (have := HG.out; omega)
   case rel =>
     have e := HVJ.out
     refine ⟨j + 1, q2, c2, by rw [← e]; go_num, rfl, by omega, rfl, ?_, HB3.out⟩
     rw [mvals_snoc _ _ _ hlt, HTM.out, ← bV_snoc]
     exact HO3.out
  case neg =>
   obtain rfl : j = n := by omega
   have hvn : ¬ (v : Int) ≤ (j : Int) := by omega
   rw [List.take_of_length_le (by rw [mvals_len]; exact Nat.le_refl _)] at hO
   have HO := Lib.hid hO; have HB := Lib.hid hbw
   clear hO hbw hv
   go_wp2_with fail
   go_ret
   exact ⟨q, c, rfl, HO.out, HB.out⟩
theorem bits_step {n k i m rest : Nat} {v : List Bool} (h : v ++ bits (m + 1) rest = bits n k) : (v ++ [decide (2 ^ m ≤ rest)]) ++ bits m (if 2 ^ m ≤ rest then rest - 2 ^ m else rest) = bits n k := by
  rw [← h, List.append_assoc]; rfl
theorem pow_le_1024 {i : Nat} (h : i ≤ 10) : 2 ^ i ≤ 1024 := by
  have := Nat.pow_le_pow_right (n := 2) (by omega) h
  simpa using this
set_option maxRecDepth 100000 in
set_option maxHeartbeats 4000000 in
theorem least_any {n : Nat} {w : World} {q r : Option Addr} {cq cr : Nat} {L : List (List Int)} {am : List Int} {K : Nat → Prop} (hn : n ≤ 10) (hc : CsAt K w q cq L) (hL : ∀ c ∈ L, ∀ x ∈ c, LOk n x) (ha : SI w r cr am) (hA : ∀ x ∈ am, LOk n x) :
    Calls Try.prog 20 #[.int .i64 n, .slice q L.length cq, .slice r am.length cr] w fun e w' => (∃ p c v ok, e = .returned (.tuple #[.slice p v.length c, .bool ok]) ∧ SB w' p c v ∧ (rleast n L am = if ok = true then some v else none)) ∧ Below w.heap.size w w' := by
 obtain ⟨i0, hi0, hz0, hz1, hz2⟩ := info_parts bool_info'
 have hsat := fun (wx : World) (hb : Below w.heap.size w wx) (p : Option Addr) (c : Nat) (vs : List Bool) (hv : SB wx p c vs) (hvl : vs.length = n) => satisfies_any hv hvl (by omega) (hc.up hb) hL (ha.up hb) hA
 obtain ⟨N, hN⟩ : ∃ z, am.length = z := ⟨_, rfl⟩
 obtain ⟨M, hM⟩ : ∃ z, L.length = z := ⟨_, rfl⟩
 rw [hN, hM] at hsat ⊢
 have HSAT := Lib.hid hsat
 clear hsat hc hL ha hA hN hM
 have hb0 := Below.refl w.heap.size w
 have HB0 := Lib.hid hb0; clear hb0
 go_enter Try.func20, Try.ntmps20
 go_wp2_with fail
 go_loopg [8, 9] n (fun G s8 s9 wr => ∃ (i P : Nat), s9 = .int .i64 i ∧ s8 = .int .i64 P ∧ i ≤ n ∧ G = n - i ∧ wr = w ∧ P = 2 ^ i)
 case atStart => exact ⟨0, 1, rfl, rfl, by omega, rfl, rfl, rfl⟩
 case round =>
  obtain ⟨i, P, rfl, rfl, hi, hG, hw, hP⟩ := hrel
  replace hw := hw.symm; subst hw
  have hP2 : P ≤ 1024 := by rw [hP]; exact pow_le_1024 (by omega)
  have HG := Lib.hid hG; have HP := Lib.hid hP; clear hG hP
  by_cases hlt : i < n
  case pos =>
   have hil : (i : Int) < (n : Int) := by omega
   have hi10 : (i : Int) < 10 := by omega
   obtain ⟨P2, hPP⟩ : ∃ z, P * 2 = z := ⟨_, rfl⟩
   have hwm : IntKind.i64.wrap ((P : Int) * 2) = (P2 : Int) := by rw [wrapI (by omega) (by omega)]; omega
   go_wp2_with fail
   go_roundg (n - (i + 1))
   case measure => (have := HG.out; omega)
   case rel => exact ⟨i + 1, P2, by go_num, rfl, by omega, rfl, rfl, by rw [Nat.pow_succ, ← HP.out, hPP]⟩
  case neg =>
  obtain rfl : i = n := by omega
  clear HG hlt hi
  go_wp2_with fail
  go_loopg [10] P (fun G s10 wr => ∃ k : Nat, s10 = .int .i64 k ∧ k ≤ P ∧ G = P - k ∧ Below w.heap.size w wr ∧ ∀ j, j < k → rsat (bits i j) L am = false)
  case atStart => exact ⟨0, rfl, by omega, rfl, HB0.out, fun j hj => by omega⟩
  case round =>
   obtain ⟨k, rfl, hk, hG, hbw, hno⟩ := hrel
   have HG := Lib.hid hG; have HNO := Lib.hid hno; have HBW := Lib.hid hbw; clear hG hno hbw HB0
   obtain ⟨w1, hw1⟩ : ∃ z, z = wr := ⟨_, rfl⟩
   subst hw1
   by_cases hkP : k < P
   case neg =>
    obtain rfl : k = P := by omega
    have hnone : rleast i L am = none := by
      unfold rleast
      rw [rfirst_none fun j _ hj => HNO.out j (by rw [HP.out]; omega)]; rfl
    have HNN := Lib.hid hnone; clear hnone
    go_wp2_with fail
    refine bodyPost_ret (results_tmp2 rfl _ _ _) rfl ?_
    exact ⟨⟨none, 0, [], false, rfl, ⟨Nat.le_refl _, Nat.zero_le _, fun _ => rfl, .inl rfl, fun a ha => by cases ha⟩, HNN.out⟩, HBW.out⟩
   case pos =>
    have hkl : (k : Int) < (P : Int) := by omega
    go_upto_region 12 with fail
    obtain ⟨w2, hw2⟩ : ∃ z, z = w1.alloc (.cells #[] 4) := ⟨_, rfl⟩
    have hb2 : Below w.heap.size w w2 := by rw [hw2]; exact bal HBW.out _
    have own2 : w2.ownsRow w.heap.size 4 1 (.slice (some ⟨w1.heap.size, 0, none⟩) 0 0) 0 [] := by rw [hw2]; exact own_weaken (World.ownsRow_made w1 #[] 0 (Nat.le_refl _) (Nat.zero_le _) rfl) HBW.out.size
    rw [← hw2]
    clear hw2
    go_wp2_with fail
    go_loopg [11, 12, 13, 14] i (fun G s11 s12 s13 s14 wr => ∃ (j part rest : Nat) (q : Option Addr) (c : Nat) (v : List Bool), s14 = .int .i64 j ∧ s13 = .int .i64 part ∧ s12 = .int .i64 rest ∧ s11 = .slice q j c ∧ j ≤ i ∧ G = i - j ∧ rest ≤ 1024 ∧ wr.ownsRow w.heap.size 4 1 (.slice q j c) j (bV v) ∧ Below w.heap.size w wr ∧ part = 2 ^ (i - j) ∧ v.length = j ∧ v ++ bits (i - j) rest = bits i k)
    case atStart => exact ⟨0, P, k, _, _, [], rfl, rfl, rfl, rfl, by omega, rfl, by omega, own2, hb2, HP.out, rfl, rfl⟩
    case round =>
     obtain ⟨j, part, rest, q, c, v, rfl, rfl, rfl, rfl, hj, hG2, hrest, hO, hbw, hpart, hvl, hbits⟩ := hrel
     have HG2 := Lib.hid hG2; have HVL := Lib.hid hvl; have HBI := Lib.hid hbits; clear hG2 own2 hb2 hvl hbits
     obtain ⟨w3, hw3⟩ : ∃ z, z = wr := ⟨_, rfl⟩
     subst hw3
     by_cases hlt : j < i
     case pos =>
      have hil : (j : Int) < (i : Int) := by omega
      have hi10 : (j : Int) < 10 := by omega
      obtain ⟨m, hm⟩ : ∃ m, i - j = m + 1 := ⟨i - j - 1, by omega⟩
      obtain ⟨Q, hQ⟩ : ∃ z, 2 ^ m = z := ⟨_, rfl⟩
      have hpq : part = Q * 2 := by rw [hpart, hm, Nat.pow_succ, hQ]
      have hq1 : Q ≤ 1024 := by rw [← hQ]; exact pow_le_1024 (by omega)
      have hdiv : (part : Int).tdiv 2 = (Q : Int) := by rw [hpq, Int.natCast_mul]; exact Int.mul_tdiv_cancel _ (by decide)
      obtain ⟨t, ht⟩ : ∃ z, decide (Q ≤ rest) = z := ⟨_, rfl⟩
      obtain ⟨q2, c2, w4, hrun, hO3, hb3⟩ := own_app1g (u := .bool t) Try.underlying37 hi0 hz0 hz1 hz2 rfl rfl (by decide) hO (Below.refl _ _) (Below.refl _ _) (by omega) hbw.size
      have HO3 := Lib.hid hO3; have HB3 := Lib.hid (hbw.trans hb3); have HM := Lib.hid hm; have HQ := Lib.hid hQ
      have e1 : i - (j + 1) = m := by omega
      have HE1 := Lib.hid e1
      clear hO3 hb3 hO hbw hm hQ e1 hpart hpq
      by_cases hqr : Q ≤ rest
      · have hqi : (Q : Int) ≤ (rest : Int) := by omega
        have ht1 : t = true := by rw [← ht]; exact decide_eq_true hqr
        subst ht1
        obtain ⟨R, hR⟩ : ∃ z, rest - Q = z := ⟨_, rfl⟩
        have hws : IntKind.i64.wrap ((rest : Int) - (Q : Int)) = (R : Int) := by rw [wrapI (by omega) (by omega)]; omega
        clear ht
        go_wp2_with (first | (at_builtin; go_must (refine wpList_run rfl (exec_app rfl rfl rfl hrun) ?_)))
        go_roundg (i - (j + 1))
        case measure => (have := HG2.out; omega)
        case rel =>
          refine ⟨j + 1, Q, R, q2, c2, v ++ [true], by go_num, rfl, rfl, rfl, by omega, rfl, by omega, ?_, HB3.out, ?_, by rw [List.length_append, HVL.out]; rfl, ?_⟩
          · rw [← bV_snoc]; exact HO3.out
          · rw [HE1.out, HQ.out]
          · have h := HBI.out
            rw [HM.out] at h
            have h2 := bits_step (i := 0) h
            rw [HQ.out, if_pos hqr, decide_eq_true hqr, hR] at h2
            rw [HE1.out]; exact h2
      · have hqi : ¬ (Q : Int) ≤ (rest : Int) := by omega
        have ht1 : t = false := by rw [← ht]; exact decide_eq_false hqr
        subst ht1
        clear ht
        go_wp2_with (first | (at_builtin; go_must (refine wpList_run rfl (exec_app rfl rfl rfl hrun) ?_)))
        go_roundg (i - (j + 1))
        case measure => (have := HG2.out; omega)
        case rel =>
          refine ⟨j + 1, Q, rest, q2, c2, v ++ [false], by go_num, rfl, rfl, rfl, by omega, rfl, by omega, ?_, HB3.out, ?_, by rw [List.length_append, HVL.out]; rfl, ?_⟩
          · rw [← bV_snoc]; exact HO3.out
          · rw [HE1.out, HQ.out]
          · have h := HBI.out
            rw [HM.out] at h
            have h2 := bits_step (i := 0) h
            rw [HQ.out, if_neg hqr, decide_eq_false hqr] at h2
            rw [HE1.out]; exact h2
     case neg =>
      obtain rfl : j = i := by omega
      have hv : v = bits j k := by have h := HBI.out; rw [Nat.sub_self] at h; simpa [bits] using h
      have hsb : SB w3 q c v := SB.of_owns (by rw [HVL.out]; exact hO)
      have hsc := HSAT.out w3 hbw q c v hsb HVL.out
      obtain ⟨t, ht⟩ : ∃ z, rsat v L am = z := ⟨_, rfl⟩
      rw [ht] at hsc
      have HSB := Lib.hid hsb; have HSC := Lib.hid hsc; have HT := Lib.hid ht; have HV := Lib.hid hv; have HB5 := Lib.hid hbw
      clear hsb hsc ht hv hO hbw
      cases t with
      | true =>
        have hsome : rleast j L am = some v := by
          unfold rleast
          rw [rfirst_some (m := k) (Nat.zero_le _) (by rw [Nat.zero_add, ← HP.out]; exact hkP) (by rw [← HV.out]; exact HT.out) (fun i _ hi => HNO.out i hi), HV.out]; rfl
        have HSM := Lib.hid hsome; clear hsome
        go_wp2_with (first | (go_at_call 24; refine HSC.out.mono ?_; rintro e w4 ⟨rfl, hw⟩; replace hw := hw.symm; subst hw))
        refine bodyPost_ret (results_tmp2 rfl _ _ _) rfl ?_
        exact ⟨⟨q, c, v, true, by rw [HVL.out]; rfl, HSB.out, HSM.out⟩, HB5.out⟩
      | false =>
        go_wp2_with (first | (go_at_call 24; refine HSC.out.mono ?_; rintro e w4 ⟨rfl, hw⟩; replace hw := hw.symm; subst hw))
        go_roundg (P - (k + 1))
        case measure => (have := HG.out; omega)
        case rel =>
          refine ⟨k + 1, by go_num, by omega, rfl, HB5.out, fun i hi => ?_⟩
          rcases Nat.lt_or_ge i k with z | z
          · exact HNO.out i z
          · rw [show i = k by omega, ← HV.out]; exact HT.out
def routcome (n : Nat) (L : List (List Int)) (am : List Int) : Int := if (rleast n L am).isSome = true then 1 else 2
set_option maxRecDepth 100000 in
set_option maxHeartbeats 4000000 in
theorem outcome_any {n : Nat} {w : World} {q r : Option Addr} {cq cr : Nat} {L : List (List Int)} {am : List Int} {K : Nat → Prop} (hn : n ≤ 10) (hc : CsAt K w q cq L) (hL : ∀ c ∈ L, ∀ x ∈ c, LOk n x) (ha : SI w r cr am) (hA : ∀ x ∈ am, LOk n x) :
    Calls Try.prog 25 #[.int .i64 n, .slice q L.length cq, .slice r am.length cr] w fun e w' => e = .returned (.int .i64 (routcome n L am)) ∧ Below w.heap.size w w' := by
 have hle := least_any hn hc hL ha hA
 obtain ⟨N, hN⟩ : ∃ z, am.length = z := ⟨_, rfl⟩
 obtain ⟨M, hM⟩ : ∃ z, L.length = z := ⟨_, rfl⟩
 obtain ⟨R, hR⟩ : ∃ z, rleast n L am = z := ⟨_, rfl⟩
 obtain ⟨Z, hZ⟩ : ∃ z, routcome n L am = z := ⟨_, rfl⟩
 rw [hN, hM, hR] at hle
 rw [hN, hM, hZ]
 unfold routcome at hZ
 rw [hR] at hZ
 have HLE := Lib.hid hle; have HZ := Lib.hid hZ
 clear hle hc hL ha hA hN hM hR hZ
 go_enter Try.func25, Try.ntmps25
 go_upto_region 2 with (first | (go_at_call 20; refine HLE.out.mono ?_; rintro e w1 ⟨⟨p, c, v, ok, rfl, hsb, hok⟩, hb⟩; have HOK := Lib.hid hok; have HB := Lib.hid hb; clear hok hb hsb))
 cases ok with
 | true =>
   go_wp2_with fail
   go_ret
   exact ⟨by rw [← HZ.out, HOK.out]; rfl, HB.out⟩
 | false =>
   go_wp2_with fail
   go_ret
   exact ⟨by rw [← HZ.out, HOK.out]; rfl, HB.out⟩
/-- a slice of slices of the call's own -/
structure CsO (K : Nat → Prop) (w : World) (B : Nat) (v : Value) (n : Nat) (L : List (List Int)) : Prop where
  own : ∃ xs, w.ownsRow B 29 1 v n xs ∧ ∀ (i : Nat) (l : List Int), L[i]? = some l → ∃ p c, xs[i]? = some (.slice p l.length c) ∧ SI w p c l ∧ (l ≠ [] → ∀ a, p = some a → K a.block ∧ a.block < B)
  len : L.length = n
theorem CsO.up {K : Nat → Prop} {w w' : World} {B n : Nat} {v : Value} {L : List (List Int)} (h : CsO K w B v n L) (hB : Below w.heap.size w w') : CsO K w' B v n L := by
  obtain ⟨xs, h1, h3⟩ := h.own
  refine ⟨⟨xs, own_up h1 hB, fun i l hi => ?_⟩, h.len⟩
  obtain ⟨p, c, h4, h5, h6⟩ := h3 i l hi
  exact ⟨p, c, h4, h5.up hB, h6⟩
theorem CsO.at {K : Nat → Prop} {w : World} {B n : Nat} {p : Option Addr} {c : Nat} {L : List (List Int)} (h : CsO K w B (.slice p n c) n L) : CsAt (fun g => K g ∨ B ≤ g) w p c L := by
  obtain ⟨xs, h1, h3⟩ := h.own
  have hlen := h.len
  rcases h1.2 with ⟨hv, h0⟩ | ⟨g, cap, cur, hv, hg, hh, a1, a2, hs, ht⟩
  · simp only [Value.slice.injEq] at hv
    obtain ⟨rfl, -, rfl⟩ := hv
    have : L = [] := List.eq_nil_of_length_eq_zero (by omega)
    subst this
    exact ⟨Nat.le_refl _, Nat.zero_le _, fun _ => rfl, (fun a ha => by cases ha), fun i l hi => by cases hi⟩
  · simp only [Value.slice.injEq, true_and] at hv
    obtain ⟨rfl, rfl⟩ := hv
    have hlt := owns_lt h1 (g := g) rfl
    refine ⟨by omega, a2, (fun q => by cases q), (fun a ha => by cases ha; exact ⟨hlt, .inr hg⟩), fun i l hi => ?_⟩
    obtain ⟨p, c, h4, h5, h6⟩ := h3 i l hi
    exact ⟨g, 0, p, c, rfl, by rw [Nat.zero_add]; exact (own_load h1 h4).1, h5, fun h0 a ha => .inl (h6 h0 a ha).1⟩
theorem CsO.app {K : Nat → Prop} {w : World} {B n : Nat} {p : Option Addr} {c : Nat} {L : List (List Int)} (h : CsO K w B (.slice p n c) n L) (hn : n ≤ 2000000) (hb : B ≤ w.heap.size) {q : Option Addr} {cq : Nat} {l : List Int} (hl : SI w q cq l) (hq : l ≠ [] → ∀ a, q = some a → K a.block ∧ a.block < B) :
    ∃ p' c' w', (Builtin.append_ #[40, 40] 40 #[.slice p n c, .slice (some ⟨w.heap.size, 0, none⟩) 1 1]).run Try.prog (w.alloc (.cells #[.slice q l.length cq] 29)) = .ok (.slice p' (n + 1) c') w' ∧ CsO K w' B (.slice p' (n + 1) c') (n + 1) (L ++ [l]) ∧ Below B w w' := by
  obtain ⟨i0, hi0, hz0, hz1, hz2⟩ := info_parts slints_info
  obtain ⟨xs, h1, h3⟩ := h.own
  obtain ⟨q2, c2, w3, hrun, hO3, hb3⟩ := own_app1g (u := .slice q l.length cq) Try.underlying40 hi0 hz0 hz1 hz2 rfl rfl (by decide) h1 (Below.refl _ _) (Below.refl _ _) hn hb
  have hxl : xs.length = n := by have := h1.1; omega
  have hlen := h.len
  refine ⟨q2, c2, w3, hrun, ⟨⟨_, hO3, fun i l' hi => ?_⟩, by rw [List.length_append, hlen]; rfl⟩, hb3⟩
  have keep : ∀ {l' : List Int} {p' : Option Addr} {c' : Nat}, SI w p' c' l' → (l' ≠ [] → ∀ a, p' = some a → K a.block ∧ a.block < B) → SI w3 p' c' l' := fun h5 h6 =>
    h5.keep' hb3.size fun h0 a ha => hb3.block a.block (h6 h0 a ha).2
  rcases Nat.lt_or_ge i n with z | z
  · rw [List.getElem?_append_left (by omega)] at hi
    obtain ⟨p', c', h4, h5, h6⟩ := h3 i l' hi
    exact ⟨p', c', by rw [List.getElem?_append_left (by omega)]; exact h4, keep h5 h6, h6⟩
  · have hil := (List.getElem?_eq_some_iff.1 hi).1
    rw [List.length_append, List.length_singleton] at hil
    obtain rfl : i = n := by omega
    rw [List.getElem?_append_right (by omega), hlen, Nat.sub_self] at hi
    obtain rfl := Option.some.inj hi
    exact ⟨q, cq, by rw [List.getElem?_append_right (by omega), hxl, Nat.sub_self]; rfl, keep hl hq, hq⟩
theorem rcl_take_snoc {n : Nat} {l : List SAct} {j : Nat} {x : SAct} (h : l[j]? = some x) : rcl n (l.take (j + 1)) = rcl n (l.take j) ++ (if (!x.solve && vlit n x.lits) = true then [x.lits] else []) := by
  rw [take_succ_eq h, rcl_snoc]
theorem vlit_badl (n : Nat) (l : List Int) : (!l.any (badl n)) = vlit n l := by
  unfold vlit badl
  rw [List.not_any_eq_all_not]
set_option maxRecDepth 100000 in
set_option maxHeartbeats 4000000 in
theorem clauses_any {n : Nat} {w0 w : World} {p : Option Addr} {ca : Nat} {l : List SAct} (ha : AcAt w0 p ca l) (hB : Below w0.heap.size w0 w) (hn : n ≤ 1000) (hl : l.length ≤ 60) (hll : ∀ a ∈ l, a.lits.length ≤ 12) :
    Calls Try.prog 21 #[.int .i64 n, .slice p l.length ca] w fun e w' => ∃ q cq, e = .returned (.slice q (rcl n l).length cq) ∧ CsAt (fun g => g < w0.heap.size ∨ w.heap.size ≤ g) w' q cq (rcl n l) ∧ Below w.heap.size w w' := by
 have HA := Lib.hid ha; have HB := Lib.hid hB; have HLL := Lib.hid hll
 obtain ⟨N, hN⟩ : ∃ z, l.length = z := ⟨_, rfl⟩
 rw [hN] at hl ⊢
 have HN := Lib.hid hN
 clear ha hB hll hN
 go_enter Try.func21, Try.ntmps21
 go_upto_region 2 with fail
 obtain ⟨w1, hw1⟩ : ∃ z, z = w.alloc (.cells #[] 29) := ⟨_, rfl⟩
 have hb1 : Below w.heap.size w w1 := by rw [hw1]; go_grown
 have own1 : CsO (fun g => g < w0.heap.size) w1 w.heap.size (.slice (some ⟨w.heap.size, 0, none⟩) 0 0) 0 (rcl n (l.take 0)) := ⟨⟨[], by rw [hw1]; exact World.ownsRow_made w #[] 0 (Nat.le_refl _) (Nat.zero_le _) rfl, fun i l hi => by cases hi⟩, rfl⟩
 rw [← hw1]
 clear hw1
 go_wp2_with fail
 go_loopg [5, 6] N (fun G s5 s6 wr => ∃ (j m : Nat) (q : Option Addr) (c : Nat), s6 = .int .i64 j ∧ s5 = .slice q m c ∧ j ≤ N ∧ G = N - j ∧ CsO (fun g => g < w0.heap.size) wr w.heap.size (.slice q m c) m (rcl n (l.take j)) ∧ Below w.heap.size w wr)
 case atStart => exact ⟨0, 0, _, _, rfl, rfl, by omega, rfl, own1, hb1⟩
 case round =>
  obtain ⟨j, m, q, c, rfl, rfl, hj, hG, hO, hbw⟩ := hrel
  have HG := Lib.hid hG; clear hG own1 hb1
  have hm : m ≤ 60 := by have h1 := hO.len; have h2 := rcl_le n (l.take j); rw [List.length_take] at h2; omega
  by_cases hlt : j < N
  case neg =>
   obtain rfl : j = N := by omega
   rw [← HN.out, List.take_length] at hO
   have hml := hO.len
   have hat := hO.at
   have HO := Lib.hid hat; have HBW := Lib.hid hbw; have HML := Lib.hid hml
   clear hO hbw hat hml
   go_wp2_with fail
   go_ret
   exact ⟨q, c, by rw [HML.out]; rfl, HO.out, HBW.out⟩
  case pos =>
   obtain ⟨x, hx⟩ : ∃ x, l[j]? = some x := ⟨_, List.getElem?_eq_getElem (by rw [HN.out]; exact hlt)⟩
   obtain ⟨b1, off, p1, c1, rfl, x0, x1, -, hsi, -⟩ := HA.out.at' j x hx
   have hBw : Below w0.heap.size w0 wr := btr HB.out hbw
   have hx12 := HLL.out x (List.mem_of_getElem? hx)
   replace x0 := oldcell hBw x0 (World.block_lt_of_cell? _ _ x0); replace x1 := oldcell hBw x1 (World.block_lt_of_cell? _ _ x1)
   have hsi2 := hsi.up hBw
   have hjl : (j : Int) < (N : Int) := by omega
   have hval := fun (wx : World) (hb : Below w0.heap.size w0 wx) => rvalid21_any (hsi.up hb) (by omega) n (by omega)
   have hlow : x.lits ≠ [] → ∀ a, p1 = some a → a.block < w0.heap.size ∧ a.block < w.heap.size := fun h0 a ha => ⟨hsi.lt h0 a ha, Nat.lt_of_lt_of_le (hsi.lt h0 a ha) HB.out.size⟩
   have happ := hO.app (by omega) hbw.size hsi2 hlow
   have hstep := rcl_take_snoc (n := n) hx
   have hvb := vlit_badl n x.lits
   obtain ⟨t, ht⟩ : ∃ z, vlit n x.lits = z := ⟨_, rfl⟩
   obtain ⟨sv, hsv⟩ : ∃ z, x.solve = z := ⟨_, rfl⟩
   rw [hvb, ht] at hval
   rw [ht, hsv] at hstep
   rw [hsv] at x0
   obtain ⟨P, hP⟩ : ∃ z, x.lits.length = z := ⟨_, rfl⟩
   rw [hP] at x1 hval happ
   have hv0 := hval wr hBw
   have HVAL := Lib.hid hv0; have HST := Lib.hid hstep; have HO := Lib.hid hO; have HBW := Lib.hid hbw; have HSI := Lib.hid hsi2
   clear hval hstep hvb ht hsv hP hlow hsi hsi2 hx12 hO hbw hBw hv0 hx
   cases sv with
   | true =>
     clear happ
     go_wp2_with fail
     go_roundg (N - (j + 1))
     case measure => (have := HG.out; omega)
     case rel => exact ⟨j + 1, m, q, c, by go_num, rfl, by omega, rfl, by rw [HST.out]; simpa using HO.out, HBW.out⟩
   | false =>
     cases t with
     | false =>
       clear happ
       go_wp2_with (first | (go_at_call 14; refine HVAL.out.mono ?_; rintro e w2 ⟨rfl, hw⟩; replace hw := hw.symm; subst hw))
       go_roundg (N - (j + 1))
       case measure => (have := HG.out; omega)
       case rel => exact ⟨j + 1, m, q, c, by go_num, rfl, by omega, rfl, by rw [HST.out]; simpa using HO.out, HBW.out⟩
     | true =>
       obtain ⟨q2, c2, w3, hrun, hO3, hb3⟩ := happ
       have HO3 := Lib.hid hO3; have HB3 := Lib.hid (HBW.out.trans hb3)
       clear hO3 hb3
       go_wp2_with (first | (go_at_call 14; refine HVAL.out.mono ?_; rintro e w2 ⟨rfl, hw⟩; replace hw := hw.symm; subst hw) | (at_builtin; go_must (refine wpList_run rfl (exec_app rfl rfl rfl hrun) ?_)))
       go_roundg (N - (j + 1))
       case measure => (have := HG.out; omega)
       case rel => exact ⟨j + 1, m + 1, q2, c2, by go_num, rfl, by omega, rfl, by rw [HST.out]; simpa using HO3.out, HB3.out⟩
theorem drop_at {α : Type} {l : List α} {j : Nat} {x : α} (h : l[j]? = some x) : l.drop j = x :: l.drop (j + 1) := by
  obtain ⟨h1, h2⟩ := List.getElem?_eq_some_iff.1 h
  rw [List.drop_eq_getElem_cons h1, h2]
theorem runit_cons (set : List Int) (x : Int) (c : List Int) (left : Int) : runit set (x :: c) left = if x ∈ set then (false, 0) else if -x ∈ set ∨ x = left then runit set c left else if left ≠ 0 then (false, 0) else runit set c x := rfl
set_option maxRecDepth 100000 in
set_option maxHeartbeats 4000000 in
theorem unit_any {w : World} {p q : Option Addr} {cp cq : Nat} {c set : List Int} (hc : SI w p cp c) (hs : SI w q cq set) (hcl : c.length ≤ 1000000) (hsl : set.length ≤ 1000000) (hin : ∀ x ∈ c, -1000000 ≤ x ∧ x ≤ 1000000) :
    Calls Try.prog 55 #[.slice p c.length cp, .slice q set.length cq] w fun e w' => e = .returned (.tuple #[.bool (runit set c 0).1, .int .i64 (runit set c 0).2]) ∧ w' = w := by
 have hhas := has_any hs hsl
 obtain ⟨N, hN⟩ : ∃ z, c.length = z := ⟨_, rfl⟩
 obtain ⟨M, hM⟩ : ∃ z, set.length = z := ⟨_, rfl⟩
 obtain ⟨R, hR⟩ : ∃ z, runit set c 0 = z := ⟨_, rfl⟩
 rw [hM] at hhas
 rw [hN] at hcl; rw [hN, hM, hR]
 have HC := Lib.hid hc; have HN := Lib.hid hN; have HH := Lib.hid hhas; have HR := Lib.hid hR; have HIN := Lib.hid hin
 clear hc hs hN hM hhas hR hin
 go_enter Try.func55, Try.ntmps55
 go_wp2_with fail
 go_loopg [6, 7] N (fun G s6 s7 wr => ∃ (j : Nat) (left : Int), s7 = .int .i64 j ∧ s6 = .int .i64 left ∧ j ≤ N ∧ G = N - j ∧ wr = w ∧ R = runit set (c.drop j) left)
 case atStart => exact ⟨0, 0, rfl, rfl, by omega, rfl, rfl, by rw [List.drop_zero]; exact HR.out.symm⟩
 case round =>
  obtain ⟨j, left, rfl, rfl, hj, hG, hw, hrun⟩ := hrel
  replace hw := hw.symm; subst hw
  have HG := Lib.hid hG; have HRU := Lib.hid hrun; clear hG hrun
  by_cases hlt : j < N
  case neg =>
   obtain rfl : j = N := by omega
   have hfin : R = (left == 0, left) := by rw [HRU.out, ← HN.out, List.drop_length]; rfl
   obtain ⟨t, ht⟩ : ∃ z, (left == 0) = z := ⟨_, rfl⟩
   rw [ht] at hfin
   have HF := Lib.hid hfin; clear hfin
   cases t with
   | true =>
     go_wp2_with fail
     refine bodyPost_ret (results_tmp2 rfl _ _ _) rfl ?_
     rw [HF.out]
     exact ⟨rfl, rfl⟩
   | false =>
     go_wp2_with fail
     refine bodyPost_ret (results_tmp2 rfl _ _ _) rfl ?_
     rw [HF.out]
     exact ⟨rfl, rfl⟩
  case pos =>
   obtain ⟨x, hx⟩ : ∃ x, c[j]? = some x := ⟨_, List.getElem?_eq_getElem (by rw [HN.out]; exact hlt)⟩
   obtain ⟨b1, o1, rfl, hb1, c0⟩ := int_cell' HC.out.at' hx
   have hxi := HIN.out x (List.mem_of_getElem? hx)
   have hstep := HRU.out
   rw [drop_at hx, runit_cons] at hstep
   have hjl : (j : Int) < (N : Int) := by omega
   obtain ⟨y, hy⟩ : ∃ z, -x = z := ⟨_, rfl⟩
   have hwn : IntKind.i64.wrap (-x) = y := by rw [← hy]; exact wrapI (by omega) (by omega)
   have h1 := HH.out x
   have h2 := HH.out y
   rw [hy] at hstep
   clear hx hb1 hy hxi
   by_cases m1 : x ∈ set
   · rw [decide_eq_true m1] at h1
     rw [if_pos m1] at hstep
     have H1 := Lib.hid h1; have HST := Lib.hid hstep
     clear h1 h2 hstep m1
     go_wp2_with (first | (go_at_call 54; refine H1.out.mono ?_; rintro e w1 ⟨rfl, hw⟩; replace hw := hw.symm; subst hw))
     refine bodyPost_ret (results_tmp2 rfl _ _ _) rfl ?_
     rw [HST.out]
     exact ⟨rfl, rfl⟩
   · rw [decide_eq_false m1] at h1
     rw [if_neg m1] at hstep
     by_cases m2 : y ∈ set
     · rw [decide_eq_true m2] at h2
       rw [if_pos (.inl m2)] at hstep
       have H1 := Lib.hid h1; have H2 := Lib.hid h2; have HST := Lib.hid hstep
       clear h1 h2 hstep m1 m2
       go_wp2_with (first | (go_at_call 54; first | ((with_reducible refine H1.out.mono ?_); rintro e w1 ⟨rfl, hw⟩; replace hw := hw.symm; subst hw) | ((with_reducible refine H2.out.mono ?_); rintro e w1 ⟨rfl, hw⟩; replace hw := hw.symm; subst hw)))
       go_roundg (N - (j + 1))
       case measure => (have := HG.out; omega)
       case rel => exact ⟨j + 1, left, by go_num, rfl, by omega, rfl, rfl, HST.out⟩
     · rw [decide_eq_false m2] at h2
       by_cases m3 : x = left
       · rw [if_pos (.inr m3)] at hstep
         have H1 := Lib.hid h1; have H2 := Lib.hid h2; have HST := Lib.hid hstep
         have m3b : (x == left) = true := by simpa using m3
         clear h1 h2 hstep m1 m2 m3
         go_wp2_with (first | (go_at_call 54; first | ((with_reducible refine H1.out.mono ?_); rintro e w1 ⟨rfl, hw⟩; replace hw := hw.symm; subst hw) | ((with_reducible refine H2.out.mono ?_); rintro e w1 ⟨rfl, hw⟩; replace hw := hw.symm; subst hw)))
         go_roundg (N - (j + 1))
         case measure => (have := HG.out; omega)
         case rel => exact ⟨j + 1, left, by go_num, rfl, by omega, rfl, rfl, HST.out⟩
       · have m3b : (x == left) = false := by simpa using m3
         rw [if_neg (fun q => q.elim m2 m3)] at hstep
         by_cases m4 : left = 0
         · rw [if_neg (fun q => q m4)] at hstep
           have m4b : (left == 0) = true := by simpa using m4
           have H1 := Lib.hid h1; have H2 := Lib.hid h2; have HST := Lib.hid hstep
           clear h1 h2 hstep m1 m2 m3
           subst m4
           go_wp2_with (first | (go_at_call 54; first | ((with_reducible refine H1.out.mono ?_); rintro e w1 ⟨rfl, hw⟩; replace hw := hw.symm; subst hw) | ((with_reducible refine H2.out.mono ?_); rintro e w1 ⟨rfl, hw⟩; replace hw := hw.symm; subst hw)))
           go_roundg (N - (j + 1))
           case measure => (have := HG.out; omega)
           case rel => exact ⟨j + 1, x, by go_num, rfl, by omega, rfl, rfl, HST.out⟩
         · rw [if_pos m4] at hstep
           have m4b : (left == 0) = false := by simpa using m4
           have H1 := Lib.hid h1; have H2 := Lib.hid h2; have HST := Lib.hid hstep
           clear h1 h2 hstep m1 m2 m3 m4
           go_wp2_with (first | (go_at_call 54; first | ((with_reducible refine H1.out.mono ?_); rintro e w1 ⟨rfl, hw⟩; replace hw := hw.symm; subst hw) | ((with_reducible refine H2.out.mono ?_); rintro e w1 ⟨rfl, hw⟩; replace hw := hw.symm; subst hw)))
           refine bodyPost_ret (results_tmp2 rfl _ _ _) rfl ?_
           rw [HST.out]
           exact ⟨rfl, rfl⟩
theorem rpass_cons (d : List Int) (D : List (List Int)) (set : List Int) {b : Bool} {x : Int} (h : runit set d 0 = (b, x)) : rpass (d :: D) set = if b = true then none else if x ≠ 0 then rpass D (set ++ [x]) else rpass D set := by
  show (match runit set d 0 with | (true, _) => none | (false, x) => if x ≠ 0 then rpass D (set ++ [x]) else rpass D set) = _
  rw [h]
  cases b <;> rfl
theorem rrounds_succ (D : List (List Int)) (k : Nat) (set : List Int) : rrounds D (k + 1) set = match rpass D set with | none => true | some s => rrounds D k s := rfl
set_option maxRecDepth 100000 in
set_option maxHeartbeats 8000000 in
theorem implies_any {n : Nat} {w : World} {p q : Option Addr} {cp cq : Nat} {c : List Int} {D : List (List Int)} {K : Nat → Prop} (hn : n ≤ 1000) (hc : CsAt K w q cq D) (hD : ∀ c ∈ D, ∀ x ∈ c, LOk n x) (hDl : ∀ c ∈ D, c.length ≤ 100000) (hDn : D.length ≤ 10000) (hl : SI w p cp c) (hcl : c.length ≤ 1000) (hco : ∀ x ∈ c, LOk n x) :
    Calls Try.prog 48 #[.int .i64 n, .slice q D.length cq, .slice p c.length cp] w fun e w' => e = .returned (.bool (rimplies n D c)) ∧ Below w.heap.size w w' := by
 obtain ⟨i0, hi0, hz0, hz1, hz2⟩ := info_parts int_info
 have hhas := has_any hl (by omega)
 obtain ⟨N, hN⟩ : ∃ z, c.length = z := ⟨_, rfl⟩
 obtain ⟨M, hM⟩ : ∃ z, D.length = z := ⟨_, rfl⟩
 obtain ⟨R, hR⟩ : ∃ z, rimplies n D c = z := ⟨_, rfl⟩
 rw [hN] at hhas hcl; rw [hM] at hDn
 rw [hN, hM, hR]
 have HC := Lib.hid hc; have HD := Lib.hid hD; have HDL := Lib.hid hDl; have HL := Lib.hid hl; have HCO := Lib.hid hco; have HH := Lib.hid hhas; have HN := Lib.hid hN; have HM := Lib.hid hM; have HR := Lib.hid hR
 clear hc hD hDl hl hco hhas hN hM hR
 go_enter Try.func48, Try.ntmps48
 go_upto_region 2 with fail
 obtain ⟨w1, hw1⟩ : ∃ z, z = w.alloc (.cells #[] 3) := ⟨_, rfl⟩
 have hb1 : Below w.heap.size w w1 := by rw [hw1]; go_grown
 have own1 : w1.ownsRow w.heap.size 3 1 (.slice (some ⟨w.heap.size, 0, none⟩) 0 0) 0 [] := by rw [hw1]; exact World.ownsRow_made w #[] 0 (Nat.le_refl _) (Nat.zero_le _) rfl
 rw [← hw1]
 clear hw1
 go_wp2_with fail
 go_loopg [7, 8] N (fun G s7 s8 wr => ∃ (j : Nat) (q : Option Addr) (cq : Nat), s8 = .int .i64 j ∧ s7 = .slice q j cq ∧ j ≤ N ∧ G = N - j ∧ wr.ownsRow w.heap.size 3 1 (.slice q j cq) j (iV ((c.take j).map fun x => -x)) ∧ Below w.heap.size w wr ∧ (c.take j).any (fun x => decide (-x ∈ c)) = false)
 case atStart => exact ⟨0, _, _, rfl, rfl, by omega, rfl, own1, hb1, rfl⟩
 case round =>
  obtain ⟨j, q1, c1, rfl, rfl, hj, hG, hO, hbw, hno⟩ := hrel
  have HG := Lib.hid hG; have HNO := Lib.hid hno; clear hG own1 hb1 hno
  by_cases hlt : j < N
  case pos =>
   obtain ⟨x, hx⟩ : ∃ x, c[j]? = some x := ⟨_, List.getElem?_eq_getElem (by rw [HN.out]; exact hlt)⟩
   obtain ⟨b1, o1, rfl, hb1, c0⟩ := int_cell' HL.out.at' hx
   replace c0 := oldcell hbw c0 (World.block_lt_of_cell? _ _ c0)
   have hxo := HCO.out x (List.mem_of_getElem? hx)
   have hxo2 := hxo.2
   have hjl : (j : Int) < (N : Int) := by omega
   obtain ⟨y, hy⟩ : ∃ z, -x = z := ⟨_, rfl⟩
   have hwn : IntKind.i64.wrap (-x) = y := by rw [← hy]; exact wrapI (by omega) (by omega)
   have h1 := has_any (HL.out.up hbw) (by rw [HN.out]; omega) y
   rw [HN.out] at h1
   have hstep := any_take_succ (f := fun x => decide (-x ∈ c)) hx
   rw [HNO.out, hy, Bool.false_or] at hstep
   obtain ⟨q2, c2, w3, hrun, hO3, hb3⟩ := own_app1 hi0 hz0 hz1 hz2 hO y (Below.refl _ _) (Below.refl _ _) (by omega) hbw.size
   have hO4 : w3.ownsRow w.heap.size 3 1 (.slice q2 (j + 1) c2) (j + 1) (iV ((c.take (j + 1)).map fun x => -x)) := by
     rw [take_succ_eq hx, List.map_append, iV_append, List.map_singleton, hy]; exact hO3
   have HO4 := Lib.hid hO4; have HB3 := Lib.hid (hbw.trans hb3); have HX := Lib.hid hx; have HY := Lib.hid hy; have HBW := Lib.hid hbw
   clear hO3 hO4 hb3 hO hx hy hb1 hxo hxo2 hbw
   by_cases m1 : y ∈ c
   · rw [decide_eq_true m1] at h1
     have hre : R = true := by
       rw [← HR.out]; unfold rimplies rtaut
       rw [List.any_eq_true.2 ⟨x, List.mem_of_getElem? HX.out, by rw [HY.out]; exact decide_eq_true m1⟩]; rfl
     have H1 := Lib.hid h1; have HRE := Lib.hid hre
     clear h1 hstep m1 hre
     go_wp2_with (first | (go_at_call 54; refine H1.out.mono ?_; rintro e w4 ⟨rfl, hw⟩; replace hw := hw.symm; subst hw))
     go_ret
     rw [HRE.out]
     exact ⟨rfl, HBW.out⟩
   · rw [decide_eq_false m1] at h1
     rw [decide_eq_false m1] at hstep
     have H1 := Lib.hid h1; have HST := Lib.hid hstep
     clear h1 hstep m1
     go_wp2_with (first | (go_at_call 54; refine H1.out.mono ?_; rintro e w4 ⟨rfl, hw⟩; replace hw := hw.symm; subst hw) | (at_builtin; go_must (refine wpList_run rfl (exec_app rfl rfl rfl hrun) ?_)))
     go_roundg (N - (j + 1))
     case measure => (have := HG.out; omega)
     case rel => exact ⟨j + 1, q2, c2, by go_num, rfl, by omega, rfl, HO4.out, HB3.out, HST.out⟩
  case neg =>
   obtain rfl : j = N := by omega
   obtain ⟨T, hT⟩ : ∃ z, min (n + 1) 21 = z := ⟨_, rfl⟩
   have hre : R = rrounds D T (c.map fun x => -x) := by
     have h := HNO.out
     rw [← HN.out, List.take_length] at h
     rw [← HR.out]; unfold rimplies rtaut
     rw [h, hT, Bool.false_or]
   rw [← HN.out, List.take_length, HN.out] at hO
   have HRE := Lib.hid hre; have HO := Lib.hid hO; have HBW := Lib.hid hbw; have HT := Lib.hid hT
   have hT1 : T ≤ 21 := by omega
   have hlen0 : (c.map fun x => -x).length = j := by rw [List.length_map, HN.out]
   have HL0 := Lib.hid hlen0
   clear hre hO hbw HG HNO hlt hj hT hlen0
   go_wp2_with fail
   go_loopg [7, 9] T (fun G s7 s9 wr => ∃ (k : Nat) (X : List Int) (q : Option Addr) (cq : Nat), s9 = .int .i64 k ∧ s7 = .slice q X.length cq ∧ k ≤ T ∧ G = T - k ∧ wr.ownsRow w.heap.size 3 1 (.slice q X.length cq) X.length (iV X) ∧ Below w.heap.size w wr ∧ X.length ≤ j + k * M ∧ R = rrounds D (T - k) X)
   case atStart => exact ⟨0, (c.map fun x => -x), q1, c1, rfl, by rw [HL0.out], by omega, rfl, by rw [HL0.out]; exact HO.out, HBW.out, by rw [HL0.out]; omega, HRE.out⟩
   case round =>
    obtain ⟨k, X, q2, c2, rfl, rfl, hk, hG, hO, hbw, hXl, hRR⟩ := hrel
    have HG := Lib.hid hG; have HRR := Lib.hid hRR; clear hG hRR HO HBW HRE
    have hkM : k * M ≤ 21 * 10000 := Nat.mul_le_mul (by omega) hDn
    obtain ⟨w5, hw5⟩ : ∃ z, z = wr := ⟨_, rfl⟩
    subst hw5
    obtain ⟨X0, hX0⟩ : ∃ z, X.length = z := ⟨_, rfl⟩
    rw [hX0] at hXl hO ⊢
    have HX0 := Lib.hid hX0; have HXL := Lib.hid hXl; have HO := Lib.hid hO; have HBW := Lib.hid hbw; clear hX0 hXl hO hbw
    by_cases hkT : k < T
    case neg =>
     obtain rfl : k = T := by omega
     have hre : R = false := by rw [HRR.out, Nat.sub_self]; rfl
     have HRE := Lib.hid hre; clear hre
     have hT2 := HT.out
     by_cases hkn : k ≤ n
     · have hkni : (k : Int) ≤ (n : Int) := by omega
       have hk20 : ¬ (k : Int) ≤ 20 := by omega
       clear hT2
       go_wp2_with fail
       go_ret
       rw [HRE.out]
       exact ⟨rfl, HBW.out⟩
     · have hkni : ¬ (k : Int) ≤ (n : Int) := by omega
       clear hT2
       go_wp2_with fail
       go_ret
       rw [HRE.out]
       exact ⟨rfl, HBW.out⟩
    case pos =>
     have hT2 := HT.out
     have hkni : (k : Int) ≤ (n : Int) := by omega
     have hk20 : (k : Int) ≤ 20 := by omega
     obtain ⟨m, hm⟩ : ∃ m, T - k = m + 1 := ⟨T - k - 1, by omega⟩
     have hm2 : T - (k + 1) = m := by omega
     have hRS := HRR.out
     rw [hm, rrounds_succ] at hRS
     have HRS := Lib.hid hRS; have HM2 := Lib.hid hm2
     have hxl := HXL.out
     have hxb : X0 ≤ 400000 := by omega
     clear hT2 hRS hm hm2 HRR hxl
     go_wp2_with fail
     go_loopg [7, 10] M (fun G s7 s10 wr => ∃ (i : Nat) (Y : List Int) (q : Option Addr) (cq : Nat), s10 = .int .i64 i ∧ s7 = .slice q Y.length cq ∧ i ≤ M ∧ G = M - i ∧ wr.ownsRow w.heap.size 3 1 (.slice q Y.length cq) Y.length (iV Y) ∧ Below w.heap.size w wr ∧ Y.length ≤ X0 + i ∧ rpass D X = rpass (D.drop i) Y)
     case atStart => exact ⟨0, X, q2, c2, rfl, by rw [HX0.out], by omega, rfl, by rw [HX0.out]; exact HO.out, HBW.out, by rw [HX0.out]; omega, by rw [List.drop_zero]⟩
     case round =>
      obtain ⟨i, Y, q3, c3, rfl, rfl, hi, hG2, hO, hbw, hYl, hps⟩ := hrel
      have HG2 := Lib.hid hG2; have HPS := Lib.hid hps; clear hG2 hps HO HBW
      obtain ⟨w6, hw6⟩ : ∃ z, z = wr := ⟨_, rfl⟩
      subst hw6
      obtain ⟨Y0, hY0⟩ : ∃ z, Y.length = z := ⟨_, rfl⟩
      rw [hY0] at hYl hO ⊢
      by_cases hiM : i < M
      case neg =>
       obtain rfl : i = M := by omega
       have hp2 : rpass D X = some Y := by rw [HPS.out, ← HM.out, List.drop_length]; rfl
       have hrs := HRS.out
       rw [hp2] at hrs
       dsimp only at hrs
       have hYb : Y0 ≤ j + (k + 1) * i := by rw [Nat.succ_mul]; have := HXL.out; omega
       have HRS2 := Lib.hid hrs; have HY0 := Lib.hid hY0; have HYB := Lib.hid hYb; have HO := Lib.hid hO; have HBW := Lib.hid hbw
       clear hp2 hrs hY0 hYb hO hbw
       go_wp2_with fail
       go_roundg (T - (k + 1))
       case measure => (have := HG.out; omega)
       case rel => exact ⟨k + 1, Y, q3, c3, by go_num, by rw [HY0.out], by omega, rfl, by rw [HY0.out]; exact HO.out, HBW.out, by rw [HY0.out]; exact HYB.out, by rw [HM2.out]; exact HRS2.out⟩
      case pos =>
       obtain ⟨d, hd⟩ : ∃ x, D[i]? = some x := ⟨_, List.getElem?_eq_getElem (by rw [HM.out]; exact hiM)⟩
       obtain ⟨b1, o1, p1, e1, rfl, x0, hsi, -⟩ := HC.out.at' i d hd
       replace x0 := oldcell hbw x0 (World.block_lt_of_cell? _ _ x0)
       have hdm := List.mem_of_getElem? hd
       have hun := unit_any (hsi.up hbw) (SI.of_owns (l := Y) (by rw [hY0]; exact hO)) (by have := HDL.out d hdm; omega) (by omega) (fun y hy => by have := (HD.out d hdm y hy).2; omega)
       obtain ⟨P, hP⟩ : ∃ z, d.length = z := ⟨_, rfl⟩
       obtain ⟨⟨b, x⟩, hbx⟩ : ∃ z, runit Y d 0 = z := ⟨_, rfl⟩
       rw [hP, hY0, hbx] at hun
       rw [hP] at x0
       have hstep := HPS.out
       rw [drop_at hd, rpass_cons d _ _ hbx] at hstep
       have hil : (i : Int) < (M : Int) := by omega
       obtain ⟨q4, c4, w7, hrun, hO3, hb3⟩ := own_app1 hi0 hz0 hz1 hz2 hO x (Below.refl _ _) (Below.refl _ _) (by omega) hbw.size
       rw [iV_snoc] at hO3
       have HUN := Lib.hid hun; have HST := Lib.hid hstep; have HO3 := Lib.hid hO3; have HB3 := Lib.hid (hbw.trans hb3); have HY0 := Lib.hid hY0; have HO := Lib.hid hO; have HBW := Lib.hid hbw
       clear hd hsi hdm hun hP hbx hstep hO3 hb3 hY0 hO hbw
       cases b with
       | true =>
         have hre : R = true := by
           have h := HST.out
           rw [if_pos rfl] at h
           rw [HRS.out, h]
         have HRE := Lib.hid hre; clear hre
         go_wp2_with (first | (go_at_call 55; refine HUN.out.mono ?_; rintro e w8 ⟨rfl, hw⟩; replace hw := hw.symm; subst hw))
         go_ret
         rw [HRE.out]
         exact ⟨rfl, HBW.out⟩
       | false =>
         have hst := HST.out
         rw [if_neg (by decide)] at hst
         by_cases hx0 : x = 0
         · rw [if_neg (fun q => q hx0)] at hst
           have hxb0 : (x == 0) = true := by simpa using hx0
           have HST2 := Lib.hid hst; clear hst hrun
           subst hx0
           go_wp2_with (first | (go_at_call 55; refine HUN.out.mono ?_; rintro e w8 ⟨rfl, hw⟩; replace hw := hw.symm; subst hw))
           go_roundg (M - (i + 1))
           case measure => (have := HG2.out; omega)
           case rel => exact ⟨i + 1, Y, q3, c3, by go_num, by rw [HY0.out], by omega, rfl, by rw [HY0.out]; exact HO.out, HBW.out, by rw [HY0.out]; omega, HST2.out⟩
         · rw [if_pos hx0] at hst
           have hxb0 : (x == 0) = false := by simpa using hx0
           have HST2 := Lib.hid hst; clear hst
           have hyl : (Y ++ [x]).length = Y0 + 1 := by rw [List.length_append, HY0.out]; rfl
           have HYL := Lib.hid hyl; clear hyl
           go_wp2_with (first | (go_at_call 55; refine HUN.out.mono ?_; rintro e w8 ⟨rfl, hw⟩; replace hw := hw.symm; subst hw) | (at_builtin; go_must (refine wpList_run rfl (exec_app rfl rfl rfl hrun) ?_)))
           go_roundg (M - (i + 1))
           case measure => (have := HG2.out; omega)
           case rel => exact ⟨i + 1, Y ++ [x], q4, c4, by go_num, by rw [HYL.out], by omega, rfl, by rw [HYL.out]; exact HO3.out, HB3.out, by rw [HYL.out]; omega, HST2.out⟩
def slEnc (x : Option Addr × Nat × Nat) : Nat → Value := fun _ => .slice x.1 x.2.1 x.2.2
theorem flat_slEnc (l : List (Option Addr × Nat × Nat)) : flat 1 slEnc l = l.map fun x => Value.slice x.1 x.2.1 x.2.2 := by
  unfold flat slEnc
  induction l with
  | nil => rfl
  | cons x t ih =>
    rw [List.flatMap_cons, ih, List.map_cons]; rfl
theorem CsAt.rows {K : Nat → Prop} {w : World} {q : Option Addr} {cq : Nat} {L : List (List Int)} (h : CsAt K w q cq L) : ∃ xs : List (Option Addr × Nat × Nat), xs.length = L.length ∧ SlAt 1 slEnc w q xs ∧ ∀ (i : Nat) (l : List Int), L[i]? = some l → ∃ p c, xs[i]? = some (p, l.length, c) ∧ SI w p c l ∧ (l ≠ [] → ∀ a, p = some a → K a.block) := by
  have key : ∀ i, ∃ x : Option Addr × Nat × Nat, ∀ l, L[i]? = some l → x.2.1 = l.length ∧ (∃ b off, q = some ⟨b, off, none⟩ ∧ w.cell? ⟨b, off + i, none⟩ = some (.slice x.1 x.2.1 x.2.2)) ∧ SI w x.1 x.2.2 l ∧ (l ≠ [] → ∀ a, x.1 = some a → K a.block) := by
    intro i
    cases hi : L[i]? with
    | none => exact ⟨(none, 0, 0), fun l hl => by cases hl⟩
    | some l =>
      obtain ⟨b, off, p, c, h1, h2, h3, h4⟩ := h.at' i l hi
      exact ⟨(p, l.length, c), fun l' hl' => by obtain rfl := Option.some.inj hl'; exact ⟨rfl, ⟨b, off, h1, h2⟩, h3, h4⟩⟩
  obtain ⟨f, hf⟩ := Classical.axiomOfChoice key
  have hget : ∀ i l, L[i]? = some l → ((List.range L.length).map f)[i]? = some (f i) := fun i l hi => by
    have hlt := (List.getElem?_eq_some_iff.1 hi).1
    rw [List.getElem?_map, List.getElem?_range hlt]; rfl
  refine ⟨(List.range L.length).map f, by simp, ?_, fun i l hi => ?_⟩
  · cases hL : L with
    | nil => exact .inl rfl
    | cons l0 t =>
      obtain ⟨-, ⟨b, off, hq, -⟩, -, -⟩ := hf 0 l0 (by rw [hL]; rfl)
      refine .inr ⟨b, off, hq, (h.lt _ hq).1, fun i x hx j hj => ?_⟩
      rw [← hL] at hx
      have hlt : i < L.length := by have := (List.getElem?_eq_some_iff.1 hx).1; simpa using this
      have hLi := List.getElem?_eq_getElem hlt
      rw [hget i _ hLi] at hx
      obtain rfl := Option.some.inj hx
      obtain ⟨-, ⟨b2, off2, hq2, hc2⟩, -, -⟩ := hf i _ hLi
      rw [hq] at hq2
      obtain ⟨rfl, rfl⟩ : b = b2 ∧ off = off2 := by simpa using hq2
      obtain rfl : j = 0 := by omega
      rw [Nat.mul_one]; exact hc2
  · obtain ⟨h1, -, h3, h4⟩ := hf i l hi
    refine ⟨(f i).1, (f i).2.2, ?_, h3, h4⟩
    rw [hget i l hi, ← h1]
theorem CsO.of_rows {K : Nat → Prop} {w : World} {B n : Nat} {v : Value} {L : List (List Int)} {xs : List (Option Addr × Nat × Nat)} (h : w.ownsRow B 29 1 v n (flat 1 slEnc xs)) (hl : L.length = n) (hx : ∀ (i : Nat) (l : List Int), L[i]? = some l → ∃ p c, xs[i]? = some (p, l.length, c) ∧ SI w p c l ∧ (l ≠ [] → ∀ a, p = some a → K a.block ∧ a.block < B)) : CsO K w B v n L :=
  ⟨⟨_, h, fun i l hi => by
    obtain ⟨p, c, h1, h2, h3⟩ := hx i l hi
    exact ⟨p, c, by rw [flat_slEnc, List.getElem?_map, h1]; rfl, h2, h3⟩⟩, hl⟩
theorem slEnc_one (x : Option Addr × Nat × Nat) (j : Nat) : (slEnc x j).oneCell' = true := rfl
theorem rjust_cons (n : Nat) (D : List (List Int)) (c : List Int) (P : List (List Int)) : rjust n D (c :: P) = (vlit n c && rimplies n D c && rjust n (D ++ [c]) P) := rfl
set_option maxRecDepth 100000 in
set_option maxHeartbeats 8000000 in
theorem justified_any {n : Nat} {w : World} {p q : Option Addr} {cp cq : Nat} {P D : List (List Int)} {K K2 : Nat → Prop} (hn : n ≤ 1000) (hc : CsAt K w q cq D) (hD : ∀ c ∈ D, ∀ x ∈ c, LOk n x) (hDl : ∀ c ∈ D, c.length ≤ 1000) (hDn : D.length ≤ 1000) (hp : PfAt K2 w p cp P) (hPl : ∀ c ∈ P, c.length ≤ 1000) (hPn : P.length ≤ 1000) :
    Calls Try.prog 28 #[.int .i64 n, .slice q D.length cq, .slice p P.length cp] w fun e w' => e = .returned (.bool (rjust n D P)) ∧ Below w.heap.size w w' := by
 obtain ⟨i0, hi0, hz0, hz1, hz2⟩ := info_parts slints_info
 obtain ⟨R, hR⟩ : ∃ z, rjust n D P = z := ⟨_, rfl⟩
 rw [hR]
 obtain ⟨xs, hxl, hsl, hxs⟩ := hc.rows
 obtain ⟨M, hM⟩ : ∃ z, D.length = z := ⟨_, rfl⟩
 obtain ⟨N, hN⟩ : ∃ z, P.length = z := ⟨_, rfl⟩
 rw [hM] at hDn hxl; rw [hN] at hPn
 rw [hM, hN]
 have hq0 := hc.q0
 have HC := Lib.hid hc; have HD := Lib.hid hD; have HDL := Lib.hid hDl; have HP := Lib.hid hp; have HPL := Lib.hid hPl; have HN := Lib.hid hN; have HM := Lib.hid hM; have HR := Lib.hid hR; have HXL := Lib.hid hxl; have HSL := Lib.hid hsl; have HXS := Lib.hid hxs
 clear hc hD hDl hp hPl hN hM hR hxl hsl hxs
 go_enter Try.func28, Try.ntmps28
 obtain ⟨w1, hw1⟩ : ∃ z, z = w.alloc (.cells #[] 29) := ⟨_, rfl⟩
 have hb1 : Below w.heap.size w w1 := by rw [hw1]; go_grown
 have own1 : w1.ownsRow w.heap.size 29 1 (.slice (some ⟨w.heap.size, 0, none⟩) 0 0) ([] : List (Option Addr × Nat × Nat)).length (flat 1 slEnc []) := by rw [hw1]; exact World.ownsRow_made w #[] 0 (Nat.le_refl _) (Nat.zero_le _) rfl
 have HW1 := Lib.hid hw1; clear hw1
 go_upto_region 2 with (first | (at_builtin; rw [← HW1.out]; go_must (refine wpList_app2 rfl _ _ _ rfl w.heap.size 29 i0 _ 24 Try.underlying40 hi0 hz0 hz1 hz2 rfl (by decide) _ [] rfl own1 q xs cq (by rw [HXL.out]; rfl) hq0 (HSL.out.mono hb1) slEnc_one (by rw [HXL.out]; simp only [maxLen]; simp; omega) (by rw [HXL.out]; simp; omega) hb1.size ?_; intro v2 w2 ho2 _ hb2 _)))
 have hM2 : ([] ++ xs).length = M := HXL.out
 rw [hM2] at ho2
 have hcs : CsO (fun g => g < w.heap.size) w2 w.heap.size v2 M D := CsO.of_rows ho2 HM.out fun i l hi => by
   obtain ⟨p, c, h1, h2, h3⟩ := HXS.out i l hi
   exact ⟨p, c, h1, (h2.up hb1).keep' hb2.size fun h0 a ha => hb2.block a.block (h2.lt h0 a ha), fun h0 a ha => ⟨h2.lt h0 a ha, h2.lt h0 a ha⟩⟩
 obtain ⟨q2, c2, rfl⟩ : ∃ q2 c2, v2 = .slice q2 M c2 := by
   have h := ho2
   rw [← hM2] at h
   obtain ⟨q, c, e, -⟩ := owns_val (by decide) h
   rw [hM2] at e
   exact ⟨q, c, e⟩
 have HCS := Lib.hid hcs; have HB2 := Lib.hid (hb1.trans hb2)
 have HRR := Lib.hid (show R = rjust n (D ++ P.take 0) (P.drop 0) by rw [List.take_zero, List.append_nil, List.drop_zero]; exact HR.out.symm)
 have HCS0 := Lib.hid (show CsO (fun g => g < w.heap.size) w2 w.heap.size (.slice q2 M c2) M (D ++ P.take 0) by rw [List.take_zero, List.append_nil]; exact HCS.out)
 clear hcs ho2 hb1 hb2 own1 HW1 hM2 HCS
 go_wp2_with fail
 go_loopg [7, 8] N (fun G s7 s8 wr => ∃ (j m : Nat) (q : Option Addr) (c : Nat), s8 = .int .i64 j ∧ s7 = .slice q m c ∧ j ≤ N ∧ G = N - j ∧ m ≤ 2000 ∧ CsO (fun g => g < w.heap.size) wr w.heap.size (.slice q m c) m (D ++ P.take j) ∧ Below w.heap.size w wr ∧ R = rjust n (D ++ P.take j) (P.drop j) ∧ ∀ c ∈ P.take j, ∀ x ∈ c, LOk n x)
 case atStart => exact ⟨0, M, _, _, rfl, rfl, by omega, rfl, by omega, HCS0.out, HB2.out, HRR.out, fun c hc => by simp at hc⟩
 case round =>
  obtain ⟨j, m, q3, c3, rfl, rfl, hj, hG, hm, hO, hbw, hRR, hok⟩ := hrel
  have hm2 : m ≤ M + j := by have h1 := hO.len; rw [List.length_append, List.length_take, HM.out, HN.out] at h1; omega
  have HG := Lib.hid hG; have HRR2 := Lib.hid hRR; have HOK := Lib.hid hok; clear hG hRR hok HRR HCS0 HB2
  obtain ⟨w3, hw3⟩ : ∃ z, z = wr := ⟨_, rfl⟩
  subst hw3
  by_cases hlt : j < N
  case neg =>
   obtain rfl : j = N := by omega
   have hre : R = true := by rw [HRR2.out, ← HN.out, List.drop_length]; rfl
   have HRE := Lib.hid hre; have HBW := Lib.hid hbw
   clear hre hbw
   go_wp2_with fail
   go_ret
   rw [HRE.out]
   exact ⟨rfl, HBW.out⟩
  case pos =>
   obtain ⟨x, hx⟩ : ∃ x, P[j]? = some x := ⟨_, List.getElem?_eq_getElem (by rw [HN.out]; exact hlt)⟩
   have hxm := List.mem_of_getElem? hx
   obtain ⟨b1, o1, p1, e1, rfl, x0, x1, x2, hsi, hlow⟩ := HP.out.at' j x hx
   replace x0 := oldcell hbw x0 (World.block_lt_of_cell? _ _ x0); replace x1 := oldcell hbw x1 (World.block_lt_of_cell? _ _ x1); replace x2 := oldcell hbw x2 (World.block_lt_of_cell? _ _ x2)
   have hjl : (j : Int) < (N : Int) := by omega
   have hxl := HPL.out x hxm
   have hval := fun (wx : World) (hb : Below w3.heap.size w3 wx) => rvalid21_any (hsi.up (btr hbw hb)) (by omega) n (by omega)
   have hvb := vlit_badl n x
   have hDok : ∀ c ∈ D ++ P.take j, ∀ x ∈ c, LOk n x := fun c hc => (List.mem_append.1 hc).elim (HD.out c) (HOK.out c)
   have hDln : ∀ c ∈ D ++ P.take j, c.length ≤ 100000 := fun c hc => (List.mem_append.1 hc).elim (fun h => by have := HDL.out c h; omega) (fun h => by have := HPL.out c (List.mem_of_mem_take h); omega)
   have himp := fun (wx : World) (hb : Below w3.heap.size w3 wx) (hv : vlit n x = true) => implies_any hn (hO.up hb).at hDok hDln (by have := hO.len; omega) (hsi.up (btr hbw hb)) hxl (vlit_iff.1 hv)
   have happ := fun (wx : World) (hb : Below w3.heap.size w3 wx) => (hO.up hb).app (l := x) (by omega) (Nat.le_trans hbw.size hb.size) (hsi.up (btr hbw hb)) (fun h0 a ha => ⟨(hlow a ha).2, (hlow a ha).2⟩)
   have hstep := HRR2.out
   rw [drop_at hx, rjust_cons] at hstep
   have hlen := hO.len
   obtain ⟨t, ht⟩ : ∃ z, vlit n x = z := ⟨_, rfl⟩
   obtain ⟨t2, ht2⟩ : ∃ z, rimplies n (D ++ P.take j) x = z := ⟨_, rfl⟩
   obtain ⟨X, hX⟩ : ∃ z, x.length = z := ⟨_, rfl⟩
   rw [hvb, ht, hX] at hval
   rw [hlen, hX, ht, ht2] at himp
   rw [ht, ht2] at hstep
   rw [hX] at happ x1
   have HVAL := Lib.hid hval; have HIMP := Lib.hid himp; have HST := Lib.hid hstep; have HAPP := Lib.hid happ; have HX := Lib.hid hx; have HT := Lib.hid ht; have HBW := Lib.hid hbw
   clear hval hvb himp happ hstep hsi hlow hDok hDln hxl hxm hO hlen ht ht2 hX hx hbw
   have hre : t = false ∨ t2 = false → R = false := fun h => by
     rw [HST.out]; rcases h with rfl | rfl
     · rfl
     · cases t <;> rfl
   have HRE := Lib.hid hre; clear hre
   cases t with
   | false =>
     go_wp2_with (first | (go_at_call 14; refine (HVAL.out _ (Below.refl _ _)).mono ?_; rintro e w4 ⟨rfl, hw⟩; replace hw := hw.symm; subst hw))
     go_ret
     rw [HRE.out (by simp)]
     exact ⟨rfl, HBW.out⟩
   | true =>
     cases t2 with
     | false =>
       go_wp2_with (first | (go_at_call 14; refine (HVAL.out _ (Below.refl _ _)).mono ?_; rintro e w4 ⟨rfl, hw⟩; replace hw := hw.symm; subst hw) | (go_at_call 48; refine (HIMP.out _ (Below.refl _ _) (by simp)).mono ?_; rintro e w4 ⟨rfl, hb⟩; have HB4 := Lib.hid (btr HBW.out hb); clear hb))
       go_ret
       rw [HRE.out (by simp)]
       exact ⟨rfl, HB4.out⟩
     | true =>
       go_upto_region 7 with (first | (go_at_call 14; refine (HVAL.out _ (Below.refl _ _)).mono ?_; rintro e w4 ⟨rfl, hw⟩; replace hw := hw.symm; subst hw) | (go_at_call 48; refine (HIMP.out _ (Below.refl _ _) (by simp)).mono ?_; rintro e w4 ⟨rfl, hb⟩; replace x1 := oldcell hb x1 (World.block_lt_of_cell? _ _ x1); obtain ⟨q5, c5, w5, hrun, hO5, hb5⟩ := HAPP.out _ hb; have HO5 := Lib.hid hO5; have HB5 := Lib.hid ((btr HBW.out hb).trans hb5); clear hb hO5 hb5))
       go_wp2_with (first | (at_builtin; go_must (refine wpList_run rfl (exec_app rfl rfl rfl hrun) ?_)))
       go_roundg (N - (j + 1))
       case measure => (have := HG.out; omega)
       case rel =>
         refine ⟨j + 1, m + 1, q5, c5, by go_num, rfl, by omega, rfl, by omega, ?_, HB5.out, ?_, ?_⟩
         · rw [take_succ_eq HX.out, ← List.append_assoc]; exact HO5.out
         · rw [take_succ_eq HX.out, ← List.append_assoc, HST.out]; rfl
         · intro c hc
           rw [take_succ_eq HX.out] at hc
           rcases List.mem_append.1 hc with h | h
           · exact HOK.out c h
           · rw [List.mem_singleton.1 h]; exact vlit_iff.1 HT.out
theorem Done.unsat' {n : Nat} {A : List (List Int)} {assume : List Int} {p : List (List Int)} {r : SS × Int} (h : Done n A assume p r) (hr : r.2 = 2) (hv : ∀ x ∈ assume, LOk n x) : Unsat A assume :=
  (h.unsat hr hv).mono (fun _ hc => hc) (h.no hr).2.2
theorem Done.least {n : Nat} {A : List (List Int)} {assume : List Int} {p : List (List Int)} {r : SS × Int} (h : Done n A assume p r) (hA : ∀ c ∈ A, ∀ x ∈ c, LOk n x) (hv : ∀ x ∈ assume, LOk n x) : (r.2 = 1 → rleast n A assume = some (mvals n r.1.model)) ∧ (r.2 = 2 → rleast n A assume = none) :=
  ⟨fun q => (h.yes q).2.rleast hA hv, fun q => (h.unsat' q hv).rleast (fun c hc x hx => (hA c hc x hx).1) fun x hx => (hv x hx).1⟩
theorem Done.want {n : Nat} {A : List (List Int)} {assume : List Int} {p : List (List Int)} {r : SS × Int} (h : Done n A assume p r) (hA : ∀ c ∈ A, ∀ x ∈ c, LOk n x) (hv : ∀ x ∈ assume, LOk n x) (h0 : r.2 ≠ 0) : r.2 = routcome n A assume := by
  obtain ⟨h1, h2⟩ := h.least hA hv
  unfold routcome
  rcases h.oc with q | q | q
  · exact absurd q h0
  · rw [h1 q, q]; rfl
  · rw [h2 q, q]; rfl
theorem pow3_le {n : Nat} (h : n ≤ 8) : 3 ^ n ≤ 6561 := by
  have := Nat.pow_le_pow_right (n := 3) (by omega) h
  simpa using this
/-- a search with enough fuel tells the outcome -/
theorem gd_done {n : Nat} {A : List (List Int)} {s : SS} (h : Gd n A s) (l : List Int) (f : Int) : Done n A l s.proof (solve s l f) := by
  by_cases hc : (∀ x ∈ l, LOk n x) ∧ 0 < f
  · exact (solve_ok h.sv h.nomk hc.1 hc.2).1
  · exact (solve_bad h.sv h.nomk hc).1
theorem gd_known {n : Nat} {A : List (List Int)} {s : SS} (h : Gd n A s) (hn : n ≤ 8) (hp : s.proof.length < 13000) {l : List Int} (hv : ∀ x ∈ l, LOk n x) : (solve s l 6561).2 ≠ 0 := fun q => by
  have h3 := pow3_le hn
  rcases (solve_ok (fuel := 6561) h.sv h.nomk hv (by omega)).2 q with w | w
  · omega
  · have : ((3 ^ n : Nat) : Int) ≤ 6561 := by omega
    omega
theorem gd_sure {n : Nat} {A : List (List Int)} {s : SS} (h : Gd n A s) (hn : n ≤ 8) (hp : s.proof.length < 13000) {l : List Int} (hv : ∀ x ∈ l, LOk n x) : (solve s l 6561).2 = routcome n A l :=
  (gd_done h l 6561).want h.sv.ok hv (gd_known h hn hp hv)
theorem solve_fuel0 {s : SS} {l : List Int} {f : Int} (hf : f ≤ 0) : (solve s l f).2 = 0 := by
  unfold solve; rw [if_neg (fun q => by have := q.2; omega)]
theorem rsat_same {vs : List Bool} {A A' : List (List Int)} {am : List Int} (h : ∀ c, c ∈ A ↔ c ∈ A') : rsat vs A am = rsat vs A' am := by
  unfold rsat
  congr 1
  rw [Bool.eq_iff_iff, List.all_eq_true, List.all_eq_true]
  exact ⟨fun q c hc => q c ((h c).2 hc), fun q c hc => q c ((h c).1 hc)⟩
theorem rleast_same {n : Nat} {A A' : List (List Int)} {am : List Int} (h : ∀ c, c ∈ A ↔ c ∈ A') : rleast n A am = rleast n A' am := by
  unfold rleast
  rw [show (fun k => rsat (bits n k) A am) = fun k => rsat (bits n k) A' am from funext fun k => rsat_same h]
theorem routcome_same {n : Nat} {A A' : List (List Int)} {am : List Int} (h : ∀ c, c ∈ A ↔ c ∈ A') : routcome n A am = routcome n A' am := by
  unfold routcome; rw [rleast_same h]
theorem add_proof (s : SS) (l : List Int) : (s.add l).proof = s.proof := by unfold SS.add; split <;> rfl
section
variable {B n b1 b2 : Nat} {w w' : World} {o1 o2 o1' : Nat → Option Role} {A1 A2 A1' : List (List Int)} {s1 s2 s1' : SS}
theorem CsAt.left {q : Option Addr} {cq : Nat} {L : List (List Int)} (h : CsAt (fun g => g < B ∨ Un o1 o2 g) w q cq L) (hx : Ext NoX w o1 w' o1') (hb : Below B w w') : CsAt (fun g => g < B ∨ Un o1' o2 g) w' q cq L :=
  (h.imp (K' := fun g => g < B ∨ (Un o1 o2 g ∧ Un o1' o2 g)) fun g hg hl => hg.imp id fun q => ⟨q, Un.step hx q hl⟩).keep hx.size (fun g hg hl => hg.elim (fun q => hb.block g q) fun q => hx.block g hl q.1.1 fun r => r) |>.imp fun g hg _ => hg.imp id And.right
theorem CsAt.swap {q : Option Addr} {cq : Nat} {L : List (List Int)} (h : CsAt (fun g => g < B ∨ Un o1 o2 g) w q cq L) : CsAt (fun g => g < B ∨ Un o2 o1 g) w q cq L := h.imp fun g hg _ => hg.imp id fun q => ⟨q.2, q.1⟩
theorem Two.addS (h : Two B w n o1 b1 A1 s1 o2 b2 A2 s2) (hn : n ≤ 20000) (hA : A1.length < 60000) {p : Option Addr} {cap k : Nat} {l : List Int} (hl : SI w p cap l) (hk : l.length = k) (hll : k ≤ 50000) (hlow : l ≠ [] → ∀ a, p = some a → a.block < B ∨ Un o1 o2 a.block) :
    Calls Try.prog 15 #[.pointer (some ⟨b1, 0, none⟩), .slice p k cap] w fun e w' => e = .returned (.bool (vlit n l)) ∧ ∃ o', Two B w' n o' b1 (if vlit n l = true then A1 ++ [l] else A1) (if vlit n l = true then s1.add l else s1) o2 b2 A2 s2 ∧ Below B w w' ∧ Ext NoX w o1 w' o' := by
  subst hk
  refine (h.l.add_any hn hA hl hll (fun h0 a ha => (hlow h0 a ha).imp id fun q => q.1) h.z).mono ?_
  rintro e w' ⟨h1, o', h3, h4⟩
  obtain ⟨h5, h6⟩ := h.left h3 h4
  exact ⟨h1, o', h5, h6, h4⟩
theorem Two.solX (h : Two B w n o1 b1 A1 s1 o2 b2 A2 s2) (hn : n ≤ 20000) (hA : A1.length ≤ 700000) {p : Option Addr} {cap k : Nat} {l : List Int} (hl : SI w p cap l) (hk : l.length = k) (hll : k ≤ 50000) (hlow : l ≠ [] → ∀ a, p = some a → a.block < B ∨ Un o1 o2 a.block) (fuel : Int) :
    Calls Try.prog 17 #[.pointer (some ⟨b1, 0, none⟩), .slice p k cap, .int .i64 fuel] w fun e w' => e = .returned (.int .i64 (solve s1 l fuel).2) ∧ ∃ o', Two B w' n o' b1 A1 (solve s1 l fuel).1 o2 b2 A2 s2 ∧ Below B w w' ∧ Ext NoX w o1 w' o' := by
  subst hk
  refine (h.l.solve_any hn hA hl hll (fun h0 a ha => (hlow h0 a ha).imp id fun q => q.1) fuel h.z).mono ?_
  rintro e w' ⟨h1, o', h3, h4⟩
  obtain ⟨h5, h6⟩ := h.left h3 h4
  exact ⟨h1, o', h5, h6, h4⟩
end
/-- the value of a variable behind a search, by its outcome -/
theorem value_of {n : Nat} {A : List (List Int)} {l : List Int} {p : List (List Int)} {S : SS} {oc : Int} (h : Done n A l p (S, oc)) (h0 : oc ≠ 0) {v : Nat} (h1 : 1 ≤ v) (h2 : v ≤ n) :
    (decide (0 < (v : Int)) && decide ((v : Int) < (S.model.length : Int)) && decide (0 < S.model.getD (v : Int).toNat 0)) = (decide (oc = 1) && (mvals n S.model).getD (v - 1) false) := by
  rcases h.oc with q | q | q
  · exact absurd q h0
  · have hb := (h.yes q).2.len
    dsimp only at hb q
    rw [decide_eq_true (show (0 : Int) < (v : Int) by omega), decide_eq_true (show (v : Int) < (S.model.length : Int) by omega), Int.toNat_natCast, mvals_get (by omega), show v - 1 + 1 = v by omega, decide_eq_true q]; rfl
  · have hm := (h.no q).1
    dsimp only at hm q
    rw [hm, decide_eq_false (show ¬ (v : Int) < (([] : List Int).length : Int) by simp), Bool.and_false, Bool.false_and, decide_eq_false (show ¬ oc = 1 by omega)]
    rfl
end Go.Proofs.Ytdibfjcmgbpnpaa
