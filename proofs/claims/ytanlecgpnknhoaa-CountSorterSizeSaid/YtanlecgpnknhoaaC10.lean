/- Walk of layer 16: the sorter's merge. -/
import Derived.Test.YtanlecgpnknhoaaC9
namespace Go.Proofs.Ytanlecgpnknhoaa
set_option linter.unusedSimpArgs false
set_option linter.unusedVariables false
open Go.RowKit

structure MEnv (b g n bl bb bc bm : Nat) (w : World) : Prop where
  cl : w.cell? ⟨bl, 0, none⟩ = some (.slice (some ⟨g, 0, none⟩) n n)
  cb : w.cell? ⟨bb, 0, none⟩ = some (.pointer (some ⟨b, 0, none⟩))
  cc : w.cell? ⟨bc, 0, none⟩ = some (.func (.func 64) #[] #[.pointer (some ⟨bl, 0, none⟩), .pointer (some ⟨bb, 0, none⟩)])
  cm : w.cell? ⟨bm, 0, none⟩ = some (.func (.func 67) #[] #[.pointer (some ⟨bc, 0, none⟩), .pointer (some ⟨bm, 0, none⟩)])
  n1 : bl ≠ b
  n2 : bl ≠ g
  n3 : bb ≠ b
  n4 : bb ≠ g
  n5 : bc ≠ b
  n6 : bc ≠ g
  n7 : bm ≠ b
  n8 : bm ≠ g
  nn : b ≠ g
theorem MEnv.keep {b g n bl bb bc bm : Nat} {w w' : World} (h : MEnv b g n bl bb bc bm w) (hk : KeepX [b, g] w w') : MEnv b g n bl bb bc bm w' := by
  obtain ⟨cl, cb, cc, cm, n1, n2, n3, n4, n5, n6, n7, n8, nn⟩ := h
  exact ⟨hk.cell cl (by simp; omega), hk.cell cb (by simp; omega), hk.cell cc (by simp; omega), hk.cell cm (by simp; omega), n1, n2, n3, n4, n5, n6, n7, n8, nn⟩
/-- a state that the builder can go on from -/
def GoodS (x : List Gate × List Int) : Prop := x.1.length ≤ 20000 ∧ AllLe x.2
theorem cmpAt_goodS (i j : Nat) {l : List Int} {c : List Gate} (h : GoodS (c, l)) : GoodS ((cmpAt 1 i j l).run c) := by
  have h1 := cor_le (a := l.getD i 1) (b := l.getD j 1) h.1
  have h2 := cand_le (a := l.getD i 1) (b := l.getD j 1) h1.1
  refine ⟨h2.1, fun r hr => ?_⟩
  rcases List.mem_or_eq_of_mem_set hr with hr | hr
  · rcases List.mem_or_eq_of_mem_set hr with hr | hr
    · exact h.2 r hr
    · rw [hr]; exact h1.2
  · rw [hr]; exact Int.le_trans h2.2 (by omega)
theorem mergeLoop_good (low step : Nat) {l : List Int} {c : List Gate} (h : GoodS (c, l)) : ∀ m, GoodS ((mergeLoop 1 low step m l).run c)
  | 0 => h
  | m + 1 => by
    show GoodS (((mergeLoop 1 low step m l).bind _).run c)
    rw [CM.run_bind]
    exact cmpAt_goodS _ _ (mergeLoop_good low step h m)
theorem umerge_good : ∀ (e low step : Nat) (l : List Int) (c : List Gate), GoodS (c, l) → GoodS ((umerge 1 e low step l).run c)
  | 0, low, step, l, c, h => cmpAt_goodS _ _ h
  | e + 1, low, step, l, c, h => by
    unfold umerge
    rw [CM.run_bind, CM.run_bind]
    exact mergeLoop_good _ _ (umerge_good e _ _ _ _ (umerge_good e _ _ _ _ h)) _

set_option maxRecDepth 100000 in
set_option maxHeartbeats 4000000 in
theorem merge_any (L : List Nat) (b g n B bl bb bc bm : Nat) (hn : n ≤ 1000) : ∀ (e low step : Nat) (c : List Gate) (l : List Int) (w : World) (hs : 1 ≤ step) (ht : low + step * 2 ^ (e + 1) < n + step) (hG : GoodS (c, l)) (hS : SortSt L B b g n w (c, l)) (hE : MEnv b g n bl bb bc bm w) (hL : ∀ k ∈ L, k < w.heap.size),
    Calls Try.prog 67 #[.int .i64 low, .int .i64 ((step * 2 ^ (e + 1) : Nat) : Int), .int .i64 step, .pointer (some ⟨bc, 0, none⟩), .pointer (some ⟨bm, 0, none⟩)] w (CmpPost L B b g n w ((umerge 1 e low step l).run c)) := by
  intro e
  induction e with
  | zero =>
    intro low step c l w hs ht hG hS hE hL
    have e0 : step * 2 ^ (0 + 1) = step + step := by omega
    rw [e0] at ht ⊢
    have e2 : (2 : Int) * (step : Int) = ((step + step : Nat) : Int) := by omega
    have HS := Lib.hid hS; have HE := Lib.hid hE; have HG := Lib.hid hG; have HL := Lib.hid hL
    have kc := hE.cc
    clear hS hE hG hL
    go_enter Try.func67, Try.ntmps67
    go_wp2_with fail
    rw [show (low : Int) + (step : Int) = ((low + step : Nat) : Int) by omega]
    refine (cmp_any L c l low (low + step) b g n B bl bb w (by omega) (by omega) hn HG.out.2 HG.out.1 HS.out HE.out.cl HE.out.cb HE.out.n1 HE.out.n2 HE.out.n3 HE.out.n4 HE.out.nn HL.out).mono ?_
    rintro e w' ⟨he, hs2, hk⟩
    have H2 := Lib.hid hs2; have K2 := Lib.hid hk; clear hs2 hk
    subst he
    go_wp2_with fail
    go_end0
    exact ⟨rfl, H2.out, K2.out⟩
  | succ e ih =>
    intro low step c l w hs ht hG hS hE hL
    obtain ⟨P, hP⟩ : ∃ P, 2 ^ (e + 1) = P := ⟨_, rfl⟩
    have hP2 : 2 ≤ P := by rw [← hP, Nat.pow_succ]; have := Nat.one_le_two_pow (n := e); omega
    obtain ⟨M, hM⟩ : ∃ M, 2 * step = M := ⟨_, rfl⟩
    obtain ⟨N, hN⟩ : ∃ N, step * 2 ^ (e + 1 + 1) = N := ⟨_, rfl⟩
    have hNP : N = M * P := by rw [← hN, ← hM, Nat.pow_succ, hP]; simp [Nat.mul_comm, Nat.mul_left_comm]
    have hQ2 : M + M ≤ N := by rw [hNP]; have := Nat.mul_le_mul_left M hP2; omega
    have e1 : M * 2 ^ (e + 1) = N := by rw [hP, hNP]
    rw [hN] at ht ⊢
    obtain ⟨c1, l1, h1⟩ : ∃ c' l', (umerge 1 e low M l).run c = (c', l') := ⟨_, _, rfl⟩
    obtain ⟨c2, l2, h2⟩ : ∃ c' l', (umerge 1 e (low + step) M l1).run c1 = (c', l') := ⟨_, _, rfl⟩
    have g1 : GoodS (c1, l1) := by rw [← h1]; exact umerge_good _ _ _ _ _ hG
    have g2 : GoodS (c2, l2) := by rw [← h2]; exact umerge_good _ _ _ _ _ g1
    have hrun : (umerge 1 (e + 1) low step l).run c = (mergeLoop 1 low step (P - 1) l2).run c2 := by
      unfold umerge
      rw [CM.run_bind, CM.run_bind, hM, h1, h2, hP]
    rw [hrun]
    have a0 := ih low M
    have a1 := ih (low + step) M
    rw [e1] at a0 a1
    have A0 := Lib.hid a0; have A1 := Lib.hid a1; have H1 := Lib.hid h1; have H2 := Lib.hid h2
    have HS := Lib.hid hS; have HE := Lib.hid hE; have HG := Lib.hid hG; have HL := Lib.hid hL; have G1 := Lib.hid g1; have G2 := Lib.hid g2
    have HNP := Lib.hid hNP
    have kc := hE.cc; have km := hE.cm
    have hMi : (2 : Int) * (step : Int) = (M : Int) := by omega
    clear hS hE hG hL g1 g2 h1 h2 hrun a0 a1 ih e1 hP hN hNP
    go_enter Try.func67, Try.ntmps67
    go_wp2_with fail
    have cc := A0.out c l w (by omega) (by omega) HG.out HS.out HE.out HL.out
    rw [H1.out] at cc
    refine cc.mono ?_
    clear cc
    rintro e w1 ⟨he, hs2, hk⟩
    have S1 := Lib.hid hs2; have K1 := Lib.hid hk; have E1 := Lib.hid (HE.out.keep hk); have L1 := Lib.hid (show ∀ k ∈ L, k < w1.heap.size from fun k h => Nat.lt_of_lt_of_le (HL.out k h) hk.size)
    have km1 := E1.out.cm
    clear hs2 hk km kc
    subst he
    go_wp2_with fail
    rw [show (low : Int) + (step : Int) = ((low + step : Nat) : Int) by omega]
    have cc := A1.out c1 l1 w1 (by omega) (by omega) G1.out S1.out E1.out L1.out
    rw [H2.out] at cc
    refine cc.mono ?_
    clear cc
    rintro e w2 ⟨he, hs2, hk⟩
    have S2 := Lib.hid hs2; have K2 := Lib.hid (K1.out.trans hk); have E2 := Lib.hid (E1.out.keep hk); have L2 := Lib.hid (show ∀ k ∈ L, k < w2.heap.size from fun k h => Nat.lt_of_lt_of_le (L1.out k h) hk.size)
    clear hs2 hk km1
    subst he
    go_wp2_with fail
    have X0 := Lib.hid (show low + step + step = low + M by omega)
    go_loopg [9] P (fun N' v wr => ∃ k I : Nat, v = .int .i64 I ∧ low + step + k * M = I ∧ k + 1 ≤ P ∧ N' = P - k ∧ SortSt L B b g n wr ((mergeLoop 1 low step k l2).run c2) ∧ KeepX [b, g] w wr)
    case atStart => exact ⟨0, low + step, by go_num, by omega, by omega, rfl, S2.out, K2.out⟩
    case round =>
      obtain ⟨k, I, rfl, hI, hk, hN', hs3, hk3⟩ := hrel
      have hE3 := HE.out.keep hk3
      have kc := hE3.cc
      have gk := mergeLoop_good low step G2.out k
      obtain ⟨c3, l3, h3⟩ : ∃ c' l', (mergeLoop 1 low step k l2).run c2 = (c', l') := ⟨_, _, rfl⟩
      rw [h3] at hs3 gk
      obtain ⟨R, hR⟩ : ∃ R, k * M = R := ⟨_, rfl⟩
      rw [hR] at hI
      have hNe := HNP.out
      by_cases hlt : k + 1 < P
      case pos =>
        have hx : R + M + M ≤ N := by
          rw [hNe, ← hR]
          have := Nat.mul_le_mul_right M (show k + 2 ≤ P by omega)
          rw [Nat.add_mul, Nat.mul_comm P M] at this; omega
        have hcI : (I : Int) + (step : Int) < (low : Int) + (N : Int) := by omega
        have S3 := Lib.hid hs3; have K3 := Lib.hid hk3; have E3 := Lib.hid hE3; have G3 := Lib.hid gk; have H3 := Lib.hid h3; have HR := Lib.hid hR
        have L3 := Lib.hid (show ∀ k ∈ L, k < wr.heap.size from fun k h => Nat.lt_of_lt_of_le (HL.out k h) hk3.size)
        have HI := Lib.hid hI; have HN' := Lib.hid hN'
        clear hs3 hk3 hE3 gk h3 hR hN' hNe
        go_wp2_with fail
        rw [show (I : Int) + (step : Int) = ((I + step : Nat) : Int) by omega]
        have hI1 : I < n := by omega
        have hI2 : I + step < n := by omega
        refine (cmp_any L c3 l3 I (I + step) b g n B bl bb wr hI1 hI2 hn G3.out.2 G3.out.1 S3.out E3.out.cl E3.out.cb E3.out.n1 E3.out.n2 E3.out.n3 E3.out.n4 E3.out.nn L3.out).mono ?_
        rintro e w4 ⟨he, hs2, hk⟩
        have S4 := Lib.hid hs2; have K4 := Lib.hid (K3.out.trans hk); clear hs2 hk kc
        subst he
        go_wp2_with fail
        go_roundg (P - (k + 1))
        case measure => (have := HN'.out; omega)
        case rel =>
          refine ⟨k + 1, I + M, by go_num, ?_, hlt, rfl, ?_, K4.out⟩
          · rw [Nat.add_mul, HR.out]; omega
          · have hr : (mergeLoop 1 low step (k + 1) l2).run c2 = (cmpAt 1 I (I + step) l3).run c3 := by
              show ((mergeLoop 1 low step k l2).bind _).run c2 = _
              rw [CM.run_bind, H3.out, hM, HR.out, HI.out]
            rw [hr]; exact S4.out
      case neg =>
        have hx : R + M = N := by
          rw [hNe, ← hR, show P = k + 1 by omega, Nat.mul_comm M, Nat.add_mul]; omega
        have hcI : ¬ (I : Int) + (step : Int) < (low : Int) + (N : Int) := by omega
        have S3 := Lib.hid hs3; have K3 := Lib.hid hk3; have H3 := Lib.hid h3
        have hPk := Lib.hid (show P - 1 = k by omega)
        clear hs3 hk3 hE3 gk h3 hR hN' hNe
        go_wp2_with fail
        go_end0
        rw [hPk.out, H3.out]
        exact ⟨rfl, S3.out, K3.out⟩
end Go.Proofs.Ytanlecgpnknhoaa
