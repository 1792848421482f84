/- Walk of layer 16: the sorter's sort. -/
import Derived.Test.YtanlecgpnknhoaaC10
namespace Go.Proofs.Ytanlecgpnknhoaa
set_option linter.unusedSimpArgs false
set_option linter.unusedVariables false
open Go.RowKit

theorem usort_good : ∀ (e low : Nat) (l : List Int) (c : List Gate), GoodS (c, l) → GoodS ((usort 1 e low l).run c)
  | 0, low, l, c, h => h
  | e + 1, low, l, c, h => by
    unfold usort
    rw [CM.run_bind, CM.run_bind]
    exact umerge_good e _ _ _ _ (usort_good e _ _ _ (usort_good e _ _ _ h))

set_option maxRecDepth 100000 in
set_option maxHeartbeats 4000000 in
theorem sort_any (L : List Nat) (b g n B bl bb bc bm bs : Nat) (hn : n ≤ 1000) (hbs1 : bs ≠ b) (hbs2 : bs ≠ g) : ∀ (e low : Nat) (c : List Gate) (l : List Int) (w : World) (ht : low + 2 ^ e ≤ n) (hG : GoodS (c, l)) (hS : SortSt L B b g n w (c, l)) (hE : MEnv b g n bl bb bc bm w) (ks : w.cell? ⟨bs, 0, none⟩ = some (.func (.func 68) #[] #[.pointer (some ⟨bs, 0, none⟩), .pointer (some ⟨bm, 0, none⟩)])) (hL : ∀ k ∈ L, k < w.heap.size),
    Calls Try.prog 68 #[.int .i64 low, .int .i64 ((2 ^ e : Nat) : Int), .pointer (some ⟨bs, 0, none⟩), .pointer (some ⟨bm, 0, none⟩)] w (CmpPost L B b g n w ((usort 1 e low l).run c)) := by
  intro e
  induction e with
  | zero =>
    intro low c l w ht hG hS hE ks hL
    have HS := Lib.hid hS
    clear hS hE hG hL
    rw [show ((2 ^ 0 : Nat) : Int) = 1 from rfl]
    go_enter Try.func68, Try.ntmps68
    go_wp2_with fail
    all_goals (go_end0; exact ⟨rfl, HS.out, KeepX.refl _ _⟩)
  | succ e ih =>
    intro low c l w ht hG hS hE ks hL
    obtain ⟨M, hM⟩ : ∃ M, 2 ^ e = M := ⟨_, rfl⟩
    obtain ⟨N, hN⟩ : ∃ N, 2 ^ (e + 1) = N := ⟨_, rfl⟩
    have hMN : N = M + M := by rw [← hN, ← hM, Nat.pow_succ]; omega
    have hM1 : 1 ≤ M := by rw [← hM]; exact Nat.one_le_two_pow
    have hme : ∀ c l w, 1 ≤ 1 → _ := merge_any L b g n B bl bb bc bm hn e low 1
    rw [hN] at ht ⊢
    rw [Nat.one_mul, hN] at hme
    obtain ⟨c1, l1, h1⟩ : ∃ c' l', (usort 1 e low l).run c = (c', l') := ⟨_, _, rfl⟩
    obtain ⟨c2, l2, h2⟩ : ∃ c' l', (usort 1 e (low + M) l1).run c1 = (c', l') := ⟨_, _, rfl⟩
    have g1 : GoodS (c1, l1) := by rw [← h1]; exact usort_good _ _ _ _ hG
    have g2 : GoodS (c2, l2) := by rw [← h2]; exact usort_good _ _ _ _ g1
    have hrun : (usort 1 (e + 1) low l).run c = (umerge 1 e low 1 l2).run c2 := by
      unfold usort
      rw [CM.run_bind, CM.run_bind, hM, h1, h2]
    rw [hrun]
    have a0 := ih low
    have a1 := ih (low + M)
    rw [hM] at a0 a1
    have hdiv : (N : Int) / 2 = (M : Int) := by omega
    have hN2 : 2 ≤ N := by omega
    have HMN := Lib.hid hMN
    have A0 := Lib.hid a0; have A1 := Lib.hid a1; have H1 := Lib.hid h1; have H2 := Lib.hid h2; have HM := Lib.hid hme
    have HS := Lib.hid hS; have HE := Lib.hid hE; have HG := Lib.hid hG; have HL := Lib.hid hL; have G1 := Lib.hid g1; have G2 := Lib.hid g2
    clear hS hE hG hL g1 g2 h1 h2 hrun a0 a1 ih hM hN hme hMN
    go_enter Try.func68, Try.ntmps68
    go_wp2_with fail
    have cc := A0.out c l w (by have := HMN.out; omega) HG.out HS.out HE.out ks HL.out
    rw [H1.out] at cc
    refine cc.mono ?_
    clear cc
    rintro e w1 ⟨he, hs2, hk⟩
    have S1 := Lib.hid hs2; have K1 := Lib.hid hk; have E1 := Lib.hid (HE.out.keep hk); have L1 := Lib.hid (show ∀ k ∈ L, k < w1.heap.size from fun k h => Nat.lt_of_lt_of_le (HL.out k h) hk.size)
    have ks1 := hk.cell ks (by simp; omega)
    clear hs2 hk ks
    subst he
    go_wp2_with fail
    rw [show (low : Int) + (M : Int) = ((low + M : Nat) : Int) by omega]
    have cc := A1.out c1 l1 w1 (by have := HMN.out; omega) G1.out S1.out E1.out ks1 L1.out
    rw [H2.out] at cc
    refine cc.mono ?_
    clear cc
    rintro e w2 ⟨he, hs2, hk⟩
    have S2 := Lib.hid hs2; have K2 := Lib.hid (K1.out.trans hk); have E2 := Lib.hid (E1.out.keep hk); have L2 := Lib.hid (show ∀ k ∈ L, k < w2.heap.size from fun k h => Nat.lt_of_lt_of_le (L1.out k h) hk.size)
    have km2 := E2.out.cm
    clear hs2 hk ks1
    subst he
    go_wp2_with fail
    refine (HM.out c2 l2 w2 (by omega) (by omega) G2.out S2.out E2.out L2.out).mono ?_
    rintro e w3 ⟨he, hs2, hk⟩
    have S3 := Lib.hid hs2; have K3 := Lib.hid (K2.out.trans hk)
    clear hs2 hk km2
    subst he
    go_wp2_with fail
    go_end0
    exact ⟨rfl, S3.out, K3.out⟩
end Go.Proofs.Ytanlecgpnknhoaa
