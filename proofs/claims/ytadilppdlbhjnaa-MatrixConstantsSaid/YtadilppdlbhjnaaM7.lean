/- Walks of layer 15: the methods' closures. -/
import Derived.Test.YtadilppdlbhjnaaM4
import Derived.Test.YtadilppdlbhjnaaGB
namespace Go.Proofs.Ytadilppdlbhjnaa
set_option linter.unusedSimpArgs false
set_option linter.unusedVariables false
open Go.RowKit

set_option maxRecDepth 100000 in
set_option maxHeartbeats 2000000 in
theorem rounds1_any (n : Nat) (w : World) (hn : n ≤ 4) :
    Calls Try.prog 126 #[.int .i64 n] w fun e w' => e = .returned (.int .i64 ((plog n n 0 : Nat) : Int)) ∧ w' = w := by
  have hp : ∀ n ≤ 4, ∀ K ≤ 2, (K < plog n n 0 → 2 ^ K < n) ∧ (K = plog n n 0 → n ≤ 2 ^ K) := by decide
  have hp2 := plog_le4 n hn
  obtain ⟨P, hP⟩ : ∃ P, plog n n 0 = P := ⟨_, rfl⟩
  have HP := Lib.hid (hp n hn)
  rw [hP] at HP hp2 ⊢
  clear hp hP
  go_enter Try.func126, Try.ntmps126
  go_wp2_with fail
  go_loopg [3] P (fun N s3 wr => ∃ K : Nat, s3 = .int .i64 K ∧ K ≤ P ∧ N = P - K ∧ wr = w)
  case atStart => exact ⟨0, rfl, by omega, rfl, rfl⟩
  case round =>
    obtain ⟨K, rfl, hK, hN, rfl⟩ := hrel
    have HNk := Lib.hid hN; clear hN
    have h12 := HP.out K (by omega)
    by_cases hlt : K < P
    case pos =>
      have h1 := h12.1 hlt
      have hK3 : K = 0 ∨ K = 1 := by omega
      clear h12
      rcases hK3 with rfl | rfl
      · have h2 : (1 : Int) < (n : Int) := by omega
        go_wp2_with fail
        go_roundg (P - 1)
        case measure => (have := HNk.out; omega)
        case rel => exact ⟨1, rfl, by omega, rfl, rfl⟩
      · have h2 : (2 : Int) < (n : Int) := by omega
        go_wp2_with fail
        go_roundg (P - 2)
        case measure => (have := HNk.out; omega)
        case rel => exact ⟨2, rfl, by omega, rfl, rfl⟩
    case neg =>
      obtain rfl : K = P := by omega
      have h1 := h12.2 rfl
      have hK3 : K = 0 ∨ K = 1 ∨ K = 2 := by omega
      clear h12
      rcases hK3 with rfl | rfl | rfl
      · have h2 : ¬ (1 : Int) < (n : Int) := by omega
        go_wp2_with fail
        go_ret
        exact ⟨rfl, rfl⟩
      · have h2 : ¬ (2 : Int) < (n : Int) := by omega
        go_wp2_with fail
        go_ret
        exact ⟨rfl, rfl⟩
      · have h2 : ¬ (4 : Int) < (n : Int) := by omega
        go_wp2_with fail
        go_ret
        exact ⟨rfl, rfl⟩
theorem rounds2_any (n : Nat) (w : World) (hn : n ≤ 4) :
    Calls Try.prog 128 #[.int .i64 n] w fun e w' => e = .returned (.int .i64 ((n : Int) - 1)) ∧ w' = w := by
  go_enter Try.func128, Try.ntmps128
  go_wp2_with fail
  go_ret
  exact ⟨rfl, rfl⟩
end Go.Proofs.Ytadilppdlbhjnaa
