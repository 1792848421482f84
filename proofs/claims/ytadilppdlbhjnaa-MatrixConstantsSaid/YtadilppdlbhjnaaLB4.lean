/- Words and plain laws for the laws of layer 14 over Override. -/
import Derived.Test.YtadilppdlbhjnaaGP
import Derived.Test.YtadilppdlbhjnaaV1
import Derived.Test.YtadilppdlbhjnaaLR
namespace Go.Proofs.Ytadilppdlbhjnaa
set_option linter.unusedSimpArgs false
set_option linter.unusedVariables false
open Go.RowKit

section
variable {kk n : Nat} {c d : List Gate} {a b m : List Cell} {p pa pb : Option Addr} {cap ca cb : Nat} {w : World}
variable (hk0 : 0 < kk) (hk : kk ≤ 2) (hn0 : 0 < n) (hn : n ≤ 3) (hg : Good c) (hl : c.length ≤ 10000) (ha : MOk c ((n ^ kk : Nat) : Int) a) (hb : MOk c ((n ^ kk : Nat) : Int) b)
include hk0 hk hn0 hn hg hl ha hb
theorem overrideL_is (hC : CAt w p cap c) (hA : MxAt w pa ca a) (hD : MxAt w pb cb b) (e : mOverride c n ((n ^ (kk - 1) : Nat) : Int) a b = (d, m)) :
    Calls Try.prog 43 #[.agg #[.slice p c.length cap], .int .i64 n, .agg #[.int .i64 kk, .slice pa a.length ca], .agg #[.int .i64 kk, .slice pb b.length cb]] w (RetCM w d kk m) := by
  obtain ⟨k1, rfl⟩ : ∃ k1, kk = k1 + 1 := ⟨kk - 1, by omega⟩
  have n1 := (pow_9 hn hk : n ^ (k1 + 1) ≤ 9)
  have ha9 : a.length ≤ 9 := Nat.le_trans ha.len n1
  have hb9 : b.length ≤ 9 := Nat.le_trans hb.len n1
  have h3 : n * b.length ≤ 3 * 9 := Nat.mul_le_mul hn hb9
  exact (override_any c a b _ _ k1 n (n ^ k1) _ p pa pb cap ca cb w hC hA hD (by simp) (by omega) hn0 (by omega) rfl hg (by omega) ha hb (by rw [Nat.pow_succ, Nat.mul_comm]; push_cast; exact Int.le_refl _) (by omega)).mono fun e' w' h => h.cm.eq e
end
/-- What MatrixExtends asks of the last circuit. -/
structure LastOk (V : List Bool) (c d D : List Gate) (a b : List Cell) (va vb : List Int) : Prop where
  good : Good D
  len : D.length ≤ 1000
  pre : d <+: D
  va : mValue D V a = va
  vb : mValue D V b = vb
theorem BM.far {w : World} {b b' : Nat} {ar : Int} {v : Value} {m : List Cell} {hs : List Gate} (h : BM w b ar m) (hb : Bx w b' hs) (hne : b' ≠ b) : BM (w.setCell ⟨b', 0, none⟩ v) b ar m := by
  obtain ⟨p1, cap1, h1, h2, h3⟩ := hb
  obtain ⟨q, cq, ⟨⟨k0, f0⟩, ⟨k1, f1⟩, -⟩, hm⟩ := h
  exact ⟨q, cq, ⟨⟨keep_far k0 hne, fz f0⟩, ⟨keep_far k1 hne, fz f1⟩, trivial⟩, hm.box h1 _⟩
end Go.Proofs.Ytadilppdlbhjnaa
