/- Words and plain laws for the laws of layer 14 over Override. -/
import Derived.Test.YtadilppdlbhjnaaGP
import Derived.Test.YtadilppdlbhjnaaV1
import Derived.Test.YtadilppdlbhjnaaN26
namespace Go.Proofs.Ytadilppdlbhjnaa
set_option linter.unusedSimpArgs false
set_option linter.unusedVariables false
open Go.RowKit

section
variable {kk n : Nat} {c d : List Gate} {a b m : List Cell} {p pa pb : Option Addr} {cap ca cb : Nat} {w : World}
variable (hk0 : 0 < kk) (hk : kk ≤ 2) (hn0 : 0 < n) (hn : n ≤ 3) (hg : Good c) (hl : c.length ≤ 10000) (ha : MOk c ((n ^ kk : Nat) : Int) a) (hb : MOk c ((n ^ kk : Nat) : Int) b)
include hk0 hk hn0 hn hg hl ha hb
theorem overrideL_is (hC : CAt w p cap c) (hA : MxAt w pa ca a) (hD : MxAt w pb cb b) (e : mOverride c n ((n ^ (kk - 1) : Nat) : Int) a b = (d, m)) :
    Calls Try.prog 43 #[.agg #[.slice p c.length cap], .int .i64 n, .agg #[.int .i64 kk, .slice pa a.length ca], .agg #[.int .i64 kk, .slice pb b.length cb]] w (RetCM w d kk m) := by
  obtain ⟨k1, rfl⟩ : ∃ k1, kk = k1 + 1 := ⟨kk - 1, by omega⟩
  have n1 := (pow_9 hn hk : n ^ (k1 + 1) ≤ 9)
  have ha9 : a.length ≤ 9 := Nat.le_trans ha.len n1
  have hb9 : b.length ≤ 9 := Nat.le_trans hb.len n1
  have h3 : n * b.length ≤ 3 * 9 := Nat.mul_le_mul hn hb9
  exact (override_any c a b _ _ k1 n (n ^ k1) _ p pa pb cap ca cb w hC hA hD (by simp) (by omega) hn0 (by omega) rfl hg (by omega) ha hb (by rw [Nat.pow_succ, Nat.mul_comm]; push_cast; exact Int.le_refl _) (by omega)).mono fun e' w' h => h.cm.eq e
omit hk0 hn0 in
theorem overrideL_ok (e : mOverride c n ((n ^ (kk - 1) : Nat) : Int) a b = (d, m)) : Grow c d 63 ∧ MOk d ((n ^ kk : Nat) : Int) m := by
  have n1 := (pow_9 hn hk : n ^ kk ≤ 9)
  have ha9 : a.length ≤ 9 := Nat.le_trans ha.len n1
  have hb9 : b.length ≤ 9 := Nat.le_trans hb.len n1
  have h3 : n * b.length ≤ 3 * 9 := Nat.mul_le_mul hn hb9
  obtain ⟨g, o, -⟩ := override_ok (P := ((n ^ (kk - 1) : Nat) : Int)) (n := n) hg ha hb (by omega)
  rw [e] at g o
  exact ⟨g.more (by omega), o⟩
end
theorem value_up {c d : List Gate} {k : Nat} {N : Int} {m : List Cell} (V : List Bool) (h : MOk c N m) (g : Grow c d k) : mValue d V m = mValue c V m := by
  rw [mValue_cv V (h.up g.ge), mValue_cv V h]
  exact congrArg _ (List.filter_congr fun x hx => (h.ref_in hx).cv g V)
/-- What MatrixExtends asks of the last circuit. -/
structure LastOk (V : List Bool) (c d D : List Gate) (a b : List Cell) (va vb : List Int) : Prop where
  good : Good D
  len : D.length ≤ 1000
  pre : d <+: D
  va : mValue D V a = va
  vb : mValue D V b = vb
theorem ext_plain {kk n : Nat} {c : List Gate} {a b : List Cell} (hk0 : 0 < kk) (hk : kk ≤ 2) (hn : n ≤ 3) (hn0 : 0 < n) (hg : Good c) (hl : c.length ≤ 61) (ha : MOk c ((n ^ kk : Nat) : Int) a) (hb : MOk c ((n ^ kk : Nat) : Int) b) :
    ∃ d1 m1 d2 m2 d3 r3 d4 r4, mUnion c a b = (d1, m1) ∧ mOverride d1 n ((n ^ (kk - 1) : Nat) : Int) a b = (d2, m2) ∧ mLone d2 b = (d3, r3) ∧ mIn d3 a b = (d4, r4) ∧
      Grow c d1 18 ∧ Grow d1 d2 63 ∧ Grow d2 d3 27 ∧ Grow d3 d4 18 := by
  have n1 := (pow_9 hn hk : n ^ kk ≤ 9)
  have ha9 : a.length ≤ 9 := Nat.le_trans ha.len n1
  have hb9 : b.length ≤ 9 := Nat.le_trans hb.len n1
  obtain ⟨d1, m1, e1⟩ : ∃ d m, mUnion c a b = (d, m) := ⟨_, _, rfl⟩
  obtain ⟨g1, -, -⟩ := union_ok hg (by omega) ha hb
  rw [e1] at g1; dsimp only at g1
  have l1 := g1.len
  have ha1 := ha.up g1.ge; have hb1 := hb.up g1.ge
  obtain ⟨d2, m2, e2⟩ : ∃ d m, mOverride d1 n ((n ^ (kk - 1) : Nat) : Int) a b = (d, m) := ⟨_, _, rfl⟩
  obtain ⟨g2, -⟩ := overrideL_ok hk hn g1.good (by omega) ha1 hb1 e2
  have l2 := g2.len
  have ha2 := ha1.up g2.ge; have hb2 := hb1.up g2.ge
  obtain ⟨g3, -⟩ := lone_ok g2.good b (by omega) (fun x hx => hb2.ref_in hx) b.length (Nat.le_refl _)
  rw [List.take_length] at g3
  obtain ⟨d3, r3, e3⟩ : ∃ d r, mLone d2 b = (d, r) := ⟨_, _, rfl⟩
  have q3 : (loneRun b (d2, 1, 1)).1 = d3 := congrArg Prod.fst e3
  rw [q3] at g3
  have l3 := g3.len
  have ha3 := ha2.up g3.ge; have hb3 := hb2.up g3.ge
  obtain ⟨g4, -⟩ := inRun_ok a d3 b 0 g3.good (by omega) (in_0 g3.good.ne) (fun x hx => ha3.ref_in hx) hb3
  obtain ⟨d4, r4, e4⟩ : ∃ d r, mIn d3 a b = (d, r) := ⟨_, _, rfl⟩
  have q4 : (a.foldl (inStep b) (d3, 0)).1 = d4 := congrArg Prod.fst e4
  rw [q4] at g4
  exact ⟨d1, m1, d2, m2, d3, r3, d4, r4, e1, e2, e3, e4, g1.more (by omega), g2, g3.more (by omega), g4.more (by omega)⟩
theorem BM.far {w : World} {b b' : Nat} {ar : Int} {v : Value} {m : List Cell} {hs : List Gate} (h : BM w b ar m) (hb : Bx w b' hs) (hne : b' ≠ b) : BM (w.setCell ⟨b', 0, none⟩ v) b ar m := by
  obtain ⟨p1, cap1, h1, h2, h3⟩ := hb
  obtain ⟨q, cq, ⟨⟨k0, f0⟩, ⟨k1, f1⟩, -⟩, hm⟩ := h
  exact ⟨q, cq, ⟨⟨keep_far k0 hne, fz f0⟩, ⟨keep_far k1 hne, fz f1⟩, trivial⟩, hm.box h1 _⟩
theorem bools_far {w : World} {b' : Nat} {v : Value} {p : Option Addr} {l : List Bool} {hs : List Gate} (h : BoolsAt w p l) (hb : Bx w b' hs) : BoolsAt (w.setCell ⟨b', 0, none⟩ v) p l := by
  obtain ⟨p1, cap1, h1, h2, h3⟩ := hb
  exact SlAt.setBox h h1 (fun x j => by simp [bEnc]) _
end Go.Proofs.Ytadilppdlbhjnaa
