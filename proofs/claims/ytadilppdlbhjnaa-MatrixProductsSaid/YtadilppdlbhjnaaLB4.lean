/- Words and plain laws for the laws of layer 14 over Override. -/
import Derived.Test.YtadilppdlbhjnaaGP
import Derived.Test.YtadilppdlbhjnaaV1
import Derived.Test.YtadilppdlbhjnaaLR
namespace Go.Proofs.Ytadilppdlbhjnaa
set_option linter.unusedSimpArgs false
set_option linter.unusedVariables false
open Go.RowKit

section
variable {kk n : Nat} {c d : List Gate} {a b m : List Cell} {p pa pb : Option Addr} {cap ca cb : Nat} {w : World}
variable (hk0 : 0 < kk) (hk : kk ≤ 2) (hn0 : 0 < n) (hn : n ≤ 3) (hg : Good c) (hl : c.length ≤ 10000) (ha : MOk c ((n ^ kk : Nat) : Int) a) (hb : MOk c ((n ^ kk : Nat) : Int) b)
include hk0 hk hn0 hn hg hl ha hb
end
/-- What MatrixExtends asks of the last circuit. -/
structure LastOk (V : List Bool) (c d D : List Gate) (a b : List Cell) (va vb : List Int) : Prop where
  good : Good D
  len : D.length ≤ 1000
  pre : d <+: D
  va : mValue D V a = va
  vb : mValue D V b = vb
theorem BM.far {w : World} {b b' : Nat} {ar : Int} {v : Value} {m : List Cell} {hs : List Gate} (h : BM w b ar m) (hb : Bx w b' hs) (hne : b' ≠ b) : BM (w.setCell ⟨b', 0, none⟩ v) b ar m := by
  obtain ⟨p1, cap1, h1, h2, h3⟩ := hb
  obtain ⟨q, cq, ⟨⟨k0, f0⟩, ⟨k1, f1⟩, -⟩, hm⟩ := h
  exact ⟨q, cq, ⟨⟨keep_far k0 hne, fz f0⟩, ⟨keep_far k1 hne, fz f1⟩, trivial⟩, hm.box h1 _⟩
end Go.Proofs.Ytadilppdlbhjnaa
