import Derived.Test.YtadilppdlbhjnaaGR
import Derived.Test.YtadilppdlbhjnaaH14
import Derived.Test.YtadilppdlbhjnaaGB
import Derived.Test.YtadilppdlbhjnaaJ1
import Derived.Test.YtadilppdlbhjnaaM3
import Derived.Test.YtadilppdlbhjnaaMH
import Derived.Test.YtadilppdlbhjnaaSh2
import Derived.Test.YtadilppdlbhjnaaSh
import Derived.Test.YtadilppdlbhjnaaLB
namespace Go.Proofs.Ytadilppdlbhjnaa
set_option linter.unusedSimpArgs false
set_option linter.unusedVariables false
open Go.RowKit
theorem i64_small {x : Int} (h0 : -1000 ≤ x) (h1 : x ≤ 1000) : IntKind.i64.wrap x = x := by rw [IntWalk.i64_in]; omega
set_option maxRecDepth 100000 in
set_option maxHeartbeats 4000000 in
theorem atoms_any (k : Nat) (w : World) (hk : k < 256) :
 Calls Try.prog 34 #[.int .u8 k] w fun e w' => e = .returned (.tuple #[.int .i64 ((k % 3 + 1 : Nat) : Int), .int .i64 ((k / 3 % 2 + 1 : Nat) : Int), .int .i64 ((k / 6 % 2 + 1 : Nat) : Int)]) ∧ Below w.heap.size w w' := by
 obtain ⟨f1, f2, f3, f4⟩ := atoms_facts hk
 obtain ⟨a, ha⟩ : ∃ a, k % 3 = a := ⟨_, rfl⟩
 obtain ⟨b, hb⟩ : ∃ a, k / 3 % 2 = a := ⟨_, rfl⟩
 obtain ⟨c, hc⟩ : ∃ a, k / 6 % 2 = a := ⟨_, rfl⟩
 have ha3 : a < 3 := by omega
 have hb3 : b < 2 := by omega
 have hc3 : c < 2 := by omega
 have hd1 : (k : Int).tdiv 3 = ((k / 3 : Nat) : Int) := by rw [Int.tdiv_eq_ediv_of_nonneg (by omega)]; omega
 have hd2 : (k : Int).tdiv 6 = ((k / 6 : Nat) : Int) := by rw [Int.tdiv_eq_ediv_of_nonneg (by omega)]; omega
 rw [ha, hb, hc]
 rw [ha] at f2; rw [hb, hd1] at f3; rw [hc, hd2] at f4
 obtain ⟨x, hx⟩ : ∃ x, k / 3 = x := ⟨_, rfl⟩
 obtain ⟨y, hy⟩ : ∃ x, k / 6 = x := ⟨_, rfl⟩
 rw [hx] at hd1 f3; rw [hy] at hd2 f4
 have g1 : IntKind.i64.wrap (a : Int) = a := i64_small (by omega) (by omega)
 have g2 : IntKind.i64.wrap (b : Int) = b := i64_small (by omega) (by omega)
 have g3 : IntKind.i64.wrap (c : Int) = c := i64_small (by omega) (by omega)
 have g4 : IntKind.i64.wrap ((a : Int) + 1) = (a : Int) + 1 := i64_small (by omega) (by omega)
 have g5 : IntKind.i64.wrap ((b : Int) + 1) = (b : Int) + 1 := i64_small (by omega) (by omega)
 have g6 : IntKind.i64.wrap ((c : Int) + 1) = (c : Int) + 1 := i64_small (by omega) (by omega)
 have g7 : IntKind.i64.wrap (x : Int) = x := i64_small (by omega) (by omega)
 have g8 : IntKind.i64.wrap (y : Int) = y := i64_small (by omega) (by omega)
 clear hx hy ha hb hc ha3 hb3 hc3
 go_enter Try.func34, Try.ntmps34
 go_wp2_with fail
 refine bodyPost_ret (by simp [results, Try.results34, go_sem]; try rfl) rfl ?_
 exact ⟨by simp [f1, f2, f3, f4, hd1, hd2, g1, g2, g3, g4, g5, g6, g7, g8], Below.refl _ _⟩
end Go.Proofs.Ytadilppdlbhjnaa
namespace Go.Proofs.Ytadilppdlbhjnaa
set_option linter.unusedSimpArgs false
set_option linter.unusedVariables false
section
variable {c : List Gate} {A p : Int} {a b : List Cell} (ha : MOk c A a) (hb : MOk c p b)
include ha hb
end
section
variable {c : List Gate} {A p : Int} {a b : List Cell} {I K : Nat}
end
end Go.Proofs.Ytadilppdlbhjnaa
namespace Go.Proofs.Ytadilppdlbhjnaa
open Go.RowKit
set_option linter.unusedSimpArgs false
set_option linter.unusedVariables false
structure PI (L0 : List Nat) (bb bm : Nat) (ar : Int) (w0 : World) (C : List Gate) (M : List Cell) (v : Value) (W : World) : Prop where
 g : GMx W w0.heap.size bm ar M v
 bx : BxA (bm :: (rowOf v ++ L0)) W bb C
 kx : KeepX [bb, bm] w0 W
variable {L0 : List Nat} {bb bm : Nat} {ar : Int} {w0 W w1 w2 : World} {C c2 : List Gate} {M m2 : List Cell} {v : Value}
theorem PI.lts (h : PI L0 bb bm ar w0 C M v W) (hL : ∀ k ∈ L0, k < w0.heap.size) : ∀ k ∈ bm :: (rowOf v ++ L0), k < W.heap.size := by
 intro k hk
 rcases List.mem_cons.1 hk with e | hk
 · have := h.g.hb; have := h.g.hB; omega
 rcases List.mem_append.1 hk with hk | hk
 · exact (h.g.own.lt k (rowOf_mem hk)).2
 · exact Nat.lt_of_lt_of_le (hL k hk) h.kx.size
theorem PI.row (h : PI L0 bb bm ar w0 C M v W) {k : Nat} (hk : k ∈ rowOf v) : w0.heap.size ≤ k ∧ k < W.heap.size := h.g.own.lt k (rowOf_mem hk)
theorem PI.up (h : PI L0 bb bm ar w0 C M v W) (hB : Below W.heap.size W w1) : PI L0 bb bm ar w0 C M v w1 :=
 ⟨h.g.keep (X := []) (KeepX.of_below hB) (by simp) (by simp), h.bx.upB hB, h.kx.upB hB⟩
theorem PI.op (h : PI L0 bb bm ar w0 C M v W) (hb1 : BxA (bm :: (rowOf v ++ L0)) w1 bb c2) (hk1 : KeepX [bb] W w1) (hne : bb ≠ bm) (hbl : bb < w0.heap.size) : PI L0 bb bm ar w0 c2 M v w1 :=
 ⟨h.g.keep hk1 (by simp; exact fun e => hne e.symm) (by simp; exact hbl), hb1, h.kx.trans (hk1.sub (by simp))⟩
theorem PI.put (h : PI L0 bb bm ar w0 C M v W) {e : Ending} (hp : PutPost W w0.heap.size bm ar m2 v e w2) (hne : bb ≠ bm) (hbl : bb < w0.heap.size) (hC : C ≠ []) :
 e = .returned (.tuple #[]) ∧ ∃ v', PI L0 bb bm ar w0 C m2 v' w2 ∧ (∀ k, k < W.heap.size → k ∉ rowOf v → k ∉ rowOf v') ∧ KeepX (bm :: rowOf v) W w2 := by
 obtain ⟨he, v', hg, hrow, hkp⟩ := hp
 have K2 := hkp (bm :: rowOf v) (by simp) (fun g hg => List.mem_cons_of_mem _ (mem_rowOf hg))
 have hbn : bb ∉ bm :: rowOf v := by
  intro hm
  rcases List.mem_cons.1 hm with e | hm
  · exact hne e
  · have := (h.row hm).1; omega
 refine ⟨he, v', ⟨hg, ?_, ?_⟩, ?_, K2⟩
 · have hL := h.bx.keep K2 hbn (fun k hk => by
    rcases List.mem_cons.1 hk with e | hk
    · simp [e]
    · exact List.mem_cons_of_mem _ (List.mem_append_left _ hk))
   obtain ⟨p', cap', y1, y2, y3, y4⟩ := hL
   obtain ⟨p0, cap0, z1, z2, z3, z4⟩ := h.bx
   have hpp : p' = p0 := by
    have := K2.cell z1 hbn
    rw [y1] at this; cases this; rfl
   refine ⟨p', cap', y1, y2, y3, fun ad ha hm => ?_⟩
   rcases List.mem_cons.1 hm with e | hm
   · exact y4 ad ha (by rw [e]; simp)
   rcases List.mem_append.1 hm with hm | hm
   · have hv := rowOf_mem hm
     rcases hrow with e | ⟨g, e, hg2⟩
     · rw [e] at hv; exact y4 ad ha (List.mem_cons_of_mem _ (List.mem_append_left _ (mem_rowOf hv)))
     · rw [e] at hv; cases hv
       subst hpp
       rcases z3.at' with h0 | ⟨b', off, hp, hb', _⟩
       · exact absurd h0 hC
       · rw [ha] at hp; cases hp; dsimp only at hg2; omega
   · exact y4 ad ha (List.mem_cons_of_mem _ (List.mem_append_right _ hm))
 · refine ((h.kx.sub (Y := bb :: bm :: rowOf v) (by simp)).trans (K2.sub (fun k hk => List.mem_cons_of_mem _ hk))).fresh fun k hk => ?_
   rcases List.mem_cons.1 hk with e | hk
   · exact .inl (by rw [e]; simp)
   rcases List.mem_cons.1 hk with e | hk
   · exact .inl (by rw [e]; simp)
   · exact .inr (h.row hk).1
 · intro k hk hn hm
   rcases hrow with e | ⟨g, e, hg2⟩
   · exact hn (mem_rowOf (by rw [← e]; exact rowOf_mem hm))
   · have hv := rowOf_mem hm
     rw [e] at hv; cases hv; omega
theorem PI.cell (h : PI L0 bb bm ar w0 C M v W) {b o : Nat} {u : Value} (hc : w0.cell? ⟨b, o, none⟩ = some u) (h1 : b ≠ bb) (h2 : b ≠ bm) : W.cell? ⟨b, o, none⟩ = some u := h.kx.cell hc (by simp; exact ⟨h1, h2⟩)
theorem PI.start {p : Option Addr} {cap : Nat} (hs : Cells w0 [(bb, 0, .slice p C.length cap), (bm, 0, .int .i64 ar), (bm, 1, .slice none 0 0)]) (hC : CAt w0 p cap C) (hL : ∀ ad, p = some ad → ad.block ∉ L0 ∧ ad.block ≠ bm) : PI L0 bb bm ar w0 C [] (.slice none 0 0) w0 := by
 obtain ⟨⟨a0, a1⟩, ⟨b0, b1⟩, ⟨c0, c1⟩, -⟩ := hs
 refine ⟨⟨b0, c0, b1, c1, World.ownsRow_nil _ _ _ _, World.block_lt_of_cell? _ _ b0, Nat.le_refl _⟩, ⟨p, cap, a0, a1, hC, fun ad h => ?_⟩, KeepX.refl _ _⟩
 have h3 := hL ad h
 simp [rowOf, Value.ownBlock]
 exact ⟨h3.2, h3.1⟩
end Go.Proofs.Ytadilppdlbhjnaa
namespace Go.Proofs.Ytadilppdlbhjnaa
set_option linter.unusedSimpArgs false
set_option linter.unusedVariables false
open Go.RowKit
end Go.Proofs.Ytadilppdlbhjnaa
namespace Go.Proofs.Ytadilppdlbhjnaa
set_option linter.unusedSimpArgs false
set_option linter.unusedVariables false
open Go.RowKit
end Go.Proofs.Ytadilppdlbhjnaa
namespace Go.Proofs.Ytadilppdlbhjnaa
set_option linter.unusedSimpArgs false
set_option linter.unusedVariables false
open Go.RowKit
end Go.Proofs.Ytadilppdlbhjnaa
namespace Go.Proofs.Ytadilppdlbhjnaa
set_option linter.unusedSimpArgs false
set_option linter.unusedVariables false
open Go.RowKit Go.Sort Go.Lib
abbrev BCell := { x : Cell // 0 ≤ x.rank ∧ x.rank < 1000000 }
instance : Inhabited BCell := ⟨⟨⟨0, 0⟩, by decide⟩⟩
end Go.Proofs.Ytadilppdlbhjnaa
namespace Go.Proofs.Ytadilppdlbhjnaa
set_option linter.unusedSimpArgs false
set_option linter.unusedVariables false
open Go.RowKit
end Go.Proofs.Ytadilppdlbhjnaa
namespace Go.Proofs.Ytadilppdlbhjnaa
set_option linter.unusedSimpArgs false
set_option linter.unusedVariables false
open Go.RowKit
theorem pow_9 {n k : Nat} (hn : n ≤ 3) (hk : k ≤ 2) : n ^ k ≤ 9 := by
 have h1 : n ^ k ≤ 3 ^ k := Nat.pow_le_pow_left hn k
 have h2 : 3 ^ k ≤ 3 ^ 2 := Nat.pow_le_pow_right (by omega) hk
 omega
theorem made_plain2 (st : List Step) (hs : st.length ≤ 20) : ∃ c refs, cbuild st = (c, refs) ∧ Good c ∧ c.length ≤ 61 ∧ refs.length ≤ 20 ∧ (∀ r ∈ refs, r ≤ 9223372036854775807) ∧ ∀ (vs : List Nat) (N : Nat), MOk c (N : Int) (mMade refs vs N) ∧ (mMade refs vs N).length ≤ N := by
 obtain ⟨c, refs, hcb⟩ : ∃ c refs, cbuild st = (c, refs) := ⟨_, _, rfl⟩
 have hb := built st (by omega)
 rw [hcb] at hb
 have hl := hb.len
 have hle := cbuild_le st
 rw [hcb] at hle
 have hr := hb.refs
 have hg := hb.good
 dsimp only at hl hle hr hg
 refine ⟨c, refs, hcb, hg, by omega, by omega, fun r hr => by have := hle.2.1 r hr; omega, fun vs N => ?_⟩
 have hm := mMade_ok hr hg.ne vs N
 exact ⟨hm, hm.len⟩
section
variable {c d : List Gate} {a b m : List Cell} {n kk k2 : Nat} {p pa pb : Option Addr} {cap ca cb : Nat} {w : World}
 (hC : CAt w p cap c) (hA : MxAt w pa ca a) (hD : MxAt w pb cb b) (hk0 : 0 < kk) (hk : kk ≤ 2) (h20 : 0 < k2) (h2 : k2 ≤ 2) (hn0 : 0 < n) (hn : n ≤ 3) (hg : Good c) (hcl : c.length ≤ 10000)
 (ha : MOk c ((n ^ kk : Nat) : Int) a) (hb : MOk c ((n ^ k2 : Nat) : Int) b)
end
section
variable {n : Nat} {c : List Gate} {a b : List Cell} {ar : Int} {pa : Option Addr} {ca : Nat} {w : World} (hA : MxAt w pa ca a) (ha : MOk c ((n * n : Nat) : Int) a) (hn0 : 0 < n) (hn : n ≤ 3) (e : mTranspose n a = b)
include hA ha hn0 hn e
end
end Go.Proofs.Ytadilppdlbhjnaa
