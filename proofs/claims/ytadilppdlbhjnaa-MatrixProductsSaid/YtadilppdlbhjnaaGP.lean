/- Texts N22, PlainV, PB, P1, P2, P3, T1, T2, LB3 in one. -/
import Derived.Test.YtadilppdlbhjnaaGR
import Derived.Test.YtadilppdlbhjnaaH14
import Derived.Test.YtadilppdlbhjnaaGB
import Derived.Test.YtadilppdlbhjnaaJ1
import Derived.Test.YtadilppdlbhjnaaM3
import Derived.Test.YtadilppdlbhjnaaMH
import Derived.Test.YtadilppdlbhjnaaSh2
import Derived.Test.YtadilppdlbhjnaaSh
import Derived.Test.YtadilppdlbhjnaaLB
namespace Go.Proofs.Ytadilppdlbhjnaa
set_option linter.unusedSimpArgs false
set_option linter.unusedVariables false
open Go.RowKit

theorem i64_small {x : Int} (h0 : -1000 ≤ x) (h1 : x ≤ 1000) : IntKind.i64.wrap x = x := by rw [IntWalk.i64_in]; omega
set_option maxRecDepth 100000 in
set_option maxHeartbeats 4000000 in
theorem atoms_any (k : Nat) (w : World) (hk : k < 256) :
    Calls Try.prog 34 #[.int .u8 k] w fun e w' => e = .returned (.tuple #[.int .i64 ((k % 3 + 1 : Nat) : Int), .int .i64 ((k / 3 % 2 + 1 : Nat) : Int), .int .i64 ((k / 6 % 2 + 1 : Nat) : Int)]) ∧ Below w.heap.size w w' := by
  obtain ⟨f1, f2, f3, f4⟩ := atoms_facts hk
  obtain ⟨a, ha⟩ : ∃ a, k % 3 = a := ⟨_, rfl⟩
  obtain ⟨b, hb⟩ : ∃ a, k / 3 % 2 = a := ⟨_, rfl⟩
  obtain ⟨c, hc⟩ : ∃ a, k / 6 % 2 = a := ⟨_, rfl⟩
  have ha3 : a < 3 := by omega
  have hb3 : b < 2 := by omega
  have hc3 : c < 2 := by omega
  have hd1 : (k : Int).tdiv 3 = ((k / 3 : Nat) : Int) := by rw [Int.tdiv_eq_ediv_of_nonneg (by omega)]; omega
  have hd2 : (k : Int).tdiv 6 = ((k / 6 : Nat) : Int) := by rw [Int.tdiv_eq_ediv_of_nonneg (by omega)]; omega
  rw [ha, hb, hc]
  rw [ha] at f2; rw [hb, hd1] at f3; rw [hc, hd2] at f4
  obtain ⟨x, hx⟩ : ∃ x, k / 3 = x := ⟨_, rfl⟩
  obtain ⟨y, hy⟩ : ∃ x, k / 6 = x := ⟨_, rfl⟩
  rw [hx] at hd1 f3; rw [hy] at hd2 f4
  have g1 : IntKind.i64.wrap (a : Int) = a := i64_small (by omega) (by omega)
  have g2 : IntKind.i64.wrap (b : Int) = b := i64_small (by omega) (by omega)
  have g3 : IntKind.i64.wrap (c : Int) = c := i64_small (by omega) (by omega)
  have g4 : IntKind.i64.wrap ((a : Int) + 1) = (a : Int) + 1 := i64_small (by omega) (by omega)
  have g5 : IntKind.i64.wrap ((b : Int) + 1) = (b : Int) + 1 := i64_small (by omega) (by omega)
  have g6 : IntKind.i64.wrap ((c : Int) + 1) = (c : Int) + 1 := i64_small (by omega) (by omega)
  have g7 : IntKind.i64.wrap (x : Int) = x := i64_small (by omega) (by omega)
  have g8 : IntKind.i64.wrap (y : Int) = y := i64_small (by omega) (by omega)
  clear hx hy ha hb hc ha3 hb3 hc3
  go_enter Try.func34, Try.ntmps34
  go_wp2_with fail
  refine bodyPost_ret (by simp [results, Try.results34, go_sem]; try rfl) rfl ?_
  exact ⟨by simp [f1, f2, f3, f4, hd1, hd2, g1, g2, g3, g4, g5, g6, g7, g8], Below.refl _ _⟩
end Go.Proofs.Ytadilppdlbhjnaa

namespace Go.Proofs.Ytadilppdlbhjnaa
set_option linter.unusedSimpArgs false
set_option linter.unusedVariables false

theorem ppairs_len (p : Int) (a b : List Cell) : (ppairs p a b).length = a.length * b.length := by
  induction a with
  | nil => simp [ppairs]
  | cons x a ih =>
    have h1 : (ppairs p (x :: a) b).length = b.length + (ppairs p a b).length := by simp [ppairs]
    rw [h1, ih, List.length_cons, Nat.succ_mul]; omega
theorem mem_ppairs {p : Int} {a b : List Cell} {t : Tri} : t ∈ ppairs p a b ↔ ∃ x ∈ a, ∃ y ∈ b, t = ⟨x.rank * p + y.rank, x.ref, y.ref⟩ := by
  simp only [ppairs, List.mem_flatMap, List.mem_map]
  constructor
  · rintro ⟨x, hx, y, hy, rfl⟩; exact ⟨x, hx, y, hy, rfl⟩
  · rintro ⟨x, hx, y, hy, rfl⟩; exact ⟨x, hx, y, hy, rfl⟩
theorem mul_step {x z p : Int} (h : x < z) (hp : 0 ≤ p) : x * p + p ≤ z * p := by
  have h1 : (x + 1) * p ≤ z * p := Int.mul_le_mul_of_nonneg_right (by omega) hp
  have h2 : (x + 1) * p = x * p + p := by rw [Int.add_mul, Int.one_mul]
  omega
section
variable {c : List Gate} {A p : Int} {a b : List Cell} (ha : MOk c A a) (hb : MOk c p b)
include ha hb
theorem ppairs_sorted : (ppairs p a b).Pairwise fun s t => s.rank < t.rank := by
  unfold ppairs
  rw [List.pairwise_flatMap]
  refine ⟨fun x hx => ?_, ?_⟩
  · rw [List.pairwise_map]
    refine List.Pairwise.imp ?_ hb.sorted
    intro y z h
    show x.rank * p + y.rank < x.rank * p + z.rank
    omega
  · refine List.Pairwise.imp ?_ ha.sorted
    intro x z hxz s hs t ht
    obtain ⟨y, hy, rfl⟩ := List.mem_map.1 hs
    obtain ⟨u, hu, rfl⟩ := List.mem_map.1 ht
    have h1 := hb.ranks y hy
    have h2 := hb.ranks u hu
    have h3 : x.rank < z.rank := hxz
    have h4 := mul_step h3 (by omega : 0 ≤ p)
    show x.rank * p + y.rank < z.rank * p + u.rank
    omega
theorem ppairs_in : ∀ t ∈ ppairs p a b, In c t.p ∧ In c t.q ∧ 0 ≤ t.rank ∧ t.rank < A * p := by
  intro t ht
  obtain ⟨x, hx, y, hy, rfl⟩ := mem_ppairs.1 ht
  have h1 := ha.ranks x hx
  have h2 := hb.ranks y hy
  have h3 := Int.mul_nonneg h1.1 (by omega : 0 ≤ p)
  have h4 := mul_step h1.2 (by omega : 0 ≤ p)
  refine ⟨ha.ref_in hx, hb.ref_in hy, ?_, ?_⟩
  · show 0 ≤ x.rank * p + y.rank
    omega
  · show x.rank * p + y.rank < A * p
    omega
theorem product_ok (hg : Good c) (hl : c.length + a.length * b.length ≤ 20000) :
    Grow c (mProduct c p a b).1 (a.length * b.length) ∧ MOk (mProduct c p a b).1 (A * p) (mProduct c p a b).2 ∧ ∀ V t, t ∈ ppairs p a b → cv (mProduct c p a b).1 V (mat (mProduct c p a b).2 t.rank) = (cv c V t.p && cv c V t.q) := by
  obtain ⟨a1, a2, a3, a4⟩ := zrun_ok ok_and (N := A * p) (ppairs p a b) c [] hg (by rw [ppairs_len]; omega) MOk.nil (ppairs_in ha hb) (ppairs_sorted ha hb) (fun _ _ y hy => by cases hy)
  rw [ppairs_len] at a1
  exact ⟨a1, a2, fun V t ht => a3 t ht V⟩
theorem product_out (hg : Good c) (hl : c.length + a.length * b.length ≤ 20000) {r : Int} (hr : ∀ t ∈ ppairs p a b, t.rank ≠ r) : mat (mProduct c p a b).2 r = 1 := by
  obtain ⟨a1, a2, a3, a4⟩ := zrun_ok ok_and (N := A * p) (ppairs p a b) c [] hg (by rw [ppairs_len]; omega) MOk.nil (ppairs_in ha hb) (ppairs_sorted ha hb) (fun _ _ y hy => by cases hy)
  exact a4 r hr
end
theorem zrun_mlen (op : List Gate → Int → Int → List Gate × Int) : ∀ (l : List Tri) (c : List Gate) (m : List Cell), (zrun op l (c, m)).2.length ≤ m.length + l.length
  | [], c, m => by simp [zrun]
  | t :: l, c, m => by
    have h := zrun_mlen op l (op c t.p t.q).1 (put m t.rank (op c t.p t.q).2)
    have h2 : (put m t.rank (op c t.p t.q).2).length ≤ m.length + 1 := by unfold put; split <;> simp
    show (zrun op l ((op c t.p t.q).1, put m t.rank (op c t.p t.q).2)).2.length ≤ _
    rw [List.length_cons]; omega
theorem zrun_append (op : List Gate → Int → Int → List Gate × Int) (l m : List Tri) (x : List Gate × List Cell) : zrun op (l ++ m) x = zrun op m (zrun op l x) := by simp [zrun, List.foldl_append]
/-- the state of a product behind I and K rounds -/
def pst (c : List Gate) (p : Int) (a b : List Cell) (I K : Nat) : List Gate × List Cell := zrun cand (gl (gpr p) a b I K) (c, [])
section
variable {c : List Gate} {A p : Int} {a b : List Cell} {I K : Nat}
theorem pst_ok (hg : Good c) (hl : c.length + a.length * b.length ≤ 20000) (ha : MOk c A a) (hb : MOk c p b) : Grow c (pst c p a b I K).1 (a.length * b.length) ∧ (pst c p a b I K).2.length ≤ a.length * b.length := by
  have hp : gl (gpr p) a b I K <+: ppairs p a b := by rw [ppairs_gp]; exact gl_prefix
  have h1 := hp.length_le
  rw [ppairs_len] at h1
  obtain ⟨a1, a2, a3, a4⟩ := zrun_ok ok_and (N := A * p) (gl (gpr p) a b I K) c [] hg (by omega) MOk.nil (fun t ht => ppairs_in ha hb t (hp.subset ht)) ((ppairs_sorted ha hb).sublist hp.sublist) (fun _ _ y hy => by cases hy)
  refine ⟨a1.more h1, ?_⟩
  have h2 := zrun_mlen cand (gl (gpr p) a b I K) c []
  simp only [List.length_nil, Nat.zero_add] at h2
  exact Nat.le_trans h2 h1
theorem pst_start : pst c p a b 0 0 = (c, []) := by unfold pst; rw [gl_start]; rfl
theorem pst_next {x : Cell} (hx : a[I]? = some x) : pst c p a b (I + 1) 0 = pst c p a b I b.length := by unfold pst; rw [gl_next hx]
theorem pst_end : pst c p a b a.length 0 = mProduct c p a b := by unfold pst mProduct; rw [gl_end, ppairs_gp]
theorem pst_step {C D : List Gate} {M : List Cell} {x y : Cell} {q : Int} (hx : a[I]? = some x) (hy : b[K]? = some y) (h0 : pst c p a b I K = (C, M)) (h1 : cand C x.ref y.ref = (D, q)) : pst c p a b I (K + 1) = (D, put M (x.rank * p + y.rank) q) := by
  unfold pst at h0 ⊢
  rw [gl_step hx hy, zrun_append, h0]
  show ((cand C x.ref y.ref).1, put M (x.rank * p + y.rank) (cand C x.ref y.ref).2) = _
  rw [h1]
end
end Go.Proofs.Ytadilppdlbhjnaa

namespace Go.Proofs.Ytadilppdlbhjnaa
open Go.RowKit
set_option linter.unusedSimpArgs false
set_option linter.unusedVariables false
/-- A builder at block bb and a matrix variable at block bm that grow side by side since world w0. -/
structure PI (L0 : List Nat) (bb bm : Nat) (ar : Int) (w0 : World) (C : List Gate) (M : List Cell) (v : Value) (W : World) : Prop where
  g : GMx W w0.heap.size bm ar M v
  bx : BxA (bm :: (rowOf v ++ L0)) W bb C
  kx : KeepX [bb, bm] w0 W
variable {L0 : List Nat} {bb bm : Nat} {ar : Int} {w0 W w1 w2 : World} {C c2 : List Gate} {M m2 : List Cell} {v : Value}
theorem PI.lts (h : PI L0 bb bm ar w0 C M v W) (hL : ∀ k ∈ L0, k < w0.heap.size) : ∀ k ∈ bm :: (rowOf v ++ L0), k < W.heap.size := by
  intro k hk
  rcases List.mem_cons.1 hk with e | hk
  · have := h.g.hb; have := h.g.hB; omega
  rcases List.mem_append.1 hk with hk | hk
  · exact (h.g.own.lt k (rowOf_mem hk)).2
  · exact Nat.lt_of_lt_of_le (hL k hk) h.kx.size
theorem PI.row (h : PI L0 bb bm ar w0 C M v W) {k : Nat} (hk : k ∈ rowOf v) : w0.heap.size ≤ k ∧ k < W.heap.size := h.g.own.lt k (rowOf_mem hk)
theorem PI.up (h : PI L0 bb bm ar w0 C M v W) (hB : Below W.heap.size W w1) : PI L0 bb bm ar w0 C M v w1 :=
  ⟨h.g.keep (X := []) (KeepX.of_below hB) (by simp) (by simp), h.bx.upB hB, h.kx.upB hB⟩
theorem PI.op (h : PI L0 bb bm ar w0 C M v W) (hb1 : BxA (bm :: (rowOf v ++ L0)) w1 bb c2) (hk1 : KeepX [bb] W w1) (hne : bb ≠ bm) (hbl : bb < w0.heap.size) : PI L0 bb bm ar w0 c2 M v w1 :=
  ⟨h.g.keep hk1 (by simp; exact fun e => hne e.symm) (by simp; exact hbl), hb1, h.kx.trans (hk1.sub (by simp))⟩
theorem PI.put (h : PI L0 bb bm ar w0 C M v W) {e : Ending} (hp : PutPost W w0.heap.size bm ar m2 v e w2) (hne : bb ≠ bm) (hbl : bb < w0.heap.size) (hC : C ≠ []) :
    e = .returned (.tuple #[]) ∧ ∃ v', PI L0 bb bm ar w0 C m2 v' w2 ∧ (∀ k, k < W.heap.size → k ∉ rowOf v → k ∉ rowOf v') ∧ KeepX (bm :: rowOf v) W w2 := by
  obtain ⟨he, v', hg, hrow, hkp⟩ := hp
  have K2 := hkp (bm :: rowOf v) (by simp) (fun g hg => List.mem_cons_of_mem _ (mem_rowOf hg))
  have hbn : bb ∉ bm :: rowOf v := by
    intro hm
    rcases List.mem_cons.1 hm with e | hm
    · exact hne e
    · have := (h.row hm).1; omega
  refine ⟨he, v', ⟨hg, ?_, ?_⟩, ?_, K2⟩
  · have hL := h.bx.keep K2 hbn (fun k hk => by
      rcases List.mem_cons.1 hk with e | hk
      · simp [e]
      · exact List.mem_cons_of_mem _ (List.mem_append_left _ hk))
    obtain ⟨p', cap', y1, y2, y3, y4⟩ := hL
    obtain ⟨p0, cap0, z1, z2, z3, z4⟩ := h.bx
    have hpp : p' = p0 := by
      have := K2.cell z1 hbn
      rw [y1] at this; cases this; rfl
    refine ⟨p', cap', y1, y2, y3, fun ad ha hm => ?_⟩
    rcases List.mem_cons.1 hm with e | hm
    · exact y4 ad ha (by rw [e]; simp)
    rcases List.mem_append.1 hm with hm | hm
    · have hv := rowOf_mem hm
      rcases hrow with e | ⟨g, e, hg2⟩
      · rw [e] at hv; exact y4 ad ha (List.mem_cons_of_mem _ (List.mem_append_left _ (mem_rowOf hv)))
      · rw [e] at hv; cases hv
        subst hpp
        rcases z3.at' with h0 | ⟨b', off, hp, hb', _⟩
        · exact absurd h0 hC
        · rw [ha] at hp; cases hp; dsimp only at hg2; omega
    · exact y4 ad ha (List.mem_cons_of_mem _ (List.mem_append_right _ hm))
  · refine ((h.kx.sub (Y := bb :: bm :: rowOf v) (by simp)).trans (K2.sub (fun k hk => List.mem_cons_of_mem _ hk))).fresh fun k hk => ?_
    rcases List.mem_cons.1 hk with e | hk
    · exact .inl (by rw [e]; simp)
    rcases List.mem_cons.1 hk with e | hk
    · exact .inl (by rw [e]; simp)
    · exact .inr (h.row hk).1
  · intro k hk hn hm
    rcases hrow with e | ⟨g, e, hg2⟩
    · exact hn (mem_rowOf (by rw [← e]; exact rowOf_mem hm))
    · have hv := rowOf_mem hm
      rw [e] at hv; cases hv; omega
theorem PI.cell (h : PI L0 bb bm ar w0 C M v W) {b o : Nat} {u : Value} (hc : w0.cell? ⟨b, o, none⟩ = some u) (h1 : b ≠ bb) (h2 : b ≠ bm) : W.cell? ⟨b, o, none⟩ = some u := h.kx.cell hc (by simp; exact ⟨h1, h2⟩)
/-- at the start -/
theorem PI.start {p : Option Addr} {cap : Nat} (hs : Cells w0 [(bb, 0, .slice p C.length cap), (bm, 0, .int .i64 ar), (bm, 1, .slice none 0 0)]) (hC : CAt w0 p cap C) (hL : ∀ ad, p = some ad → ad.block ∉ L0 ∧ ad.block ≠ bm) : PI L0 bb bm ar w0 C [] (.slice none 0 0) w0 := by
  obtain ⟨⟨a0, a1⟩, ⟨b0, b1⟩, ⟨c0, c1⟩, -⟩ := hs
  refine ⟨⟨b0, c0, b1, c1, World.ownsRow_nil _ _ _ _, World.block_lt_of_cell? _ _ b0, Nat.le_refl _⟩, ⟨p, cap, a0, a1, hC, fun ad h => ?_⟩, KeepX.refl _ _⟩
  have h3 := hL ad h
  simp [rowOf, Value.ownBlock]
  exact ⟨h3.2, h3.1⟩
end Go.Proofs.Ytadilppdlbhjnaa

namespace Go.Proofs.Ytadilppdlbhjnaa
set_option linter.unusedSimpArgs false
set_option linter.unusedVariables false
open Go.RowKit

set_option maxRecDepth 100000 in
set_option maxHeartbeats 8000000 in
theorem product_any (c : List Gate) (a b : List Cell) (ar1 ar2 : Int) (k2 n p : Nat) (A : Int) (pc0 pa pb : Option Addr) (cap ca cb : Nat) (w : World) (hC : CAt w pc0 cap c) (hA : MxAt w pa ca a) (hD : MxAt w pb cb b)
    (ha1 : 0 ≤ ar1 ∧ ar1 ≤ 4) (ha2 : ar2 = (k2 : Int)) (hk3 : k2 ≤ 3) (hn0 : 0 < n) (hn : n ≤ 12) (hp : n ^ k2 = p) (hg : Good c) (hl : c.length + a.length * b.length + 2 ≤ 20000) (ha : MOk c A a) (hb : MOk c p b) (hA2 : A ≤ 2000) :
    Calls Try.prog 70 #[.agg #[.slice pc0 c.length cap], .int .i64 n, .agg #[.int .i64 ar1, .slice pa a.length ca], .agg #[.int .i64 ar2, .slice pb b.length cb]] w (RetCMB w pc0 (mProduct c p a b).1 (ar1 + ar2) (mProduct c p a b).2) := by
 obtain ⟨ha10, ha11⟩ := ha1
 have hp1 : 0 < p := by rw [← hp]; exact Nat.pow_pos hn0
 have hp2 : p ≤ 1728 := by rw [← hp]; exact Nat.le_trans (Nat.pow_le_pow_left hn k2) (Nat.le_trans (Nat.pow_le_pow_right (by decide) hk3) (by decide))
 have HP := Lib.hid hp; clear hp
 obtain ⟨s, hs0⟩ : ∃ s, w.heap.size = s := ⟨_, rfl⟩
 obtain ⟨W2, hW2⟩ : ∃ W2, W2 = (((((w.alloc (.cells #[.slice pc0 c.length cap] 27)).alloc (.cells #[.int .i64 ar1, .slice pa a.length ca] 30)).alloc (.cells #[.int .i64 ar2, .slice pb b.length cb] 30)).alloc (.cells #[.slice none 0 0] 27)).alloc (.cells #[.int .i64 0, .slice none 0 0] 30)) := ⟨_, rfl⟩
 have hbw : Below w.heap.size w W2 := by rw [hW2]; go_grown
 have zz : s + 5 ≤ W2.heap.size := by rw [hW2, ← hs0]; simp
 have hk : Cells W2 [(s, 0, .slice pc0 c.length cap), (s + 1, 0, .int .i64 ar1), (s + 1, 1, .slice pa a.length ca), (s + 2, 0, .int .i64 ar2), (s + 2, 1, .slice pb b.length cb), (s + 3, 0, .slice none 0 0), (s + 4, 0, .int .i64 0), (s + 4, 1, .slice none 0 0)] := by rw [hW2, ← hs0]; exact ⟨⟨by go_cell, by go_cell⟩, ⟨by go_cell, by go_cell⟩, ⟨by go_cell, by go_cell⟩, ⟨by go_cell, by go_cell⟩, ⟨by go_cell, by go_cell⟩, ⟨by go_cell, by go_cell⟩, ⟨by go_cell, by go_cell⟩, ⟨by go_cell, by go_cell⟩, trivial⟩
 have HW2 := Lib.hid hW2; have HS := Lib.hid hs0
 clear hW2 hs0
 have PO := Lib.hid (fun I K => pst_ok (I := I) (K := K) hg (show c.length + a.length * b.length ≤ 20000 by omega) ha hb)
 have HMA := Lib.hid ha; have HMB := Lib.hid hb; have HGD := Lib.hid hg
 have hc0 : 0 < c.length := hg.ne
 have hal : a.length ≤ 2000 := by have := sorted_len (lo := 0) (N := A) ha.sorted ha.ranks; omega
 have hbl0 : b.length ≤ 2000 := by have := sorted_len (lo := 0) (N := (p : Int)) hb.sorted hb.ranks; omega
 have hab : a.length * b.length ≤ 20000 := by omega
 have hr3 : 0 ≤ ar2 := by omega
 have hr4 : ar2 ≤ 4 := by omega
 have HA2 := Lib.hid ha2
 have HC := Lib.hid hC; have HA := Lib.hid hA; have HD := Lib.hid hD
 clear hC hA hD ha hb hg ha2
 have hwr : IntKind.i64.wrap (ar1 + ar2) = ar1 + ar2 := by rw [IntWalk.i64_in]; omega
 go_enter Try.func70, Try.ntmps70
 go_upto_region 1 with fail
 rw [← HW2.out]
 simp only [HS.out, Nat.add_assoc, Nat.reduceAdd]
 obtain ⟨⟨y00, y00f⟩, ⟨y10, y10f⟩, ⟨y11, y11f⟩, ⟨y20, y20f⟩, ⟨y21, y21f⟩, ⟨y30, y30f⟩, ⟨y40, y40f⟩, ⟨y41, y41f⟩, -⟩ := id hk
 go_upto_region 1 with fail
 go_cut [10, 11, 12] from 17 to 29 (fun s10 s11 s12 wx => ∃ (bb bm : Nat), s10 = .pointer (some ⟨bb, 0, none⟩) ∧ s11 = .pointer (some ⟨bm, 0, none⟩) ∧ s12 = .int .i64 (p : Int) ∧ s + 5 ≤ bb ∧ s + 5 ≤ bm ∧ bb ≠ bm ∧ Cells wx [(bb, 0, .slice pc0 c.length cap), (bm, 0, .int .i64 (ar1 + ar2)), (bm, 1, .slice none 0 0)] ∧ Below W2.heap.size W2 wx)
 case first =>
  as_aux_lemma =>
   have hacc : Below W2.heap.size W2 W2 := Below.refl _ _
   clear y00 y00f y10 y10f y11 y11f y20 y20f y21 y21f y30 y30f y40 y40f y41 y41f
   refine wp_region_seqE (fun x => Below W2.heap.size W2 x) (.one 0 0 (.one 1 1 (.one 3 1 (.one 4 0 (.one 5 1 (.one 6 0 (.one 7 1 (.one 8 1 (.one 9 1 (.one 10 1 (.one 11 0 (.one 12 1 (.alt 2 2 (.alt 13 2 (.one 14 1 (.alt 15 3 (.one 16 1 .nil) .stop)) .stop) (.alt 13 2 (.alt 2 2 (.one 14 1 (.alt 15 3 (.one 16 1 .nil) .stop)) .stop) .stop)))))))))))))) (by kernel_rfl) (by kernel_rfl) (by kernel_rfl) (Below.drew (Below.refl _ _)) ?_
   iterate 11 (first | (refine seqE_free (v := ?_) rfl (by rfl) ?_ ?_; rotate_left; (focus (intro w; go_simp; try with_reducible rfl)); (try simp only [Act.put, List.setIfInBounds_toArray, List.set_cons_zero, List.set_cons_succ])) | (refine seqE_pure (v := ?_) rfl (by rfl) ?_ ?_; rotate_left; (focus (intro w hS; obtain ⟨⟨y00, -⟩, ⟨y10, -⟩, -, ⟨y20, -⟩, -⟩ := hk.up hS; go_simp; try with_reducible rfl)); (try simp only [Act.put, List.setIfInBounds_toArray, List.set_cons_zero, List.set_cons_succ])))
   refine seqE_fcall (v := .int .i64 (p : Int)) (f := ?_) (args := ?_) rfl (by rfl) ?_ ?_ ?_
   rotate_left 2
   focus (intro w; go_simp; first | done | with_reducible rfl | (refine ⟨?_, ?_⟩ <;> with_reducible rfl))
   focus (intro w; refine (power_is (k := k2) (q := p) w (by have := HA2.out; omega) HP.out hn (by omega)).mono ?_; rintro e w' ⟨rfl, hw⟩; exact ⟨rfl, hw⟩)
   (try simp only [Act.put, List.setIfInBounds_toArray, List.set_cons_zero, List.set_cons_succ])
   clear hk
   refine seqE_move rfl (by rfl) ?_ ?_
   ·
    intro w1 hS
    refine ⟨.pointer (some ⟨w1.heap.size, 0, none⟩), w1.alloc (.cells #[.slice pc0 c.length cap] 87), (by go_simp; try with_reducible rfl), ?_⟩
    obtain ⟨b19, hb19⟩ : ∃ b, b = w1.heap.size := ⟨_, rfl⟩
    obtain ⟨v1, hw1⟩ : ∃ zW, zW = w1.alloc (.cells #[.slice pc0 c.length cap] 87) := ⟨_, rfl⟩
    rw [← hw1, ← hb19]
    have hbl : Below w1.heap.size w1 v1 := by rw [hw1]; go_grown
    have hge19 : s + 5 ≤ b19 := by rw [hb19]; exact Nat.le_trans zz hS.size
    have hga19 : W2.heap.size ≤ b19 := by rw [hb19]; exact Nat.le_trans hacc.size hS.size
    refine ⟨(fun x => Below v1.heap.size v1 x), Below.refl _ _, fun x hx => btr (btr hS hbl) hx, ?_⟩
    have hX := btr hS hbl
    replace hbw := btr hbw hX; replace zz := Nat.le_trans zz (Below.size hX); replace hacc := btr hacc hX
    have hs : Cells v1 [(b19, 0, .slice pc0 c.length cap)] := ⟨⟨by rw [hw1, hb19]; go_cell, by rw [hw1, hb19]; go_cell⟩, trivial⟩
    clear hX hS hbl hw1 hb19
    (try simp only [Act.put, List.setIfInBounds_toArray, List.set_cons_zero, List.set_cons_succ])
    refine seqE_move rfl (by rfl) ?_ seqE_stop
    intro w2 hS
    refine ⟨.pointer (some ⟨w2.heap.size, 0, none⟩), w2.alloc (.cells #[.int .i64 0, .slice none 0 0] 30), (by go_simp; try with_reducible rfl), ?_⟩
    obtain ⟨b11, hb11⟩ : ∃ b, b = w2.heap.size := ⟨_, rfl⟩
    obtain ⟨v2, hw2⟩ : ∃ zW, zW = w2.alloc (.cells #[.int .i64 0, .slice none 0 0] 30) := ⟨_, rfl⟩
    rw [← hw2, ← hb11]
    have hbl : Below w2.heap.size w2 v2 := by rw [hw2]; go_grown
    have hge11 : s + 5 ≤ b11 := by rw [hb11]; exact Nat.le_trans zz hS.size
    have hga11 : W2.heap.size ≤ b11 := by rw [hb11]; exact Nat.le_trans hacc.size hS.size
    have hlb19_11 : b19 < b11 := by rw [hb11]; exact Nat.lt_of_lt_of_le (World.block_lt_of_cell? _ _ hs.1.1) hS.size
    refine ⟨(fun x => Below v2.heap.size v2 x), Below.refl _ _, fun x hx => btr (btr hS hbl) hx, ?_⟩
    have hX := btr hS hbl
    replace hs := hs.up hX; replace hbw := btr hbw hX; replace zz := Nat.le_trans zz (Below.size hX); replace hacc := btr hacc hX
    replace hs : Cells v2 [(b11, 0, .int .i64 0), (b11, 1, .slice none 0 0), (b19, 0, .slice pc0 c.length cap)] := ⟨⟨by rw [hw2, hb11]; go_cell, by rw [hw2, hb11]; go_cell⟩, ⟨by rw [hw2, hb11]; go_cell, by rw [hw2, hb11]; go_cell⟩, hs⟩
    clear hX hS hbl hw2 hb11
    (try simp only [Act.put, List.setIfInBounds_toArray, List.set_cons_zero, List.set_cons_succ])
    iterate 1 (refine seqE_free (v := ?_) rfl (by rfl) ?_ ?_; rotate_left; (focus (intro w; go_simp; try with_reducible rfl)); (try simp only [Act.put, List.setIfInBounds_toArray, List.set_cons_zero, List.set_cons_succ]))
    refine seqE_storeB rfl (by rfl) ?_ seqE_stop
    intro w3 hS
    replace hs := hs.up hS; replace hbw := btr hbw hS; replace zz := Nat.le_trans zz (Below.size hS); replace hacc := btr hacc hS
    obtain ⟨⟨d110, d110f⟩, ⟨d111, d111f⟩, ⟨d190, d190f⟩, -⟩ := id hs
    refine ⟨((w3.setCell ⟨b11, 0, none⟩ (.int .i64 (ar1 + ar2))).setCell ⟨b11, 1, none⟩ (.slice none 0 0)), (by go_simp; try with_reducible rfl), (fun x => Below (((w3.setCell ⟨b11, 0, none⟩ (.int .i64 (ar1 + ar2))).setCell ⟨b11, 1, none⟩ (.slice none 0 0))).heap.size (((w3.setCell ⟨b11, 0, none⟩ (.int .i64 (ar1 + ar2))).setCell ⟨b11, 1, none⟩ (.slice none 0 0))) x), Below.refl _ _, ?_⟩
    obtain ⟨v3, hw⟩ : ∃ zW, zW = ((w3.setCell ⟨b11, 0, none⟩ (.int .i64 (ar1 + ar2))).setCell ⟨b11, 1, none⟩ (.slice none 0 0)) := ⟨_, rfl⟩
    rw [← hw]
    replace hs : Cells v3 [(b11, 0, .int .i64 (ar1 + ar2)), (b11, 1, .slice none 0 0), (b19, 0, .slice pc0 c.length cap)] := by rw [hw]; exact ⟨⟨by go_cell, (fz (fz d110f))⟩, ⟨by go_cell, (fz (fz d111f))⟩, ⟨by go_cell, (fz (fz d190f))⟩, trivial⟩
    replace hbw : Below w.heap.size w v3 := by rw [hw]; exact (Below.setCell (Below.setCell hbw (by have h := HS.out; (try dsimp only); omega) _) (by have h := HS.out; (try dsimp only); omega) _)
    replace hacc : Below W2.heap.size W2 v3 := by rw [hw]; exact (Below.setCell (Below.setCell hacc (by have h := HS.out; (try dsimp only); omega) _) (by have h := HS.out; (try dsimp only); omega) _)
    replace zz : s + 5 ≤ v3.heap.size := by rw [hw]; simpa using zz
    clear hw
    clear d110 d110f d111 d111f d190 d190f
    clear hS
    (try simp only [Act.put, List.setIfInBounds_toArray, List.set_cons_zero, List.set_cons_succ])
    iterate 1 (refine seqE_free (v := ?_) rfl (by rfl) ?_ ?_; rotate_left; (focus (intro w; go_simp; try with_reducible rfl)); (try simp only [Act.put, List.setIfInBounds_toArray, List.set_cons_zero, List.set_cons_succ]))
    refine seqE_nil ?_
    intro wz hS
    replace hs := hs.up hS; replace hbw := btr hbw hS; replace zz := Nat.le_trans zz (Below.size hS); replace hacc := btr hacc hS; clear hS
    obtain ⟨⟨d110, d110f⟩, ⟨d111, d111f⟩, ⟨d190, d190f⟩, -⟩ := id hs
    go_wp2_with fail
    go_meet
    exact ⟨_, _, rfl, rfl, rfl, hge19, hge11, by omega, ⟨⟨d190, d190f⟩, ⟨d110, d110f⟩, ⟨d111, d111f⟩, trivial⟩, hacc⟩
   refine seqE_move rfl (by rfl) ?_ seqE_stop
   intro w4 hS
   refine ⟨.pointer (some ⟨w4.heap.size, 0, none⟩), w4.alloc (.cells #[.int .i64 0, .slice none 0 0] 30), (by go_simp; try with_reducible rfl), ?_⟩
   obtain ⟨b11, hb11⟩ : ∃ b, b = w4.heap.size := ⟨_, rfl⟩
   obtain ⟨v4, hw4⟩ : ∃ zW, zW = w4.alloc (.cells #[.int .i64 0, .slice none 0 0] 30) := ⟨_, rfl⟩
   rw [← hw4, ← hb11]
   have hbl : Below w4.heap.size w4 v4 := by rw [hw4]; go_grown
   have hge11 : s + 5 ≤ b11 := by rw [hb11]; exact Nat.le_trans zz hS.size
   have hga11 : W2.heap.size ≤ b11 := by rw [hb11]; exact Nat.le_trans hacc.size hS.size
   refine ⟨(fun x => Below v4.heap.size v4 x), Below.refl _ _, fun x hx => btr (btr hS hbl) hx, ?_⟩
   have hX := btr hS hbl
   replace hbw := btr hbw hX; replace zz := Nat.le_trans zz (Below.size hX); replace hacc := btr hacc hX
   have hs : Cells v4 [(b11, 0, .int .i64 0), (b11, 1, .slice none 0 0)] := ⟨⟨by rw [hw4, hb11]; go_cell, by rw [hw4, hb11]; go_cell⟩, ⟨by rw [hw4, hb11]; go_cell, by rw [hw4, hb11]; go_cell⟩, trivial⟩
   clear hX hS hbl hw4 hb11
   (try simp only [Act.put, List.setIfInBounds_toArray, List.set_cons_zero, List.set_cons_succ])
   refine seqE_move rfl (by rfl) ?_ seqE_stop
   intro w5 hS
   refine ⟨.pointer (some ⟨w5.heap.size, 0, none⟩), w5.alloc (.cells #[.slice pc0 c.length cap] 87), (by go_simp; try with_reducible rfl), ?_⟩
   obtain ⟨b19, hb19⟩ : ∃ b, b = w5.heap.size := ⟨_, rfl⟩
   obtain ⟨v5, hw5⟩ : ∃ zW, zW = w5.alloc (.cells #[.slice pc0 c.length cap] 87) := ⟨_, rfl⟩
   rw [← hw5, ← hb19]
   have hbl : Below w5.heap.size w5 v5 := by rw [hw5]; go_grown
   have hge19 : s + 5 ≤ b19 := by rw [hb19]; exact Nat.le_trans zz hS.size
   have hga19 : W2.heap.size ≤ b19 := by rw [hb19]; exact Nat.le_trans hacc.size hS.size
   have hlb11_19 : b11 < b19 := by rw [hb19]; exact Nat.lt_of_lt_of_le (World.block_lt_of_cell? _ _ hs.1.1) hS.size
   refine ⟨(fun x => Below v5.heap.size v5 x), Below.refl _ _, fun x hx => btr (btr hS hbl) hx, ?_⟩
   have hX := btr hS hbl
   replace hs := hs.up hX; replace hbw := btr hbw hX; replace zz := Nat.le_trans zz (Below.size hX); replace hacc := btr hacc hX
   replace hs : Cells v5 [(b19, 0, .slice pc0 c.length cap), (b11, 0, .int .i64 0), (b11, 1, .slice none 0 0)] := ⟨⟨by rw [hw5, hb19]; go_cell, by rw [hw5, hb19]; go_cell⟩, hs⟩
   clear hX hS hbl hw5 hb19
   (try simp only [Act.put, List.setIfInBounds_toArray, List.set_cons_zero, List.set_cons_succ])
   iterate 1 (refine seqE_free (v := ?_) rfl (by rfl) ?_ ?_; rotate_left; (focus (intro w; go_simp; try with_reducible rfl)); (try simp only [Act.put, List.setIfInBounds_toArray, List.set_cons_zero, List.set_cons_succ]))
   refine seqE_storeB rfl (by rfl) ?_ seqE_stop
   intro w6 hS
   replace hs := hs.up hS; replace hbw := btr hbw hS; replace zz := Nat.le_trans zz (Below.size hS); replace hacc := btr hacc hS
   obtain ⟨⟨d190, d190f⟩, ⟨d110, d110f⟩, ⟨d111, d111f⟩, -⟩ := id hs
   refine ⟨((w6.setCell ⟨b11, 0, none⟩ (.int .i64 (ar1 + ar2))).setCell ⟨b11, 1, none⟩ (.slice none 0 0)), (by go_simp; try with_reducible rfl), (fun x => Below (((w6.setCell ⟨b11, 0, none⟩ (.int .i64 (ar1 + ar2))).setCell ⟨b11, 1, none⟩ (.slice none 0 0))).heap.size (((w6.setCell ⟨b11, 0, none⟩ (.int .i64 (ar1 + ar2))).setCell ⟨b11, 1, none⟩ (.slice none 0 0))) x), Below.refl _ _, ?_⟩
   obtain ⟨v6, hw⟩ : ∃ zW, zW = ((w6.setCell ⟨b11, 0, none⟩ (.int .i64 (ar1 + ar2))).setCell ⟨b11, 1, none⟩ (.slice none 0 0)) := ⟨_, rfl⟩
   rw [← hw]
   replace hs : Cells v6 [(b19, 0, .slice pc0 c.length cap), (b11, 0, .int .i64 (ar1 + ar2)), (b11, 1, .slice none 0 0)] := by rw [hw]; exact ⟨⟨by go_cell, (fz (fz d190f))⟩, ⟨by go_cell, (fz (fz d110f))⟩, ⟨by go_cell, (fz (fz d111f))⟩, trivial⟩
   replace hbw : Below w.heap.size w v6 := by rw [hw]; exact (Below.setCell (Below.setCell hbw (by have h := HS.out; (try dsimp only); omega) _) (by have h := HS.out; (try dsimp only); omega) _)
   replace hacc : Below W2.heap.size W2 v6 := by rw [hw]; exact (Below.setCell (Below.setCell hacc (by have h := HS.out; (try dsimp only); omega) _) (by have h := HS.out; (try dsimp only); omega) _)
   replace zz : s + 5 ≤ v6.heap.size := by rw [hw]; simpa using zz
   clear hw
   clear d190 d190f d110 d110f d111 d111f
   clear hS
   (try simp only [Act.put, List.setIfInBounds_toArray, List.set_cons_zero, List.set_cons_succ])
   iterate 1 (refine seqE_free (v := ?_) rfl (by rfl) ?_ ?_; rotate_left; (focus (intro w; go_simp; try with_reducible rfl)); (try simp only [Act.put, List.setIfInBounds_toArray, List.set_cons_zero, List.set_cons_succ]))
   refine seqE_nil ?_
   intro wz hS
   replace hs := hs.up hS; replace hbw := btr hbw hS; replace zz := Nat.le_trans zz (Below.size hS); replace hacc := btr hacc hS; clear hS
   obtain ⟨⟨d190, d190f⟩, ⟨d110, d110f⟩, ⟨d111, d111f⟩, -⟩ := id hs
   go_wp2_with fail
   go_meet
   exact ⟨_, _, rfl, rfl, rfl, hge19, hge11, by omega, ⟨⟨d190, d190f⟩, ⟨d110, d110f⟩, ⟨d111, d111f⟩, trivial⟩, hacc⟩
 case rest =>
  obtain ⟨bb, bm, rfl, rfl, rfl, hge1, hge2, hne, hsc, hst⟩ := hcut
  replace hk := hk.up hst; replace hbw := btr hbw hst; replace zz := Nat.le_trans zz (Below.size hst); clear hst
  obtain ⟨L0, hL0⟩ : ∃ L, L = (s + 3) :: (s + 4) :: oth s pc0 := ⟨_, rfl⟩
  have hpl : ∀ ad, pc0 = some ad → ad.block < s := by rw [← HS.out]; exact HC.out.lt hc0
  have hL1 : ∀ k ∈ L0, k < wc.heap.size := by
    intro k hk; rw [hL0] at hk
    rcases List.mem_cons.1 hk with e | hk
    · omega
    rcases List.mem_cons.1 hk with e | hk
    · omega
    have := oth_lt hk; omega
  have hL3 : ∀ ad, pc0 = some ad → ad.block ∉ L0 ∧ ad.block ≠ bm := by
    intro ad h
    have h9 := hpl ad h
    refine ⟨fun hm => ?_, by omega⟩
    rw [hL0] at hm
    rcases List.mem_cons.1 hm with e | hm
    · omega
    rcases List.mem_cons.1 hm with e | hm
    · omega
    exact oth_not h hm
  have HL2 := Lib.hid (show ∀ k, k ∉ L0 → k ≠ s + 3 ∧ k ≠ s + 4 ∧ (k < s → ∃ a, pc0 = some a ∧ k = a.block) from by
    intro k hk; rw [hL0] at hk
    simp only [List.mem_cons, not_or] at hk
    exact ⟨hk.1, hk.2.1, fun hl => oth_of hk.2.2 hl⟩)
  have hbbl : bb < wc.heap.size := World.block_lt_of_cell? _ _ hsc.1.1
  have hbml : bm < wc.heap.size := World.block_lt_of_cell? _ _ hsc.2.1.1
  have HPI : PI L0 bb bm (ar1 + ar2) wc c [] (.slice none 0 0) wc := PI.start hsc (HC.out.mono hbw) hL3
  have HBW := Lib.hid hbw; have HK := Lib.hid hk; have HL1 := Lib.hid hL1
  clear hsc hL0 hpl hL1 hL3 hbw zz
  obtain ⟨-, ⟨y10, y10f⟩, ⟨y11, y11f⟩, ⟨y20, y20f⟩, ⟨y21, y21f⟩, ⟨y30, y30f⟩, ⟨y40, y40f⟩, ⟨y41, y41f⟩, -⟩ := id hk
  clear hk
  clear y10f y11f y20f y21f y30f y40f y41f y30 y40 y41 y10 y20
  go_upto_region 3 with fail
  clear y11 y21
  go_loopg [33] a.length (fun N s33 wr => ∃ (I : Nat) (C : List Gate) (M : List Cell) (v : Value), s33 = .int .i64 I ∧ I ≤ a.length ∧ N = a.length - I ∧ pst c p a b I 0 = (C, M) ∧ PI L0 bb bm (ar1 + ar2) wc C M v wr)
  case atStart => exact ⟨0, c, [], _, rfl, by omega, rfl, pst_start, HPI⟩
  case round =>
   clear HPI
   obtain ⟨I, C, M, v, rfl, hI, hN, hj, hP⟩ := hrel
   have HN := Lib.hid hN; have HJ := Lib.hid hj; clear hN hj
   have hszr := hP.kx.size
   have hBR : Below w.heap.size w wr := KeepX.below' HBW.out hP.kx HBW.out.size (by have := HS.out; simp; omega)
   by_cases hlt : I < a.length
   case neg =>
    obtain rfl : I = a.length := by omega
    have HF := Lib.hid (show mProduct c p a b = (C, M) by rw [← pst_end, HJ.out])
    have hjo := PO.out a.length 0
    rw [HJ.out] at hjo
    dsimp only at hjo
    obtain ⟨gC, -⟩ := hjo
    obtain ⟨pC, cC, e1, e1f, hCC, hnL⟩ := hP.bx
    have hClt := hCC.lt (show 0 < C.length from gC.good.ne)
    have HNL := Lib.hid (fun ad h => (fun hm => hnL ad h (List.mem_cons_of_mem _ (List.mem_append_right _ hm)) : ad.block ∉ L0))
    have z0 := hP.g.c0; have z1 := hP.g.c1
    obtain ⟨q3, c3, hv, o1, o2, o3, o4⟩ := owns_val (by decide) hP.g.own
    subst hv
    have hqr : ∀ ad, q3 = some ad → wc.heap.size ≤ ad.block ∧ ad.block < wr.heap.size := fun ad h => hP.g.own.lt ad.block (by rw [h]; rfl)
    have O4 := Lib.hid o4; have O3 := Lib.hid o3
    have hkC := Cells.keep HK.out hP.kx (by simp; omega)
    obtain ⟨-, -, -, -, -, ⟨y30, y30f⟩, ⟨y40, y40f⟩, ⟨y41, y41f⟩, -⟩ := hkC
    have hMF : MxAt wr q3 c3 M := ⟨o1, o2, O3.out, O4.out, fun ad h => (hqr ad h).2⟩
    clear hnL gC o1 o2 o3 o4 hP
    go_upto_region 11 with fail
    go_region
    go_wp2_with fail
    obtain ⟨W9, hW9⟩ : ∃ W9, W9 = (((wr.setCell ⟨s + 3, 0, none⟩ (.slice pC C.length cC)).setCell ⟨s + 4, 0, none⟩ (.int .i64 (ar1 + ar2))).setCell ⟨s + 4, 1, none⟩ (.slice q3 M.length c3)).drew := ⟨_, rfl⟩
    rw [← hW9]
    have r0 : W9.cell? ⟨s + 3, 0, none⟩ = some (.slice pC C.length cC) := by rw [hW9]; go_cell
    have r1 : W9.cell? ⟨s + 4, 0, none⟩ = some (.int .i64 (ar1 + ar2)) := by rw [hW9]; go_cell
    have r2 : W9.cell? ⟨s + 4, 1, none⟩ = some (.slice q3 M.length c3) := by rw [hW9]; go_cell
    have n3 : ∀ ad, pC = some ad → s + 3 ≠ ad.block := fun ad h e => (HL2.out _ (HNL.out ad h)).1 e.symm
    have n4 : ∀ ad, pC = some ad → s + 4 ≠ ad.block := fun ad h e => (HL2.out _ (HNL.out ad h)).2.1 e.symm
    have m3 : ∀ ad, q3 = some ad → s + 3 ≠ ad.block := fun ad h e => by have := (hqr ad h).1; omega
    have m4 : ∀ ad, q3 = some ad → s + 4 ≠ ad.block := fun ad h e => by have := (hqr ad h).1; omega
    have hCF : CAt W9 pC cC C := by rw [hW9]; exact (((hCC.set n3 _).set n4 _).set n4 _).mono (Below.drew (Below.refl _ _))
    replace hMF : MxAt W9 q3 c3 M := by rw [hW9]; exact (((hMF.set m3 _).set m4 _).set m4 _).up (Below.drew (Below.refl _ _))
    have B9 : Below w.heap.size w W9 := by
      rw [hW9]
      refine Below.drew ?_
      iterate 3 refine Below.setCell ?_ (by have h := HS.out; (try dsimp only); omega) _
      exact hBR
    clear hW9
    rw [HF.out]
    refine bodyPost_ret (by simp [results, Try.results70, go_sem, r0, r1, r2]; try rfl) rfl ?_
    refine ⟨_, _, _, _, rfl, hCF, hMF, B9, fun ad h => ?_, fun ad h => by have := (hqr ad h).1; have := HS.out; omega⟩
    have h9 := (HL2.out _ (HNL.out ad h)).2.2
    have := HS.out
    rcases Nat.lt_or_ge ad.block s with hlt9 | hge9
    · exact .inl (h9 hlt9)
    · exact .inr (by omega)
   case pos =>
    have hlt0 : (0 : Int) ≤ (I : Int) := by omega
    have hlt1 : (I : Int) < (a.length : Int) := by omega
    obtain ⟨x, hx⟩ : ∃ x, a[I]? = some x := ⟨_, List.getElem?_eq_getElem hlt⟩
    obtain ⟨bx, ox, rfl, hbx, jx0, jx1⟩ := cell_cells HA.out.at' hx
    have hx1 := HMA.out.ranks x (List.mem_of_getElem? hx)
    have hx2 := HMA.out.refs x (List.mem_of_getElem? hx)
    have HX := Lib.hid hx; clear hx
    replace jx0 := oldcell hBR jx0 hbx; replace jx1 := oldcell hBR jx1 hbx
    obtain ⟨xr, hxr⟩ : ∃ z, x.rank = z := ⟨_, rfl⟩
    obtain ⟨xf, hxf⟩ : ∃ z, x.ref = z := ⟨_, rfl⟩
    rw [hxr] at jx0 hx1; rw [hxf] at jx1 hx2
    have HXR := Lib.hid hxr; have HXF := Lib.hid hxf; clear hxr hxf
    have y21 := hP.cell (HK.out.2.2.2.2.1.1) (by omega) (by omega)
    clear hbx
    go_upto_region 5 with fail
    obtain ⟨b14, hb14⟩ : ∃ b, b = wr.heap.size := ⟨_, rfl⟩
    obtain ⟨wx, hwx⟩ : ∃ x, x = wr.alloc (.cells #[.int .i64 xr, .int .i64 xf] 76) := ⟨_, rfl⟩
    rw [← hwx, ← hb14]
    have hBx1 : Below wr.heap.size wr wx := by rw [hwx]; go_grown
    have z0 : wx.cell? ⟨b14, 0, none⟩ = some (.int .i64 xr) := by rw [hwx, hb14]; go_cell
    have z1 : wx.cell? ⟨b14, 1, none⟩ = some (.int .i64 xf) := by rw [hwx, hb14]; go_cell
    have hge14 : wc.heap.size ≤ b14 := by omega
    have hn14 : b14 ∉ rowOf v := fun hm => by have := (hP.row hm).2; omega
    replace y21 := oldcell hBx1 y21 (World.block_lt_of_cell? _ _ y21)
    replace hP := hP.up hBx1
    clear hwx hBx1 jx0 jx1 hBR hszr hb14
    go_upto_region 6 with fail
    clear y21
    go_loopg [40] b.length (fun N s40 wq => ∃ (J : Nat) (C : List Gate) (M : List Cell) (v : Value), s40 = .int .i64 J ∧ J ≤ b.length ∧ N = b.length - J ∧ pst c p a b I J = (C, M) ∧ PI L0 bb bm (ar1 + ar2) wc C M v wq ∧ b14 ∉ rowOf v ∧ wq.cell? ⟨b14, 0, none⟩ = some (.int .i64 xr) ∧ wq.cell? ⟨b14, 1, none⟩ = some (.int .i64 xf))
    case atStart => exact ⟨0, C, M, v, rfl, by omega, rfl, HJ.out, hP, hn14, z0, z1⟩
    case round =>
     clear hP hn14 z0 z1 HJ C M v
     obtain ⟨J, C, M, v, rfl, hJ, hN2, hj, hP, hn14, z0, z1⟩ := hrel
     have HN2 := Lib.hid hN2; have HJ2 := Lib.hid hj; clear hN2 hj
     have hszr := hP.kx.size
     have hBR : Below w.heap.size w wr := KeepX.below' HBW.out hP.kx HBW.out.size (by have := HS.out; simp; omega)
     by_cases hlt2 : J < b.length
     case neg =>
      obtain rfl : J = b.length := by omega
      go_wp2_with fail
      go_roundg (a.length - (I + 1))
      case measure => (have := HN.out; omega)
      case rel => exact ⟨I + 1, C, M, v, by go_num, by omega, rfl, (pst_next HX.out).trans HJ2.out, hP⟩
     case pos =>
      have hlt3 : (0 : Int) ≤ (J : Int) := by omega
      have hlt4 : (J : Int) < (b.length : Int) := by omega
      obtain ⟨y, hy⟩ : ∃ y, b[J]? = some y := ⟨_, List.getElem?_eq_getElem hlt2⟩
      obtain ⟨by', oy, rfl, hby, jy0, jy1⟩ := cell_cells HD.out.at' hy
      have hy1 := HMB.out.ranks y (List.mem_of_getElem? hy)
      have hy2 := HMB.out.refs y (List.mem_of_getElem? hy)
      have HY := Lib.hid hy; clear hy
      replace jy0 := oldcell hBR jy0 hby; replace jy1 := oldcell hBR jy1 hby
      obtain ⟨yr, hyr⟩ : ∃ z, y.rank = z := ⟨_, rfl⟩
      obtain ⟨yf, hyf⟩ : ∃ z, y.ref = z := ⟨_, rfl⟩
      rw [hyr] at jy0 hy1; rw [hyf] at jy1 hy2
      have HYR := Lib.hid hyr; have HYF := Lib.hid hyf; clear hyr hyf
      clear hby
      go_upto_region 8 with fail
      obtain ⟨b16, hb16⟩ : ∃ b, b = wr.heap.size := ⟨_, rfl⟩
      obtain ⟨wy, hwy⟩ : ∃ x, x = wr.alloc (.cells #[.int .i64 yr, .int .i64 yf] 76) := ⟨_, rfl⟩
      rw [← hwy, ← hb16]
      have hBy1 : Below wr.heap.size wr wy := by rw [hwy]; go_grown
      have u0 : wy.cell? ⟨b16, 0, none⟩ = some (.int .i64 yr) := by rw [hwy, hb16]; go_cell
      have u1 : wy.cell? ⟨b16, 1, none⟩ = some (.int .i64 yf) := by rw [hwy, hb16]; go_cell
      have hge16 : wc.heap.size ≤ b16 := by omega
      have hn16 : b16 ∉ rowOf v := fun hm => by have := (hP.row hm).2; omega
      replace z0 := oldcell hBy1 z0 (World.block_lt_of_cell? _ _ z0)
      replace z1 := oldcell hBy1 z1 (World.block_lt_of_cell? _ _ z1)
      replace hP := hP.up hBy1
      clear hwy hBy1 jy0 jy1 hBR hszr hb16
      have hjo := PO.out I J
      rw [HJ2.out] at hjo
      dsimp only at hjo
      obtain ⟨gC, hMl⟩ := hjo
      have hCl := gC.len; have hCg := gC.ge
      have hlc : C.length ≤ 20000 := by omega
      have hml : M.length ≤ 100000 := by omega
      obtain ⟨E, q, hE1⟩ : ∃ E q, cand C xf yf = (E, q) := ⟨_, _, rfl⟩
      have iX : In C xf := ⟨hx2.1, by omega⟩
      have iY : In C yf := ⟨hy2.1, by omega⟩
      obtain ⟨gE, -, -⟩ := ok_and.one gC.good (by omega) iX iY
      rw [hE1] at gE; dsimp only at gE
      have HNE := Lib.hid (show E ≠ [] from fun h => by have h2 := gE.good.ne; rw [h] at h2; cases h2)
      obtain ⟨T, hT⟩ : ∃ T : Nat, xr * (p : Int) + yr = (T : Int) := by
        have h1 := Int.mul_nonneg hx1.1 (by omega : (0 : Int) ≤ p)
        exact ⟨(xr * (p : Int) + yr).toNat, by omega⟩
      obtain ⟨Q, hQ⟩ : ∃ Q : Nat, xr * (p : Int) = (Q : Int) := by
        have h1 := Int.mul_nonneg hx1.1 (by omega : (0 : Int) ≤ p)
        exact ⟨(xr * (p : Int)).toNat, by omega⟩
      have hQT : (Q : Int) + yr = (T : Int) := by omega
      have hQl : Q ≤ 10000000 := by
        have h1 : xr * (p : Int) ≤ 2000 * (p : Int) := Int.mul_le_mul_of_nonneg_right (by omega) (by omega)
        omega
      have hw1 : IntKind.i64.wrap (Q : Int) = (Q : Int) := by rw [IntWalk.i64_in]; omega
      have hw2 : IntKind.i64.wrap (T : Int) = (T : Int) := by rw [IntWalk.i64_in]; omega
      obtain ⟨M2, hM2⟩ : ∃ m, put M (T : Int) q = m := ⟨_, rfl⟩
      have HE1 := Lib.hid hE1; have HM2 := Lib.hid hM2; have HTT := Lib.hid hT
      have hLt := hP.lts HL1.out
      have HLT := Lib.hid hLt; have HPP := Lib.hid hP
      clear hE1 hM2 hT gC gE iX iY hLt hP
      refine wp_region_seqM (fun j w' => (match j with | 0 => PI L0 bb bm (ar1 + ar2) wc C M v w' | 1 => PI L0 bb bm (ar1 + ar2) wc E M v w' ∧ (∀ k ∈ bm :: (rowOf v ++ L0), k < w'.heap.size) | _ => ∃ v', PI L0 bb bm (ar1 + ar2) wc E M2 v' w' ∧ b14 ∉ rowOf v') ∧ wy.heap.size ≤ w'.heap.size ∧ w'.cell? ⟨b14, 0, none⟩ = some (.int .i64 xr) ∧ w'.cell? ⟨b14, 1, none⟩ = some (.int .i64 xf) ∧ w'.cell? ⟨b16, 0, none⟩ = some (.int .i64 yr) ∧ w'.cell? ⟨b16, 1, none⟩ = some (.int .i64 yf)) [12, 13] (by kernel_rfl) (by kernel_rfl) (by kernel_rfl) ?_ ?_
      · exact ⟨HPP.out.up (Below.drew (Below.refl _ _)), Nat.le_refl _, keep_drew z0, keep_drew z1, keep_drew u0, keep_drew u1⟩
      refine seqM_pure (v := ?_) (by decide) (by decide) (by rfl) ?_ ?_
      rotate_left
      · (intro sj hj w hS; go_simp; try with_reducible rfl)
      (try simp only [Act.put, List.setIfInBounds_toArray, List.set_cons_zero, List.set_cons_succ])
      refine seqM_pure (v := ?_) (by decide) (by decide) (by rfl) ?_ ?_
      rotate_left
      · (intro sj hj w hS; obtain ⟨-, -, z0, z1, u0, u1⟩ := hS; go_simp; try with_reducible rfl)
      (try simp only [Act.put, List.setIfInBounds_toArray, List.set_cons_zero, List.set_cons_succ])
      refine seqM_pure (v := ?_) (by decide) (by decide) (by rfl) ?_ ?_
      rotate_left
      · (intro sj hj w hS; go_simp; try with_reducible rfl)
      (try simp only [Act.put, List.setIfInBounds_toArray, List.set_cons_zero, List.set_cons_succ])
      refine seqM_pure (v := ?_) (by decide) (by decide) (by rfl) ?_ ?_
      rotate_left
      · (intro sj hj w hS; go_simp; try with_reducible rfl)
      (try simp only [Act.put, List.setIfInBounds_toArray, List.set_cons_zero, List.set_cons_succ])
      refine seqM_pure (v := ?_) (by decide) (by decide) (by rfl) ?_ ?_
      rotate_left
      · (intro sj hj w hS; go_simp; try with_reducible rfl)
      (try simp only [Act.put, List.setIfInBounds_toArray, List.set_cons_zero, List.set_cons_succ])
      refine seqM_pure (v := ?_) (by decide) (by decide) (by rfl) ?_ ?_
      rotate_left
      · (intro sj hj w hS; obtain ⟨-, -, z0, z1, u0, u1⟩ := hS; go_simp; try with_reducible rfl)
      (try simp only [Act.put, List.setIfInBounds_toArray, List.set_cons_zero, List.set_cons_succ])
      refine seqM_pure (v := ?_) (by decide) (by decide) (by rfl) ?_ ?_
      rotate_left
      · (intro sj hj w hS; go_simp; try with_reducible rfl)
      (try simp only [Act.put, List.setIfInBounds_toArray, List.set_cons_zero, List.set_cons_succ])
      refine seqM_pure (v := ?_) (by decide) (by decide) (by rfl) ?_ ?_
      rotate_left
      · (intro sj hj w hS; go_simp; try with_reducible rfl)
      (try simp only [Act.put, List.setIfInBounds_toArray, List.set_cons_zero, List.set_cons_succ])
      refine seqM_pure (v := ?_) (by decide) (by decide) (by rfl) ?_ ?_
      rotate_left
      · (intro sj hj w hS; go_simp; try with_reducible rfl)
      (try simp only [Act.put, List.setIfInBounds_toArray, List.set_cons_zero, List.set_cons_succ])
      refine seqM_pure (v := ?_) (by decide) (by decide) (by rfl) ?_ ?_
      rotate_left
      · (intro sj hj w hS; obtain ⟨-, -, z0, z1, u0, u1⟩ := hS; go_simp; try with_reducible rfl)
      (try simp only [Act.put, List.setIfInBounds_toArray, List.set_cons_zero, List.set_cons_succ])
      refine seqM_pure (v := ?_) (by decide) (by decide) (by rfl) ?_ ?_
      rotate_left
      · (intro sj hj w hS; go_simp; try with_reducible rfl)
      (try simp only [Act.put, List.setIfInBounds_toArray, List.set_cons_zero, List.set_cons_succ])
      refine seqM_pure (v := ?_) (by decide) (by decide) (by rfl) ?_ ?_
      rotate_left
      · (intro sj hj w hS; obtain ⟨-, -, z0, z1, u0, u1⟩ := hS; go_simp; try with_reducible rfl)
      (try simp only [Act.put, List.setIfInBounds_toArray, List.set_cons_zero, List.set_cons_succ])
      refine seqM_call (v := .int .i64 q) (f := ?_) (args := ?_) (by decide) (by decide) (by rfl) ?_ ?_ ?_
      rotate_left 2
      · (intro w hS; go_simp; first | done | with_reducible rfl | (refine ⟨?_, ?_⟩ <;> with_reducible rfl))
      · (intro w hS; obtain ⟨hP, hsz, z0, z1, u0, u1⟩ := hS; refine (andM_is (by omega) (by omega) hlc hP.bx (hP.lts HL1.out) HE1.out).mono ?_; rintro e w2 ⟨rfl, hb2, hk2⟩; have hP2 := hP.op hb2 hk2 hne hbbl; exact ⟨rfl, ⟨hP2, hP2.lts HL1.out⟩, Nat.le_trans hsz hk2.size, hk2.cell z0 (by simp; omega), hk2.cell z1 (by simp; omega), hk2.cell u0 (by simp; omega), hk2.cell u1 (by simp; omega)⟩)
      (try simp only [Act.put, List.setIfInBounds_toArray, List.set_cons_zero, List.set_cons_succ])
      refine seqM_call (v := .tuple #[]) (f := ?_) (args := ?_) (by decide) (by decide) (by rfl) ?_ ?_ ?_
      rotate_left 2
      · (intro w hS; go_simp; first | done | with_reducible rfl | (refine ⟨?_, ?_⟩ <;> with_reducible rfl))
      · (intro w hS; obtain ⟨⟨hP, hlt9⟩, hsz, z0, z1, u0, u1⟩ := hS; refine (put_is hP.g hml HM2.out).mono ?_; intro e w3 hp3; obtain ⟨he, v', hP3, hrw, hk3⟩ := hP.put hp3 hne hbbl HNE.out; refine ⟨he, ⟨v', hP3, hrw b14 (World.block_lt_of_cell? _ _ z0) hn14⟩, Nat.le_trans hsz hk3.size, hk3.cell z0 ?_, hk3.cell z1 ?_, hk3.cell u0 ?_, hk3.cell u1 ?_⟩ <;> (intro hm; rcases List.mem_cons.1 hm with e | hm; (omega); first | exact hn14 hm | exact hn16 hm))
      (try simp only [Act.put, List.setIfInBounds_toArray, List.set_cons_zero, List.set_cons_succ])
      refine seqM_nil ?_
      intro w2 hS
      obtain ⟨⟨v', hP3, hn3⟩, -, z0, z1, -, -⟩ := hS
      go_wp2_with fail
      go_roundg (b.length - (J + 1))
      case measure => (have := HN2.out; omega)
      case rel =>
       refine ⟨J + 1, E, M2, v', by go_num, by omega, rfl, ?_, hP3, hn3, z0, z1⟩
       have h := pst_step (p := (p : Int)) (D := E) (q := q) HX.out HY.out HJ2.out (by rw [HXF.out, HYF.out]; exact HE1.out)
       rw [HXR.out, HYR.out, HTT.out, HM2.out] at h; exact h
end Go.Proofs.Ytadilppdlbhjnaa

namespace Go.Proofs.Ytadilppdlbhjnaa
set_option linter.unusedSimpArgs false
set_option linter.unusedVariables false
open Go.RowKit

end Go.Proofs.Ytadilppdlbhjnaa

namespace Go.Proofs.Ytadilppdlbhjnaa
set_option linter.unusedSimpArgs false
set_option linter.unusedVariables false
open Go.RowKit

end Go.Proofs.Ytadilppdlbhjnaa

namespace Go.Proofs.Ytadilppdlbhjnaa
set_option linter.unusedSimpArgs false
set_option linter.unusedVariables false
open Go.RowKit Go.Sort Go.Lib

/-- a cell with a modest rank -/
abbrev BCell := { x : Cell // 0 ≤ x.rank ∧ x.rank < 1000000 }
instance : Inhabited BCell := ⟨⟨⟨0, 0⟩, by decide⟩⟩
def bEncL (x : BCell) : List Value := [.int .i64 x.1.rank, .int .i64 x.1.ref]
def bCmp (x y : BCell) : Int := x.1.rank - y.1.rank

set_option maxHeartbeats 1000000 in
theorem tcmp_any (x y : BCell) (W : World) : Calls Try.prog 124 #[.agg #[.int .i64 x.1.rank, .int .i64 x.1.ref], .agg #[.int .i64 y.1.rank, .int .i64 y.1.ref]] W fun e w' => e = .returned (.int .i64 (bCmp x y)) ∧ ∃ q os', w' = grow (W.drewN q) os' := by
  obtain ⟨⟨xr, xf⟩, x0, x1⟩ := x
  obtain ⟨⟨yr, yf⟩, y0, y1⟩ := y
  dsimp only at x0 x1 y0 y1
  have hw : IntKind.i64.wrap (xr - yr) = xr - yr := by rw [IntWalk.i64_in]; omega
  have hw2 : wrap64 (xr - yr) = xr - yr := by unfold wrap64; omega
  show Calls _ _ #[.agg #[.int .i64 xr, .int .i64 xf], .agg #[.int .i64 yr, .int .i64 yf]] W fun e w' => e = .returned (.int .i64 (xr - yr)) ∧ _
  obtain ⟨z, hz⟩ : ∃ z, xr - yr = z := ⟨_, rfl⟩
  rw [hz] at hw hw2 ⊢
  rw [← hz] at hw hw2
  go_enter Try.func124, Try.ntmps124
  go_wp2_with fail
  go_ret
  exact ⟨rfl, 0, _, by rw [alloc_eq_grow, alloc_eq_grow, grow_grow]; rfl⟩
theorem tcmp_lays (blk off size : Nat) (w : World) : CmpLays Try.prog 124 #[] bEncL 2 bCmp blk off size w :=
  fun _ _ _ _ x y => tcmp_any x y _
theorem tlen_any (n : Nat) (W : World) (h : n ≤ 12) : Calls Try.prog 139 #[.int .u64 n] W fun e w' => (∃ l : Int, e = .returned (.int .i64 l)) ∧ w' = W :=
  (Try.bits_Len n W (by omega) (by omega)).mono fun _ _ ⟨he, hw⟩ => ⟨⟨_, he⟩, hw⟩
theorem bCmp_swo : SWO (ltOf bCmp) := by
  refine ⟨fun x => ?_, fun x y z h1 h2 => ?_, fun x y z h1 h2 => ?_⟩
  · unfold ltOf bCmp; simp
  · unfold ltOf bCmp at *; simp at *; omega
  · unfold ltOf bCmp at *; simp at *; omega
theorem tsort_any (blk off cap : Nat) (d : Array BCell) (w : World) (hH : HoldsK bEncL 2 w blk off d) (hblk : blk < w.heap.size) (h12 : d.size ≤ 12) :
    Calls Try.prog 123 #[.slice (some ⟨blk, off, none⟩) d.size cap, .func (.func 124) #[] #[]] w fun e w' => e = .returned (.tuple #[]) ∧ ∃ d' n os, PermIn 0 d.size d d' ∧ SortedIn (ltOf bCmp) 0 d.size d' ∧ w' = sortWorldK bEncL 2 w blk off n d' os := by
  have eg : ∀ args w, (callFunc 124 args).run Try.prog w = .ok (.enter 124 args) w := enters_of Try.func124 (by kernel_rfl) rfl
  exact AnyQ.slices_SortFunc_small_sorted Try.sortCells 2 Try.isAgg76 Try.sizeOf76 bEncL (fun _ => rfl) (fun x v hv => by simp [bEncL] at hv; rcases hv with rfl | rfl <;> rfl) bCmp 124 #[] bCmp_swo blk off cap d w eg (tcmp_lays blk off d.size w) hH hblk h12 tlen_any
end Go.Proofs.Ytadilppdlbhjnaa

namespace Go.Proofs.Ytadilppdlbhjnaa
set_option linter.unusedSimpArgs false
set_option linter.unusedVariables false
open Go.RowKit

set_option maxRecDepth 100000 in
set_option maxHeartbeats 1000000 in
theorem insert_nil (fv : Value) (w : World) : Calls Try.prog 157 #[.slice none 0 0, .int .i64 0, .int .i64 0, fv] w fun e w' => e = .returned (.tuple #[]) ∧ w' = w := by
  go_enter Try.func157, Try.ntmps157
  go_wp2_with fail
  go_loopg [8] 1 (fun M s8 wr => s8 = .int .i64 1 ∧ M = 1 ∧ wr = w)
  case atStart => exact ⟨rfl, rfl, rfl⟩
  case round =>
    obtain ⟨rfl, rfl, hw⟩ := hrel
    replace hw := hw.symm
    subst hw
    go_wp2_with fail
    go_end0
    exact ⟨rfl, rfl⟩
set_option maxRecDepth 100000 in
set_option maxHeartbeats 1000000 in
theorem pdq_nil (l : Int) (fv : Value) (w : World) : Calls Try.prog 143 #[.slice none 0 0, .int .i64 0, .int .i64 0, .int .i64 l, fv] w fun e w' => e = .returned (.tuple #[]) ∧ w' = w := by
  go_enter Try.func143, Try.ntmps143
  go_wp2_with fail
  go_loopg [10, 11, 1, 2, 3] 1 (fun M s10 s11 s1 s2 s3 wr => s10 = .bool true ∧ s11 = .bool true ∧ s1 = .int .i64 0 ∧ s2 = .int .i64 0 ∧ s3 = .int .i64 l ∧ M = 1 ∧ wr = w)
  case atStart => exact ⟨rfl, rfl, rfl, rfl, rfl, rfl, rfl⟩
  case round =>
    obtain ⟨rfl, rfl, rfl, rfl, rfl, rfl, hw⟩ := hrel
    replace hw := hw.symm
    subst hw
    go_wp2_with (first | (go_at_call 157; refine (insert_nil fv _).mono ?_; rintro e w' ⟨rfl, hw⟩; replace hw := hw.symm; subst hw))
    refine bodyPost_ret (results_none rfl _ _ _) rfl ?_
    exact ⟨rfl, rfl⟩
set_option maxRecDepth 100000 in
set_option maxHeartbeats 1000000 in
theorem sortf_nil (fv : Value) (w : World) : Calls Try.prog 123 #[.slice none 0 0, fv] w fun e w' => e = .returned (.tuple #[]) ∧ w' = w := by
  have hl := fun W => tlen_any 0 W (by omega)
  go_enter Try.func123, Try.ntmps123
  go_wp2_with (first | (go_at_call 139; refine (hl _).mono ?_; rintro e w' ⟨⟨l, rfl⟩, hw⟩; replace hw := hw.symm; subst hw) | (go_at_call 143; refine (pdq_nil _ fv _).mono ?_; rintro e w' ⟨rfl, hw⟩; replace hw := hw.symm; subst hw))
  go_end0
  exact ⟨rfl, rfl⟩
/-- slices.SortFunc at a row of cells of the call's own. -/
theorem sortf_own {P0 : List Cell} {B : Nat} {v : Value} {w : World} (h : w.ownsRow B 76 2 v P0.length (flat 2 cEnc P0)) (hr : ∀ x ∈ P0, 0 ≤ x.rank ∧ x.rank < 1000000) (hl : P0.length ≤ 12) :
    Calls Try.prog 123 #[v, .func (.func 124) #[] #[]] w
      fun e w' => e = .returned (.tuple #[]) ∧ ∃ L q cq, L.Perm P0 ∧ L.Pairwise (fun x y => x.rank ≤ y.rank) ∧ v = .slice q L.length cq ∧ MxAt w' q cq L ∧ (∀ ad, q = some ad → v.ownBlock = some ad.block) ∧ KeepX (rowOf v) w w' := by
  obtain ⟨q0, cq0, hv0, o1, o2, o3, o4⟩ := owns_val (by decide) h
  rcases h.2 with ⟨hv, h0⟩ | ⟨g, cap, cur, hv, hg, hb, h1, h2, h3, h4⟩
  · obtain rfl := List.length_eq_zero_iff.1 h0
    subst hv
    refine (sortf_nil _ w).mono ?_
    rintro e w' ⟨rfl, rfl⟩
    exact ⟨rfl, [], none, 0, List.Perm.refl _, List.Pairwise.nil, rfl, MxAt.nil _, (fun _ h => by cases h), KeepX.refl _ _⟩
  · subst hv
    obtain ⟨rfl, -, rfl⟩ : some (⟨g, 0, none⟩ : Addr) = q0 ∧ True ∧ cap = cq0 := by simpa using hv0
    obtain ⟨d, hd⟩ : ∃ d : List BCell, d.map Subtype.val = P0 := ⟨P0.attach.map fun x => ⟨x.1, hr x.1 x.2⟩, by rw [List.map_map]; exact List.attach_map_subtype_val P0⟩
    have hdl : d.length = P0.length := by rw [← hd, List.length_map]
    have hgl := (Array.getElem?_eq_some_iff.1 hb).1
    have hH : Sort.HoldsK bEncL 2 w g 0 d.toArray := fun t ht => by
      have ht2 : t < d.length * 2 := by rw [Sort.size_flatK] at ht; simpa using ht
      have hi : t / 2 < d.length := by omega
      have hP : P0[t / 2]? = some d[t / 2].1 := by rw [← hd, List.getElem?_map, List.getElem?_eq_getElem hi]; rfl
      obtain ⟨b', off, e, -, c0, c1⟩ := cell_cells o4 hP
      cases e
      rw [Sort.get_flatK _ _ _ _ (by simpa using ht2)]
      have he : d.toArray[t / 2]! = d[t / 2] := by simp [getElem!_pos, hi]
      rw [he]
      refine ⟨?_, by simp [World.frozen?, hb]⟩
      rcases Nat.mod_two_eq_zero_or_one t with hm | hm
      · rw [show 0 + t = 0 + t / 2 * 2 by omega, c0, hm]; rfl
      · rw [show 0 + t = 0 + t / 2 * 2 + 1 by omega, c1, hm]; rfl
    have hs := tsort_any g 0 cap d.toArray w hH hgl (by simp; omega)
    rw [show d.toArray.size = P0.length by simpa using hdl] at hs
    refine hs.mono ?_
    rintro e w' ⟨rfl, d', n, os, hp, hso, rfl⟩
    have hsz : d'.size = P0.length := by have := hp.1; simp at this; omega
    have hperm : d'.toList.Perm d := by
      have := hp.2.2
      rw [show P0.length = d'.size from hsz.symm] at this
      have e1 : d'.extract 0 d'.size = d' := by simp
      have e2 : d.toArray.extract 0 d'.size = d.toArray := by rw [hsz, ← hdl]; simp
      rw [e1, e2] at this
      simpa using this
    obtain ⟨L, hL⟩ : ∃ L, d'.toList.map Subtype.val = L := ⟨_, rfl⟩
    have hLl : L.length = P0.length := by rw [← hL, List.length_map, Array.length_toList, hsz]
    have hHw : Sort.HoldsK bEncL 2 (sortWorldK bEncL 2 w g 0 n d' os) g 0 d' :=
      Sort.holdsK_grow _ _ _ _ _ _ _ (by rw [Sort.size_putRowK]; exact hgl) (Sort.holdsK_putRowK _ _ _ _ _ _ _ (Sort.holdsK_ahead _ _ _ _ _ _ _ hH) (by simp; omega))
    have hsw : (sortWorldK bEncL 2 w g 0 n d' os).heap.size = w.heap.size + os.size := by
      unfold sortWorldK
      rw [Sort.size_grow, Sort.size_putRowK]; rfl
    have hgl2 : g < (sortWorldK bEncL 2 w g 0 n d' os).heap.size := by omega
    refine ⟨rfl, L, some ⟨g, 0, none⟩, cap, ?_, ?_, by rw [hLl], ⟨by omega, h2, (fun h => by cases h), .inr ⟨g, 0, rfl, hgl2, fun i x hx j hj => ?_⟩, fun ad h => by cases h; exact hgl2⟩, (fun ad h => by cases h; rfl), ?_⟩
    · rw [← hL, ← hd]; exact hperm.map _
    · rw [← hL, List.pairwise_map, List.pairwise_iff_getElem]
      intro i j hi hj hij
      have h5 := hso i j (Nat.zero_le _) hij (by simp at hj; omega)
      have hi' : i < d'.size := by simpa using hi
      have hj' : j < d'.size := by simpa using hj
      unfold ltOf bCmp at h5
      simp only [getElem!_pos d' i hi', getElem!_pos d' j hj', decide_eq_false_iff_not] at h5
      simp only [Array.getElem_toList]
      omega
    · rw [← hL, List.getElem?_map] at hx
      obtain ⟨y, hy, rfl⟩ := Option.map_eq_some_iff.1 hx
      have hi : i < d'.size := by have := (List.getElem?_eq_some_iff.1 hy).1; simpa using this
      have hyi : d'[i]! = y := by
        rw [getElem!_pos d' i hi]
        have := (List.getElem?_eq_some_iff.1 hy).2
        simpa using this
      have h5 := (Sort.HoldsK.cell hHw hi hj).1
      rw [hyi] at h5
      rw [h5]
      match j, hj with
      | 0, _ => rfl
      | 1, _ => rfl
    · refine ⟨rfl, rfl, rfl, by omega, fun k hk hx => ?_⟩
      have hne : g ≠ k := fun e => hx (by rw [← e]; simp [rowOf, Value.ownBlock])
      unfold sortWorldK
      rw [Sort.heap_grow_old _ _ (by rw [Sort.size_putRowK]; exact hk)]
      simp [Sort.putRowK, Sort.putRow, Sort.mapBlock, Sort.ahead, Array.getElem?_modify, hne]

/-- A matrix is returned, in new memory. -/
def RetMN (w : World) (ar : Int) (m : List Cell) (e : Ending) (w' : World) : Prop := ∃ q cq, e = .returned (.agg #[.int .i64 ar, .slice q m.length cq]) ∧ MxAt w' q cq m ∧ (∀ ad, q = some ad → w.heap.size ≤ ad.block) ∧ Below w.heap.size w w'
theorem tcells_snoc {n : Int} {a : List Cell} {K : Nat} {x : Cell} (h : a[K]? = some x) (hx : x.ref ≠ 1) : put ((a.take K).map (tcell n)) (trF n x.rank) x.ref = (a.take (K + 1)).map (tcell n) := by
  obtain ⟨h1, h2⟩ := List.getElem?_eq_some_iff.1 h
  rw [List.take_succ_eq_append_getElem h1, h2, List.map_append]
  unfold put
  rw [if_neg hx]; rfl
set_option maxRecDepth 100000 in
set_option maxHeartbeats 4000000 in
theorem mtranspose_any (n : Nat) (c : List Gate) (a : List Cell) (ar : Int) (pa : Option Addr) (ca : Nat) (w : World) (hA : MxAt w pa ca a) (ha : MOk c ((n * n : Nat) : Int) a) (hn0 : 0 < n) (hn : n ≤ 3) :
    Calls Try.prog 72 #[.int .i64 n, .agg #[.int .i64 ar, .slice pa a.length ca]] w (RetMN w ar (mTranspose n a)) := by
  have hnn : n * n ≤ 9 := Nat.mul_le_mul hn hn
  have hal : a.length ≤ 9 := Nat.le_trans ha.len hnn
  obtain ⟨s, hs0⟩ : ∃ s, w.heap.size = s := ⟨_, rfl⟩
  obtain ⟨W2, hW2⟩ : ∃ x, x = ((w.alloc (.cells #[.int .i64 ar, .slice pa a.length ca] 30)).alloc (.cells #[.int .i64 0, .slice none 0 0] 30)).alloc (.cells #[.int .i64 ar, .slice none 0 0] 30) := ⟨_, rfl⟩
  have hB2 : Below w.heap.size w W2 := by rw [hW2]; go_grown
  have z2 : W2.heap.size = s + 3 := by rw [hW2, ← hs0]; simp
  have y1 : W2.cell? ⟨s, 1, none⟩ = some (.slice pa a.length ca) := by rw [hW2, ← hs0]; go_cell
  have r0 : W2.cell? ⟨s + 1, 0, none⟩ = some (.int .i64 0) := by rw [hW2, ← hs0]; go_cell
  have r1 : W2.cell? ⟨s + 1, 1, none⟩ = some (.slice none 0 0) := by rw [hW2, ← hs0]; go_cell
  have r0f : W2.frozen? ⟨s + 1, 0, none⟩ = false := by rw [hW2, ← hs0]; go_cell
  have r1f : W2.frozen? ⟨s + 1, 1, none⟩ = false := by rw [hW2, ← hs0]; go_cell
  have HG0 := Lib.hid (show GMx W2 (s + 3) (s + 2) ar ((a.take 0).map (tcell n)) (.slice none 0 0) from ⟨by rw [hW2, ← hs0]; go_cell, by rw [hW2, ← hs0]; go_cell, by rw [hW2, ← hs0]; go_cell, by rw [hW2, ← hs0]; go_cell, World.ownsRow_nil _ _ _ _, by omega, by omega⟩)
  have HA := Lib.hid hA; have HMA := Lib.hid ha; have HW2 := Lib.hid hW2; have HS := Lib.hid hs0; have HB2 := Lib.hid hB2
  clear hA ha hW2 hs0 hB2
  go_enter Try.func72, Try.ntmps72
  go_upto_region 2 with fail
  rw [← HW2.out]
  simp only [HS.out, Nat.add_assoc, Nat.reduceAdd]
  go_wp2_with fail
  go_loopg [14] a.length (fun M s14 wr => ∃ (K : Nat) (v : Value), s14 = .int .i64 K ∧ K ≤ a.length ∧ M = a.length - K ∧ GMx wr (s + 3) (s + 2) ar ((a.take K).map (tcell n)) v ∧ KeepX [s + 2] W2 wr)
  case atStart => exact ⟨0, _, rfl, by omega, rfl, HG0.out, KeepX.refl _ _⟩
  case round =>
    clear HG0
    obtain ⟨K, v, rfl, hK, hM, hg, hkx⟩ := hrel
    have HM := Lib.hid hM; have HG := Lib.hid hg
    have hsz := hkx.size
    clear hM hg
    have hbr : Below w.heap.size w wr := KeepX.below' HB2.out hkx HB2.out.size (by have := HS.out; simp; omega)
    by_cases hlt : K < a.length
    case pos =>
      have hlt0 : (0 : Int) ≤ (K : Int) := by omega
      have hlt1 : (K : Int) < (a.length : Int) := by omega
      obtain ⟨x, hx⟩ : ∃ x, a[K]? = some x := ⟨_, List.getElem?_eq_getElem hlt⟩
      obtain ⟨bx, ox, rfl, hbx, j0, j1⟩ := cell_cells HA.out.at' hx
      replace j0 := oldcell hbr j0 hbx; replace j1 := oldcell hbr j1 hbx
      have hxr := HMA.out.ranks x (List.mem_of_getElem? hx)
      have hxf := HMA.out.refs x (List.mem_of_getElem? hx)
      have HNX := Lib.hid (tcells_snoc (n := n) hx hxf.2.2)
      obtain ⟨xr, hxe⟩ : ∃ z, x.rank = z := ⟨_, rfl⟩
      obtain ⟨xf, hxg⟩ : ∃ z, x.ref = z := ⟨_, rfl⟩
      rw [hxe] at j0 hxr; rw [hxg] at j1
      have hx0 := hxr.1
      have hx1 : xr < 9 := by have := hxr.2; omega
      obtain ⟨a1, a2, a3, a4, a5, a6, a7⟩ := quo_rem (x := xr) (n := n) hx0 (by omega) hn0
      obtain ⟨qq, hqq⟩ : ∃ z, xr / (n : Int) = z := ⟨_, rfl⟩
      obtain ⟨rr, hrr⟩ : ∃ z, xr % (n : Int) = z := ⟨_, rfl⟩
      rw [hqq] at a1 a4 a5; rw [hrr] at a2 a3 a6 a7
      have hm1 : 0 ≤ rr * (n : Int) := Int.mul_nonneg a6 (by omega)
      have hm2 : rr * (n : Int) ≤ 9 * 3 := Int.mul_le_mul (by omega) (by omega) (by omega) (by omega)
      obtain ⟨mq, hmq⟩ : ∃ z, rr * (n : Int) = z := ⟨_, rfl⟩
      rw [hmq] at hm1 hm2
      have hwm : IntKind.i64.wrap (rr * (n : Int)) = mq := by rw [hmq, IntWalk.i64_in]; omega
      obtain ⟨y, hy⟩ : ∃ z, mq + qq = z := ⟨_, rfl⟩
      have hwv : IntKind.i64.wrap (mq + qq) = y := by rw [hy, IntWalk.i64_in]; omega
      have HPT := Lib.hid (show put ((a.take K).map (tcell n)) y xf = (a.take (K + 1)).map (tcell n) by rw [← HNX.out, hxe, hxg]; unfold trF; rw [hqq, hrr, hmq, hy])
      have hn00 : ¬ n = 0 := by omega
      have hpl : ((a.take K).map (tcell n)).length ≤ 100000 := by rw [List.length_map, List.length_take]; omega
      clear hx hbx hqq hrr hmq hy hxe hxg hxr hxf HNX
      go_upto_region 5 with fail
      obtain ⟨b7, hb7⟩ : ∃ b, b = wr.heap.size := ⟨_, rfl⟩
      obtain ⟨wx, hwx⟩ : ∃ z, z = wr.alloc (.cells #[.int .i64 xr, .int .i64 xf] 76) := ⟨_, rfl⟩
      rw [← hwx, ← hb7]
      have hBx : Below wr.heap.size wr wx := by rw [hwx]; go_grown
      have z0 : wx.cell? ⟨b7, 0, none⟩ = some (.int .i64 xr) := by rw [hwx, hb7]; go_cell
      have z1 : wx.cell? ⟨b7, 1, none⟩ = some (.int .i64 xf) := by rw [hwx, hb7]; go_cell
      have HGX := Lib.hid (HG.out.keep (X := []) (KeepX.of_below hBx) (by simp) (by simp))
      have hkx2 := hkx.upB hBx
      clear hwx hBx hb7 HG j0 j1
      refine wp_region_seqE (fun x => Below wx.heap.size wx x) (.one 0 1 (.one 1 0 (.one 2 1 (.one 3 1 (.one 4 1 (.one 5 1 (.one 6 1 (.one 7 0 (.one 8 1 (.one 9 1 (.one 10 1 (.one 11 1 (.one 12 0 (.alt 13 3 .nil .stop)))))))))))))) (by kernel_rfl) (by kernel_rfl) (by kernel_rfl) (Below.drew (Below.refl _ _)) ?_
      iterate 13 (first | (refine seqE_free (v := ?_) rfl (by rfl) ?_ ?_; rotate_left; (focus (intro w; go_simp; try with_reducible rfl)); (try simp only [Act.put, List.setIfInBounds_toArray, List.set_cons_zero, List.set_cons_succ])) | (refine seqE_pure (v := ?_) rfl (by rfl) ?_ ?_; rotate_left; (focus (intro w hS; have e5 := oldcell hS z0 (World.block_lt_of_cell? _ _ z0); have e6 := oldcell hS z1 (World.block_lt_of_cell? _ _ z1); go_simp; try with_reducible rfl)); (try simp only [Act.put, List.setIfInBounds_toArray, List.set_cons_zero, List.set_cons_succ])))
      refine seqE_callB (f := ?_) (args := ?_) rfl (by rfl) ?_ ?_ seqE_stop
      rotate_left 2
      focus (intro w hS; go_simp; first | done | with_reducible rfl | (refine ⟨?_, ?_⟩ <;> with_reducible rfl))
      intro w1 hS
      refine (put_is (HGX.out.keep (X := []) (KeepX.of_below hS) (by simp) (by simp)) hpl HPT.out).mono ?_
      rintro e v1 ⟨rfl, v', hg', hrow, hkp⟩
      refine ⟨_, rfl, fun x => Below v1.heap.size v1 x, Below.refl _ _, ?_⟩
      have hrg : ∀ g, v.ownBlock = some g → s + 3 ≤ g := fun g hg => (HGX.out.own.lt g hg).1
      have hk9 : KeepX [s + 2] W2 v1 := by
        have h1 := hkp ((s + 2) :: rowOf v) (by simp) (fun g hg => List.mem_cons_of_mem _ (mem_rowOf hg))
        have h2 : KeepX ((s + 2) :: rowOf v) W2 v1 := ((hkx2.sub (by simp)).upB hS).trans h1
        exact h2.fresh fun k hk => by
          rcases List.mem_cons.1 hk with e | e
          · exact .inl (by rw [e]; simp)
          · exact .inr (by rw [z2]; exact hrg k (rowOf_mem e))
      clear hS hrow hkp
      (try simp only [Act.put, List.setIfInBounds_toArray, List.set_cons_zero, List.set_cons_succ])
      refine seqE_nil ?_
      intro wz hS
      have hgz := hg'.keep (X := []) (KeepX.of_below hS) (by simp) (by simp)
      have hkz := hk9.upB hS
      clear hS hg' hk9 hkx2 HGX z0 z1
      go_wp2_with fail
      go_roundg (a.length - (K + 1))
      case measure => (have := HM.out; omega)
      case rel => exact ⟨K + 1, _, by go_num, by omega, rfl, hgz, hkz⟩
    case neg =>
      obtain rfl : K = a.length := by omega
      have hg := HG.out
      rw [List.take_length] at hg
      have hrk : ∀ x ∈ a.map (tcell n), 0 ≤ x.rank ∧ x.rank < 1000000 := fun x hx => by
        obtain ⟨y, hy, rfl⟩ := List.mem_map.1 hx
        have h1 := HMA.out.ranks y hy
        have := trF_ok h1.1 h1.2
        show 0 ≤ trF n y.rank ∧ trF n y.rank < 1000000
        omega
      have hl12 : (a.map (tcell n)).length ≤ 12 := by rw [List.length_map]; omega
      obtain ⟨P, hP⟩ : ∃ P, a.map (tcell n) = P := ⟨_, rfl⟩
      rw [hP] at hg hrk hl12
      have HPP := Lib.hid hP
      have g0 := hg.c0; have g1 := hg.c1; have hgo := hg.own; have g0f := hg.fr; have g1f := hg.fr1
      obtain ⟨qv, cqv, rfl, -⟩ := owns_val (by decide) hgo
      obtain ⟨R, hR⟩ : ∃ R, rowOf (.slice qv P.length cqv) = R := ⟨_, rfl⟩
      have hRR : ∀ k ∈ R, s + 3 ≤ k := fun k hk => by rw [← hR] at hk; exact (hgo.lt k (rowOf_mem hk)).1
      have s0 := hkx.cell r0 (by simp); have s1 := hkx.cell r1 (by simp); have s0f := hkx.free r0f (by omega) (by simp); have s1f := hkx.free r1f (by omega) (by simp)
      have HO := Lib.hid hgo; have HRK := Lib.hid hrk; have HR := Lib.hid hR; have HRR := Lib.hid hRR
      have n1 : s + 1 ∉ R := fun hm => by have := hRR _ hm; omega
      have n2 : s + 2 ∉ R := fun hm => by have := hRR _ hm; omega
      clear hP hg hgo hrk hR hRR r0 r1 r0f r1f HG
      go_upto_region 8 with (first | (go_at_call 123; refine (sortf_own HO.out HRK.out hl12).mono ?_; rintro e w5 ⟨rfl, L, q5, cq5, hp, hle, hv, hM5, hq5, hk5⟩; rw [HR.out] at hk5; have HV := Lib.hid hv; have HP := Lib.hid hp; have HLE := Lib.hid hle; have HM5 := Lib.hid hM5; have HQ5 := Lib.hid hq5; have g0 := hk5.cell g0 n2; have g1 := hk5.cell g1 n2; have s0 := hk5.cell s0 n1; have s1 := hk5.cell s1 n1; have s0f := hk5.free s0f (by omega) n1; have s1f := hk5.free s1f (by omega) n1; have HK5 := Lib.hid hk5; clear hv hp hle hM5 hq5 hk5))
      have hv := HV.out
      simp only [Value.slice.injEq] at hv
      obtain ⟨rfl, hLl, rfl⟩ := hv
      have hL : L = mTranspose n a := transpose_eq HMA.out (by rw [HPP.out]; exact HP.out) (sorted_of HP.out (by rw [← HPP.out]; exact tcell_nodup HMA.out) HLE.out)
      have HLL := Lib.hid hLl; have HL := Lib.hid hL
      clear hLl hL HV
      go_wp2_with fail
      obtain ⟨W9, hW9⟩ : ∃ W9, W9 = (w5.setCell ⟨s + 1, 0, none⟩ (.int .i64 ar)).setCell ⟨s + 1, 1, none⟩ (.slice qv P.length cqv) := ⟨_, rfl⟩
      rw [← hW9]
      have e0 : W9.cell? ⟨s + 1, 0, none⟩ = some (.int .i64 ar) := by rw [hW9]; go_cell
      have e1 : W9.cell? ⟨s + 1, 1, none⟩ = some (.slice qv P.length cqv) := by rw [hW9]; go_cell
      have hqs : ∀ ad, qv = some ad → s + 3 ≤ ad.block := fun ad h => HRR.out _ (by rw [← HR.out]; exact mem_rowOf (HQ5.out ad h))
      have hM9 : MxAt W9 qv cqv L := by rw [hW9]; exact (HM5.out.set (fun ad h e => by have := hqs ad h; omega) _).set (fun ad h e => by have := hqs ad h; omega) _
      have hb9 : Below w.heap.size w W9 := by
        rw [hW9]
        exact Below.setCell (Below.setCell (KeepX.below' hbr HK5.out hbr.size (fun k hk => by have h1 := HRR.out k hk; have h2 := HS.out; omega)) (by have h := HS.out; (try dsimp only); omega) _) (by have h := HS.out; (try dsimp only); omega) _
      clear hW9
      refine bodyPost_ret (by simp [results, Try.results72, go_sem, e0, e1]; try rfl) rfl ?_
      rw [← HL.out]
      exact ⟨qv, cqv, by rw [HLL.out], hM9, fun ad h => by have h1 := hqs ad h; have h2 := HS.out; omega, hb9⟩
end Go.Proofs.Ytadilppdlbhjnaa

namespace Go.Proofs.Ytadilppdlbhjnaa
set_option linter.unusedSimpArgs false
set_option linter.unusedVariables false
open Go.RowKit

theorem pow_9 {n k : Nat} (hn : n ≤ 3) (hk : k ≤ 2) : n ^ k ≤ 9 := by
  have h1 : n ^ k ≤ 3 ^ k := Nat.pow_le_pow_left hn k
  have h2 : 3 ^ k ≤ 3 ^ 2 := Nat.pow_le_pow_right (by omega) hk
  omega
theorem made_plain2 (st : List Step) (hs : st.length ≤ 20) : ∃ c refs, cbuild st = (c, refs) ∧ Good c ∧ c.length ≤ 61 ∧ refs.length ≤ 20 ∧ (∀ r ∈ refs, r ≤ 9223372036854775807) ∧ ∀ (vs : List Nat) (N : Nat), MOk c (N : Int) (mMade refs vs N) ∧ (mMade refs vs N).length ≤ N := by
  obtain ⟨c, refs, hcb⟩ : ∃ c refs, cbuild st = (c, refs) := ⟨_, _, rfl⟩
  have hb := built st (by omega)
  rw [hcb] at hb
  have hl := hb.len
  have hle := cbuild_le st
  rw [hcb] at hle
  have hr := hb.refs
  have hg := hb.good
  dsimp only at hl hle hr hg
  refine ⟨c, refs, hcb, hg, by omega, by omega, fun r hr => by have := hle.2.1 r hr; omega, fun vs N => ?_⟩
  have hm := mMade_ok hr hg.ne vs N
  exact ⟨hm, hm.len⟩
theorem value_range {c : List Gate} {N : Nat} {m : List Cell} (V : List Bool) (h : MOk c (N : Int) m) (hN : N ≤ 9) : ∀ x ∈ mValue c V m, 0 ≤ x ∧ x < 100000 := by
  intro x hx
  unfold mValue at hx
  obtain ⟨y, hy, rfl⟩ := List.mem_map.1 hx
  have := h.ranks y (List.mem_filter.1 hy).1
  omega

theorem jranks {c c' : List Gate} {k1 l1 n : Nat} {a b : List Cell} (hn0 : 0 < n) (ha : MOk c ((n ^ (k1 + 1) : Nat) : Int) a) (hb : MOk c' ((n ^ (l1 + 1) : Nat) : Int) b) :
    ∀ t ∈ jpairs n ((n ^ l1 : Nat) : Int) a b, 0 ≤ t.rank ∧ t.rank < ((n ^ (k1 + l1) : Nat) : Int) := by
  intro t ht
  obtain ⟨x, hx, y, hy, -, rfl⟩ := mem_jpairs.1 ht
  have h1 := ha.ranks x hx
  have hp0 : 0 < n ^ l1 := Nat.pow_pos hn0
  have hx1 : x.rank / (n : Int) < ((n ^ k1 : Nat) : Int) := by
    refine Int.ediv_lt_of_lt_mul (by omega) ?_
    have e : ((n ^ (k1 + 1) : Nat) : Int) = ((n ^ k1 : Nat) : Int) * (n : Int) := by rw [Nat.pow_succ]; simp
    rw [← e]; exact h1.2
  have hx0 : 0 ≤ x.rank / (n : Int) := Int.ediv_nonneg h1.1 (by omega)
  have hy0 := Int.emod_nonneg y.rank (show ((n ^ l1 : Nat) : Int) ≠ 0 by omega)
  have hy1 := Int.emod_lt_of_pos y.rank (show 0 < ((n ^ l1 : Nat) : Int) by omega)
  have h2 := mul_step hx1 (by omega : (0 : Int) ≤ ((n ^ l1 : Nat) : Int))
  have e : ((n ^ (k1 + l1) : Nat) : Int) = ((n ^ k1 : Nat) : Int) * ((n ^ l1 : Nat) : Int) := by rw [Nat.pow_add]; simp
  have h3 := Int.mul_nonneg hx0 (by omega : (0 : Int) ≤ ((n ^ l1 : Nat) : Int))
  constructor
  · show 0 ≤ x.rank / (n : Int) * ((n ^ l1 : Nat) : Int) + y.rank % ((n ^ l1 : Nat) : Int)
    omega
  · show x.rank / (n : Int) * ((n ^ l1 : Nat) : Int) + y.rank % ((n ^ l1 : Nat) : Int) < ((n ^ (k1 + l1) : Nat) : Int)
    omega
section
variable {c d : List Gate} {a b m : List Cell} {n kk k2 : Nat} {p pa pb : Option Addr} {cap ca cb : Nat} {w : World}
  (hC : CAt w p cap c) (hA : MxAt w pa ca a) (hD : MxAt w pb cb b) (hk0 : 0 < kk) (hk : kk ≤ 2) (h20 : 0 < k2) (h2 : k2 ≤ 2) (hn0 : 0 < n) (hn : n ≤ 3) (hg : Good c) (hcl : c.length ≤ 10000)
  (ha : MOk c ((n ^ kk : Nat) : Int) a) (hb : MOk c ((n ^ k2 : Nat) : Int) b)
include hk0 hk h20 h2 hn0 hn ha hb in
theorem joinL_facts : ∃ k1 l1, kk = k1 + 1 ∧ k2 = l1 + 1 ∧ k1 + l1 ≤ 2 ∧ a.length ≤ 9 ∧ b.length ≤ 9 ∧ (∀ t ∈ jpairs n ((n ^ l1 : Nat) : Int) a b, 0 ≤ t.rank ∧ t.rank < ((n ^ (k1 + l1) : Nat) : Int)) := by
  obtain ⟨k1, rfl⟩ : ∃ k1, kk = k1 + 1 := ⟨kk - 1, by omega⟩
  obtain ⟨l1, rfl⟩ : ∃ k1, k2 = k1 + 1 := ⟨k2 - 1, by omega⟩
  exact ⟨k1, l1, rfl, rfl, by omega, Nat.le_trans ha.len (pow_9 hn hk), Nat.le_trans hb.len (pow_9 hn h2), jranks hn0 ha hb⟩
include hC hA hD hk0 hk h20 h2 hn0 hn hg hcl ha hb in
theorem joinL_is (e : mJoin c (n ^ (kk - 1 + (k2 - 1))) n ((n ^ (k2 - 1) : Nat) : Int) a b = (d, m)) : Calls Try.prog 44 #[.agg #[.slice p c.length cap], .int .i64 n, .agg #[.int .i64 kk, .slice pa a.length ca], .agg #[.int .i64 k2, .slice pb b.length cb]] w (RetCM w d ((kk : Int) + k2 - 2) m) := by
  obtain ⟨k1, l1, rfl, rfl, h3, ha9, hb9, hT⟩ := joinL_facts hk0 hk h20 h2 hn0 hn ha hb
  have hab : a.length * b.length ≤ 81 := Nat.mul_le_mul ha9 hb9
  have n1 := (pow_9 hn hk : n ^ (k1 + 1) ≤ 9); have n2 := (pow_9 hn h2 : n ^ (l1 + 1) ≤ 9)
  exact (join_any c a b _ _ k1 l1 n (n ^ l1) (n ^ (k1 + l1)) _ _ p pa pb cap ca cb w hC hA hD (by simp) (by simp) (by omega) hn0 (by omega) rfl rfl hg (by omega) ha hb (by omega) (by omega) hT).mono fun e' w' h => h.cm.eq e
include hC hA hD hk h2 hn0 hn hg hcl ha hb in
theorem productL_is (e : mProduct c ((n ^ k2 : Nat) : Int) a b = (d, m)) : Calls Try.prog 70 #[.agg #[.slice p c.length cap], .int .i64 n, .agg #[.int .i64 kk, .slice pa a.length ca], .agg #[.int .i64 k2, .slice pb b.length cb]] w (RetCM w d ((kk : Int) + k2) m) := by
  have ha9 := Nat.le_trans ha.len (pow_9 hn hk)
  have hb9 := Nat.le_trans hb.len (pow_9 hn h2)
  have hab : a.length * b.length ≤ 81 := Nat.mul_le_mul ha9 hb9
  have n1 := (pow_9 hn hk : n ^ kk ≤ 9)
  exact (product_any c a b kk k2 k2 n (n ^ k2) _ p pa pb cap ca cb w hC hA hD ⟨by omega, by omega⟩ rfl (by omega) hn0 (by omega) rfl hg (by omega) ha hb (by omega)).mono fun e' w' h => h.cm.eq e
include hk h2 hn hg hcl ha hb in
theorem productL_ok (e : mProduct c ((n ^ k2 : Nat) : Int) a b = (d, m)) : Grow c d 81 ∧ MOk d ((n ^ (kk + k2) : Nat) : Int) m ∧ m.length ≤ 81 := by
  have ha9 := Nat.le_trans ha.len (pow_9 hn hk)
  have hb9 := Nat.le_trans hb.len (pow_9 hn h2)
  have hab : a.length * b.length ≤ 81 := Nat.mul_le_mul ha9 hb9
  obtain ⟨g1, o1, -⟩ := product_ok ha hb hg (by omega)
  rw [e] at g1 o1
  have e2 : ((n ^ kk : Nat) : Int) * ((n ^ k2 : Nat) : Int) = ((n ^ (kk + k2) : Nat) : Int) := by rw [Nat.pow_add]; simp
  dsimp only at g1 o1
  rw [e2] at o1
  refine ⟨g1.more hab, o1, Nat.le_trans o1.len ?_⟩
  rw [Nat.pow_add]
  exact Nat.mul_le_mul (pow_9 hn hk) (pow_9 hn h2)
end
section
variable {n : Nat} {c : List Gate} {a b : List Cell} {ar : Int} {pa : Option Addr} {ca : Nat} {w : World} (hA : MxAt w pa ca a) (ha : MOk c ((n * n : Nat) : Int) a) (hn0 : 0 < n) (hn : n ≤ 3) (e : mTranspose n a = b)
include hA ha hn0 hn e
theorem mtransposeL_is : Calls Try.prog 72 #[.int .i64 n, .agg #[.int .i64 ar, .slice pa a.length ca]] w (RetM w ar b) :=
  (mtranspose_any n c a ar pa ca w hA ha hn0 hn).mono fun e' w' h => by
    subst e
    obtain ⟨q, cq, h1, h2, -, h4⟩ := h
    exact ⟨q, cq, h1, h2, h4⟩
end
end Go.Proofs.Ytadilppdlbhjnaa
