import Derived.Test.YtadilppdlbhjnaaGP
import Derived.Test.YtadilppdlbhjnaaV1
import Derived.Test.YtadilppdlbhjnaaLR
import Derived.Test.YtadilppdlbhjnaaN27
import Derived.Test.YtadilppdlbhjnaaN28
import Derived.Test.YtadilppdlbhjnaaGZ
import Derived.Test.YtadilppdlbhjnaaN31
namespace Go.Proofs.Ytadilppdlbhjnaa
set_option linter.unusedSimpArgs false
set_option linter.unusedVariables false
open Go.RowKit
section
variable {kk n : Nat} {c d : List Gate} {a b m : List Cell} {p pa pb : Option Addr} {cap ca cb : Nat} {w : World}
variable (hk0 : 0 < kk) (hk : kk ≤ 2) (hn0 : 0 < n) (hn : n ≤ 3) (hg : Good c) (hl : c.length ≤ 10000) (ha : MOk c ((n ^ kk : Nat) : Int) a) (hb : MOk c ((n ^ kk : Nat) : Int) b)
include hk0 hk hn0 hn hg hl ha hb
theorem overrideL_is (hC : CAt w p cap c) (hA : MxAt w pa ca a) (hD : MxAt w pb cb b) (e : mOverride c n ((n ^ (kk - 1) : Nat) : Int) a b = (d, m)) :
 Calls Try.prog 43 #[.agg #[.slice p c.length cap], .int .i64 n, .agg #[.int .i64 kk, .slice pa a.length ca], .agg #[.int .i64 kk, .slice pb b.length cb]] w (RetCM w d kk m) := by
 obtain ⟨k1, rfl⟩ : ∃ k1, kk = k1 + 1 := ⟨kk - 1, by omega⟩
 have n1 := (pow_9 hn hk : n ^ (k1 + 1) ≤ 9)
 have ha9 : a.length ≤ 9 := Nat.le_trans ha.len n1
 have hb9 : b.length ≤ 9 := Nat.le_trans hb.len n1
 have h3 : n * b.length ≤ 3 * 9 := Nat.mul_le_mul hn hb9
 exact (override_any c a b _ _ k1 n (n ^ k1) _ p pa pb cap ca cb w hC hA hD (by simp) (by omega) hn0 (by omega) rfl hg (by omega) ha hb (by rw [Nat.pow_succ, Nat.mul_comm]; push_cast; exact Int.le_refl _) (by omega)).mono fun e' w' h => h.cm.eq e
omit hk0 hn0 in
theorem overrideL_ok (e : mOverride c n ((n ^ (kk - 1) : Nat) : Int) a b = (d, m)) : Grow c d 63 ∧ MOk d ((n ^ kk : Nat) : Int) m := by
 have n1 := (pow_9 hn hk : n ^ kk ≤ 9)
 have ha9 : a.length ≤ 9 := Nat.le_trans ha.len n1
 have hb9 : b.length ≤ 9 := Nat.le_trans hb.len n1
 have h3 : n * b.length ≤ 3 * 9 := Nat.mul_le_mul hn hb9
 obtain ⟨g, o, -⟩ := override_ok (P := ((n ^ (kk - 1) : Nat) : Int)) (n := n) hg ha hb (by omega)
 rw [e] at g o
 exact ⟨g.more (by omega), o⟩
end
structure LastOk (V : List Bool) (c d D : List Gate) (a b : List Cell) (va vb : List Int) : Prop where
 good : Good D
 len : D.length ≤ 1000
 pre : d <+: D
 va : mValue D V a = va
 vb : mValue D V b = vb
theorem BM.far {w : World} {b b' : Nat} {ar : Int} {v : Value} {m : List Cell} {hs : List Gate} (h : BM w b ar m) (hb : Bx w b' hs) (hne : b' ≠ b) : BM (w.setCell ⟨b', 0, none⟩ v) b ar m := by
 obtain ⟨p1, cap1, h1, h2, h3⟩ := hb
 obtain ⟨q, cq, ⟨⟨k0, f0⟩, ⟨k1, f1⟩, -⟩, hm⟩ := h
 exact ⟨q, cq, ⟨⟨keep_far k0 hne, fz f0⟩, ⟨keep_far k1 hne, fz f1⟩, trivial⟩, hm.box h1 _⟩
end Go.Proofs.Ytadilppdlbhjnaa
namespace Go.Proofs.Ytadilppdlbhjnaa
set_option linter.unusedSimpArgs false
set_option linter.unusedVariables false
open Go.RowKit
section
variable {kk n : Nat} {c d : List Gate} {a b m : List Cell} {p pa pb : Option Addr} {cap ca cb : Nat} {w : World} {r : Int}
variable (hk : kk ≤ 2) (hn : n ≤ 3) (hg : Good c) (hl : c.length ≤ 10000) (ha : MOk c ((n ^ kk : Nat) : Int) a) (hb : MOk c ((n ^ kk : Nat) : Int) b)
include hk hn hg hl ha hb
omit hg hl in
theorem l9 : a.length ≤ 9 ∧ b.length ≤ 9 ∧ n ^ kk ≤ 9 := by
 have n1 := (pow_9 hn hk : n ^ kk ≤ 9)
 exact ⟨Nat.le_trans ha.len n1, Nat.le_trans hb.len n1, n1⟩
theorem unionL_is (hC : CAt w p cap c) (hA : MxAt w pa ca a) (hD : MxAt w pb cb b) (e : mUnion c a b = (d, m)) :
 Calls Try.prog 42 #[.agg #[.slice p c.length cap], .agg #[.int .i64 kk, .slice pa a.length ca], .agg #[.int .i64 kk, .slice pb b.length cb]] w (RetCM w d kk m) := by
 obtain ⟨h1, h2, -⟩ := l9 hk hn ha hb
 exact union_is hC hA hD (ha.le (by omega)) (hb.le (by omega)) (by omega) hg.ne e
theorem interL_is (hC : CAt w p cap c) (hA : MxAt w pa ca a) (hD : MxAt w pb cb b) (e : mInter c a b = (d, m)) :
 Calls Try.prog 50 #[.agg #[.slice p c.length cap], .agg #[.int .i64 kk, .slice pa a.length ca], .agg #[.int .i64 kk, .slice pb b.length cb]] w (RetCM w d kk m) := by
 obtain ⟨h1, h2, -⟩ := l9 hk hn ha hb
 exact inter_is hC hA hD (ha.le (by omega)) (hb.le (by omega)) (by omega) hg.ne e
theorem diffL_is (hC : CAt w p cap c) (hA : MxAt w pa ca a) (hD : MxAt w pb cb b) (e : mDiff c a b = (d, m)) :
 Calls Try.prog 52 #[.agg #[.slice p c.length cap], .agg #[.int .i64 kk, .slice pa a.length ca], .agg #[.int .i64 kk, .slice pb b.length cb]] w (RetCM w d kk m) := by
 obtain ⟨h1, h2, -⟩ := l9 hk hn ha hb
 exact (diff_any c a b kk kk p pa pb cap ca cb w hC hA hD (ha.le (by omega)) (hb.le (by omega)) (by omega) hg.ne).mono fun _ _ h => h.cm.eq e
theorem runionL_is (hC : CAt w p cap c) (hA : MxAt w pa ca a) (hD : MxAt w pb cb b) (e : mUnion c a b = (d, m)) :
 Calls Try.prog 49 #[.agg #[.slice p c.length cap], .agg #[.int .i64 kk, .slice pa a.length ca], .agg #[.int .i64 kk, .slice pb b.length cb]] w (RetCM w d kk m) := by
 obtain ⟨h1, h2, -⟩ := l9 hk hn ha hb
 exact (runion_any c a b kk kk p pa pb cap ca cb w hC hA hD (ha.le (by omega)) (hb.le (by omega)) (by omega) hg.ne).mono fun _ _ h => h.cm.eq ((rUnion_eq ha hb).trans e)
theorem rinterL_is (hC : CAt w p cap c) (hA : MxAt w pa ca a) (hD : MxAt w pb cb b) (e : mInter c a b = (d, m)) :
 Calls Try.prog 51 #[.agg #[.slice p c.length cap], .agg #[.int .i64 kk, .slice pa a.length ca], .agg #[.int .i64 kk, .slice pb b.length cb]] w (RetCM w d kk m) := by
 obtain ⟨h1, h2, -⟩ := l9 hk hn ha hb
 exact (rinter_any c a b kk kk p pa pb cap ca cb w hC hA hD (ha.le (by omega)) (hb.le (by omega)) (by omega) hg.ne).mono fun _ _ h => h.cm.eq ((rInter_eq hg (by omega) ha hb).trans e)
theorem rdiffL_is (hC : CAt w p cap c) (hA : MxAt w pa ca a) (hD : MxAt w pb cb b) (e : mDiff c a b = (d, m)) :
 Calls Try.prog 53 #[.agg #[.slice p c.length cap], .agg #[.int .i64 kk, .slice pa a.length ca], .agg #[.int .i64 kk, .slice pb b.length cb]] w (RetCM w d kk m) := by
 obtain ⟨h1, h2, -⟩ := l9 hk hn ha hb
 exact (rdiff_any c a b kk kk p pa pb cap ca cb w hC hA hD (ha.le (by omega)) (hb.le (by omega)) (by omega) hg.ne).mono fun _ _ h => h.cm.eq ((rDiff_eq hg (by omega) ha hb).trans e)
theorem roverrideL_is (hk0 : 0 < kk) (hn0 : 0 < n) (hC : CAt w p cap c) (hA : MxAt w pa ca a) (hD : MxAt w pb cb b) (e : mOverride c n ((n ^ (kk - 1) : Nat) : Int) a b = (d, m)) :
 Calls Try.prog 54 #[.agg #[.slice p c.length cap], .int .i64 n, .agg #[.int .i64 kk, .slice pa a.length ca], .agg #[.int .i64 kk, .slice pb b.length cb]] w (RetCM w d kk m) := by
 obtain ⟨h1, h2, h3⟩ := l9 hk hn ha hb
 have h4 : n * b.length ≤ 3 * 9 := Nat.mul_le_mul hn h2
 have h5 : ((n ^ kk : Nat) : Int) = (n : Int) * ((n ^ (kk - 1) : Nat) : Int) := by
  obtain ⟨k1, rfl⟩ : ∃ k1, kk = k1 + 1 := ⟨kk - 1, by omega⟩
  rw [Nat.pow_succ, Nat.add_sub_cancel, Int.natCast_mul, Int.mul_comm]
 exact (roverride_any c a b kk kk (kk - 1) n (n ^ (kk - 1)) ((n ^ kk : Nat) : Int) p pa pb cap ca cb w hC hA hD (by omega) (by omega) hn0 (by omega) rfl hg (by omega) ha hb (Int.le_of_eq h5) (by omega)).mono fun _ _ h => h.cm.eq e
theorem inL_is (hC : CAt w p cap c) (hA : MxAt w pa ca a) (hD : MxAt w pb cb b) (e : mIn c a b = (d, r)) :
 Calls Try.prog 37 #[.agg #[.slice p c.length cap], .agg #[.int .i64 kk, .slice pa a.length ca], .agg #[.int .i64 kk, .slice pb b.length cb]] w (RetC w d r) := by
 obtain ⟨h1, h2, h3⟩ := l9 hk hn ha hb
 exact in_is hC hA hD hg (by omega) ha hb (by omega) (by omega) e
theorem rinL_is (hC : CAt w p cap c) (hA : MxAt w pa ca a) (hD : MxAt w pb cb b) (e : mIn c a b = (d, r)) :
 Calls Try.prog 55 #[.agg #[.slice p c.length cap], .agg #[.int .i64 kk, .slice pa a.length ca], .agg #[.int .i64 kk, .slice pb b.length cb]] w (RetC w d r) := by
 obtain ⟨h1, h2, h3⟩ := l9 hk hn ha hb
 exact (rin14_any c a b kk kk p pa pb cap ca cb w hC hA hD (ha.le (by omega)) (hb.le (by omega)) (by omega) (by omega) (by omega) hg.ne).mono fun _ _ h => RetC.eq h e
end
section
variable {kk n : Nat} {c d : List Gate} {a : List Cell} {p pa : Option Addr} {cap ca : Nat} {w : World} {r : Int}
variable (hk : kk ≤ 2) (hn : n ≤ 3) (hg : Good c) (hl : c.length ≤ 10000) (ha : MOk c ((n ^ kk : Nat) : Int) a)
include hk hn hg hl ha
theorem someL_is (hC : CAt w p cap c) (hA : MxAt w pa ca a) (e : mSome c a = (d, r)) :
 Calls Try.prog 38 #[.agg #[.slice p c.length cap], .agg #[.int .i64 kk, .slice pa a.length ca]] w (RetC w d r) := by
 obtain ⟨h1, -, h3⟩ := l9 hk hn ha ha
 exact some_is hC hA hg (by omega) ha e
theorem rsomeL_is (hC : CAt w p cap c) (hA : MxAt w pa ca a) (e : mSome c a = (d, r)) :
 Calls Try.prog 56 #[.agg #[.slice p c.length cap], .agg #[.int .i64 kk, .slice pa a.length ca]] w (RetC w d r) := by
 obtain ⟨h1, -, h3⟩ := l9 hk hn ha ha
 exact (rsome_any c a kk p pa cap ca w hC hA (ha.le (by omega)) (by omega) (by omega) hg.ne).mono fun _ _ h => RetC.eq h e
theorem loneL_is (hC : CAt w p cap c) (hA : MxAt w pa ca a) (e : mLone c a = (d, r)) :
 Calls Try.prog 39 #[.agg #[.slice p c.length cap], .agg #[.int .i64 kk, .slice pa a.length ca]] w (RetC w d r) := by
 obtain ⟨h1, -, h3⟩ := l9 hk hn ha ha
 exact lone_is hC hA hg (by omega) ha e
theorem rloneL_is (hC : CAt w p cap c) (hA : MxAt w pa ca a) (e : mLone c a = (d, r)) :
 Calls Try.prog 57 #[.agg #[.slice p c.length cap], .agg #[.int .i64 kk, .slice pa a.length ca]] w (RetC w d r) := by
 obtain ⟨h1, -, h3⟩ := l9 hk hn ha ha
 exact (rlone_any c a kk p pa cap ca w hC hA (ha.le (by omega)) (by omega) (by omega) hg.ne).mono fun _ _ h => RetC.eq h e
end
theorem rconst_is {l : List Int} {ar : Int} {p : Option Addr} {cap : Nat} {w : World} {m : List Cell} (h : SI w p cap l) (hl : l.length ≤ 20000) (e : mConst l = m) :
 Calls Try.prog 59 #[.agg #[.int .i64 ar, .slice p l.length cap]] w (RetM w ar m) := e ▸ rconst_any l ar p cap w h hl
theorem mvalueF_is {c : List Gate} {m : List Cell} {V : List Bool} {ar : Int} {p pm pv : Option Addr} {cap cm cv nv : Nat} {w : World} {l : List Int} (hC : CAt w p cap c) (hM : MxAt w pm cm m) (hV : BoolsAt w pv V) (hw : WfC c) (hl : c.length ≤ 20000) (hml : m.length ≤ 20000) (hn : V.length = nv) (hvl : nv ≤ maxLen) (e : mValue c V m = l) :
 Calls Try.prog 30 #[.agg #[.slice p c.length cap], .agg #[.int .i64 ar, .slice pm m.length cm], .slice pv nv cv] w (fun e w' => ∃ q cq, e = .returned (.agg #[.int .i64 ar, .slice q l.length cq]) ∧ SI w' q cq l ∧ (∀ ad, q = some ad → w.heap.size ≤ ad.block) ∧ Below w.heap.size w w') := by
 subst hn; exact e ▸ mvalue_anyF c m V ar p pm pv cap cm cv w hC hM hV hw hl hml hvl
theorem rvalueF_is {c : List Gate} {m : List Cell} {V : List Bool} {ar : Int} {p pm pv : Option Addr} {cap cm cv nv : Nat} {w : World} {l : List Int} (hC : CAt w p cap c) (hM : MxAt w pm cm m) (hV : BoolsAt w pv V) (hw : WfC c) (hl : c.length ≤ 20000) (hml : m.length ≤ 20000) (hn : V.length = nv) (hvl : nv ≤ maxLen) (e : mValue c V m = l) :
 Calls Try.prog 58 #[.agg #[.slice p c.length cap], .agg #[.int .i64 ar, .slice pm m.length cm], .slice pv nv cv] w (fun e w' => ∃ q cq, e = .returned (.agg #[.int .i64 ar, .slice q l.length cq]) ∧ SI w' q cq l ∧ (∀ ad, q = some ad → w.heap.size ≤ ad.block) ∧ Below w.heap.size w w') := by
 subst hn; exact e ▸ rvalue_anyF c m V ar p pm pv cap cm cv w hC hM hV hw hl hml hvl
theorem values_is {b : Int} {V : List Bool} {w : World} (h0 : 0 ≤ b) (h1 : b < 256) (e : vbits b 8 = V) : Calls Try.prog 36 #[.int .u8 b] w (RetV w V) := e ▸ values1_any b w h0 h1
theorem mxvalid_is {c : List Gate} {m : List Cell} {ar : Int} {p pm : Option Addr} {cap cm : Nat} {w : World} {t : Bool} (hM : CellsAt w pm m) (hml : m.length ≤ 20000) (hrg : ∀ x ∈ m, x.ref ≤ 9223372036854775807) (hl : c.length ≤ 20000) (e : mvalid c.length ar m = t) :
 Calls Try.prog 28 #[.agg #[.slice p c.length cap], .agg #[.int .i64 ar, .slice pm m.length cm]] w (RetB w t) := e ▸ mxvalid_gen c m ar p pm cap cm w hM hml hrg hl
theorem rxvalid_is {c : List Gate} {m : List Cell} {ar : Int} {p pm : Option Addr} {cap cm : Nat} {w : World} {t : Bool} (hM : CellsAt w pm m) (hml : m.length ≤ 20000) (hl : c.length ≤ 20000) (e : mvalid c.length ar m = t) :
 Calls Try.prog 48 #[.agg #[.slice p c.length cap], .agg #[.int .i64 ar, .slice pm m.length cm]] w (RetB w t) := e ▸ rxvalid_gen c m ar p pm cap cm w hM hml hl
def RM (w : World) (b : Nat) (ar : Int) (m : List Cell) : Prop := ∃ q cq, Cells w [(b, 0, .int .i64 ar), (b, 1, .slice q m.length cq)] ∧ CellsAt w q m
theorem RM.up {w w' : World} {b : Nat} {ar : Int} {m : List Cell} (h : RM w b ar m) (hB : Below w.heap.size w w') : RM w' b ar m := by
 obtain ⟨q, cq, h1, h2⟩ := h; exact ⟨q, cq, h1.up hB, h2.mono hB⟩
theorem RM.new {w : World} {q : Option Addr} {cq : Nat} {ar : Int} {m : List Cell} (h : CellsAt w q m) (t : TypeId) : RM (w.alloc (.cells #[.int .i64 ar, .slice q m.length cq] t)) w.heap.size ar m :=
 ⟨q, cq, ⟨⟨by go_cell, by go_cell⟩, ⟨by go_cell, by go_cell⟩, trivial⟩, h.mono (by go_grown)⟩
theorem match_len {kk n : Nat} {c : List Gate} {a b : List Cell} {d1 d2 d3 d4 : List Gate} {m1 m2 m3 m4 : List Cell} (hk : kk ≤ 2) (hn : n ≤ 3) (hg : Good c) (hl : c.length ≤ 61) (ha : MOk c ((n ^ kk : Nat) : Int) a) (hb : MOk c ((n ^ kk : Nat) : Int) b)
 (e1 : mUnion c a b = (d1, m1)) (e2 : mInter c a b = (d2, m2)) (e3 : mDiff c a b = (d3, m3)) (e4 : mOverride c n ((n ^ (kk - 1) : Nat) : Int) a b = (d4, m4)) : m1.length ≤ 9 ∧ m2.length ≤ 9 ∧ m3.length ≤ 9 ∧ m4.length ≤ 9 := by
 obtain ⟨h1, h2, h3⟩ := l9 hk hn ha hb
 obtain ⟨-, o1, -⟩ := union_ok hg (by omega) ha hb
 obtain ⟨-, o2, -⟩ := inter_ok hg (by omega) ha hb
 obtain ⟨-, o3, -⟩ := diff_ok hg (by omega) ha hb
 obtain ⟨-, o4⟩ := overrideL_ok hk hn hg (by omega) ha hb e4
 rw [e1] at o1; rw [e2] at o2; rw [e3] at o3
 exact ⟨Nat.le_trans o1.len h3, Nat.le_trans o2.len h3, Nat.le_trans o3.len h3, Nat.le_trans o4.len h3⟩
theorem match_plain {kk n : Nat} {c : List Gate} {a b : List Cell} (V : List Bool) :
 ∃ d1 m1 d2 m2 d3 m3 d4 m4 d5 r5 d6 r6 d7 r7 va ma, mUnion c a b = (d1, m1) ∧ mInter c a b = (d2, m2) ∧ mDiff c a b = (d3, m3) ∧ mOverride c n ((n ^ (kk - 1) : Nat) : Int) a b = (d4, m4) ∧ mIn c a b = (d5, r5) ∧ mSome c a = (d6, r6) ∧ mLone c a = (d7, r7) ∧ mValue c V a = va ∧ mConst va = ma :=
 ⟨_, _, _, _, _, _, _, _, _, _, _, _, _, _, _, _, rfl, rfl, rfl, rfl, rfl, rfl, rfl, rfl, rfl⟩
end Go.Proofs.Ytadilppdlbhjnaa
