import Derived.Test.YtadilppdlbhjnaaMH
import Derived.Maps.OwnOps
import Derived.Maps.OwnSet
import Derived.Maps.RangeWalk
import Derived.Lib.SlKeysI
import Derived.Sort.OwnSortedInts
namespace Go.Proofs.Ytadilppdlbhjnaa
set_option linter.unusedSimpArgs false
set_option linter.unusedVariables false
open Go.RowKit Go.Maps
abbrev DM := DataW Nat
abbrev keyI (r : Int) : Lit := .int .i64 r
abbrev numI (c : Int) : DM := .lit (.int .i64 c)
theorem keyI_ne {r s : Int} (h : r ≠ s) : keyI r ≠ keyI s := fun e => h (by simpa [keyI] using e)
theorem keyI_key (r : Int) : WideAt.IsKeyLit (keyI r) := trivial
structure Sums (D : DM) (S : Int → Int) : Prop where
 isMap : IsMap D
 out : ∀ r, has D (keyI r) = false → S r = 1
 ins : ∀ r, has D (keyI r) = true → D.atKey (keyI r) (numI 0) = numI (S r)
theorem Sums.start : Sums (.map []) fun _ => 1 := ⟨⟨_, rfl⟩, fun _ _ => rfl, fun r h => by simp [has] at h⟩
theorem Sums.put {D : DM} {S : Int → Int} (h : Sums D S) (t z : Int) : Sums (D.put (keyI t) (numI z)) fun r => if r = t then z else S r := by
 refine ⟨IsMap.put h.isMap _ _, fun r hr => ?_, fun r hr => ?_⟩
 · by_cases e : r = t
   · subst e; rw [has_put_same h.isMap (keyI_key _)] at hr; cases hr
   · rw [has_put_other (keyI_ne e)] at hr; rw [if_neg e]; exact h.out r hr
 · by_cases e : r = t
   · subst e; rw [atKey_put_same h.isMap (keyI_key _), if_pos rfl]
   · rw [has_put_other (keyI_ne e)] at hr; rw [atKey_put_other (keyI_ne e), if_neg e]; exact h.ins r hr
theorem Sums.got {D : DM} {S : Int → Int} (h : Sums D S) {t c : Int} (hat : D.atKey (keyI t) (numI 0) = numI c) (hm : has D (keyI t) = true) : S t = c := by
 rw [h.ins t hm] at hat; simpa [numI] using hat
theorem Sums.read {D : DM} {S : Int → Int} (h : Sums D S) {t c : Int} (hat : D.atKey (keyI t) (numI 0) = numI c) (b : Bool) (hm : has D (keyI t) = b) : S t = (if b then c else 1) := by
 cases b
 · exact h.out t hm
 · exact h.got hat hm
theorem Sums.gather {D : DM} {S : Int → Int} (h : Sums D S) {N : Nat} {ks : List Int} (hk : ks.Pairwise (· < ·)) (hm : ∀ r, r ∈ ks ↔ has D (keyI r) = true) (hN : ∀ r, S r ≠ 1 → 0 ≤ r ∧ r < (N : Int)) : gather ks S = gather (ranksTo N) S := by
 refine gather_ext hk (ranksTo_sl N) fun r hr => ?_
 rw [hm r, mem_ranksTo]
 constructor
 · intro _; exact hN r hr
 · intro _
   cases e : has D (keyI r)
   · exact absurd (h.out r e) hr
   · rfl
theorem sorted_lt {l ss : List Int} (hn : ss.Nodup) (h : l = ss.mergeSort fun x y => decide (x ≤ y)) : l.Pairwise (· < ·) := by
 subst h
 have h1 : (ss.mergeSort fun x y => decide (x ≤ y)).Pairwise fun a b => decide (a ≤ b) = true := List.pairwise_mergeSort (fun a b c h1 h2 => by simp only [decide_eq_true_eq] at *; omega) (fun a b => by simp only [Bool.or_eq_true, decide_eq_true_eq]; omega) ss
 have h2 : (ss.mergeSort fun x y => decide (x ≤ y)).Pairwise (· ≠ ·) := ((List.mergeSort_perm ss _).nodup_iff).2 hn
 exact (h1.and h2).imp fun ⟨a, b⟩ => by simp only [decide_eq_true_eq] at a; omega
theorem jrun_out : ∀ (l : List Tri) (c : List Gate) (S : Int → Int) (r : Int), (∀ t ∈ l, t.rank ≠ r) → (jrun l (c, S)).2 r = S r
 | [], _, _, _, _ => rfl
 | t :: l, c, S, r, h => by
  have e : jrun (t :: l) (c, S) = jrun l ((jstep (c, S) t).1, (jstep (c, S) t).2) := rfl
  rw [e, jrun_out l _ _ r fun s hs => h s (List.mem_cons_of_mem _ hs)]
  show (if r = t.rank then _ else _) = _
  rw [if_neg fun h2 => h t (List.mem_cons_self ..) h2.symm]
end Go.Proofs.Ytadilppdlbhjnaa
