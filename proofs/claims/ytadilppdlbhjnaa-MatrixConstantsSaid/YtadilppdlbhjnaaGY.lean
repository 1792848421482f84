/- Texts PlainM9, R11, R12, PlainW, PlainX, PlainY in one. -/
import Derived.Test.YtadilppdlbhjnaaGB
import Derived.Test.YtadilppdlbhjnaaGT
import Derived.Test.YtadilppdlbhjnaaGR
import Derived.Test.YtadilppdlbhjnaaGF
import Derived.Test.YtadilppdlbhjnaaLB4
import Derived.Test.YtadilppdlbhjnaaGP
namespace Go.Proofs.Ytadilppdlbhjnaa
set_option linter.unusedSimpArgs false
set_option linter.unusedVariables false

def K01 (x : Int) : Prop := x = 0 ∨ x = 1
def KM (m : List Cell) : Prop := ∀ x ∈ m, x.ref = 0
theorem k_and {x y : Int} (hx : K01 x) (hy : K01 y) : (cand cnew x y).1 = cnew ∧ K01 (cand cnew x y).2 := by
  rcases hx with rfl | rfl <;> rcases hy with rfl | rfl <;> (unfold K01; decide)
theorem k_or {x y : Int} (hx : K01 x) (hy : K01 y) : (cor cnew x y).1 = cnew ∧ K01 (cor cnew x y).2 := by
  rcases hx with rfl | rfl <;> rcases hy with rfl | rfl <;> (unfold K01; decide)
theorem k_but {x y : Int} (hx : K01 x) (hy : K01 y) : (cbut cnew x y).1 = cnew ∧ K01 (cbut cnew x y).2 := by
  rcases hx with rfl | rfl <;> rcases hy with rfl | rfl <;> (unfold K01; decide)
theorem KM.mat {m : List Cell} (h : KM m) (r : Int) : K01 (mat m r) := by
  rcases mat_cases m r with e | ⟨x, hx, _, e⟩
  · exact .inr e
  · exact .inl (e.trans (h x hx))
theorem KM.put {m : List Cell} (h : KM m) (r : Int) {z : Int} (hz : K01 z) : KM (put m r z) := by
  unfold Proofs.Ytadilppdlbhjnaa.put
  split
  · exact h
  · rename_i hn
    intro x hx
    rcases List.mem_append.1 hx with h1 | h1
    · exact h x h1
    · rw [List.mem_singleton.1 h1]; exact hz.resolve_right hn
theorem k_zrun {op : List Gate → Int → Int → List Gate × Int} (hop : ∀ {x y : Int}, K01 x → K01 y → (op cnew x y).1 = cnew ∧ K01 (op cnew x y).2) : ∀ (T : List Tri) (m : List Cell), KM m → (∀ t ∈ T, K01 t.p ∧ K01 t.q) → (zrun op T (cnew, m)).1 = cnew ∧ KM (zrun op T (cnew, m)).2
  | [], m, hm, _ => ⟨rfl, hm⟩
  | t :: T, m, hm, ht => by
    obtain ⟨h1, h2⟩ := hop (ht t (List.mem_cons_self ..)).1 (ht t (List.mem_cons_self ..)).2
    have e : zrun op (t :: T) (cnew, m) = zrun op T ((op cnew t.p t.q).1, put m t.rank (op cnew t.p t.q).2) := rfl
    rw [e, h1]
    exact k_zrun hop T _ (hm.put _ h2) fun s hs => ht s (List.mem_cons_of_mem _ hs)
theorem k_jrun : ∀ (l : List Tri) (S : Int → Int), (∀ r, K01 (S r)) → (∀ t ∈ l, K01 t.p ∧ K01 t.q) → (jrun l (cnew, S)).1 = cnew ∧ ∀ r, K01 ((jrun l (cnew, S)).2 r)
  | [], S, hS, _ => ⟨rfl, hS⟩
  | t :: l, S, hS, ht => by
    obtain ⟨h1, h2⟩ := k_and (ht t (List.mem_cons_self ..)).1 (ht t (List.mem_cons_self ..)).2
    obtain ⟨h3, h4⟩ := k_or (hS t.rank) h2
    have e : jrun (t :: l) (cnew, S) = jrun l ((jstep (cnew, S) t).1, (jstep (cnew, S) t).2) := rfl
    have e1 : (jstep (cnew, S) t).1 = cnew := by show (cor (cand cnew t.p t.q).1 (S t.rank) (cand cnew t.p t.q).2).1 = cnew; rw [h1]; exact h3
    rw [e, e1]
    refine k_jrun l _ (fun r => ?_) fun s hs => ht s (List.mem_cons_of_mem _ hs)
    show K01 (if r = t.rank then (cor (cand cnew t.p t.q).1 (S t.rank) (cand cnew t.p t.q).2).2 else S r)
    split
    · rw [h1]; exact h4
    · exact hS r
theorem k_gather {ks : List Int} {S : Int → Int} (h : ∀ r, K01 (S r)) : KM (gather ks S) := fun x hx => by
  obtain ⟨_, e, h3⟩ := gather_mem hx
  have := h x.rank
  rw [← e] at this
  exact this.resolve_right h3
theorem k_join {N : Nat} {n p : Int} {a b : List Cell} (ha : KM a) (hb : KM b) : (mJoin cnew N n p a b).1 = cnew ∧ KM (mJoin cnew N n p a b).2 := by
  obtain ⟨h1, h2⟩ := k_jrun (jpairs n p a b) (fun _ => 1) (fun _ => .inr rfl) fun t ht => by
    obtain ⟨x, hx, y, hy, _, rfl⟩ := mem_jpairs.1 ht
    exact ⟨.inl (ha x hx), .inl (hb y hy)⟩
  exact ⟨h1, k_gather h2⟩
theorem k_mzip {a b : List Cell} (sa : Sorted a) (sb : Sorted b) (ha : KM a) (hb : KM b) : ∀ t ∈ mzip a b, K01 t.p ∧ K01 t.q := fun t ht => by
  obtain ⟨h1, h2, _⟩ := (mzip_spec a b sa sb).1 t ht
  rw [h1, h2]; exact ⟨ha.mat _, hb.mat _⟩
theorem k_union {a b : List Cell} (sa : Sorted a) (sb : Sorted b) (ha : KM a) (hb : KM b) : (mUnion cnew a b).1 = cnew ∧ KM (mUnion cnew a b).2 :=
  k_zrun (fun hx hy => k_or hx hy) _ _ (fun x hx => by cases hx) (k_mzip sa sb ha hb)
end Go.Proofs.Ytadilppdlbhjnaa

namespace Go.Proofs.Ytadilppdlbhjnaa
set_option linter.unusedSimpArgs false
set_option linter.unusedVariables false
open Go.RowKit


theorem rpow_is {n k p : Nat} {x : Int} (w : World) (hx : x = (k : Int)) (hn : n ≤ 12) (hk : k ≤ 3) (hp : n ^ k = p) :
    Calls Try.prog 112 #[.int .i64 n, .int .i64 x] w fun e w' => e = .returned (.int .i64 (p : Int)) ∧ w' = w := by
  subst hx hp; exact rpow_any n k w hn hk
theorem div_range {t : Int} {p : Nat} (h0 : 0 ≤ t) (h1 : t < 100000) (hp : 0 < p) : 0 ≤ t / (p : Int) ∧ t / (p : Int) < 100000 := by
  have a1 := Int.ediv_nonneg h0 (show 0 ≤ (p : Int) by omega)
  have a2 := Int.ediv_le_self (p : Int) h0
  omega
/-- the numbers of a whose quotient is none of b's -/
def rKeepO (p : Nat) (a b : List Int) : List Int := a.filter fun x => (b.map fun y => y / (p : Int)).count (x / (p : Int)) == 0
theorem rKeepO_snoc {p : Nat} {a b : List Int} {K : Nat} {t : Int} (h : a[K]? = some t) : rKeepO p (a.take (K + 1)) b = if ((b.map fun y => y / (p : Int)).count (t / (p : Int)) == 0) = true then rKeepO p (a.take K) b ++ [t] else rKeepO p (a.take K) b := by
  obtain ⟨hk, he⟩ := List.getElem?_eq_some_iff.1 h
  unfold rKeepO
  rw [List.take_succ_eq_append_getElem hk, he, List.filter_append]
  split
  · rename_i h1; rw [List.filter_cons_of_pos (p := fun x => (b.map fun y => y / (p : Int)).count (x / (p : Int)) == 0) h1]; rfl
  · rename_i h1; rw [List.filter_cons_of_neg (p := fun x => (b.map fun y => y / (p : Int)).count (x / (p : Int)) == 0) h1]; simp
theorem rKeepO_len (p : Nat) (a b : List Int) : (rKeepO p a b).length ≤ a.length := List.length_filter_le _ _
/-- b, and what of a has a first atom that is none of b's -/
def rOver (p : Nat) (a b : List Int) : List Int := rUnion b (rKeepO p a b)
theorem mem_rKeepO {p : Nat} {a b : List Int} {x : Int} : x ∈ rKeepO p a b ↔ x ∈ a ∧ ∀ y ∈ b, y / (p : Int) ≠ x / (p : Int) := by
  unfold rKeepO
  rw [List.mem_filter, beq_iff_eq, List.count_eq_zero, List.mem_map]
  constructor
  · rintro ⟨h1, h2⟩; exact ⟨h1, fun y hy e => h2 ⟨y, hy, e⟩⟩
  · rintro ⟨h1, h2⟩; exact ⟨h1, fun ⟨y, hy, e⟩ => h2 y hy e⟩
set_option maxRecDepth 100000 in
theorem CMap.look {w : World} {bm n : Nat} {D : DM} {l : List Int} (hm : MapAt w bm n D) (hc : CMap D l) {t : Int} (h0 : 0 ≤ t) (h1 : t < 100000) :
    (Instr.lookup 105 (.map (some bm)) (.int .i64 t) false).run Try.prog w = .ok (.int .i64 ((l.count t : Nat) : Int)) w := by
  obtain ⟨c, hrun, hat, hwc⟩ := World.ownsMap.lookup_int (q := .i64) hm int_keyed' Try.underlying105 Try.underlying3 (Try.zeroValue3 _) (int_key h0 h1)
  rw [hrun, hc.read hat]

set_option maxRecDepth 100000 in
theorem first1_any (t : Int) (pz bz : Nat) (w : World) (hz : w.cell? ⟨bz, 0, none⟩ = some (.int .i64 pz)) (h0 : 0 ≤ t) (h1 : t < 100000) (hp0 : 0 < pz) (hp2 : pz ≤ 100000) :
    Calls Try.prog 121 #[.int .i64 t, .pointer (some ⟨bz, 0, none⟩)] w fun e w' => e = .returned (.int .i64 (t / (pz : Int))) ∧ w' = w := by
  have hq := quo_rem h0 (by omega) hp0
  have q1 := hq.1
  have hp1 : ¬ (pz : Int) = 0 := by omega
  have hp3 : ¬ pz = 0 := by omega
  go_enter Try.func121, Try.ntmps121
  go_wp2_with fail
  go_ret
  exact ⟨rfl, rfl⟩
set_option maxRecDepth 100000 in
set_option maxHeartbeats 2000000 in
theorem setf_any (l : List Int) (pz bz : Nat) (hp0 : 0 < pz) (hp2 : pz ≤ 100000) (ar : Int) (p : Option Addr) (cap : Nat) (w : World) (hz : w.cell? ⟨bz, 0, none⟩ = some (.int .i64 pz)) (hA : SI w p cap l) (hl : l.length ≤ 20000) (hr : ∀ x ∈ l, 0 ≤ x ∧ x < 100000) :
    Calls Try.prog 116 #[.agg #[.int .i64 ar, .slice p l.length cap], .func (.func 121) #[] #[.pointer (some ⟨bz, 0, none⟩)]] w
      fun e w' => ∃ b D n, e = .returned (.map (some b)) ∧ MapAt w' b n D ∧ CMap D (l.map fun x => x / (pz : Int)) ∧ w.heap.size ≤ b ∧ Below w.heap.size w w' := by
  have HA := Lib.hid hA; have HR := Lib.hid hr
  have hbz : bz < w.heap.size := World.block_lt_of_cell? _ _ hz
  clear hA hr
  obtain ⟨W2, hW2⟩ : ∃ W2, W2 = w.alloc (.cells #[.int .i64 ar, .slice p l.length cap] 44) := ⟨_, rfl⟩
  have hB : Below w.heap.size w W2 := by rw [hW2]; go_grown
  obtain ⟨s, hs⟩ : ∃ s, w.heap.size = s := ⟨_, rfl⟩
  have y1 : W2.cell? ⟨s, 1, none⟩ = some (.slice p l.length cap) := by rw [hW2, ← hs]; go_cell
  have HW2 := Lib.hid hW2; have HS := Lib.hid hs
  clear hW2 hs
  go_enter Try.func116, Try.ntmps116
  go_upto_region 1 with fail
  rw [← HW2.out]
  simp only [HS.out]
  have hmk := run_makeMap (P := Try.prog) 105 W2
  go_upto_region 2 with fail
  obtain ⟨bm, hbm⟩ : ∃ b, b = W2.heap.size := ⟨_, rfl⟩
  obtain ⟨w3, hw3⟩ : ∃ x, x = W2.alloc (.map #[] 0) := ⟨_, rfl⟩
  rw [← hw3, ← hbm]
  have hB3 : Below W2.heap.size W2 w3 := by rw [hw3]; go_grown
  have hown : MapAt w3 bm 0 (.map []) := by rw [hw3, hbm]; exact World.ownsMap_made _ _ _ _
  have hsb : s < bm := by rw [hbm]; exact World.block_lt_of_cell? _ _ y1
  have y1 := oldcell hB3 y1 (World.block_lt_of_cell? _ _ y1)
  have HB3 := Lib.hid (btr hB hB3)
  have hbs : w.heap.size ≤ bm := by rw [HS.out]; omega
  clear hw3 hbm hmk hB hB3
  go_wp2_with fail
  go_loopg [12] l.length (fun M s12 wr => ∃ (K : Nat) (D : DM) (nn : Nat), s12 = .int .i64 K ∧ K ≤ l.length ∧ M = l.length - K ∧ nn ≤ K ∧ MapAt wr bm nn D ∧ CMap D ((l.take K).map fun x => x / (pz : Int)) ∧ KeepX [bm] w3 wr)
  case atStart => exact ⟨0, _, 0, rfl, by omega, rfl, by omega, hown, CMap.start, KeepX.refl _ _⟩
  case round =>
    clear hown
    obtain ⟨K, D, nn, rfl, hK, hM, hnn, hmp, hcm, hkx⟩ := hrel
    have HM := Lib.hid hM; have HC := Lib.hid hcm; clear hM hcm
    have hBR : Below w.heap.size w wr := KeepX.below' HB3.out hkx HB3.out.size (by simp; omega)
    by_cases hlt : K < l.length
    case pos =>
      have hlt0 : (0 : Int) ≤ (K : Int) := by omega
      have hlt1 : (K : Int) < (l.length : Int) := by omega
      obtain ⟨t, ht⟩ : ∃ t, l[K]? = some t := ⟨_, List.getElem?_eq_getElem hlt⟩
      obtain ⟨b, off, rfl, hb1, h0⟩ := int_cell HA.out.at' ht
      replace h0 := oldcell hBR h0 hb1
      have hrt := HR.out t (List.mem_of_getElem? ht)
      have HNX := Lib.hid (show (l.take (K + 1)).map (fun x => x / (pz : Int)) = (l.take K).map (fun x => x / (pz : Int)) ++ [t / (pz : Int)] by obtain ⟨h1, h2⟩ := List.getElem?_eq_some_iff.1 ht; rw [List.take_succ_eq_append_getElem h1, h2, List.map_append]; rfl)
      have hz9 := oldcell hBR hz hbz
      obtain ⟨u, hu⟩ : ∃ u, t / (pz : Int) = u := ⟨_, rfl⟩
      have hru : 0 ≤ u ∧ u < 100000 := by rw [← hu]; exact div_range hrt.1 hrt.2 hp0
      rw [hu] at HNX
      have HU := Lib.hid hu; clear hu
      have HKEY := Lib.hid (int_key hru.1 hru.2)
      obtain ⟨z, hz⟩ : ∃ z : Nat, ((l.take K).map fun x => x / (pz : Int)).count u = z := ⟨_, rfl⟩
      have hzl : z ≤ 20000 := by rw [← hz]; exact Nat.le_trans List.count_le_length (by rw [List.length_map, List.length_take]; omega)
      have HZ := Lib.hid hz
      have hwz : IntKind.i64.wrap ((z : Int) + 1) = (z : Int) + 1 := by rw [IntWalk.i64_in]; omega
      clear ht hb1 hz
      go_wp2_with (first | (go_at_call 121; refine (first1_any t pz bz _ hz9 hrt.1 hrt.2 hp0 hp2).mono ?_; rw [HU.out]; rintro e w' ⟨rfl, hw⟩; replace hw := hw.symm; subst hw) | (at_lookup; refine wpList_lookup_own_int _ rfl _ _ 105 rfl 3 3 .i64 int_keyed' Try.underlying105 Try.underlying3 (Try.zeroValue3 _) bm nn D rfl hmp _ _ rfl HKEY.out ?_; intro cc hat hwc; obtain rfl : cc = (z : Int) := by (rw [HC.out.read hat, HZ.out])) | (at_mapUpdate; refine wpList_mapUpdate_own _ rfl _ _ _ 105 rfl 3 3 int_keyed' Try.underlying105 _ bm nn D rfl hmp (by simp [maxLen]; omega) _ _ (keyI u) rfl rfl HKEY.out (numI ((z : Int) + 1)) [] (plainElem_int Try.underlying3 (wf_int (by omega) (by omega))) ?_; intro w4 hown4 hgr4))
      go_roundg (l.length - (K + 1))
      case measure => (have := HM.out; omega)
      case rel => exact ⟨K + 1, _, _, by go_num, by omega, rfl, by omega, hown4, by rw [HNX.out]; exact HC.out.put u (by rw [HZ.out]), hkx.trans (KeepX.of_grown hgr4 (by simp))⟩
    case neg =>
      obtain rfl : K = l.length := by omega
      have hcm := HC.out
      rw [List.take_length] at hcm
      have HCM := Lib.hid hcm
      clear hcm
      go_wp2_with fail
      go_ret
      exact ⟨bm, D, nn, rfl, hmp, HCM.out, hbs, hBR⟩



set_option maxRecDepth 100000 in
theorem over2_any (t : Int) (bv bm n pz bz bf : Nat) (D : DM) (b : List Int) (w : World) (hv : w.cell? ⟨bv, 0, none⟩ = some (.map (some bm))) (hm : MapAt w bm n D) (hc : CMap D (b.map fun x => x / (pz : Int)))
    (hz : w.cell? ⟨bz, 0, none⟩ = some (.int .i64 pz)) (hf : w.cell? ⟨bf, 0, none⟩ = some (.func (.func 121) #[] #[.pointer (some ⟨bz, 0, none⟩)])) (hp0 : 0 < pz) (hp2 : pz ≤ 100000) (h0 : 0 ≤ t) (h1 : t < 100000) :
    Calls Try.prog 122 #[.int .i64 t, .pointer (some ⟨bv, 0, none⟩), .pointer (some ⟨bf, 0, none⟩)] w fun e w' => e = .returned (.bool ((b.map fun x => x / (pz : Int)).count (t / (pz : Int)) == 0)) ∧ Below w.heap.size w w' := by
  obtain ⟨z, hz0⟩ : ∃ z : Nat, (b.map fun x => x / (pz : Int)).count (t / (pz : Int)) = z := ⟨_, rfl⟩
  have HZ := Lib.hid hz0; have HC := Lib.hid hc
  have hr := div_range h0 h1 hp0
  have LK := Lib.hid (fun (w' : World) (hB : Below w.heap.size w w') => CMap.look (hm.up hB) hc hr.1 hr.2)
  clear hz0 hc
  go_enter Try.func122, Try.ntmps122
  go_upto_region 1 with fail

  have hB0 : Below w.heap.size w w := Below.refl _ _
  refine wp_region_seqE (fun x => Below w.heap.size w x) (.one 0 0 (.one 1 0 (.one 2 1 (.one 3 0 (.one 4 0 (.one 5 1 (.one 6 1 .nil))))))) (by kernel_rfl) (by kernel_rfl) (by kernel_rfl) (Below.drew (Below.refl _ _)) ?_
  iterate 3 (first | (refine seqE_free (v := ?_) rfl (by rfl) ?_ ?_; rotate_left; (focus (intro w; go_simp; try with_reducible rfl)); (try simp only [Act.put, List.setIfInBounds_toArray, List.set_cons_zero, List.set_cons_succ])) | (refine seqE_pure (v := ?_) rfl (by rfl) ?_ ?_; rotate_left; (focus (intro w' hS; have a1 := oldcell hS hv (World.block_lt_of_cell? _ _ hv); have a2 := oldcell hS hf (World.block_lt_of_cell? _ _ hf); go_simp; try with_reducible rfl)); (try simp only [Act.put, List.setIfInBounds_toArray, List.set_cons_zero, List.set_cons_succ])))
  refine seqE_still (v := .int .i64 (t / (pz : Int))) (f := ?_) (args := ?_) rfl (by rfl) ?_ ?_ ?_
  rotate_left 2
  focus (intro w' hS; go_simp; first | done | with_reducible rfl | (refine ⟨?_, ?_⟩ <;> with_reducible rfl))
  focus (intro w' hS; exact first1_any t pz bz w' (oldcell hS hz (World.block_lt_of_cell? _ _ hz)) h0 h1 hp0 hp2)
  (try simp only [Act.put, List.setIfInBounds_toArray, List.set_cons_zero, List.set_cons_succ])
  refine seqE_pure (v := .int .i64 z) rfl (by rfl) ?_ ?_
  focus (intro w' hS; have lk := LK.out w' hS; rw [HZ.out] at lk; go_simp; try with_reducible rfl)
  (try simp only [Act.put, List.setIfInBounds_toArray, List.set_cons_zero, List.set_cons_succ])
  iterate 2 (refine seqE_free (v := ?_) rfl (by rfl) ?_ ?_; rotate_left; (focus (intro w; go_simp; try with_reducible rfl)); (try simp only [Act.put, List.setIfInBounds_toArray, List.set_cons_zero, List.set_cons_succ]))
  refine seqE_nil ?_
  intro wz hS
  go_wp2_with fail
  go_ret
  rw [HZ.out]
  refine ⟨?_, hS⟩
  have e : (((z : Nat) : Int) == 0) = (z == 0) := by rw [Bool.eq_iff_iff]; simp
  first | rw [← e]; rfl | rfl | simp [e]

set_option maxRecDepth 100000 in
set_option maxHeartbeats 2000000 in
theorem keepo_any (a b : List Int) (pz bz bf : Nat) (hp0 : 0 < pz) (hp2 : pz ≤ 100000) (pa : Option Addr) (ca bv bm n : Nat) (D : DM) (w : World) (hz : w.cell? ⟨bz, 0, none⟩ = some (.int .i64 pz)) (hf : w.cell? ⟨bf, 0, none⟩ = some (.func (.func 121) #[] #[.pointer (some ⟨bz, 0, none⟩)])) (hA : SI w pa ca a) (hl : a.length ≤ 20000) (hr : ∀ x ∈ a, 0 ≤ x ∧ x < 100000) (hv : w.cell? ⟨bv, 0, none⟩ = some (.map (some bm))) (hm : MapAt w bm n D) (hc : CMap D (b.map fun x => x / (pz : Int))) :
    Calls Try.prog 118 #[.slice pa a.length ca, .func (.func 122) #[] #[.pointer (some ⟨bv, 0, none⟩), .pointer (some ⟨bf, 0, none⟩)]] w
      fun e w' => ∃ q cq, e = .returned (.slice q (rKeepO pz a b).length cq) ∧ SI w' q cq (rKeepO pz a b) ∧ (∀ ad, q = some ad → w.heap.size ≤ ad.block) ∧ Below w.heap.size w w' := by
  obtain ⟨i0, hi0, hz0, hz3, hz2⟩ := info_parts int_info
  have HA := Lib.hid hA; have HR := Lib.hid hr; have HC := Lib.hid hc
  have hbv := World.block_lt_of_cell? _ _ hv
  clear hA hr hc
  obtain ⟨B, hBe⟩ : ∃ B, w.heap.size = B := ⟨_, rfl⟩
  have HBE := Lib.hid hBe
  clear hBe
  go_enter Try.func118, Try.ntmps118
  go_wp2_with fail
  go_loopg [10, 5] a.length (fun M s10 s5 wr => ∃ (K : Nat) (v : Value) (o : List Int), s10 = .int .i64 K ∧ s5 = v ∧ K ≤ a.length ∧ M = a.length - K ∧ rKeepO pz (a.take K) b = o ∧ wr.ownsRow B 3 1 v o.length (flat 1 iEnc o) ∧ Below B w wr)
  case atStart => exact ⟨0, _, [], rfl, rfl, by omega, rfl, rfl, World.ownsRow_nil _ _ _ _, Below.refl _ _⟩
  case round =>
    obtain ⟨K, v, o, rfl, hsv, hK, hM, ho, hown, hb⟩ := hrel
    have HM := Lib.hid hM; have HO := Lib.hid hown; have HOO := Lib.hid ho
    have hol : o.length ≤ 20000 := by rw [← ho]; exact Nat.le_trans (rKeepO_len _ _ _) (by rw [List.length_take]; omega)
    have hBR : Below w.heap.size w wr := by rw [HBE.out]; exact hb
    have zb := hb.size
    clear hM hown ho
    subst hsv
    by_cases hlt : K < a.length
    case pos =>
      have hlt0 : (0 : Int) ≤ (K : Int) := by omega
      have hlt1 : (K : Int) < (a.length : Int) := by omega
      obtain ⟨t, ht⟩ : ∃ t, a[K]? = some t := ⟨_, List.getElem?_eq_getElem hlt⟩
      obtain ⟨bx, off, rfl, hb1, h0⟩ := int_cell HA.out.at' ht
      replace h0 := oldcell hBR h0 hb1
      have hrt := HR.out t (List.mem_of_getElem? ht)
      have HNX := Lib.hid (rKeepO_snoc (p := pz) (b := b) ht)
      have hv1 := oldcell hBR hv hbv
      have hz1 := oldcell hBR hz (World.block_lt_of_cell? _ _ hz); have hf1 := oldcell hBR hf (World.block_lt_of_cell? _ _ hf)
      have hm1 := hm.up hBR
      obtain ⟨z, hz⟩ : ∃ z : Bool, ((b.map fun x => x / (pz : Int)).count (t / (pz : Int)) == 0) = z := ⟨_, rfl⟩
      have HZ := Lib.hid hz
      clear ht hb1 hz
      cases z
      case false =>
        go_wp2_with (first | (go_at_call 122; refine (over2_any t bv bm n pz bz bf D b _ hv1 hm1 HC.out hz1 hf1 hp0 hp2 hrt.1 hrt.2).mono ?_; rw [HZ.out]; rintro e wq ⟨rfl, hbq⟩; have HO := Lib.hid (owns_below HO.out hbq); have hzq := hbq.size; have hb := hb.trans (hbq.mono (by have := HBE.out; omega))))
        go_roundg (a.length - (K + 1))
        case measure => (have := HM.out; omega)
        case rel => exact ⟨K + 1, _, o, by go_num, rfl, by omega, rfl, by rw [HNX.out, HZ.out]; exact HOO.out, HO.out, hb⟩
      case true =>
        go_wp2_with (first | (go_at_call 122; refine (over2_any t bv bm n pz bz bf D b _ hv1 hm1 HC.out hz1 hf1 hp0 hp2 hrt.1 hrt.2).mono ?_; rw [HZ.out]; rintro e wq ⟨rfl, hbq⟩; have HO := Lib.hid (owns_below HO.out hbq); have hzq := hbq.size; have hb := hb.trans (hbq.mono (by have := HBE.out; omega))) | (at_builtin; go_must (refine wpList_app2 (enc := iEnc) rfl _ _ _ rfl B 3 i0 _ 8 Try.underlying42 hi0 hz0 hz3 hz2 rfl (by omega) _ o rfl ((HO.out).alloc _) (some ⟨wq.heap.size, 0, none⟩) [t] 1 rfl (fun h => by cases h) (SlAt.int1 (by go_cell)) iEnc_one (by simp [maxLen]; omega) (by simp; omega) (by simp; have := HBE.out; omega) ?_); intro v2 w3 hown2 hgr2 hbl2 hat2; have HOW2 := Lib.hid hown2; have HBL3 := Lib.hid (show Below B wq w3 from (Below.alloc (Below.refl _ _) (by have := HBE.out; omega) _).trans hbl2); clear hown2 hgr2 hbl2 hat2))
        go_roundg (a.length - (K + 1))
        case measure => (have := HM.out; omega)
        case rel => exact ⟨K + 1, _, o ++ [t], by go_num, rfl, by omega, rfl, by rw [HNX.out, HZ.out, if_pos rfl, HOO.out], HOW2.out, hb.trans HBL3.out⟩
    case neg =>
      obtain rfl : K = a.length := by omega
      have ho := HOO.out
      rw [List.take_length] at ho
      obtain ⟨q, cq, hvq, o1, o2, o3, o4⟩ := owns_val (by decide) HO.out
      subst hvq
      have hlt2 := HO.out.lt
      have HOF := Lib.hid ho; have O3 := Lib.hid o3; have O4 := Lib.hid o4; have HLT := Lib.hid hlt2
      clear ho o3 o4 hlt2
      go_wp2_with fail
      go_ret
      rw [HOF.out]
      exact ⟨q, cq, rfl, ⟨o1, o2, O3.out, O4.out, fun ad h => (HLT.out ad.block (by rw [h]; rfl)).2⟩, fun ad h => by rw [HBE.out]; exact (HLT.out ad.block (by rw [h]; rfl)).1, hBR⟩


set_option maxRecDepth 100000 in
set_option maxHeartbeats 4000000 in
theorem relover_any (a b : List Int) (ar1 : Int) (k n p : Nat) (pa pb : Option Addr) (ca cb : Nat) (w : World) (hA : SI w pa ca a) (hD : SI w pb cb b) (hla : a.length ≤ 10000) (hlb : b.length ≤ 10000) (ha : ∀ x ∈ a, 0 ≤ x ∧ x < 100000) (hb : ∀ x ∈ b, 0 ≤ x ∧ x < 100000) (hk3 : k ≤ 3) (hn0 : 0 < n) (hn : n ≤ 12) (hp : n ^ k = p) :
    Calls Try.prog 68 #[.int .i64 n, .agg #[.int .i64 ar1, .slice pa a.length ca], .agg #[.int .i64 ((k : Int) + 1), .slice pb b.length cb]] w (RetR w ((k : Int) + 1) (rOver p a b)) := by
 have hmf : ∀ (fn : Fn) (first cap : Array Value) (w : World), (Instr.makeFunc fn first cap).run Try.prog w = .ok (.func fn first cap) w := fun _ _ _ _ => rfl
 have hp1 : 0 < p := by rw [← hp]; exact Nat.pow_pos hn0
 have hp2 : p ≤ 1728 := by rw [← hp]; exact Nat.le_trans (Nat.pow_le_pow_left hn k) (Nat.le_trans (Nat.pow_le_pow_right (by decide) hk3) (by decide))
 have hwr : IntKind.i64.wrap ((k : Int) + 1 - 1) = (k : Int) + 1 - 1 := by rw [IntWalk.i64_in]; omega
 have hn9 : ((n : Int) == 0) = false := by simp; omega
 have hn8 : ¬ n = 0 := by omega
 have HP := Lib.hid hp; clear hp
 obtain ⟨s, hs0⟩ : ∃ s, w.heap.size = s := ⟨_, rfl⟩
 obtain ⟨W2, hW2⟩ : ∃ W2, W2 = (((w.alloc (.cells #[.int .i64 ar1, .slice pa a.length ca] 44)).alloc (.cells #[.int .i64 ((k : Int) + 1), .slice pb b.length cb] 44)).alloc (.cells #[.int .i64 0, .slice none 0 0] 44)) := ⟨_, rfl⟩
 have hbw : Below w.heap.size w W2 := by rw [hW2]; go_grown
 have zz : s + 3 ≤ W2.heap.size := by rw [hW2, ← hs0]; simp
 have hs : Cells W2 [(s + 2, 0, .int .i64 0), (s + 2, 1, .slice none 0 0)] := by rw [hW2, ← hs0]; exact ⟨⟨by go_cell, by go_cell⟩, ⟨by go_cell, by go_cell⟩, trivial⟩
 have hk : Cells W2 [(s, 0, .int .i64 ar1), (s, 1, .slice pa a.length ca), (s + 1, 0, .int .i64 ((k : Int) + 1)), (s + 1, 1, .slice pb b.length cb)] := by rw [hW2, ← hs0]; exact ⟨⟨by go_cell, by go_cell⟩, ⟨by go_cell, by go_cell⟩, ⟨by go_cell, by go_cell⟩, ⟨by go_cell, by go_cell⟩, trivial⟩
 have HW2 := Lib.hid hW2; have HS := Lib.hid hs0
 clear hW2 hs0
 have HA := Lib.hid hA; have HD := Lib.hid hD; have HRA := Lib.hid ha; have HRB := Lib.hid hb
 clear hA hD ha hb
 go_enter Try.func68, Try.ntmps68
 go_upto_region 1 with fail
 rw [← HW2.out]
 simp only [HS.out, Nat.add_assoc, Nat.reduceAdd]
 obtain ⟨⟨y20, y20f⟩, ⟨y21, y21f⟩, -⟩ := id hs
 obtain ⟨⟨y00, y00f⟩, ⟨y01, y01f⟩, ⟨y10, y10f⟩, ⟨y11, y11f⟩, -⟩ := id hk
 go_upto_region 5 with (first | (go_at_call 112; refine (rpow_is (k := k) (p := p) _ (by first | omega | (rw [hwr]; omega)) hn hk3 HP.out).mono ?_; rintro e w' ⟨rfl, hw⟩; replace hw := hw.symm; subst hw))
 obtain ⟨w3, hw⟩ : ∃ zW, zW = ((W2.alloc (.cells #[.int .i64 p] 3)).alloc (.cells #[.func (.func 121) #[] #[.pointer (some ⟨W2.heap.size, 0, none⟩)]] 77)) := ⟨_, rfl⟩
 rw [← hw]
 obtain ⟨b7, hb7⟩ : ∃ zW, zW = W2.heap.size := ⟨_, rfl⟩
 obtain ⟨b8, hb8⟩ : ∃ zW, zW = W2.heap.size + 1 := ⟨_, rfl⟩
 rw [← hb8]
 rw [← hb7]
 have hbl : Below W2.heap.size W2 w3 := by rw [hw]; go_grown
 have hge7 : s + 3 ≤ b7 := by rw [hb7]; omega
 have hgw7 : W2.heap.size ≤ b7 := by rw [hb7]; omega
 have hge8 : s + 3 ≤ b8 := by rw [hb8]; omega
 have hgw8 : W2.heap.size ≤ b8 := by rw [hb8]; omega
 have hlt8 : b7 < b8 := by rw [hb7, hb8]; omega
 clear y20 y20f y21 y21f y00 y00f y01 y01f y10 y10f y11 y11f
 replace hs := hs.up hbl; replace hk := hk.up hbl; replace hbw := btr hbw hbl; replace zz := Nat.le_trans zz (Below.size hbl)
 replace hs : Cells w3 [(b7, 0, .int .i64 p), (b8, 0, .func (.func 121) #[] #[.pointer (some ⟨W2.heap.size, 0, none⟩)]), (s + 2, 0, .int .i64 0), (s + 2, 1, .slice none 0 0)] := ⟨⟨by rw [hw, hb7]; go_cell, by rw [hw, hb7]; go_cell⟩, ⟨by rw [hw, hb8]; go_cell, by rw [hw, hb8]; go_cell⟩, hs⟩
 rw [← hb7] at hs
 clear hbl hw hb7 hb8
 obtain ⟨⟨d70, d70f⟩, ⟨d80, d80f⟩, ⟨y20, y20f⟩, ⟨y21, y21f⟩, -⟩ := id hs
 obtain ⟨⟨y00, y00f⟩, ⟨y01, y01f⟩, ⟨y10, y10f⟩, ⟨y11, y11f⟩, -⟩ := id hk
 go_upto_region 6 with (first | (go_at_call 116; refine (setf_any b p b7 hp1 (by omega) ((k : Int) + 1) pb cb w3 d70 (HD.out.up hbw) (by omega) HRB.out).mono ?_; rintro e w4 ⟨bm, D, nn, rfl, hmp, hcm, hbm, hb4⟩))
 obtain ⟨bv, hbv⟩ : ∃ x, x = w4.heap.size := ⟨_, rfl⟩
 obtain ⟨w5, hw5⟩ : ∃ x, x = w4.alloc (.cells #[.map (some bm)] 105) := ⟨_, rfl⟩
 rw [← hw5, ← hbv]
 have hb5 : Below w3.heap.size w3 w5 := by rw [hw5]; exact bal hb4 _
 have v0 : w5.cell? ⟨bv, 0, none⟩ = some (.map (some bm)) := by rw [hw5, hbv]; go_cell
 replace hmp : MapAt w5 bm nn D := by rw [hw5]; exact World.ownsMap.alloc hmp _
 have HCM := Lib.hid hcm
 clear hw5 hbv hcm hbm hb4
 replace hs := hs.up hb5; replace hk := hk.up hb5; replace hbw := btr hbw hb5; replace zz := Nat.le_trans zz (Below.size hb5); clear hb5
 clear d70 d70f d80 d80f y20 y20f y21 y21f y00 y00f y01 y01f y10 y10f y11 y11f
 obtain ⟨⟨dz, -⟩, ⟨df, -⟩, -⟩ := id hs
 have DZ := Lib.hid dz; have DF := Lib.hid df
 clear dz df
 replace hs : Cells w5 [(s + 2, 0, .int .i64 0), (s + 2, 1, .slice none 0 0)] := ⟨hs.2.2.1, hs.2.2.2.1, trivial⟩
 clear hmf
 have hmf2 : ∀ (w : World), (Instr.makeFunc (Fn.func 122) #[] #[.pointer (some ⟨bv, 0, none⟩), .pointer (some ⟨b8, 0, none⟩)]).run Try.prog w = .ok (.func (.func 122) #[] #[.pointer (some ⟨bv, 0, none⟩), .pointer (some ⟨b8, 0, none⟩)]) w := fun _ => rfl
 refine wp_region_seqE (fun x => Below w5.heap.size w5 x) (.one 0 0 (.one 1 1 (.one 2 0 (.one 3 1 (.one 4 0 (.one 5 1 (.alt 6 2 (.one 7 1 (.alt 8 3 (.alt 9 3 .nil .stop) .stop)) .stop))))))) (by kernel_rfl) (by kernel_rfl) (by kernel_rfl) (Below.drew (Below.refl _ _)) ?_
 iterate 6 (first | (refine seqE_free (v := ?_) rfl (by rfl) ?_ ?_; rotate_left; (focus (intro w; go_simp; try with_reducible rfl)); (try simp only [Act.put, List.setIfInBounds_toArray, List.set_cons_zero, List.set_cons_succ])) | (refine seqE_pure (v := ?_) rfl (by rfl) ?_ ?_; rotate_left; (focus (intro w hS; obtain ⟨⟨y00, -⟩, ⟨y01, -⟩, ⟨y10, -⟩, ⟨y11, -⟩, -⟩ := hk.up hS; go_simp; try with_reducible rfl)); (try simp only [Act.put, List.setIfInBounds_toArray, List.set_cons_zero, List.set_cons_succ])))
 refine seqE_call (f := ?_) (args := ?_) rfl (by rfl) ?_ ?_ seqE_stop
 rotate_left 2
 focus (intro w hS; go_simp; first | done | with_reducible rfl | (refine ⟨?_, ?_⟩ <;> with_reducible rfl))
 intro w1 hS
 refine (keepo_any a b p b7 b8 hp1 (by omega) pa ca bv bm nn D w1 (oldcell hS DZ.out (World.block_lt_of_cell? _ _ DZ.out)) (oldcell hS DF.out (World.block_lt_of_cell? _ _ DF.out)) (HA.out.up (btr hbw hS)) (by omega) HRA.out (oldcell hS v0 (World.block_lt_of_cell? _ _ v0)) (hmp.up hS) HCM.out).mono ?_
 rintro e v1 ⟨q, cq, rfl, hR, hqn, hbl⟩
 refine ⟨_, rfl, (fun x => Below v1.heap.size v1 x), Below.refl _ _, fun x hx => btr (btr hS hbl) hx, ?_⟩
 have hXw := Nat.le_trans zz hS.size
 have hX := btr hS hbl
 replace hs := hs.up hX; replace hk := hk.up hX; replace hbw := btr hbw hX; replace zz := Nat.le_trans zz (Below.size hX)
 clear hqn
 clear hX hS hbl hXw
 (try simp only [Act.put, List.setIfInBounds_toArray, List.set_cons_zero, List.set_cons_succ])
 iterate 1 (refine seqE_free (v := ?_) rfl (by rfl) ?_ ?_; rotate_left; (focus (intro w; go_simp; try with_reducible rfl)); (try simp only [Act.put, List.setIfInBounds_toArray, List.set_cons_zero, List.set_cons_succ]))
 refine seqE_callB (f := ?_) (args := ?_) rfl (by rfl) ?_ ?_ seqE_stop
 rotate_left 2
 focus (intro w hS; go_simp; first | done | with_reducible rfl | (refine ⟨?_, ?_⟩ <;> with_reducible rfl))
 intro w2 hS
 refine (relunion_any b (rKeepO p a b) ((k : Int) + 1) ar1 pb q cb cq w2 (HD.out.up (btr hbw hS)) (hR.up hS) (by have := rKeepO_len p a b; omega)).mono ?_
 rintro e v2 ⟨q9, cq9, rfl, hU, hun, hbl⟩
 refine ⟨_, rfl, (fun x => Below v2.heap.size v2 x), Below.refl _ _, ?_⟩
 have hXw := Nat.le_trans zz hS.size
 have hX := btr hS hbl
 replace hs := hs.up hX; replace hk := hk.up hX; replace hR := hR.up hX; replace hbw := btr hbw hX; replace zz := Nat.le_trans zz (Below.size hX)
 have oU : ∀ ad, q9 = some ad → s + 2 ≠ ad.block := fun ad h e => by have h1 := hun ad h; have h2 := hXw; omega
 clear hun
 clear hX hS hbl hXw
 (try simp only [Act.put, List.setIfInBounds_toArray, List.set_cons_zero, List.set_cons_succ])
 refine seqE_storeB rfl (by rfl) ?_ seqE_stop
 intro w3 hS
 replace hs := hs.up hS; replace hk := hk.up hS; replace hU := hU.up hS; replace hbw := btr hbw hS; replace zz := Nat.le_trans zz (Below.size hS)
 obtain ⟨⟨y20, y20f⟩, ⟨y21, y21f⟩, -⟩ := id hs
 obtain ⟨⟨y00, y00f⟩, ⟨y01, y01f⟩, ⟨y10, y10f⟩, ⟨y11, y11f⟩, -⟩ := id hk
 refine ⟨((w3.setCell ⟨s + 2, 0, none⟩ (.int .i64 ((k : Int) + 1))).setCell ⟨s + 2, 1, none⟩ (.slice q9 (rUnion b (rKeepO p a b)).length cq9)), (by go_simp; try with_reducible rfl), (fun x => Below (((w3.setCell ⟨s + 2, 0, none⟩ (.int .i64 ((k : Int) + 1))).setCell ⟨s + 2, 1, none⟩ (.slice q9 (rUnion b (rKeepO p a b)).length cq9))).heap.size (((w3.setCell ⟨s + 2, 0, none⟩ (.int .i64 ((k : Int) + 1))).setCell ⟨s + 2, 1, none⟩ (.slice q9 (rUnion b (rKeepO p a b)).length cq9))) x), Below.refl _ _, ?_⟩
 obtain ⟨v3, hw⟩ : ∃ zW, zW = ((w3.setCell ⟨s + 2, 0, none⟩ (.int .i64 ((k : Int) + 1))).setCell ⟨s + 2, 1, none⟩ (.slice q9 (rUnion b (rKeepO p a b)).length cq9)) := ⟨_, rfl⟩
 rw [← hw]
 replace hs : Cells v3 [(s + 2, 0, .int .i64 ((k : Int) + 1)), (s + 2, 1, .slice q9 (rUnion b (rKeepO p a b)).length cq9)] := by rw [hw]; exact ⟨⟨by go_cell, (fz (fz y20f))⟩, ⟨by go_cell, (fz (fz y21f))⟩, trivial⟩
 replace hk : Cells v3 [(s, 0, .int .i64 ar1), (s, 1, .slice pa a.length ca), (s + 1, 0, .int .i64 ((k : Int) + 1)), (s + 1, 1, .slice pb b.length cb)] := by rw [hw]; exact ((hk.far (by simp <;> omega)).far (by simp <;> omega))
 replace hU : SI v3 q9 cq9 (rUnion b (rKeepO p a b)) := by rw [hw]; exact ((hU.set (oU) _).set (oU) _)
 replace hbw : Below w.heap.size w v3 := by rw [hw]; exact (Below.setCell (Below.setCell hbw (by have h := HS.out; (try dsimp only); omega) _) (by have h := HS.out; (try dsimp only); omega) _)
 replace zz : s + 3 ≤ v3.heap.size := by rw [hw]; simpa using zz
 clear hw
 clear y20 y20f y21 y21f y00 y00f y01 y01f y10 y10f y11 y11f
 clear hS
 (try simp only [Act.put, List.setIfInBounds_toArray, List.set_cons_zero, List.set_cons_succ])
 refine seqE_nil ?_
 intro wz hS
 replace hs := hs.up hS; replace hk := hk.up hS; replace hU := hU.up hS; replace hbw := btr hbw hS; replace zz := Nat.le_trans zz (Below.size hS); clear hS
 obtain ⟨⟨y20, y20f⟩, ⟨y21, y21f⟩, -⟩ := id hs
 obtain ⟨⟨y00, y00f⟩, ⟨y01, y01f⟩, ⟨y10, y10f⟩, ⟨y11, y11f⟩, -⟩ := id hk
 go_wp2_with fail
 refine bodyPost_ret (by simp [results, Try.results68, go_sem, y20, y21]; try rfl) rfl ?_
 exact ⟨_, _, rfl, hU, hbw⟩
end Go.Proofs.Ytadilppdlbhjnaa

namespace Go.Proofs.Ytadilppdlbhjnaa
set_option linter.unusedSimpArgs false
set_option linter.unusedVariables false
open Go.RowKit

end Go.Proofs.Ytadilppdlbhjnaa

namespace Go.Proofs.Ytadilppdlbhjnaa
set_option linter.unusedSimpArgs false
set_option linter.unusedVariables false
open Go.RowKit

theorem rs_filter {l : List Int} (h : RS l) (p : Int → Bool) : RS (l.filter p) := List.Pairwise.filter p h
theorem mem_rDiff {a b : List Int} {x : Int} : x ∈ rDiff a b ↔ x ∈ a ∧ x ∉ b := by
  unfold rDiff
  rw [List.mem_filter, beq_iff_eq, List.count_eq_zero]
theorem union_rel {c : List Gate} {N : Int} {a b : List Cell} (hg : Good c) (hl : c.length + (a.length + b.length) ≤ 20000) (ha : MOk c N a) (hb : MOk c N b) (V : List Bool) :
    mValue (mUnion c a b).1 V (mUnion c a b).2 = rUnion (mValue c V a) (mValue c V b) := by
  obtain ⟨g, h, v⟩ := union_ok hg hl ha hb
  refine rs_ext (value_rs V h) (nrm_rs _) fun r => ?_
  rw [mem_value g.good h, v V r, mem_union, mem_value hg ha, mem_value hg hb, Bool.or_eq_true]
theorem diff_rel {c : List Gate} {N : Int} {a b : List Cell} (hg : Good c) (hl : c.length + (a.length + b.length) ≤ 20000) (ha : MOk c N a) (hb : MOk c N b) (V : List Bool) :
    mValue (mDiff c a b).1 V (mDiff c a b).2 = rDiff (mValue c V a) (mValue c V b) := by
  obtain ⟨g, h, v⟩ := diff_ok hg hl ha hb
  refine rs_ext (value_rs V h) (rs_filter (value_rs V ha) _) fun r => ?_
  rw [mem_value g.good h, v V r, mem_rDiff, mem_value hg ha, mem_value hg hb, Bool.and_eq_true, Bool.not_eq_true', Bool.not_eq_true]
theorem pow_split {n kk : Nat} (h : 0 < kk) : n ^ kk = n * n ^ (kk - 1) := by
  obtain ⟨k, rfl⟩ : ∃ k, kk = k + 1 := ⟨kk - 1, by omega⟩
  rw [Nat.pow_succ, Nat.add_sub_cancel, Nat.mul_comm]
theorem over_rel {c : List Gate} {kk n : Nat} {a b : List Cell} (hk0 : 0 < kk) (hn0 : 0 < n) (hg : Good c) (hl : c.length + n * b.length + 2 * (a.length + b.length) ≤ 20000) (ha : MOk c ((n ^ kk : Nat) : Int) a) (hb : MOk c ((n ^ kk : Nat) : Int) b) (V : List Bool) :
    mValue (mOverride c n ((n ^ (kk - 1) : Nat) : Int) a b).1 V (mOverride c n ((n ^ (kk - 1) : Nat) : Int) a b).2 = rOver (n ^ (kk - 1)) (mValue c V a) (mValue c V b) := by
  obtain ⟨g, h, v⟩ := override_ok (P := ((n ^ (kk - 1) : Nat) : Int)) (n := n) hg ha hb hl
  have hP : 0 < n ^ (kk - 1) := Nat.pow_pos hn0
  have hNP := pow_split (n := n) hk0
  refine rs_ext (value_rs V h) (nrm_rs _) fun r => ?_
  rw [mem_value g.good h, v V r]
  unfold rOver
  rw [mem_union, mem_rKeepO, mem_value hg ha, mem_value hg hb, Bool.or_eq_true, Bool.and_eq_true, Bool.not_eq_true']
  have hd : cv c V (mat a r) = true → (domV c V ((n ^ (kk - 1) : Nat) : Int) n b r = false ↔ ∀ y ∈ mValue c V b, y / ((n ^ (kk - 1) : Nat) : Int) ≠ r / ((n ^ (kk - 1) : Nat) : Int)) := by
    intro hr
    have hr1 : 0 ≤ r ∧ r < ((n ^ kk : Nat) : Int) := by
      have hm := (mem_value hg ha r).2 hr
      unfold mValue at hm
      obtain ⟨y, hy, rfl⟩ := List.mem_map.1 hm
      exact ha.ranks y (List.mem_filter.1 hy).1
    have q0 : 0 ≤ r / ((n ^ (kk - 1) : Nat) : Int) := Int.ediv_nonneg hr1.1 (by omega)
    have q1 : r / ((n ^ (kk - 1) : Nat) : Int) < n := by
      refine Int.ediv_lt_of_lt_mul (by omega) ?_
      have := hr1.2; rw [hNP] at this; rw [Int.natCast_mul] at this; exact this
    obtain ⟨q, hq⟩ : ∃ q : Nat, r / ((n ^ (kk - 1) : Nat) : Int) = q := ⟨(r / ((n ^ (kk - 1) : Nat) : Int)).toNat, by omega⟩
    unfold domV
    rw [hq] at q1 ⊢
    rw [show ((q : Int)).toNat = q from rfl, decide_eq_true (by omega : q < n), Bool.true_and]
    rw [mValue_cv V hb]
    unfold domRow
    rw [List.any_eq_false]
    constructor
    · intro hh y hy e
      obtain ⟨z, hz, rfl⟩ := List.mem_map.1 hy
      obtain ⟨z1, z2⟩ := List.mem_filter.1 hz
      refine hh z.ref (List.mem_map_of_mem (List.mem_filter.2 ⟨z1, ?_⟩)) z2
      exact beq_iff_eq.2 e
    · intro hh x hx hxt
      obtain ⟨z, hz, rfl⟩ := List.mem_map.1 hx
      obtain ⟨z1, z2⟩ := List.mem_filter.1 hz
      exact hh z.rank (List.mem_map_of_mem (List.mem_filter.2 ⟨z1, hxt⟩)) (beq_iff_eq.1 z2)
  constructor
  · rintro (⟨h1, h2⟩ | h1)
    · exact .inr ⟨h1, (hd h1).1 h2⟩
    · exact .inl h1
  · rintro (h1 | ⟨h1, h2⟩)
    · exact .inr h1
    · exact .inl ⟨h1, (hd h1).2 h2⟩

end Go.Proofs.Ytadilppdlbhjnaa

namespace Go.Proofs.Ytadilppdlbhjnaa
set_option linter.unusedSimpArgs false
set_option linter.unusedVariables false
open Go.RowKit

theorem mem_val {c : List Gate} {N : Int} {m : List Cell} (V : List Bool) (h : MOk c N m) (r : Int) : r ∈ mValue c V m ↔ ∃ x ∈ m, cv c V x.ref = true ∧ x.rank = r := by
  rw [mValue_cv V h]
  simp only [List.mem_map, List.mem_filter]
  constructor
  · rintro ⟨x, ⟨h1, h2⟩, h3⟩; exact ⟨x, h1, h2, h3⟩
  · rintro ⟨x, h1, h2, h3⟩; exact ⟨x, ⟨h1, h2⟩, h3⟩
theorem join_rel {c : List Gate} {A B : Int} {N : Nat} {n p : Int} {a b : List Cell} (hg : Good c) (hl : c.length + 2 * (a.length * b.length) ≤ 20000) (ha : MOk c A a) (hb : MOk c B b) (hN : ∀ t ∈ jpairs n p a b, 0 ≤ t.rank ∧ t.rank < (N : Int)) (V : List Bool) :
    mValue (mJoin c N n p a b).1 V (mJoin c N n p a b).2 = rJoin n p (mValue c V a) (mValue c V b) := by
  obtain ⟨g, h, v⟩ := join_ok hg hl ha hb hN
  refine rs_ext (value_rs V h) (nrm_rs _) fun r => ?_
  rw [mem_value g.good h, v V r, mem_join, List.any_eq_true]
  constructor
  · rintro ⟨t, ht, htt⟩
    rw [Bool.and_eq_true, Bool.and_eq_true, beq_iff_eq] at htt
    obtain ⟨x, hx, y, hy, h1, rfl⟩ := mem_jpairs.1 ht
    exact ⟨x.rank, (mem_val V ha _).2 ⟨x, hx, htt.2.1, rfl⟩, y.rank, (mem_val V hb _).2 ⟨y, hy, htt.2.2, rfl⟩, h1.symm, htt.1.symm⟩
  · rintro ⟨x, hx, y, hy, h1, h2⟩
    obtain ⟨X, hX, hXt, rfl⟩ := (mem_val V ha x).1 hx
    obtain ⟨Y, hY, hYt, rfl⟩ := (mem_val V hb y).1 hy
    refine ⟨_, mem_jpairs.2 ⟨X, hX, Y, hY, h1.symm, rfl⟩, ?_⟩
    rw [Bool.and_eq_true, Bool.and_eq_true, beq_iff_eq]
    exact ⟨h2.symm, hXt, hYt⟩
/-- what the law wants of the join -/
structure PJ (V : List Bool) (c d : List Gate) (N : Nat) (m : List Cell) (l : List Int) : Prop where
  good : Good d
  len : d.length ≤ 10000
  ok : MOk d (N : Int) m
  mlen : m.length ≤ 81
  val : mValue d V m = l
section
variable {c : List Gate} {a b : List Cell} {n kk k2 : Nat} (hk0 : 0 < kk) (hk : kk ≤ 2) (h20 : 0 < k2) (h2 : k2 ≤ 2) (hn0 : 0 < n) (hn : n ≤ 3) (hg : Good c) (hcl : c.length ≤ 61)
  (ha : MOk c ((n ^ kk : Nat) : Int) a) (hb : MOk c ((n ^ k2 : Nat) : Int) b)
end
end Go.Proofs.Ytadilppdlbhjnaa

namespace Go.Proofs.Ytadilppdlbhjnaa
set_option linter.unusedSimpArgs false
set_option linter.unusedVariables false
open Go.RowKit

theorem pair_eq {α β : Type} {x : α × β} {c : α} (h : x.1 = c) : x = (c, x.2) := by subst h; rfl
theorem cnew_l : cnew.length = 1 := rfl
theorem k_orAll : ∀ (l : List Int) (s : Int), K01 s → (∀ x ∈ l, K01 x) → (orAll l (cnew, s)).1 = cnew ∧ K01 (orAll l (cnew, s)).2
  | [], s, hs, _ => ⟨rfl, hs⟩
  | x :: l, s, hs, hl => by
    obtain ⟨h1, h2⟩ := k_or hs (hl x (List.mem_cons_self ..))
    have e : orAll (x :: l) (cnew, s) = orAll l ((cor cnew s x).1, (cor cnew s x).2) := rfl
    rw [e, h1]
    exact k_orAll l _ h2 fun y hy => hl y (List.mem_cons_of_mem _ hy)
theorem k_domTo {p : Int} {b : List Cell} (hb : KM b) : ∀ k, (domTo p b cnew k).1 = cnew ∧ ∀ r ∈ (domTo p b cnew k).2, K01 r
  | 0 => ⟨rfl, fun r hr => by cases hr⟩
  | k + 1 => by
    obtain ⟨h1, h2⟩ := k_domTo (p := p) hb k
    have hr : ∀ x ∈ domRow p b k, K01 x := fun x hx => by
      obtain ⟨y, hy, rfl⟩ := List.mem_map.1 hx
      exact .inl (hb y (List.mem_filter.1 hy).1)
    obtain ⟨h3, h4⟩ := k_orAll (domRow p b k) 1 (.inr rfl) hr
    unfold domTo
    rw [h1]
    refine ⟨h3, fun r hr => ?_⟩
    rcases List.mem_append.1 hr with q | q
    · exact h2 r q
    · rw [List.mem_singleton.1 q]; exact h4
theorem k_over {p : Int} {doms : List Int} (hd : ∀ r ∈ doms, K01 r) : ∀ (T : List Tri) (m : List Cell), KM m → (∀ t ∈ T, K01 t.p ∧ K01 t.q) → (overRun p doms T (cnew, m)).1 = cnew ∧ KM (overRun p doms T (cnew, m)).2
  | [], m, hm, _ => ⟨rfl, hm⟩
  | t :: T, m, hm, ht => by
    obtain ⟨hp, hq⟩ := ht t (List.mem_cons_self ..)
    have hg : K01 (doms.getD (t.rank / p).toNat 1) := by
      rw [List.getD_eq_getElem?_getD]
      cases e : doms[(t.rank / p).toNat]? with
      | none => exact .inr rfl
      | some x => exact hd x (List.mem_of_getElem? e)
    have hk : (if t.p = 1 then (cnew, 1) else cbut cnew t.p (doms.getD (t.rank / p).toNat 1)).1 = cnew ∧ K01 (if t.p = 1 then (cnew, 1) else cbut cnew t.p (doms.getD (t.rank / p).toNat 1)).2 := by
      split
      · exact ⟨rfl, .inr rfl⟩
      · exact k_but hp hg
    obtain ⟨h1, h2⟩ := k_or hk.2 hq
    have e : overRun p doms (t :: T) (cnew, m) = overRun p doms T (overStep p doms (cnew, m) t) := rfl
    rw [e]
    unfold overStep
    dsimp only
    rw [hk.1, h1]
    exact k_over hd T _ (hm.put _ h2) fun s hs => ht s (List.mem_cons_of_mem _ hs)
theorem k_override {n : Nat} {p : Int} {a b : List Cell} (sa : Sorted a) (sb : Sorted b) (ha : KM a) (hb : KM b) : (mOverride cnew n p a b).1 = cnew ∧ KM (mOverride cnew n p a b).2 := by
  obtain ⟨h1, h2⟩ := k_domTo (p := p) hb n
  unfold mOverride
  rw [h1]
  exact k_over h2 _ _ (fun x hx => by cases hx) (k_mzip sa sb ha hb)
theorem k_diff {a b : List Cell} (sa : Sorted a) (sb : Sorted b) (ha : KM a) (hb : KM b) : (mDiff cnew a b).1 = cnew ∧ KM (mDiff cnew a b).2 :=
  k_zrun (fun hx hy => k_but hx hy) _ _ (fun x hx => by cases hx) (k_mzip sa sb ha hb)
theorem k_inRun {b : List Cell} (hb : KM b) : ∀ (a : List Cell) (s : Int), K01 s → KM a → (a.foldl (inStep b) (cnew, s)).1 = cnew ∧ K01 (a.foldl (inStep b) (cnew, s)).2
  | [], s, hs, _ => ⟨rfl, hs⟩
  | y :: a, s, hs, ha => by
    obtain ⟨h1, h2⟩ := k_but (.inl (ha y (List.mem_cons_self ..))) (hb.mat y.rank)
    obtain ⟨h3, h4⟩ := k_but hs h2
    have e : (y :: a).foldl (inStep b) (cnew, s) = a.foldl (inStep b) (cbut (cbut cnew y.ref (mat b y.rank)).1 s (cbut cnew y.ref (mat b y.rank)).2) := rfl
    rw [e, h1]
    have e2 : cbut cnew s (cbut cnew y.ref (mat b y.rank)).2 = (cnew, (cbut cnew s (cbut cnew y.ref (mat b y.rank)).2).2) := pair_eq h3
    rw [e2]
    exact k_inRun hb a _ h4 fun x hx => ha x (List.mem_cons_of_mem _ hx)
theorem good_cnew : Good cnew := good_new
/-- a constant matrix is the matrix of its value -/
theorem const_val {c : List Gate} {N : Int} {m : List Cell} (hg : Good c) (h : MOk c N m) (hk : KM m) (V : List Bool) : mConst (mValue c V m) = m := by
  rw [mValue_cv V h]
  have e : (m.filter fun x => cv c V x.ref) = m := List.filter_eq_self.2 fun x hx => by rw [hk x hx]; exact cv_0 hg V
  rw [e]
  unfold mConst
  rw [List.map_map]
  conv => rhs; rw [← List.map_id m]
  refine List.map_congr_left fun x hx => ?_
  have := hk x hx
  show (⟨x.rank, 0⟩ : Cell) = x
  rw [← this]
theorem cpick_nil (n : Nat) : K01 (cpick [] n) := by
  have h : cpickR [] n = 0 := by unfold cpickR; simp
  unfold cpick
  rw [h]
  split
  · right; decide
  · left; rfl
theorem km_made (vs : List Nat) (N : Nat) : KM (mMade [] vs N) := by
  have key : ∀ k, KM (mkTo [] vs k) := by
    intro k
    induction k with
    | zero => intro x hx; cases hx
    | succ k ih =>
      rw [mkTo]
      split
      · rename_i h
        intro x hx
        rcases List.mem_append.1 hx with q | q
        · exact ih x q
        · rw [List.mem_singleton.1 q]
          exact (cpick_nil _).resolve_right h.2
      · exact ih
  exact key _
theorem mok_made (vs : List Nat) (N : Nat) : MOk cnew (N : Int) (mMade [] vs N) := mMade_ok (fun r hr => by cases hr) good_cnew.ne vs N

/-- what the law wants of two constant matrices -/
theorem konst_plain {kk n : Nat} {a b : List Cell} (hk0 : 0 < kk) (hk : kk ≤ 2) (hn : n ≤ 3) (hn0 : 0 < n) (ha : MOk cnew ((n ^ kk : Nat) : Int) a) (hb : MOk cnew ((n ^ kk : Nat) : Int) b) (ka : KM a) (kb : KM b) (V : List Bool) :
    ∃ m1 m2 m3 r, mUnion cnew a b = (cnew, m1) ∧ mDiff cnew a b = (cnew, m2) ∧ mOverride cnew n ((n ^ (kk - 1) : Nat) : Int) a b = (cnew, m3) ∧ mIn cnew a b = (cnew, r) ∧
      mConst (mValue cnew V a) = a ∧ mConst (rUnion (mValue cnew V a) (mValue cnew V b)) = m1 ∧ mConst (rDiff (mValue cnew V a) (mValue cnew V b)) = m2 ∧ mConst (rOver (n ^ (kk - 1)) (mValue cnew V a) (mValue cnew V b)) = m3 ∧
      m1.length ≤ 9 ∧ m2.length ≤ 9 ∧ m3.length ≤ 9 ∧ ((r = 0 ∧ ((rDiff (mValue cnew V a) (mValue cnew V b)).length == 0) = true) ∨ (r = 1 ∧ ((rDiff (mValue cnew V a) (mValue cnew V b)).length == 0) = false)) := by
  have hg := good_cnew
  have n1 := (pow_9 hn hk : n ^ kk ≤ 9)
  have ha9 : a.length ≤ 9 := Nat.le_trans ha.len n1
  have hb9 : b.length ≤ 9 := Nat.le_trans hb.len n1
  have hnb : n * b.length ≤ 3 * 9 := Nat.mul_le_mul hn hb9
  have hcl : cnew.length ≤ 61 := by rw [cnew_l]; omega
  obtain ⟨k1, q1⟩ := k_union ha.sorted hb.sorted ka kb
  obtain ⟨k2, q2⟩ := k_diff ha.sorted hb.sorted ka kb
  obtain ⟨k3, q3⟩ := k_override (n := n) (p := ((n ^ (kk - 1) : Nat) : Int)) ha.sorted hb.sorted ka kb
  obtain ⟨k4, q4⟩ := k_inRun kb a 0 (.inl rfl) ka
  have r1 := union_rel hg (by omega) ha hb V
  have r2 := diff_rel hg (by omega) ha hb V
  have r3 := over_rel (n := n) hk0 hn0 hg (by omega) ha hb V
  obtain ⟨-, o1, -⟩ := union_ok hg (by omega) ha hb
  obtain ⟨-, o2, -⟩ := diff_ok hg (by omega) ha hb
  obtain ⟨-, o3, -⟩ := override_ok (P := ((n ^ (kk - 1) : Nat) : Int)) (n := n) hg ha hb (by omega)
  rw [k1] at r1 o1; rw [k2] at r2 o2; rw [k3] at r3 o3
  refine ⟨(mUnion cnew a b).2, (mDiff cnew a b).2, (mOverride cnew n ((n ^ (kk - 1) : Nat) : Int) a b).2, (mIn cnew a b).2, pair_eq k1, pair_eq k2, pair_eq k3, pair_eq k4, const_val hg ha ka V, ?_, ?_, ?_, Nat.le_trans o1.len n1, Nat.le_trans o2.len n1, Nat.le_trans o3.len n1, ?_⟩
  · rw [← r1]; exact const_val hg o1 q1 V
  · rw [← r2]; exact const_val hg o2 q2 V
  · rw [← r3]; exact const_val hg o3 q3 V
  · obtain ⟨d1, r, d2, r2, d3, r3', e1, -, -, -, -, g3, -, -, -, -, -, hev⟩ := preds_plain hg hcl ha hb ha9 hb9
    have e2 : mIn cnew a b = (cnew, (mIn cnew a b).2) := pair_eq k4
    rw [e2] at e1
    obtain ⟨rfl, rfl⟩ := Prod.mk.inj e1
    have ev := (hev V).1
    rcases q4 with q | q
    · have q' : (mIn cnew a b).2 = 0 := q
      rw [q'] at ev ⊢
      left; refine ⟨rfl, ev.symm.trans ?_⟩
      exact (ceval_cv (by omega) (by have := g3.ne; omega)).trans (cv_0 g3 V)
    · have q' : (mIn cnew a b).2 = 1 := q
      rw [q'] at ev ⊢
      right; refine ⟨rfl, ev.symm.trans ?_⟩
      exact (ceval_cv (by omega) (by have := g3.ne; omega)).trans (cv_1 g3 V)
theorem konst_join {kk k2 n : Nat} {a z : List Cell} (hk0 : 0 < kk) (hk : kk ≤ 2) (h20 : 0 < k2) (h2 : k2 ≤ 2) (hn : n ≤ 3) (hn0 : 0 < n) (ha : MOk cnew ((n ^ kk : Nat) : Int) a) (hz : MOk cnew ((n ^ k2 : Nat) : Int) z) (ka : KM a) (kz : KM z) (V : List Bool) :
    ∃ m, mJoin cnew (n ^ (kk - 1 + (k2 - 1))) n ((n ^ (k2 - 1) : Nat) : Int) a z = (cnew, m) ∧ mConst (mValue cnew V z) = z ∧ mConst (rJoin n ((n ^ (k2 - 1) : Nat) : Int) (mValue cnew V a) (mValue cnew V z)) = m ∧ m.length ≤ 9 := by
  have hg := good_cnew
  have hcl : cnew.length ≤ 10000 := by rw [cnew_l]; omega
  obtain ⟨k1, l1, rfl, rfl, h3, ha9, hb9, hT⟩ := joinL_facts hk0 hk h20 h2 hn0 hn ha hz
  have hab : a.length * z.length ≤ 81 := Nat.mul_le_mul ha9 hb9
  have hcl1 : cnew.length = 1 := cnew_l
  obtain ⟨-, o1, -⟩ := join_ok (N := n ^ (k1 + l1)) hg (by omega) ha hz hT
  have r1 := join_rel (N := n ^ (k1 + l1)) hg (by omega) ha hz hT V
  obtain ⟨k, q⟩ := k_join (N := n ^ (k1 + l1)) (n := n) (p := ((n ^ l1 : Nat) : Int)) ka kz
  rw [k] at r1 o1
  refine ⟨(mJoin cnew (n ^ (k1 + l1)) n ((n ^ l1 : Nat) : Int) a z).2, pair_eq k, const_val hg hz kz V, ?_, Nat.le_trans o1.len (pow_9 hn h3)⟩
  show mConst (rJoin n ((n ^ l1 : Nat) : Int) _ _) = _
  rw [← r1]
  exact const_val hg o1 q V
end Go.Proofs.Ytadilppdlbhjnaa
