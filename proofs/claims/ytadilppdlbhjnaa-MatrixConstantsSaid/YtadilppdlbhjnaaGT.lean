/- Texts R6, R7, R8, LB2 in one. -/
import Derived.Test.YtadilppdlbhjnaaGS
import Derived.Test.YtadilppdlbhjnaaLB
import Derived.Test.YtadilppdlbhjnaaHA15
namespace Go.Proofs.Ytadilppdlbhjnaa
set_option linter.unusedSimpArgs false
set_option linter.unusedVariables false
open Go.RowKit Go.Maps Go.Shelf
attribute [local go_sem] Oper.semAt_some

/-- What a round must keep: all blocks below N but bo. -/
def LowEq (N bo : Nat) (W W' : World) : Prop := W.heap.size ≤ W'.heap.size ∧ ∀ k, k < N → k ≠ bo → W'.heap[k]? = W.heap[k]?
theorem LowEq.refl (N bo : Nat) (W : World) : LowEq N bo W W := ⟨Nat.le_refl _, fun _ _ _ => rfl⟩
theorem LowEq.trans {N bo : Nat} {A B C : World} (h : LowEq N bo A B) (k : LowEq N bo B C) : LowEq N bo A C := ⟨Nat.le_trans h.1 k.1, fun i h1 h2 => (k.2 i h1 h2).trans (h.2 i h1 h2)⟩
theorem LowEq.put {N bo : Nat} {w : World} (hN : N ≤ w.heap.size) (W : World) (l : Nat) (o o' : Obj) (hl : w.heap.size ≤ l) (h : W.heap[l]? = some o) (_ : o.isCells = false) (_ : o.isWalk = false) : LowEq N bo W (W.putObj l o') :=
  ⟨Nat.le_of_eq (by simp [World.putObj]), fun k hk _ => World.putObj_heap_other (by omega)⟩
theorem LowEq.cell {bo : Nat} {w W : World} (h : LowEq w.heap.size bo w W) {b o : Nat} {v : Value} (hc : w.cell? ⟨b, o, none⟩ = some v) (hb : b ≠ bo) : W.cell? ⟨b, o, none⟩ = some v := by
  rw [World.cell?_of_block (w := w) (h.2 b (World.block_lt_of_cell? _ _ hc) hb)]; exact hc
theorem LowEq.up {bo : Nat} {w W W' : World} (h : LowEq w.heap.size bo w W) (hB : Below W.heap.size W W') : LowEq w.heap.size bo w W' := ⟨Nat.le_trans h.1 hB.size, fun k hk hb => (hB.block k (by have := h.1; omega)).trans (h.2 k hk hb)⟩
theorem jrow_rows (n p : Int) (b : List Int) (x : Int) : jrow n p b x = (rowsOf p b (x % n)).map fun y => x / n * p + y := rfl
theorem jouts_snoc {n p : Int} {a b : List Int} {K : Nat} {x : Int} (h : a[K]? = some x) : jouts n p (a.take (K + 1)) b = jouts n p (a.take K) b ++ jrow n p b x := by
  obtain ⟨h1, h2⟩ := List.getElem?_eq_some_iff.1 h
  unfold jouts
  rw [List.take_succ_eq_append_getElem h1, h2, List.flatMap_append]; simp
/-- a part of the outputs is shorter than all of them -/
theorem jouts_lt {n p : Int} {a b : List Int} {K I : Nat} {x : Int} (h : a[K]? = some x) (hI : I < (rowsOf p b (x % n)).length) : (jouts n p (a.take K) b ++ ((rowsOf p b (x % n)).take I).map fun y => x / n * p + y).length < (jouts n p a b).length := by
  have e : a = a.take (K + 1) ++ a.drop (K + 1) := (List.take_append_drop _ _).symm
  have h1 : (jouts n p a b).length = (jouts n p (a.take (K + 1)) b).length + (jouts n p (a.drop (K + 1)) b).length := by
    conv => lhs; rw [e]
    unfold jouts
    rw [List.flatMap_append, List.length_append]
  rw [h1, jouts_snoc h, jrow_rows, List.length_append, List.length_append, List.length_map, List.length_map, List.length_take]
  omega
theorem rowsOf_mem {p : Int} {b : List Int} {r y : Int} (h : y ∈ rowsOf p b r) : ∃ z ∈ b, y = z % p := by
  unfold rowsOf at h
  obtain ⟨z, hz, rfl⟩ := List.mem_map.1 h
  exact ⟨z, (List.mem_filter.1 hz).1, rfl⟩

set_option maxRecDepth 100000 in
set_option maxHeartbeats 4000000 in
theorem matches_stops (m0 : Nat) (hm0 : 1 ≤ m0) (n p : Nat) (a b : List Int) (B ba bb bn bs bm nn bo : Nat) (pa : Option Addr) (ca : Nat) (S : Int → Value) (w : World) (hM : MSt w B ba bb bn bs bm nn n p a pa ca S (rowsOf p b)) (hA : SI w pa ca a) (hbo : bo < B) (hpo : ∀ ad, pa = some ad → ad.block ≠ bo)
    (hla : a.length ≤ 20000) (hlb : b.length ≤ 20000) (hra : ∀ x ∈ a, 0 ≤ x ∧ x < 2000) (hrb : ∀ x ∈ b, 0 ≤ x ∧ x < 2000) (hn0 : 0 < n) (hp0 : 0 < p) (hp1 : p ≤ 1728) :
    SeqStopsK Fence.wide m0 Try.prog 140 #[.pointer (some ⟨ba, 0, none⟩), .pointer (some ⟨bb, 0, none⟩), .pointer (some ⟨bn, 0, none⟩), .pointer (some ⟨bs, 0, none⟩)] (fun t : Int => #[.int .i64 t]) (LowEq w.heap.size bo) (fun xs => xs = jouts n p a b) (fun _ => True) (jouts n p a b).length w := by
  intro l J Jx W hB hJ hJx hY h0
  refine callsIn_wide.2 ?_
  show Calls Try.prog 140 #[.func (.yield l) #[] #[], .pointer (some ⟨ba, 0, none⟩), .pointer (some ⟨bb, 0, none⟩), .pointer (some ⟨bn, 0, none⟩), .pointer (some ⟨bs, 0, none⟩)] W _
  have hle : LowEq w.heap.size bo w W := ⟨hB.size, fun k hk _ => hB.block k hk⟩
  obtain ⟨h1, h2, h3, h4, h5⟩ := hM.hB
  have e1 := hle.cell hM.a1 (by omega)
  have hsz := hB.size
  have HY := Lib.hid hY; have HJ := Lib.hid hJ; have HJX := Lib.hid hJx; have H0 := Lib.hid h0; have HMS := Lib.hid hM; have HA := Lib.hid hA; have HPO := Lib.hid hpo; have HRA := Lib.hid hra; have HRB := Lib.hid hrb
  clear hY hJ hJx h0 hM hA hpo hra hrb hB
  go_enter Try.func140, Try.ntmps140
  go_wp2_with fail
  go_loopg [13] a.length (fun M s13 wr => ∃ (K : Nat) (pre : List Int), s13 = .int .i64 K ∧ K ≤ a.length ∧ M = a.length - K ∧ pre = jouts n p (a.take K) b ∧ J pre wr ∧ LowEq w.heap.size bo w wr )
  case atStart => exact ⟨0, [], rfl, by omega, rfl, rfl, H0.out, hle⟩
  case round =>
    clear hle H0 e1
    obtain ⟨K, pre, rfl, hK, hMm, hpre, hj, hle⟩ := hrel
    have HMm := Lib.hid hMm; have HPRE := Lib.hid hpre; have HJ1 := Lib.hid hj; have HLE := Lib.hid hle
    clear hMm hpre hj hle
    by_cases hlt : K < a.length
    case neg =>
      obtain rfl : K = a.length := by omega
      go_wp2_with fail
      go_end0
      exact ⟨⟨_, rfl⟩, .inl ⟨pre, by have := HPRE.out; rw [List.take_length] at this; exact this, HJ1.out⟩⟩
    case pos =>
      have hlt0 : (0 : Int) ≤ (K : Int) := by omega
      have hlt1 : (K : Int) < (a.length : Int) := by omega
      obtain ⟨x, hx⟩ : ∃ x, a[K]? = some x := ⟨_, List.getElem?_eq_getElem hlt⟩
      obtain ⟨bx, off, rfl, hbx, j0⟩ := int_cell HA.out.at' hx
      replace j0 := HLE.out.cell j0 (HPO.out _ rfl)
      have m0' := HLE.out.cell HMS.out.m0 (by omega)
      have n0' := HLE.out.cell HMS.out.n0 (by omega)
      have p0' := HLE.out.cell HMS.out.p0 (by omega)
      have hxr := HRA.out x (List.mem_of_getElem? hx)
      obtain ⟨a1, a2, a3, a4, a5, a6, a7⟩ := quo_rem (x := x) (n := n) hxr.1 (by omega) hn0
      obtain ⟨qq, hqq⟩ : ∃ z, x / (n : Int) = z := ⟨_, rfl⟩
      obtain ⟨ky, hky⟩ : ∃ z, x % (n : Int) = z := ⟨_, rfl⟩
      rw [hqq] at a1 a4 a5; rw [hky] at a2 a3 a6 a7
      have HQQ := Lib.hid hqq; have HKY := Lib.hid hky; have HXX := Lib.hid hx
      have hky1 : ky < 100000 := by omega
      obtain ⟨F, hF⟩ : ∃ F, rowsOf p b ky = F := ⟨_, rfl⟩
      have hown : OwnR w B (S ky) F := by rw [← hF]; exact HMS.out.rows.own ky
      obtain ⟨q, cq, hSq, o1, o2, o3, o4⟩ := owns_val (by decide) hown
      have HO4 := Lib.hid o4; have HF := Lib.hid hF; have HSQ := Lib.hid hSq
      have HQB := Lib.hid (show ∀ ad, q = some ad → ad.block ≠ bo from fun ad h => by have := (hown.lt ad.block (by rw [hSq, h]; cases ad; rfl)).1; omega)
      have HBY := Lib.hid (show ByAt wr bm nn S from HMS.out.by'.keep (HLE.out.2 bm HMS.out.by'.lt (by omega)))
      have hbml := HBY.out.lt
      have hm1 : 0 ≤ qq * (p : Int) := Int.mul_nonneg a4 (by omega)
      have hm2 : qq * (p : Int) ≤ 2000 * 1728 := Int.mul_le_mul (by omega) (by omega) (by omega) (by omega)
      obtain ⟨mq, hmq⟩ : ∃ z, qq * (p : Int) = z := ⟨_, rfl⟩
      rw [hmq] at hm1 hm2
      have hwq : IntKind.i64.wrap (qq * (p : Int)) = mq := by rw [hmq, IntWalk.i64_in]; omega
      have HMQ := Lib.hid hmq
      have hn00 : ¬ n = 0 := by omega
      have hFl : F.length ≤ 20000 := by rw [← hF]; exact Nat.le_trans (rowsOf_len _ _ _) hlb
      have HFR := Lib.hid (show ∀ y ∈ F, 0 ≤ y ∧ y < 2000 from fun y hy => by
        rw [← hF] at hy
        obtain ⟨z, hz, rfl⟩ := rowsOf_mem hy
        obtain ⟨b1, b2, b3, b4, b5, b6, b7⟩ := quo_rem (x := z) (n := p) (HRB.out z hz).1 (by have := (HRB.out z hz).2; omega) hp0
        have := (HRB.out z hz).2
        omega)
      clear hqq hky hx hF o4 hown hmq hbx hSq
      go_upto_region 3 with fail
      refine wp_region_seqE (fun x => Below wr.heap.size wr x) (.one 0 0 (.one 1 1 (.one 2 0 (.one 3 1 (.one 4 0 (.one 5 1 (.one 6 1 .nil))))))) (by kernel_rfl) (by kernel_rfl) (by kernel_rfl) (Below.drew (Below.refl _ _)) ?_
      iterate 7 (first | (refine seqE_free (v := ?_) rfl (by rfl) ?_ ?_; rotate_left; (focus (intro w; go_simp; try with_reducible rfl)); (try simp only [Act.put, List.setIfInBounds_toArray, List.set_cons_zero, List.set_cons_succ])) | (refine seqE_pure (v := ?_) rfl (by rfl) ?_ ?_; rotate_left; (focus (intro w hS; have e5 := oldcell hS m0' (World.block_lt_of_cell? _ _ m0'); have e6 := oldcell hS n0' (World.block_lt_of_cell? _ _ n0'); have el := (HBY.out.keep (hS.block _ hbml)).look a6 hky1; rw [HSQ.out] at el; go_simp; try with_reducible rfl)); (try simp only [Act.put, List.setIfInBounds_toArray, List.set_cons_zero, List.set_cons_succ])))
      refine seqE_nil ?_
      intro wz hS
      have HJz := Lib.hid (show J pre wz from HJ.out pre wr wz none HJ1.out (grown_below hS) (fun r e => by cases e))
      have HLZ := Lib.hid (show LowEq w.heap.size bo w wz from HLE.out.up hS)
      clear hS HJ1 HLE j0 m0' n0' p0' HBY hbml
      go_wp2_with fail
      go_loopg [23] F.length (fun M2 s23 wq => ∃ (I : Nat) (pre2 : List Int), s23 = .int .i64 I ∧ I ≤ F.length ∧ M2 = F.length - I ∧ pre2 = pre ++ ((F.take I).map fun y => mq + y) ∧ J pre2 wq ∧ LowEq w.heap.size bo w wq )
      case atStart => exact ⟨0, pre, rfl, by omega, rfl, by simp, HJz.out, HLZ.out⟩
      case round =>
        clear HJz HLZ
        obtain ⟨I, pre2, rfl, hI, hM2, hpre2, hj2, hle2⟩ := hrel
        have HM2 := Lib.hid hM2; have HPRE2 := Lib.hid hpre2; have HJ2 := Lib.hid hj2; have HLE2 := Lib.hid hle2
        clear hM2 hpre2 hj2 hle2
        by_cases hlt2 : I < F.length
        case neg =>
          obtain rfl : I = F.length := by omega
          go_wp2_with fail
          go_roundg (a.length - (K + 1))
          case measure => (have := HMm.out; omega)
          case rel => exact ⟨K + 1, pre2, by go_num, by omega, rfl, by rw [jouts_snoc HXX.out, jrow_rows, HKY.out, HQQ.out, HMQ.out, HF.out, HPRE2.out, HPRE.out, List.take_length], HJ2.out, HLE2.out⟩
        case pos =>
          have hlt3 : (0 : Int) ≤ (I : Int) := by omega
          have hlt4 : (I : Int) < (F.length : Int) := by omega
          obtain ⟨y, hy⟩ : ∃ y, F[I]? = some y := ⟨_, List.getElem?_eq_getElem hlt2⟩
          obtain ⟨by', oy, rfl, hby', jy⟩ := int_cell HO4.out hy
          replace jy := HLE2.out.cell jy (HQB.out _ rfl)
          have n0' := HLE2.out.cell HMS.out.n0 (by omega)
          have p0' := HLE2.out.cell HMS.out.p0 (by omega)
          have hyr := HFR.out y (List.mem_of_getElem? hy)
          have hws : IntKind.i64.wrap (mq + y) = mq + y := by rw [IntWalk.i64_in]; omega
          have HYY := Lib.hid hy
          clear hy hby'
          have hjd : J pre2 wr.drew := HJ.out pre2 wr wr.drew none HJ2.out (grown_below (Below.drew (Below.refl _ _))) (fun r e => by cases e)
          have hlen : pre2.length < (jouts n p a b).length := by
            have := jouts_lt (n := (n : Int)) (p := (p : Int)) (b := b) (I := I) HXX.out (by rw [HKY.out, HF.out]; exact hlt2)
            rw [HKY.out, HQQ.out, HMQ.out, HF.out] at this
            rw [HPRE2.out, HPRE.out]; exact this
          obtain ⟨fn, tmps, assign, body, hy', hR⟩ := HY.out pre2 (mq + y) wr.drew hjd hlen
          have HRR := Lib.hid hR
          clear hR hjd hlen
          go_upto_region 6 with fail
          refine (wpIn_wide (n := m0)).1 ?_
          refine wpIn_region_any (by kernel_rfl) ?_
          (try change wpAnyIn _ _ _ _ _ _ _ _ _ (World.drew _))
          refine wpAnyIn_take (i := 0) (v := ?_) rfl rfl (by kernel_rfl) (by kernel_rfl) (by kernel_rfl) (fun _ _ _ h => h) ⟨Or.inl ⟨by rfl, ?_⟩, fun _ => rfl⟩ ?_
          rotate_left
          focus (intro w; go_simp; try with_reducible rfl)
          refine wpAnyIn_take (i := 1) (v := ?_) rfl rfl (by kernel_rfl) (by kernel_rfl) (by kernel_rfl) (fun _ _ _ h => h) ⟨Or.inl ⟨by rfl, ?_⟩, fun _ => rfl⟩ ?_
          rotate_left
          focus (intro w; go_simp; try with_reducible rfl)
          refine wpAnyIn_take (i := 6) (v := ?_) rfl rfl (by kernel_rfl) (by kernel_rfl) (by kernel_rfl) (fun _ _ _ h => h) ⟨Or.inl ⟨by rfl, ?_⟩, fun _ => rfl⟩ ?_
          rotate_left
          focus (intro w; go_simp; try with_reducible rfl)
          refine wpAnyIn_ready (rs := [2, 4]) (by kernel_rfl) (by simp) ?_
          refine AllReadyIn.cons rfl (fun K' hK => ?_) ?_
          ·
            go_simp
            refine hK _ _ ?_
            clear hK K'
            refine wpAnyIn_take (i := 3) (v := ?_) rfl rfl (by kernel_rfl) (by kernel_rfl) (by kernel_rfl) (fun _ _ _ h => h) ⟨Or.inl ⟨by rfl, ?_⟩, fun _ => rfl⟩ ?_
            rotate_left
            focus (intro w; go_simp; try with_reducible rfl)
            refine wpAnyIn_ready (rs := [4]) (by kernel_rfl) (by simp) ?_
            refine AllReadyIn.cons rfl (fun K' hK => ?_) AllReadyIn.nil
            go_simp
            refine hK _ _ ?_
            clear hK K'
            refine wpAnyIn_take (i := 5) (v := ?_) rfl rfl (by kernel_rfl) (by kernel_rfl) (by kernel_rfl) (fun _ _ _ h => h) ⟨Or.inl ⟨by rfl, ?_⟩, fun _ => rfl⟩ ?_
            rotate_left
            focus (intro w; go_simp; try with_reducible rfl)
            refine wpAnyIn_take (i := 7) (v := ?_) rfl rfl (by kernel_rfl) (by kernel_rfl) (by kernel_rfl) (fun _ _ _ h => h) ⟨Or.inl ⟨by rfl, ?_⟩, fun _ => rfl⟩ ?_
            rotate_left
            focus (intro w; go_simp; try with_reducible rfl)
            refine wpAnyIn_ready (rs := [8]) (by kernel_rfl) (by simp) ?_
            refine AllReadyIn.cons rfl (fun K' hK => ?_) AllReadyIn.nil
            go_simp
            refine HRR.out.mono ?_
            rintro e W2 (⟨rfl, hJ3, hk3⟩ | ⟨rfl, hx3⟩)
            · refine hK _ _ ?_
              clear hK K'
              refine wpAnyIn_take (i := 9) (v := ?_) rfl rfl (by kernel_rfl) (by kernel_rfl) (by kernel_rfl) (fun _ _ _ h => h) ⟨Or.inl ⟨by rfl, ?_⟩, fun _ => rfl⟩ ?_
              rotate_left
              focus (intro w; go_simp; try with_reducible rfl)
              refine wpAnyIn_done (by kernel_rfl) ?_ _
              gi_wp2
              go_wp2_with fail
              go_roundg (F.length - (I + 1))
              case measure => (have := HM2.out; omega)
              case rel => exact ⟨I + 1, _, by go_num, by omega, rfl, by rw [HPRE2.out, List.append_assoc]; congr 1; obtain ⟨z1, z2⟩ := List.getElem?_eq_some_iff.1 HYY.out; rw [List.take_succ_eq_append_getElem z1, z2, List.map_append]; rfl, hJ3, HLE2.out.trans ⟨hk3.1, hk3.2⟩⟩
            · refine hK _ _ ?_
              clear hK K'
              refine wpAnyIn_take (i := 9) (v := ?_) rfl rfl (by kernel_rfl) (by kernel_rfl) (by kernel_rfl) (fun _ _ _ h => h) ⟨Or.inl ⟨by rfl, ?_⟩, fun _ => rfl⟩ ?_
              rotate_left
              focus (intro w; go_simp; try with_reducible rfl)
              refine wpAnyIn_done (by kernel_rfl) ?_ _
              gi_wp2
              go_wp2_with fail
              refine bodyPost_ret (results_none rfl _ _ _) rfl ?_
              exact ⟨⟨_, rfl⟩, .inr ⟨_, trivial, hx3⟩⟩
          · refine AllReadyIn.cons rfl (fun K' hK => ?_) AllReadyIn.nil
            go_simp
            refine hK _ _ ?_
            clear hK K'
            refine wpAnyIn_ready (rs := [2]) (by kernel_rfl) (by simp) ?_
            refine AllReadyIn.cons rfl (fun K' hK => ?_) AllReadyIn.nil
            go_simp
            refine hK _ _ ?_
            clear hK K'
            refine wpAnyIn_take (i := 3) (v := ?_) rfl rfl (by kernel_rfl) (by kernel_rfl) (by kernel_rfl) (fun _ _ _ h => h) ⟨Or.inl ⟨by rfl, ?_⟩, fun _ => rfl⟩ ?_
            rotate_left
            focus (intro w; go_simp; try with_reducible rfl)
            refine wpAnyIn_take (i := 5) (v := ?_) rfl rfl (by kernel_rfl) (by kernel_rfl) (by kernel_rfl) (fun _ _ _ h => h) ⟨Or.inl ⟨by rfl, ?_⟩, fun _ => rfl⟩ ?_
            rotate_left
            focus (intro w; go_simp; try with_reducible rfl)
            refine wpAnyIn_take (i := 7) (v := ?_) rfl rfl (by kernel_rfl) (by kernel_rfl) (by kernel_rfl) (fun _ _ _ h => h) ⟨Or.inl ⟨by rfl, ?_⟩, fun _ => rfl⟩ ?_
            rotate_left
            focus (intro w; go_simp; try with_reducible rfl)
            refine wpAnyIn_ready (rs := [8]) (by kernel_rfl) (by simp) ?_
            refine AllReadyIn.cons rfl (fun K' hK => ?_) AllReadyIn.nil
            go_simp
            refine HRR.out.mono ?_
            rintro e W2 (⟨rfl, hJ3, hk3⟩ | ⟨rfl, hx3⟩)
            · refine hK _ _ ?_
              clear hK K'
              refine wpAnyIn_take (i := 9) (v := ?_) rfl rfl (by kernel_rfl) (by kernel_rfl) (by kernel_rfl) (fun _ _ _ h => h) ⟨Or.inl ⟨by rfl, ?_⟩, fun _ => rfl⟩ ?_
              rotate_left
              focus (intro w; go_simp; try with_reducible rfl)
              refine wpAnyIn_done (by kernel_rfl) ?_ _
              gi_wp2
              go_wp2_with fail
              go_roundg (F.length - (I + 1))
              case measure => (have := HM2.out; omega)
              case rel => exact ⟨I + 1, _, by go_num, by omega, rfl, by rw [HPRE2.out, List.append_assoc]; congr 1; obtain ⟨z1, z2⟩ := List.getElem?_eq_some_iff.1 HYY.out; rw [List.take_succ_eq_append_getElem z1, z2, List.map_append]; rfl, hJ3, HLE2.out.trans ⟨hk3.1, hk3.2⟩⟩
            · refine hK _ _ ?_
              clear hK K'
              refine wpAnyIn_take (i := 9) (v := ?_) rfl rfl (by kernel_rfl) (by kernel_rfl) (by kernel_rfl) (fun _ _ _ h => h) ⟨Or.inl ⟨by rfl, ?_⟩, fun _ => rfl⟩ ?_
              rotate_left
              focus (intro w; go_simp; try with_reducible rfl)
              refine wpAnyIn_done (by kernel_rfl) ?_ _
              gi_wp2
              go_wp2_with fail
              refine bodyPost_ret (results_none rfl _ _ _) rfl ?_
              exact ⟨⟨_, rfl⟩, .inr ⟨_, trivial, hx3⟩⟩
end Go.Proofs.Ytadilppdlbhjnaa

namespace Go.Proofs.Ytadilppdlbhjnaa
set_option linter.unusedSimpArgs false
set_option linter.unusedVariables false
open Go.RowKit Go.Maps Go.Shelf
attribute [local go_sem] Oper.semAt_some

/-- What stands between two rounds of relation.Join: the variable at bo holds what was yielded. -/
structure RJI (B bo : Nat) (w0 : World) (pre : List Int) (W : World) (v : Value) : Prop where
  c0 : W.cell? ⟨bo, 0, none⟩ = some v
  fr : W.frozen? ⟨bo, 0, none⟩ = false
  own : OwnR W B v pre
  kx : KeepX [bo] w0 W
theorem RJI.ownF {B bo : Nat} {w0 : World} (hs : w0.heap.size ≤ B) : OwnFrom B (fun pre W => ∃ v, RJI B bo w0 pre W v) := by
  rintro pre W W' row ⟨v, h⟩ hg hr0
  have hr : ∀ r, row = some r → ∃ o : Obj, W.heap[r]? = some o ∧ o.isCells = false := fun r e => (hr0 r e).2
  refine ⟨v, cell_kept h.c0 hg hr, (frozen_kept h.c0 hg hr).trans h.fr, owns_kept h.own hg hr, ?_⟩
  exact ⟨hg.os.trans h.kx.os, hg.tape.trans h.kx.tape, hg.output.trans h.kx.output, Nat.le_trans h.kx.size hg.size, fun k hk hx => (hg.block k (Nat.lt_of_lt_of_le hk h.kx.size) (fun e => by have := (hr0 k e.symm).1; omega)).trans (h.kx.block k hk hx)⟩

/-- what a round leaves -/
theorem RJI.next {B bo : Nat} {w0 W W1 : World} {pre : List Int} {v v2 : Value} {x : Int} (h : RJI B bo w0 pre W v) (hbo : bo < B) (hB : w0.heap.size = B) (hk1 : KeepX (rowOf v) W W1) (ho : OwnR W1 B v2 (pre ++ [x])) :
    KeepsFrom B W (W1.setCell ⟨bo, 0, none⟩ v2) ∧ LowEq B bo W (W1.setCell ⟨bo, 0, none⟩ v2) ∧ ∃ v', RJI B bo w0 (pre ++ [x]) (W1.setCell ⟨bo, 0, none⟩ v2) v' := by
  have hrow : ∀ k, k ∈ rowOf v → B ≤ k ∧ k < W.heap.size := fun k hk => h.own.lt k (rowOf_mem hk)
  have hnb : bo ∉ rowOf v := fun hm => by have := (hrow _ hm).1; omega
  have KT : KeepX (bo :: rowOf v) W (W1.setCell ⟨bo, 0, none⟩ v2) := (hk1.sub fun k hk => List.mem_cons_of_mem _ hk).setCell (by simp) _
  have c1 := hk1.cell h.c0 hnb
  have f1 := hk1.free h.fr (World.block_lt_of_cell? _ _ h.c0) hnb
  refine ⟨⟨KT.size, fun k o hBk ho' hc => ?_⟩, ⟨KT.size, fun k hk hne => ?_⟩, v2, World.cell?_setCell_same _ _ _ c1, by rw [World.frozen?_setCell]; exact f1, ho.keep (X := [bo]) ((KeepX.refl [bo] W1).setCell (by simp) _) (fun k hk hm => by have := (ho.lt k hk).1; rw [List.mem_singleton.1 hm] at this; omega), ?_⟩
  · rw [KT.block k (Array.getElem?_eq_some_iff.1 ho').1 (fun hm => ?_)]
    · exact ho'
    · rcases List.mem_cons.1 hm with e | hm
      · omega
      · have hv := rowOf_mem hm
        rcases h.own.2 with ⟨h0, _⟩ | ⟨g, cap, cur, hg', _, hh, _⟩
        · rw [h0] at hv; cases hv
        · rw [hg'] at hv; cases hv
          rw [hh] at ho'; cases ho'; cases hc
  · refine KT.block k ?_ fun hm => ?_
    · have := h.kx.size; omega
    · rcases List.mem_cons.1 hm with e | hm
      · exact hne e
      · have := (hrow k hm).1; omega
  · exact ((h.kx.sub (by simp)).trans KT).fresh fun k hk => by
      rcases List.mem_cons.1 hk with e | hm
      · exact .inl (by rw [e]; simp)
      · exact .inr (by have := (hrow k hm).1; omega)
theorem MSt.up {w w' : World} {B ba bb bn bs bm nn : Nat} {n p : Int} {a : List Int} {pa : Option Addr} {ca : Nat} {S : Int → Value} {F : Int → List Int} (h : MSt w B ba bb bn bs bm nn n p a pa ca S F) (hB : Below w.heap.size w w') : MSt w' B ba bb bn bs bm nn n p a pa ca S F :=
  ⟨oldcell hB h.a1 (World.block_lt_of_cell? _ _ h.a1), oldcell hB h.m0 (World.block_lt_of_cell? _ _ h.m0), oldcell hB h.n0 (World.block_lt_of_cell? _ _ h.n0), oldcell hB h.p0 (World.block_lt_of_cell? _ _ h.p0), h.by'.keep (hB.block _ h.by'.lt), h.rows.keep (X := []) (KeepX.of_below hB) (by simp), h.hB⟩

set_option maxRecDepth 100000 in
set_option maxHeartbeats 4000000 in
theorem reljoin_any (n k1 k2 p : Nat) (a b : List Int) (ar1 ar2 : Int) (pa pb : Option Addr) (ca cb : Nat) (w : World) (hA : SI w pa ca a) (hD : SI w pb cb b) (hla : a.length ≤ 20) (hlb : b.length ≤ 20) (hra : ∀ x ∈ a, 0 ≤ x ∧ x < 2000) (hrb : ∀ x ∈ b, 0 ≤ x ∧ x < 2000)
    (hn0 : 0 < n) (hn : n ≤ 12) (ha1 : ar1 = (k1 : Int) + 1) (ha2 : ar2 = (k2 : Int) + 1) (hk0 : 1 ≤ k1 + k2) (hk3 : k1 + k2 ≤ 3) (hp : n ^ k2 = p) :
    Calls Try.prog 62 #[.int .i64 n, .agg #[.int .i64 ar1, .slice pa a.length ca], .agg #[.int .i64 ar2, .slice pb b.length cb]] w
      fun e w' => ∃ q cq, e = .returned (.tuple #[.agg #[.int .i64 ((k1 : Int) + k2), .slice q (rJoin n p a b).length cq], .int .i64 0]) ∧ SI w' q cq (rJoin n p a b) ∧ (∀ ad, q = some ad → w.heap.size ≤ ad.block) ∧ Below w.heap.size w w' := by
  obtain ⟨i0, hi0, hz0, hz1, hz2⟩ := info_parts int_info
  have hp1 : 0 < p := by rw [← hp]; exact Nat.pow_pos hn0
  have hp2 : p ≤ 1728 := by rw [← hp]; exact Nat.le_trans (Nat.pow_le_pow_left hn k2) (Nat.le_trans (Nat.pow_le_pow_right (by decide) (show k2 ≤ 3 by omega)) (by decide))
  obtain ⟨s, hs⟩ : ∃ s, w.heap.size = s := ⟨_, rfl⟩
  obtain ⟨W2, hW2⟩ : ∃ x, x = ((w.alloc (.cells #[.int .i64 ar1, .slice pa a.length ca] 44)).alloc (.cells #[.int .i64 ar2, .slice pb b.length cb] 44)).alloc (.cells #[.int .i64 0, .slice none 0 0] 44) := ⟨_, rfl⟩
  have hB2 : Below w.heap.size w W2 := by rw [hW2]; go_grown
  have z2 : W2.heap.size = s + 3 := by rw [hW2, ← hs]; simp
  have y00 : W2.cell? ⟨s, 0, none⟩ = some (.int .i64 ar1) := by rw [hW2, ← hs]; go_cell
  have y01 : W2.cell? ⟨s, 1, none⟩ = some (.slice pa a.length ca) := by rw [hW2, ← hs]; go_cell
  have y10 : W2.cell? ⟨s + 1, 0, none⟩ = some (.int .i64 ar2) := by rw [hW2, ← hs]; go_cell
  have y11 : W2.cell? ⟨s + 1, 1, none⟩ = some (.slice pb b.length cb) := by rw [hW2, ← hs]; go_cell
  have r0 : W2.cell? ⟨s + 2, 0, none⟩ = some (.int .i64 0) := by rw [hW2, ← hs]; go_cell
  have r1 : W2.cell? ⟨s + 2, 1, none⟩ = some (.slice none 0 0) := by rw [hW2, ← hs]; go_cell
  have r0f : W2.frozen? ⟨s + 2, 0, none⟩ = false := by rw [hW2, ← hs]; go_cell
  have r1f : W2.frozen? ⟨s + 2, 1, none⟩ = false := by rw [hW2, ← hs]; go_cell
  have HA := Lib.hid hA; have HD := Lib.hid hD; have HRA := Lib.hid hra; have HRB := Lib.hid hrb; have HW2 := Lib.hid hW2; have HS := Lib.hid hs; have HB2 := Lib.hid hB2; have HP := Lib.hid hp
  have hpo : ∀ ad, pa = some ad → ad.block ≠ s + 3 := fun ad h => by have := hA.lt ad h; omega
  have HPO := Lib.hid hpo
  obtain ⟨ar, har⟩ : ∃ ar : Int, ar = (k1 : Int) + k2 := ⟨_, rfl⟩
  have h1 : wrap64 (wrap64 (ar1 + ar2) - 2) = ar := by unfold wrap64; omega
  have h2 : 1 ≤ ar := by omega
  have h3 : ar ≤ 3 := by omega
  have h4 : wrap64 (ar2 - 1) = (k2 : Int) := by unfold wrap64; omega
  have h40 : IntKind.i64.wrap (ar2 - 1) = (k2 : Int) := by rw [show ar2 - 1 = (k2 : Int) by omega, IntWalk.i64_in]; omega
  have h5 : ¬ ar < 1 := by omega
  have h6 : ¬ ar > 3 := by omega
  have h7 : ¬ n = 0 := by omega
  have h8 : ((n : Int) == 0) = false := by simp; omega
  have HAR := Lib.hid har
  clear hA hD hra hrb hW2 hs hB2 hp hpo ha1 ha2 har
  refine (callsIn_wide (n := 4)).1 ?_
  refine callsIn_of_wp_marks Try.func62 rfl trivial ?_ rfl
  refine wpIn_wide.2 ?_
  simp only [Try.ntmps62, List.size_toArray, List.length_cons, List.length_nil, Nat.reduceAdd, Nat.reduceSub, Array.replicate_succ, Array.replicate_zero, List.push_toArray, List.append_toArray, List.nil_append, List.cons_append]
  go_upto_region 1 with fail
  rw [← HW2.out]
  simp only [HS.out, Nat.add_assoc, Nat.reduceAdd]
  go_upto_region 7 with fail
  obtain ⟨w3, hw3⟩ : ∃ x, x = W2.alloc (.cells #[.slice none 0 0] 42) := ⟨_, rfl⟩
  rw [← hw3]
  have hB3 : Below W2.heap.size W2 w3 := by rw [hw3]; go_grown
  have o0 : w3.cell? ⟨s + 3, 0, none⟩ = some (.slice none 0 0) := by rw [hw3, show s + 3 = W2.heap.size by omega]; go_cell
  have o0f : w3.frozen? ⟨s + 3, 0, none⟩ = false := by rw [hw3, show s + 3 = W2.heap.size by omega]; go_cell
  have z3 : w3.heap.size = s + 4 := by rw [hw3]; simp [z2]
  replace y00 := oldcell hB3 y00 (by omega); replace y01 := oldcell hB3 y01 (by omega); replace y10 := oldcell hB3 y10 (by omega); replace y11 := oldcell hB3 y11 (by omega)
  replace r0 := oldcell hB3 r0 (by omega); replace r1 := oldcell hB3 r1 (by omega); replace r0f := oldfree hB3 r0f (by omega); replace r1f := oldfree hB3 r1f (by omega)
  have HB3 := Lib.hid (btr HB2.out hB3)
  clear hw3 hB3
  refine wp_region_seqE (fun x => Below w3.heap.size w3 x) (.one 0 1 (.one 1 1 (.one 2 1 (.one 3 0 (.one 4 1 (.one 5 1 (.one 6 0 (.one 7 0 (.alt 8 3 .nil .stop))))))))) (by kernel_rfl) (by kernel_rfl) (by kernel_rfl) (Below.drew (Below.refl _ _)) ?_
  iterate 5 (first | (refine seqE_free (v := ?_) rfl (by rfl) ?_ ?_; rotate_left; (focus (intro w; go_simp; try with_reducible rfl)); (try simp only [Act.put, List.setIfInBounds_toArray, List.set_cons_zero, List.set_cons_succ])) | (refine seqE_pure (v := ?_) rfl (by rfl) ?_ ?_; rotate_left; (focus (intro w hS; have e1 := oldcell hS y10 (World.block_lt_of_cell? _ _ y10); go_simp; try with_reducible rfl)); (try simp only [Act.put, List.setIfInBounds_toArray, List.set_cons_zero, List.set_cons_succ])))
  refine seqE_fcall (v := .int .i64 (p : Int)) (f := ?_) (args := ?_) rfl (by rfl) ?_ ?_ ?_
  rotate_left 2
  focus (intro w; go_simp; first | done | with_reducible rfl | (refine ⟨?_, ?_⟩ <;> with_reducible rfl))
  focus (intro w; have h := rpow_any n k2 w hn (by omega); rw [HP.out] at h; exact h)
  (try simp only [Act.put, List.setIfInBounds_toArray, List.set_cons_zero, List.set_cons_succ])
  iterate 2 (refine seqE_pure (v := ?_) rfl (by rfl) ?_ ?_; rotate_left; (focus (intro w hS; have e1 := oldcell hS y10 (World.block_lt_of_cell? _ _ y10); have e2 := oldcell hS y11 (World.block_lt_of_cell? _ _ y11); have e3 := oldcell hS y00 (World.block_lt_of_cell? _ _ y00); have e4 := oldcell hS y01 (World.block_lt_of_cell? _ _ y01); go_simp; try with_reducible rfl)); (try simp only [Act.put, List.setIfInBounds_toArray, List.set_cons_zero, List.set_cons_succ]))
  refine seqE_callB (f := ?_) (args := ?_) rfl (by rfl) ?_ ?_ seqE_stop
  rotate_left 2
  focus (intro w hS; go_simp; first | done | with_reducible rfl | (refine ⟨?_, ?_⟩ <;> with_reducible rfl))
  intro w4 hS
  have hz4 := hS.size
  refine (matches_any n p a b ar1 ar2 pa pb ca cb w4 (HA.out.up (btr HB3.out hS)) (HD.out.up (btr HB3.out hS)) (by omega) (fun x hx => by have := HRB.out x hx; omega) hp1 hp2).mono ?_
  rintro e v1 ⟨ba, bb, bn, bs, bm, nn, S, rfl, hM, hb⟩
  refine ⟨_, rfl, fun x => Below v1.heap.size v1 x, Below.refl _ _, ?_⟩
  obtain ⟨B4, hB4⟩ : ∃ x, w4.heap.size = x := ⟨_, rfl⟩
  rw [hB4] at hM hz4
  have hX := btr hS hb
  clear hS hb hB4 w4
  (try simp only [Act.put, List.setIfInBounds_toArray, List.set_cons_zero, List.set_cons_succ])
  refine seqE_nil ?_
  intro wz hS
  replace hM := hM.up hS
  replace hX := btr hX hS
  clear hS v1
  rw [h1]
  replace o0 := oldcell hX o0 (World.block_lt_of_cell? _ _ o0); replace o0f := oldfree hX o0f (by omega)
  replace r0 := oldcell hX r0 (by omega); replace r1 := oldcell hX r1 (by omega); replace r0f := oldfree hX r0f (by omega); replace r1f := oldfree hX r1f (by omega)
  have hbw := btr HB3.out hX
  have hzw : s + 4 ≤ wz.heap.size := by have := hX.size; omega
  obtain ⟨B, hB⟩ : ∃ x, wz.heap.size = x := ⟨_, rfl⟩
  have hjl : (jouts n p a b).length ≤ 20 * 20 := by
    have h1 : ∀ (l : List Int), (jouts n p l b).length ≤ l.length * 20 := by
      intro l
      induction l with
      | nil => simp [jouts]
      | cons y l ih =>
        have e : (jouts n p (y :: l) b).length = (jrow n p b y).length + (jouts n p l b).length := by simp [jouts]
        have h2 : (jrow n p b y).length ≤ 20 := by rw [jrow_rows, List.length_map]; exact Nat.le_trans (rowsOf_len _ _ _) hlb
        rw [e, List.length_cons, Nat.succ_mul]; omega
    exact Nat.le_trans (h1 a) (Nat.mul_le_mul_right _ hla)
  have HRI := Lib.hid (show ∃ v, RJI B (s + 3) wz [] wz v from ⟨_, o0, o0f, World.ownsRow_nil _ _ _ _, KeepX.refl _ _⟩)
  have HM := Lib.hid hM; have HBW := Lib.hid hbw
  have hbo : s + 3 < B4 := by omega
  clear hM hX hbw y00 y01 y10 y11 o0 o0f z2 z3
  go_wp2_with fail
  refine (wpIn_wide (n := 4)).1 ?_
  refine wpIn_rangeFunc_ownH (F := Fence.wide) rfl (by decide) (gf := 140) (lb := #[.pointer (some ⟨ba, 0, none⟩), .pointer (some ⟨bb, 0, none⟩), .pointer (some ⟨bn, 0, none⟩), .pointer (some ⟨bs, 0, none⟩)]) rfl trivial (enters_of Try.func140 (by kernel_rfl) rfl)
    (matches_stops 3 (by decide) n p a b B4 ba bb bn bs bm nn (s + 3) pa ca S wz HM.out (HA.out.up HBW.out) hbo HPO.out (by omega) (by omega) HRA.out HRB.out hn0 hp1 hp2) LowEq.trans (LowEq.put (Nat.le_refl _)) (Below.refl _ _) (fun _ => rfl)
    (fun pre W => ∃ v, RJI B (s + 3) wz pre W v) (fun _ _ _ => False) (by rw [hB]; exact RJI.ownF (Nat.le_of_eq hB)) (fun _ _ _ _ _ h _ _ => h.elim) HRI.out
    (fun x a' W => a' = { tmps := #[.int .i64 n, .agg #[.int .i64 ar1, .slice pa a.length ca], .agg #[.int .i64 ar2, .slice pb b.length cb], undef, .pointer (some ⟨s, 0, none⟩), .pointer (some ⟨s + 1, 0, none⟩), .pointer (some ⟨s + 2, 0, none⟩), .int .i64 0, .int .i64 ar, .pointer (some ⟨s + 3, 0, none⟩), .int .i64 x, .pointer (some ⟨s, 0, none⟩), .int .i64 ar1, .pointer (some ⟨s + 1, 0, none⟩), .int .i64 ar2, .int .i64 (wrap64 (ar1 + ar2)), .int .i64 ar, .int .i64 ar, .bool false, .bool false, .int .i64 ar, .bool false, .bool false, undef, .int .i64 n, .bool false, undef, undef, .int .i64 n, .int .i64 n, .pointer (some ⟨s + 1, 0, none⟩), .int .i64 ar2, .int .i64 k2, .int .i64 p, .agg #[.int .i64 ar1, .slice pa a.length ca], .agg #[.int .i64 ar2, .slice pb b.length cb], .func (.func 140) #[] #[.pointer (some ⟨ba, 0, none⟩), .pointer (some ⟨bb, 0, none⟩), .pointer (some ⟨bn, 0, none⟩), .pointer (some ⟨bs, 0, none⟩)], .int .i64 x, undef, undef, undef, undef, undef, undef, undef], defers := [] }) (fun x a' _ W W' row h hg hr => h) ?assign ?body ?done ?stop
  case assign =>
    intro l pre x W K hI hK
    have HI := Lib.hid hI; clear hI
    gi_wp2
    exact hK _ _ (KeepsFrom.refl _ _) (LowEq.refl _ _ _) HI.out rfl
  case body =>
    rintro l pre x a' W hl' ⟨r, hr⟩ ⟨v, hz⟩ rfl hlen
    have c0 := hz.c0; have fr := hz.fr
    have hWB : B ≤ W.heap.size := by have := hz.kx.size; omega
    have HZ := Lib.hid hz; clear hz hr
    have hbl : s + 3 < W.heap.size := by omega
    have hpl : pre.length + 1 ≤ 401 := by omega
    gi_wp2_with (gi_at_builtin; go_must (refine wpListIn_append_own _ rfl _ _ 42 rfl B 3 i0 _ 1 8 Try.underlying42 hi0 hz0 hz1 hz2 rfl (by decide) v pre.length (flat 1 iEnc pre) rfl (World.ownsRow.alloc HZ.out.own _) ⟨W.heap.size, 0, none⟩ 1 1 [.int .i64 x] rfl rfl ?qc1 ?qc2 ?qc3 ?qc4 ?qc5 ?_))
    case qc1 =>
      intro j u hj
      cases j with
      | zero => simp at hj; subst hj; simp [Addr.add_lit]
      | succ j => simp at hj
    case qc2 => intro u hu; rw [List.mem_singleton.1 hu]; rfl
    case qc3 => unfold maxLen; omega
    case qc4 => omega
    case qc5 => simp; omega
    intro v2 w3 hown2 hgr2 hnil
    have hown3 : OwnR w3 B v2 (pre ++ [x]) := by unfold OwnR; rw [flat_int, List.map_append, List.length_append]; rw [flat_int] at hown2; exact hown2
    have hk1 : KeepX (rowOf v) W w3 := (KeepX.of_below (Below.alloc (Below.refl _ _) (Nat.le_refl _) _)).trans (KeepX.of_grown hgr2 fun g hg => mem_rowOf hg)
    have hnb : s + 3 ∉ rowOf v := fun hm => by have := (HZ.out.own.lt _ (rowOf_mem hm)).1; omega
    have c1 := hk1.cell c0 hnb
    have f1 := hk1.free fr hbl hnb
    have HN := Lib.hid (RJI.next HZ.out (by omega) hB hk1 hown3)
    obtain ⟨q2, cq2, rfl, -⟩ := owns_val (by decide) hown3
    clear hown2 hgr2 hnil hown3 hk1 c0 fr
    gi_wp2
    rw [hB]
    have h9 := HN.out
    rw [show (pre ++ [x]).length = pre.length + 1 by simp] at h9
    exact h9
  case done =>
    rintro D xs W hD hS ⟨v, hz⟩ hDD
    have HS0 := Lib.hid hS
    have hWB : B ≤ W.heap.size := by have := hz.kx.size; omega
    have hDl := (Array.getElem?_eq_some_iff.1 hDD).1
    have hrow : ∀ k ∈ rowOf v, B ≤ k ∧ k < W.heap.size := fun k hk => hz.own.lt k (rowOf_mem hk)
    have hDr : D ∉ rowOf v := fun hm => by
      have hv := rowOf_mem hm
      rcases hz.own.2 with ⟨h0, _⟩ | ⟨g, cap, cur, hg', _, hh, _⟩
      · rw [h0] at hv; cases hv
      · rw [hg'] at hv; cases hv
        rw [hh] at hDD; cases hDD
    have c0 := hz.c0
    have s0 := hz.kx.cell r0 (by simp); have s1 := hz.kx.cell r1 (by simp); have s0f := hz.kx.free r0f (by omega) (by simp); have s1f := hz.kx.free r1f (by omega) (by simp)
    have hxl : xs.length < 100000000 := by rw [hS]; omega
    have HZ := Lib.hid hz; have HDD := Lib.hid hDD; have HRW := Lib.hid hrow
    have h2r : s + 2 ∉ rowOf v := fun hm => by have := (hrow _ hm).1; omega
    clear hz hDD hrow hS r0 r1 r0f r1f
    go_wp2_with (first | (go_at_call 113; refine (sorted_any xs ar v B W HZ.out.own hxl).mono ?_; rintro e w5 ⟨q, cq, rfl, hR, hqv, hkx⟩; have t0 := hkx.cell s0 h2r; have t1 := hkx.cell s1 h2r; have t0f := hkx.free s0f (by omega) h2r; have t1f := hkx.free s1f (by omega) h2r; clear s0 s1 s0f s1f; have HR := Lib.hid hR; have HQV := Lib.hid hqv; have HKX := Lib.hid hkx; clear hR hqv hkx))
    obtain ⟨W9, hW9⟩ : ∃ W9, W9 = (w5.setCell ⟨s + 2, 0, none⟩ (.int .i64 ar)).setCell ⟨s + 2, 1, none⟩ (.slice q (nrm xs).length cq) := ⟨_, rfl⟩
    rw [← hW9]
    have e0 : W9.cell? ⟨s + 2, 0, none⟩ = some (.int .i64 ar) := by rw [hW9]; go_cell
    have e1 : W9.cell? ⟨s + 2, 1, none⟩ = some (.slice q (nrm xs).length cq) := by rw [hW9]; go_cell
    have hqs : ∀ ad, q = some ad → B ≤ ad.block := fun ad h => (HRW.out ad.block (mem_rowOf (HQV.out ad h))).1
    have hR9 : SI W9 q cq (nrm xs) := by rw [hW9]; exact (HR.out.set (fun ad h e => by have := hqs ad h; omega) _).set (fun ad h e => by have := hqs ad h; omega) _
    have hk9 : KeepX ((s + 2) :: rowOf v) W W9 := by rw [hW9]; exact ((HKX.out.sub fun k hk => List.mem_cons_of_mem _ hk).setCell (by simp) _).setCell (by simp) _
    have hD2 : W9.heap[D]? = some (.deferred (some [])) := by
      rw [hk9.block D hDl (fun hm => by
        rcases List.mem_cons.1 hm with e | hm
        · omega
        · exact hDr hm)]
      exact HDD.out
    clear hW9
    refine ⟨by simp, .inl ⟨_, _, rfl, run_takeDeferred hD2, ?_⟩⟩
    have hgp := grownBy_putObj' W9 D (.deferred none)
    have hgr : ∀ r, some D = some r → ∃ o : Obj, W9.heap[r]? = some o ∧ o.isCells = false := fun r e => by cases e; exact ⟨_, hD2, rfl⟩
    have e3 := cell_kept e0 hgp hgr; have e4 := cell_kept e1 hgp hgr
    refine ⟨.tuple #[.agg #[.int .i64 ar, .slice q (nrm xs).length cq], .int .i64 0], by simp [results, Try.results62, go_sem, e3, e4]; try rfl, ?_⟩
    have HSX : nrm xs = rJoin n p a b := by rw [HS0.out]; rfl
    rw [HSX] at hR9
    rw [HSX, ← HAR.out]
    refine ⟨q, cq, rfl, ⟨hR9.le, hR9.cm, hR9.q0, slat_kept hR9.at' hgp hgr, fun ad h => ?_⟩, fun ad h => ?_, ?_⟩
    · have h1 := hR9.lt ad h; have h2 := hgp.size; omega
    · have h1 := hqs ad h; have h2 := HS.out; omega
    · have h0 : Below w.heap.size w W := KeepX.below' HBW.out HZ.out.kx HBW.out.size (fun k hk => by rw [List.mem_singleton.1 hk, HS.out]; omega)
      have h1 : Below w.heap.size w W9 := KeepX.below' h0 hk9 h0.size (fun k hk => by
        rcases List.mem_cons.1 hk with e | e
        · rw [e, HS.out]; omega
        · have := (HRW.out k e).1; rw [HS.out]; omega)
      exact KeepX.below' h1 (KeepX.of_grown (X := [D]) hgp (by simp)) h1.size (fun k hk => by rw [List.mem_singleton.1 hk, HS.out]; omega)
  case stop =>
    rintro D c pre W _ _ h _
    exact h.elim
end Go.Proofs.Ytadilppdlbhjnaa

namespace Go.Proofs.Ytadilppdlbhjnaa
set_option linter.unusedSimpArgs false
set_option linter.unusedVariables false
open Go.RowKit Go.Maps

end Go.Proofs.Ytadilppdlbhjnaa

namespace Go.Proofs.Ytadilppdlbhjnaa
set_option linter.unusedSimpArgs false
set_option linter.unusedVariables false
open Go.RowKit

theorem BoolsAt.up {w w' : World} {p : Option Addr} {l : List Bool} (h : BoolsAt w p l) (hB : Below w.heap.size w w') : BoolsAt w' p l := h.mono hB
end Go.Proofs.Ytadilppdlbhjnaa
