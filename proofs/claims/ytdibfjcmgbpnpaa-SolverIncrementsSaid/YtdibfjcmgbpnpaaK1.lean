/- Walks of the solver: the trail. -/
import Derived.Test.YtdibfjcmgbpnpaaSM
namespace Go.Proofs.Ytdibfjcmgbpnpaa
set_option linter.unusedSimpArgs false
set_option linter.unusedVariables false
open Go.RowKit

section
variable {w : World} {o : Nat → Option Role} {hd : Role → Value} {ct : Role → List Value}
theorem Mem.arr (hm : Mem w o hd ct) (r : Role) (h1 : r.es = 1) (hl : 0 < (ct r).length) : ∃ g c, hd r = .slice (some ⟨g, 0, none⟩) (ct r).length c ∧ (ct r).length ≤ c ∧ c ≤ maxLen ∧ g < w.heap.size ∧ o g = some r := by
  obtain ⟨g, n, c, e, a1, a2, a3, a4, a5⟩ := hm.blk r hl
  rw [h1, Nat.mul_one] at a1
  exact ⟨g, c, by rw [a1]; exact e, by omega, a3, a4, a5⟩
theorem Mem.sl (hm : Mem w o hd ct) (r : Role) (h1 : r.es = 1) : ∃ p c, hd r = .slice p (ct r).length c ∧ (ct r).length ≤ c ∧ c ≤ maxLen := by
  obtain ⟨p, n, c, e, a1, a2, a3, -⟩ := hm.form r
  rw [h1, Nat.mul_one] at a1
  exact ⟨p, c, by rw [a1]; exact e, by omega, a3⟩
end
theorem iV_len (l : List Int) : (iV l).length = l.length := by simp [iV]
theorem nV_len (l : List Nat) : (nV l).length = l.length := by simp [nV]
theorem iV_get {l : List Int} {i : Nat} (h : i < l.length) : (iV l)[i]? = some (.int .i64 (l.getD i 0)) := by
  unfold iV; rw [List.getElem?_map, List.getD_eq_getElem?_getD, List.getElem?_eq_getElem h]; rfl
theorem nV_get {l : List Nat} {i : Nat} (h : i < l.length) : (nV l)[i]? = some (.int .i64 ((l.getD i 0 : Nat) : Int)) := by
  unfold nV; rw [List.getElem?_map, List.getD_eq_getElem?_getD, List.getElem?_eq_getElem h]; rfl
theorem iV_set (l : List Int) (i : Nat) (x : Int) : (iV l).set i (.int .i64 x) = iV (l.set i x) := by unfold iV; rw [List.map_set]
theorem nV_set (l : List Nat) (i : Nat) (x : Nat) : (nV l).set i (.int .i64 (x : Int)) = nV (l.set i x) := by unfold nV; rw [List.map_set]
theorem iV_snoc (l : List Int) (x : Int) : iV l ++ [.int .i64 x] = iV (l ++ [x]) := by unfold iV; rw [List.map_append]; rfl
theorem nV_snoc (l : List Nat) (x : Nat) : nV l ++ [.int .i64 (x : Int)] = nV (l ++ [x]) := by unfold nV; rw [List.map_append]; rfl
theorem wrapI {x : Int} (h1 : -9223372036854775808 ≤ x) (h2 : x ≤ 9223372036854775807) : IntKind.i64.wrap x = x := by rw [IntWalk.i64_in]; omega

theorem val_range {n : Nat} {s : SS} (ht : Tr n s) {x : Int} (hx : LOk n x) : -1 ≤ s.value.getD x.natAbs 0 ∧ s.value.getD x.natAbs 0 ≤ 1 := by
  have := ht.tri hx
  unfold SS.of at this
  split at this <;> omega
set_option maxRecDepth 100000 in
set_option maxHeartbeats 1000000 in
theorem of_any {n : Nat} {w : World} {o : Nat → Option Role} {b : Nat} {s : SS} (h : SolAt w o b s) (ht : Tr n s) (hn : n ≤ 20000) {x : Int} (hx : LOk n x) :
    Calls Try.prog 34 #[.pointer (some ⟨b, 0, none⟩), .int .i64 x] w fun e w' => e = .returned (.int .i64 (s.of x)) ∧ w' = w := by
  obtain ⟨⟨oc, hd, ct, hb, hm, he⟩, lt⟩ := h
  have hxl := hx.lt
  have hvl : (ct .value).length = n + 1 := by rw [he.value, iV_len, ht.vl]
  obtain ⟨g, c, hv, a1, a2, a3, a4⟩ := hm.arr .value rfl (by omega)
  rw [hvl] at hv a1
  obtain ⟨f0, -⟩ := hm.load hb (i := 0) (u := hd .value) (by rw [he.self]; rfl)
  rw [hv] at f0
  obtain ⟨e0, -⟩ := hm.load (r := .value) hv (i := x.natAbs) (by rw [he.value]; exact iV_get (by rw [ht.vl]; exact hxl))
  have HOF := Lib.hid (show s.of x = if x < 0 then -(s.value.getD x.natAbs 0) else s.value.getD x.natAbs 0 from rfl)
  obtain ⟨y1, y2⟩ := val_range ht hx
  obtain ⟨y, hy⟩ : ∃ y, s.value.getD x.natAbs 0 = y := ⟨_, rfl⟩
  rw [hy] at e0 y1 y2 HOF
  clear he hm hb hv hvl lt ht hx hy
  by_cases hs : x < 0
  · have hw : IntKind.i64.wrap (-x) = -x := wrapI (by omega) (by omega)
    have hw2 : IntKind.i64.wrap (-y) = -y := wrapI (by omega) (by omega)
    rw [show x.natAbs = (-x).toNat by omega] at e0
    have h0 : 0 ≤ -x := by omega
    have h1 : -x < ((n + 1 : Nat) : Int) := by omega
    go_enter Try.func34, Try.ntmps34
    go_wp2_with fail
    go_ret
    rw [HOF.out, if_pos hs]
    exact ⟨rfl, rfl⟩
  · rw [show x.natAbs = x.toNat by omega] at e0
    have h0 : 0 ≤ x := by omega
    have h1 : x < ((n + 1 : Nat) : Int) := by omega
    go_enter Try.func34, Try.ntmps34
    go_wp2_with fail
    go_ret
    rw [HOF.out, if_neg (by omega)]
    exact ⟨rfl, rfl⟩
set_option maxRecDepth 100000 in
set_option maxHeartbeats 1000000 in
theorem index_any {n : Nat} {w : World} (hn : n ≤ 20000) {x : Int} (hx : LOk n x) :
    Calls Try.prog 52 #[.int .i64 x] w fun e w' => e = .returned (.int .i64 (idx x : Nat)) ∧ w' = w := by
  have h1 := hx.2
  by_cases hs : x < 0
  · have e : ((idx x : Nat) : Int) = -2 * x + 1 := by unfold idx; rw [if_pos hs]; omega
    have hw : IntKind.i64.wrap (-2 * x) = -2 * x := wrapI (by omega) (by omega)
    have hw2 : IntKind.i64.wrap (-2 * x + 1) = -2 * x + 1 := wrapI (by omega) (by omega)
    rw [e]
    go_enter Try.func52, Try.ntmps52
    go_wp2_with fail
    go_ret
    exact ⟨rfl, rfl⟩
  · have e : ((idx x : Nat) : Int) = 2 * x := by unfold idx; rw [if_neg hs]; omega
    have hw : IntKind.i64.wrap (2 * x) = 2 * x := wrapI (by omega) (by omega)
    rw [e]
    go_enter Try.func52, Try.ntmps52
    go_wp2_with fail
    go_ret
    exact ⟨rfl, rfl⟩
end Go.Proofs.Ytdibfjcmgbpnpaa
