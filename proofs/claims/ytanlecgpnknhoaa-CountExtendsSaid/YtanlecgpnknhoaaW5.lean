/- Walks of layer 13: share of the reference. -/
import Derived.Test.YtanlecgpnknhoaaW4
import Derived.Laws.AppendOwnNone
namespace Go.Proofs.Ytanlecgpnknhoaa
set_option linter.unusedSimpArgs false
set_option linter.unusedVariables false
open Go.RowKit

/-- append onto a slice of the call's own, whatever is appended. -/
theorem wpList_app {α : Type} {E : Nat} {enc : α → Nat → Value} {P : Program} {w : World} {ops : Array Oper} {rest : List Oper} {o : Oper} {a : Act} {Q : Exit → Act → World → Prop} (hgd : o.guard = none) (s x : Operand) (t : TypeId)
    (ho : o.op = .call { callee := .builtin .append, args := #[s, x], argTypes := #[t, t] })
    (B : Nat) (ty : TypeId) (i : TypeInfo) (z : Value) (bytes : Nat) (ht : P.underlying t = some (.slice ty)) (hi : P.info? ty = some i) (hz : i.zero = some z) (hsize : i.size = E) (hby : i.bytes = bytes) (hzs : z.cells.size = E) (hsz : 0 < E)
    (v : Value) (xs : List α) (hs : a.eval s = v) (hown : w.ownsRow B ty E v xs.length (flat E enc xs)) (p : Option Addr) (ys : List α) (c : Nat) (hx : a.eval x = .slice p ys.length c) (hpc : p = none → c = 0) (hys : SlAt E enc w p ys) (hone : ∀ y j, (enc y j).oneCell' = true)
    (h63 : xs.length + ys.length ≤ maxLen) (hbytes : (xs.length + ys.length) * bytes ≤ 140737488355328) (hbase : B ≤ w.heap.size)
    (h : ∀ v' w', w'.ownsRow B ty E v' (xs ++ ys).length (flat E enc (xs ++ ys)) → w.grownBy w' v.ownBlock → Below B w w' → wpList P ops Q rest (a.put o.dst v') w') : wpList P ops Q (o :: rest) a w := by
  cases p with
  | none =>
    obtain rfl := hpc rfl
    have hy : ys = [] := by
      rcases hys with h | ⟨b, off, hp, _⟩
      · exact h
      · cases hp
    subst hy
    refine wpList_append_own_none hgd s x t ho B ty i E ht hi v xs.length _ hs hown hx ?_
    refine h v w (by simpa using hown) ⟨rfl, rfl, rfl, Nat.le_refl _, fun _ _ _ => rfl⟩ (Below.refl _ _)
  | some ad =>
    refine wpList_append_own w hgd s x t ho B ty i z E bytes ht hi hz hsize hby hzs hsz v xs.length _ hs hown ad ys.length c (flat E enc ys) hx (flat_length _ _ _) hys.news ?_ h63 hbytes hbase ?_
    · intro u hu
      obtain ⟨n, hn⟩ := List.getElem?_of_mem hu
      obtain ⟨i, y, j, hy, hj, _, rfl⟩ := flat_inv hn
      exact hone y j
    · intro v' w' h1 h2 _
      exact h v' w' (by rw [flat_append, List.length_append]; exact h1) h2 (Below.grown (Below.refl _ _) h2 hbase (fun k hk => (hown.lt k hk).1))

theorem owns_form {w : World} {base : Nat} {e : TypeId} {size : Nat} {v : Value} {n : Nat} {xs : List Value} (h : w.ownsRow base e size v n xs) (hn : 0 < n) :
    ∃ g cap, v = .slice (some ⟨g, 0, none⟩) n cap ∧ base ≤ g ∧ g < w.heap.size ∧ n ≤ cap ∧ cap ≤ maxLen := by
  rcases h.2 with ⟨_, h0⟩ | ⟨g, cap, cur, hv, hb, hg, h1, h2, _⟩
  · omega
  · refine ⟨g, cap, hv, hb, ?_, h1, h2⟩
    rcases Nat.lt_or_ge g w.heap.size with hlt | hge
    · exact hlt
    · rw [Array.getElem?_eq_none hge] at hg; cases hg

def RSharePost (w : World) (p : Option Addr) (gs : List Gate) (g : Gate) : Ending → World → Prop := RetCirc w p (cshare gs g).1 (cshare gs g).2

set_option maxRecDepth 100000 in
set_option maxHeartbeats 1000000 in
theorem rshare_any (gs : List Gate) (g : Gate) (p : Option Addr) (cap : Nat) (w : World) (hl : gs.length ≤ 20000) (hcap : gs.length ≤ cap) (hcm : cap ≤ maxLen) (hp : p = none → cap = 0) (hg : GatesAt w p gs) :
    Calls Try.prog 59 #[.agg #[.slice p gs.length cap], .agg #[.int .i64 g.k, .int .i64 g.a, .int .i64 g.b]] w (RSharePost w p gs g) := by
  cases hf : cfind gs g with
  | some i =>
    have hi := (List.getElem?_eq_some_iff.1 (cfind_some hf).1).1
    have hfi := findI_some hf
    have HP : Hid (RetCirc w p gs (2 * (i : Int)) = RSharePost w p gs g) := by unfold RSharePost; rw [cshare_some hf]; rfl
    have Hcm := Lib.hid hcm; have Hp := Lib.hid hp; have Hg := Lib.hid hg; have Hf := Lib.hid hf; have Hfi := Lib.hid hfi; clear hcm hp hg hf hfi
    go_enter Try.func59, Try.ntmps59
    go_wp2_with fail
    refine (rfind_any gs g p cap _ (by unfold maxLen; omega) (Hg.out.mono (by go_grown))).mono ?_
    rintro e w1 ⟨rfl, hb1⟩
    rw [Hfi.out]
    obtain ⟨hc1, hf1⟩ := bcell hb1
    have HB1 : Below w.heap.size w w1 := Below.trans (by go_grown) (hb1.mono (by simp; omega))
    go_wp2_with fail
    rw [← HP.out]
    refine bodyPost_ret (by simp [results, Try.results59, go_sem, hc1]; try rfl) rfl ?_
    exact ⟨p, cap, rfl, hcap, Hcm.out, Hp.out, Hg.out.mono (by go_grown), by go_grown, .inl rfl⟩
  | none =>
    have hfi := findI_none' hf
    by_cases hfull : 20000 ≤ gs.length
    · have HP : Hid (RetCirc w p gs (-1) = RSharePost w p gs g) := by unfold RSharePost; rw [cshare_full hf hfull]; rfl
      have Hcm := Lib.hid hcm; have Hp := Lib.hid hp; have Hg := Lib.hid hg; have Hf := Lib.hid hf; have Hfi := Lib.hid hfi; clear hcm hp hg hf hfi
      go_enter Try.func59, Try.ntmps59
      go_wp2_with fail
      refine (rfind_any gs g p cap _ (by unfold maxLen; omega) (Hg.out.mono (by go_grown))).mono ?_
      rintro e w1 ⟨rfl, hb1⟩
      rw [Hfi.out]
      obtain ⟨hc1, hf1⟩ := bcell hb1
      have HB1 : Below w.heap.size w w1 := Below.trans (by go_grown) (hb1.mono (by simp; omega))
      go_wp2_with fail
      rw [← HP.out]
      refine bodyPost_ret (by simp [results, Try.results59, go_sem, hc1]; try rfl) rfl ?_
      exact ⟨p, cap, rfl, hcap, Hcm.out, Hp.out, Hg.out.mono (by go_grown), by go_grown, .inl rfl⟩
    · have HP : Hid (RetCirc w p (gs ++ [g]) (2 * (gs.length : Int)) = RSharePost w p gs g) := by unfold RSharePost; rw [cshare_new hf hfull]; rfl
      have Hcm := Lib.hid hcm; have Hp := Lib.hid hp; have Hg := Lib.hid hg; have Hf := Lib.hid hf; have Hfi := Lib.hid hfi; clear hcm hp hg hf hfi
      obtain ⟨i0, hi0, hz0, hz1, hz2⟩ := info_parts gate_info
      go_enter Try.func59, Try.ntmps59
      go_wp2_with fail
      refine (rfind_any gs g p cap _ (by unfold maxLen; omega) (Hg.out.mono (by go_grown))).mono ?_
      rintro e w1 ⟨rfl, hb1⟩
      rw [Hfi.out]
      have k0 := oldcell (b := w.heap.size) (o := 0) (v := .slice p gs.length cap) hb1 (by go_cell) (by simp <;> omega)
      have k1 := oldcell (b := w.heap.size + 1) (o := 0) (v := .int .i64 g.k) hb1 (by go_cell) (by simp <;> omega)
      have k2 := oldcell (b := w.heap.size + 1) (o := 1) (v := .int .i64 g.a) hb1 (by go_cell) (by simp <;> omega)
      have k3 := oldcell (b := w.heap.size + 1) (o := 2) (v := .int .i64 g.b) hb1 (by go_cell) (by simp <;> omega)
      have k4 := oldcell (b := w.heap.size + 1 + 1) (o := 0) (v := .slice none 0 0) hb1 (by go_cell) (by simp)
      have k5 := oldfree (b := w.heap.size + 1 + 1) (o := 0) hb1 (by go_cell) (by simp)
      have kz : w.heap.size + 1 + 1 < w1.heap.size := by have := hb1.size; simp at this; omega
      have HB1 := Lib.hid (show Below w.heap.size w w1 from Below.trans (by go_grown) (hb1.mono (by simp; omega)))
      clear hb1
      go_wp2_with (first
        | (at_builtin; refine wpList_app (enc := gEnc) rfl _ _ _ rfl (w.heap.size + 3) 47 i0 _ 24 Try.underlying23 hi0 hz0 hz1 hz2 rfl (by omega) (.slice none 0 0) [] rfl (World.ownsRow_nil _ _ _ _) p gs cap rfl Hp.out (Hg.out.mono (HB1.out.trans (by go_grown))) gEnc_one (by simp [maxLen]; omega) (by simp; omega) (by first | omega | (simp; omega)) ?_; intro v1 w2 hown1 hgr1 hbl1; have j0 := oldcell hbl1 k0 (by omega); have j1 := oldcell hbl1 k1 (by omega); have j2 := oldcell hbl1 k2 (by omega); have j3 := oldcell hbl1 k3 (by omega); have j4 := oldcell hbl1 k4 (by omega); have j5 := oldfree hbl1 k5 (by omega); have jz := Nat.lt_of_lt_of_le kz hbl1.size; have Hown1 := Lib.hid hown1; have Hbl1 := Lib.hid hbl1; clear hown1 hbl1 hgr1)
        | (at_builtin; refine wpList_app (enc := gEnc) rfl _ _ _ rfl (w.heap.size + 3) 47 i0 _ 24 Try.underlying23 hi0 hz0 hz1 hz2 rfl (by omega) v1 gs rfl (World.ownsRow.alloc Hown1.out _) (some ⟨w2.heap.size, 0, none⟩) [g] 1 rfl (fun h => by cases h) (SlAt.gate1 (by go_cell) (by go_cell) (by go_cell)) gEnc_one (by simp [maxLen]; omega) (by simp; omega) (by first | omega | (simp; omega)) ?_; intro v2 w3 hown2 hgr2 hbl2; have n0 := oldcell hbl2 (keep_alloc j0) (by omega); have n4 := oldcell hbl2 (keep_alloc j4) (by omega); have n5 := oldfree (b := w.heap.size + 1 + 1) (o := 0) hbl2 (by go_cell) (by omega); have nz := Nat.lt_of_lt_of_le jz (Nat.le_trans (by simp) hbl2.size); have Hown2 := Lib.hid hown2; have Hbl2 := Lib.hid hbl2; clear hown2 hbl2 hgr2))
      obtain ⟨g2, cap2, rfl, hg2, hg3, hg4, hg5⟩ := owns_form Hown2.out (by simp)
      go_region_held3 (fun w' => w'.cell? ⟨w.heap.size, 0, none⟩ = some (.slice p gs.length cap)) (repeat (first | (with_reducible assumption) | (with_reducible refine keep_drew ?_) | (with_reducible refine keep_alloc ?_) | (with_reducible refine keep_far ?_ (by dsimp only; omega)))) (fail)
      all_goals
        have e1 : IntKind.i64.wrap (2 * (gs.length : Int)) = 2 * (gs.length : Int) := IntWalk.i64_in _ (by omega)
        go_wp2_with fail
        rw [← HP.out]
        refine bodyPost_ret (by simp [results, Try.results59, go_sem, n4]; try rfl) rfl ?_
        exact ⟨some ⟨g2, 0, none⟩, cap2, by rw [e1]; simp, hg4, hg5, (fun h => by cases h), (SlAt.of_owns (by omega) Hown2.out).drew'.setBox n4 (gEnc_ne_slice _ _ _) _, Below.setCell (Below.drew ((HB1.out.trans (Hbl1.out.mono (by omega))).trans (Below.trans (by go_grown) (Hbl2.out.mono (by omega))))) (by show _ ≤ w.heap.size + 1 + 1; omega) _, Fresh.new (by omega)⟩
end Go.Proofs.Ytanlecgpnknhoaa
