import Derived.Test.YtadilppdlbhjnaaBase
import Derived.Deep.RegionLawGrows
import Derived.Deep.RegionWith
import Derived.Deep.DeepCutAuto
import Derived.Laws.AppendOwnNone
namespace Go.Proofs.Ytadilppdlbhjnaa
set_option linter.unusedSimpArgs false
set_option linter.unusedVariables false
open Go.RowKit
attribute [local go_sem ↓] gate_eql gate_neq gate_guard
set_option maxHeartbeats 400000 in
theorem not_any (r : Int) (w : World) (h1 : r ≤ 9223372036854775807) :
 Calls Try.prog 81 #[.int .i64 r] w fun e w' => e = .returned (.int .i64 (cnot r)) ∧ w' = w := by
 by_cases h : r < 0
 · go_enter Try.func81, Try.ntmps81
   go_wp2
   go_ret
   exact ⟨ret_int (cnot_neg h).symm, rfl⟩
 · go_enter Try.func81, Try.ntmps81
   go_wp2
   go_ret
   exact ⟨ret_int ((bits_xor_one r (by omega) h1).trans (cnot_pos (by omega)).symm), rfl⟩
set_option maxHeartbeats 400000 in
theorem rnot_any (r : Int) (w : World) (h1 : r ≤ 9223372036854775807) :
 Calls Try.prog 83 #[.int .i64 r] w fun e w' => e = .returned (.int .i64 (cnot r)) ∧ w' = w := by
 by_cases h : r < 0
 · go_enter Try.func83, Try.ntmps83
   go_wp2
   go_ret
   exact ⟨ret_int (cnot_neg h).symm, rfl⟩
 · by_cases h2 : r % 2 = 0
   · have H := Lib.hid (cnot_even (by omega) h2)
     go_enter Try.func83, Try.ntmps83
     go_wp2
     go_ret
     exact ⟨ret_int H.out.symm, rfl⟩
   · have H := Lib.hid (cnot_odd (by omega) h2)
     go_enter Try.func83, Try.ntmps83
     go_wp2
     go_ret
     exact ⟨ret_int H.out.symm, rfl⟩
set_option maxHeartbeats 400000 in
theorem clip_any (p : Option Addr) (n cap : Nat) (w : World) (h : n ≤ cap) (hc : cap ≤ maxLen) :
 Calls Try.prog 145 #[.slice p n cap] w fun e w' => e = .returned (.slice p n n) ∧ w' = w := by
 unfold maxLen at hc
 have h1 : (0 : Int) ≤ (n : Int) := by omega
 have h2 : (n : Int) ≤ (cap : Int) := by omega
 go_enter Try.func145, Try.ntmps145
 go_wp2
 go_ret
 exact ⟨rfl, rfl⟩
theorem findI_of {gs : List Gate} {g : Gate} {k : Nat} (h : ∀ j, j < k → gs[j]? ≠ some g) : ∀ x, gs[k]? = some x → (g = x → findI gs g = k) := by
 intro x hx e
 subst e
 unfold findI; rw [cfind_of hx h]
theorem findI_none {gs : List Gate} {g : Gate} (h : ∀ j, j < gs.length → gs[j]? ≠ some g) : findI gs g = -1 := by
 unfold findI
 rw [cfind_none.2]
 intro hm
 obtain ⟨i, hi, he⟩ := List.getElem_of_mem hm
 exact h i hi (by rw [List.getElem?_eq_getElem hi, he])
set_option maxHeartbeats 400000 in
theorem index_any (gs : List Gate) (g : Gate) (p : Option Addr) (cap : Nat) (w : World) (hl : gs.length ≤ maxLen) (hg : GatesAt w p gs) :
 Calls Try.prog 144 #[.slice p gs.length cap, .agg #[.int .i64 g.k, .int .i64 g.a, .int .i64 g.b]] w fun e w' => e = .returned (.int .i64 (findI gs g)) ∧ Below w.heap.size w w' := by
 unfold maxLen at hl
 rcases hg with rfl | ⟨b, off, rfl, hb, hc⟩
 · go_enter Try.func144, Try.ntmps144
   go_wp2
   go_rounds 1
   go_ret
   exact ⟨by simp [findI, cfind, findFrom], by go_grown⟩
 · obtain ⟨x, y, z⟩ := g
   go_enter Try.func144, Try.ntmps144
   go_wp2
   go_loopg [8] gs.length (fun n v wr => ∃ k : Nat, v = .int .i64 k ∧ k ≤ gs.length ∧ n = gs.length - k ∧ (∀ j, j < k → gs[j]? ≠ some ⟨x, y, z⟩) ∧ Below (w.heap.size + 1) (w.alloc (Obj.cells #[Value.int IntKind.i64 x, Value.int IntKind.i64 y, Value.int IntKind.i64 z] 85)) wr)
   case atStart => exact ⟨0, rfl, by omega, by omega, by omega, Below.refl _ _⟩
   obtain ⟨k, rfl, hk, rfl, hno, hB⟩ := hrel
   have h1 := oldcell (b := w.heap.size) (o := 0) (v := .int .i64 x) hB (by go_cell) (by omega)
   have h2 := oldcell (b := w.heap.size) (o := 1) (v := .int .i64 y) hB (by go_cell) (by omega)
   have h3 := oldcell (b := w.heap.size) (o := 2) (v := .int .i64 z) hB (by go_cell) (by omega)
   by_cases hlt : k < gs.length
   · have hlt0 : (0 : Int) ≤ (k : Int) := by omega
     have hlt1 : (k : Int) < (gs.length : Int) := by omega
     obtain ⟨gk, hgk⟩ : ∃ gk, gs[k]? = some gk := ⟨_, List.getElem?_eq_getElem hlt⟩
     have hB0 : Below w.heap.size w wr := Below.trans (by go_grown) (hB.mono (by omega))
     obtain ⟨e4, e5, e6⟩ := gate_cells hc hgk
     have h4 := oldcell hB0 e4 hb
     have h5 := oldcell hB0 e5 hb
     have h6 := oldcell hB0 e6 hb
     clear e4 e5 e6
     have H1 := Lib.hid hgk; have H2 := Lib.hid hno; clear hgk hno
     have H3 := Lib.hid hc; clear hc
     have HB := Lib.hid hB; have HB0 := Lib.hid hB0; clear hB hB0
     by_cases he : (⟨x, y, z⟩ : Gate) = gk
     · have hd := gEq_true he
       have H4 := Lib.hid he; clear he
       go_wp2
       go_quiet (fail)
       go_wp2
       go_ret
       exact ⟨ret_int (findI_of H2.out _ H1.out H4.out).symm, Below.drewN HB0.out _⟩
     · have hd := gEq_false he
       have H4 := Lib.hid he; clear he
       go_wp2
       go_quiet (fail)
       go_wp2
       go_roundg (gs.length - (k + 1))
       case measure => omega
       refine ⟨k + 1, by go_num, by omega, rfl, fun j hj => ?_, Below.drewN HB.out _⟩
       rcases Nat.lt_or_ge j k with h | h
       · exact H2.out j h
       · obtain rfl : j = k := by omega
         rw [H1.out]; intro e; exact H4.out (by simpa using e.symm)
   · go_wp2
     go_ret
     exact ⟨ret_int (findI_none (fun j hj => hno j (by omega))).symm, Below.trans (by go_grown) (hB.mono (by omega))⟩
end Go.Proofs.Ytadilppdlbhjnaa
namespace Go.Proofs.Ytadilppdlbhjnaa
set_option linter.unusedSimpArgs false
set_option linter.unusedVariables false
open Go.RowKit
attribute [local go_sem ↓] gate_eql gate_neq gate_guard
theorem findFrom_step {gs : List Gate} {g : Gate} {k : Nat} (h : ∀ j, j < k → gs[j]? ≠ some g) : ∀ x, gs[k]? = some x → (x = g → findI gs g = k) := by
 intro x hx e
 subst e
 unfold findI; rw [cfind_of hx h]
set_option maxHeartbeats 400000 in
theorem rfind_any (gs : List Gate) (g : Gate) (p : Option Addr) (cap : Nat) (w : World) (hl : gs.length ≤ maxLen) (hg : GatesAt w p gs) :
 Calls Try.prog 103 #[.agg #[.slice p gs.length cap], .agg #[.int .i64 g.k, .int .i64 g.a, .int .i64 g.b]] w fun e w' => e = .returned (.int .i64 (findI gs g)) ∧ Below w.heap.size w w' := by
 unfold maxLen at hl
 rcases hg with rfl | ⟨b, off, rfl, hb, hc⟩
 · go_enter Try.func103, Try.ntmps103
   go_wp2
   go_rounds 1
   go_ret
   exact ⟨by simp [findI, cfind, findFrom], by go_grown⟩
 · obtain ⟨x, y, z⟩ := g
   go_enter Try.func103, Try.ntmps103
   go_wp2
   go_loopg [5] gs.length (fun n v wr => ∃ k : Nat, v = .int .i64 k ∧ k ≤ gs.length ∧ n = gs.length - k ∧ (∀ j, j < k → gs[j]? ≠ some ⟨x, y, z⟩) ∧ Below (w.heap.size + 2) ((w.alloc (Obj.cells #[Value.slice (some ⟨b, off, none⟩) gs.length cap] 27)).alloc (Obj.cells #[Value.int IntKind.i64 x, Value.int IntKind.i64 y, Value.int IntKind.i64 z] 85)) wr)
   case atStart => exact ⟨0, rfl, by omega, by omega, by omega, Below.refl _ _⟩
   obtain ⟨k, rfl, hk, rfl, hno, hB⟩ := hrel
   have h0 : wr.cell? ⟨w.heap.size, 0, none⟩ = some (.slice (some ⟨b, off, none⟩) gs.length cap) := by
    refine oldcell hB ?_ (by omega); go_cell
   have h1 : wr.cell? ⟨w.heap.size + 1, 0, none⟩ = some (.int .i64 x) := by
    refine oldcell hB ?_ (by omega); go_cell
   have h2 : wr.cell? ⟨w.heap.size + 1, 1, none⟩ = some (.int .i64 y) := by
    refine oldcell hB ?_ (by omega); go_cell
   have h3 : wr.cell? ⟨w.heap.size + 1, 2, none⟩ = some (.int .i64 z) := by
    refine oldcell hB ?_ (by omega); go_cell
   by_cases hlt : k < gs.length
   · have hlt0 : (0 : Int) ≤ (k : Int) := by omega
     have hlt1 : (k : Int) < (gs.length : Int) := by omega
     obtain ⟨gk, hgk⟩ : ∃ gk, gs[k]? = some gk := ⟨_, List.getElem?_eq_getElem hlt⟩
     have hB0 : Below w.heap.size w wr := Below.trans (by go_grown) (hB.mono (by omega))
     obtain ⟨e4, e5, e6⟩ := gate_cells hc hgk
     have h4 := oldcell hB0 e4 hb
     have h5 := oldcell hB0 e5 hb
     have h6 := oldcell hB0 e6 hb
     clear e4 e5 e6
     have H1 := Lib.hid hgk; have H2 := Lib.hid hno; clear hgk hno
     have H3 := Lib.hid hc; clear hc
     have HB := Lib.hid hB; have HB0 := Lib.hid hB0; clear hB hB0
     by_cases he : gk = ⟨x, y, z⟩
     · have hd := gEq_true he
       have H4 := Lib.hid he; clear he
       go_wp2
       go_quiet (fail)
       go_wp2
       go_ret
       exact ⟨ret_int (findFrom_step H2.out _ H1.out H4.out).symm, Below.drewN HB0.out _⟩
     · have hd := gEq_false he
       have H4 := Lib.hid he; clear he
       go_wp2
       go_quiet (fail)
       go_wp2
       go_roundg (gs.length - (k + 1))
       case measure => omega
       refine ⟨k + 1, by go_num, by omega, rfl, fun j hj => ?_, Below.drewN HB.out _⟩
       rcases Nat.lt_or_ge j k with h | h
       · exact H2.out j h
       · obtain rfl : j = k := by omega
         rw [H1.out]; simpa using H4.out
   · go_wp2
     go_ret
     exact ⟨ret_int (findI_none (fun j hj => hno j (by omega))).symm, Below.trans (by go_grown) (hB.mono (by omega))⟩
end Go.Proofs.Ytadilppdlbhjnaa
namespace Go.Proofs.Ytadilppdlbhjnaa
set_option linter.unusedSimpArgs false
set_option linter.unusedVariables false
open Go.RowKit
set_option maxRecDepth 100000 in
set_option maxHeartbeats 1000000 in
theorem share_any (gs : List Gate) (g : Gate) (p : Option Addr) (cap : Nat) (w : World) (hl : gs.length ≤ 20000) (hcap : gs.length ≤ cap) (hcm : cap ≤ maxLen) (hp : p = none → cap = 0) (hg : GatesAt w p gs) :
 Calls Try.prog 125 #[.agg #[.slice p gs.length cap], .agg #[.int .i64 g.k, .int .i64 g.a, .int .i64 g.b]] w (RetCirc w p (cshare gs g).1 (cshare gs g).2) := by
 unfold maxLen at hcm
 cases hf : cfind gs g with
 | some i =>
  have hi := (List.getElem?_eq_some_iff.1 (cfind_some hf).1).1
  have hfi := findI_some hf
  rw [cshare_some hf]
  have Hcm := Lib.hid hcm; have Hp := Lib.hid hp; have Hg := Lib.hid hg; have Hf := Lib.hid hf; have Hfi := Lib.hid hfi; clear hcm hp hg hf hfi
  go_enter Try.func125, Try.ntmps125
  go_wp2_with fail
  refine (index_any gs g p cap _ (by unfold maxLen; omega) (Hg.out.mono (by go_grown))).mono ?_
  rintro e w1 ⟨rfl, hb1⟩
  rw [Hfi.out]
  obtain ⟨hc1, hf1⟩ := bcell hb1
  have HB1 : Below w.heap.size w w1 := Below.trans (by go_grown) (hb1.mono (by simp; omega))
  go_wp2_with fail
  refine bodyPost_ret (by simp [results, Try.results125, go_sem, hc1]; try rfl) rfl ?_
  exact ⟨p, cap, rfl, hcap, by unfold maxLen; exact Hcm.out, Hp.out, Hg.out.mono (by go_grown), by go_grown, .inl rfl⟩
 | none =>
  have hfi := findI_none' hf
  by_cases hfull : 20000 ≤ gs.length
  · rw [cshare_full hf hfull]
    have Hcm := Lib.hid hcm; have Hp := Lib.hid hp; have Hg := Lib.hid hg; have Hf := Lib.hid hf; have Hfi := Lib.hid hfi; clear hcm hp hg hf hfi
    go_enter Try.func125, Try.ntmps125
    go_wp2_with fail
    refine (index_any gs g p cap _ (by unfold maxLen; omega) (Hg.out.mono (by go_grown))).mono ?_
    rintro e w1 ⟨rfl, hb1⟩
    rw [Hfi.out]
    obtain ⟨hc1, hf1⟩ := bcell hb1
    have HB1 : Below w.heap.size w w1 := Below.trans (by go_grown) (hb1.mono (by simp; omega))
    go_wp2_with fail
    refine bodyPost_ret (by simp [results, Try.results125, go_sem, hc1]; try rfl) rfl ?_
    exact ⟨p, cap, rfl, hcap, by unfold maxLen; exact Hcm.out, Hp.out, Hg.out.mono (by go_grown), by go_grown, .inl rfl⟩
  · rw [cshare_new hf hfull]
    have Hcm := Lib.hid hcm; have Hp := Lib.hid hp; have Hg := Lib.hid hg; have Hf := Lib.hid hf; have Hfi := Lib.hid hfi; clear hcm hp hg hf hfi
    obtain ⟨i0, hi0, hz0, hz1, hz2⟩ := info_parts gate_info
    go_enter Try.func125, Try.ntmps125
    go_wp2_with fail
    refine (index_any gs g p cap _ (by unfold maxLen; omega) (Hg.out.mono (by go_grown))).mono ?_
    rintro e w1 ⟨rfl, hb1⟩
    rw [Hfi.out]
    obtain ⟨hc1, hf1⟩ := bcell hb1
    have HB1 : Below w.heap.size w w1 := Below.trans (by go_grown) (hb1.mono (by simp; omega))
    go_wp2_with fail
    have Hp0 : Hid (p = none → gs.length = 0) := fun h => by have := Hp.out h; omega
    have k0 := oldcell (b := w.heap.size) (o := 0) (v := .slice p gs.length cap) hb1 (by go_cell) (by simp; omega)
    have k1 := oldcell (b := w.heap.size + 1) (o := 0) (v := .int .i64 g.k) hb1 (by go_cell) (by simp)
    have k2 := oldcell (b := w.heap.size + 1) (o := 1) (v := .int .i64 g.a) hb1 (by go_cell) (by simp)
    have k3 := oldcell (b := w.heap.size + 1) (o := 2) (v := .int .i64 g.b) hb1 (by go_cell) (by simp)
    have k4 := oldcell (b := w.heap.size + 1 + 1) (o := 0) (v := .slice none 0 0) hb1 (by go_cell) (by simp)
    have k5 : w1.frozen? ⟨w.heap.size + 1 + 1, 0, none⟩ = false := by rw [hf1 _ _ (by simp)]; go_cell
    have kz : w.heap.size + 1 + 1 < w1.heap.size := by have := hb1.size; simp at this; omega
    have Hb1 := Lib.hid hb1; have HB1' := Lib.hid HB1; clear hb1 hc1 hf1 HB1
    go_region_held3 (fun w' => w'.cell? ⟨w.heap.size, 0, none⟩ = some (.slice p gs.length cap) ∧ w'.cell? ⟨w.heap.size + 1, 0, none⟩ = some (.int .i64 g.k) ∧ w'.cell? ⟨w.heap.size + 1, 1, none⟩ = some (.int .i64 g.a) ∧ w'.cell? ⟨w.heap.size + 1, 2, none⟩ = some (.int .i64 g.b)) (refine ⟨?_, ?_, ?_, ?_⟩ <;> repeat (first | (with_reducible assumption) | (with_reducible refine keep_alloc ?_) | (with_reducible refine keep_drew ?_) | (with_reducible refine keep_far ?_ (by dsimp only; omega)))) (first | (go_at_call 145; refine (clip_any _ _ _ _ hcap (by unfold maxLen; exact Hcm.out)).mono ?_; rintro e w' ⟨rfl, rfl⟩) | (refine step_clip_append (enc := gEnc) (by rfl) _ _ _ (by rfl) 85 i0 _ 24 Try.underlying25 hi0 hz0 hz1 hz2 rfl (by omega) p gs gs.length (by rfl) Hp0.out (Hg.out.mono (HB1'.out.trans (by go_grown))) ⟨w1.heap.size, 0, none⟩ [g] 1 (by rfl) (SlAt.gate1 (by go_cell) (by go_cell) (by go_cell)) (fun y _ j _ => gEnc_one y j) (Nat.le_refl _) (by simp) (by simp [maxLen]; omega) (by simp; omega) ?_; intro gg cap' w2 hsl hgg hc1 hc2 hb2; have j0 := oldcell (b := w.heap.size) (o := 0) (v := .slice p gs.length cap) hb2 (by go_cell) (by simp; omega); have j1 := oldcell (b := w.heap.size + 1) (o := 0) (v := .int .i64 g.k) hb2 (by go_cell) (by simp; omega); have j2 := oldcell (b := w.heap.size + 1) (o := 1) (v := .int .i64 g.a) hb2 (by go_cell) (by simp; omega); have j3 := oldcell (b := w.heap.size + 1) (o := 2) (v := .int .i64 g.b) hb2 (by go_cell) (by simp; omega); have k6 := oldcell (b := w.heap.size + 1 + 1) (o := 0) (v := .slice none 0 0) hb2 (by go_cell) (by simp; omega); have k7 := oldfree (b := w.heap.size + 1 + 1) (o := 0) hb2 (by go_cell) (by simp; omega)))
    all_goals
     go_wp2_with fail
     refine bodyPost_ret (by simp [results, Try.results125, go_sem, j0, k6, k7]; try rfl) rfl ?_
     have e1 : IntKind.i64.wrap (2 * (gs.length : Int)) = 2 * (gs.length : Int) := IntWalk.i64_in _ (by omega)
     rw [e1]
     refine ⟨some ⟨gg, 0, none⟩, cap', by simp; try rfl, by simpa using hc1, hc2, (fun h => by cases h), hsl.setCell (fun a ha => ?_) _, Below.setCell (HB1'.out.trans (Below.trans (by go_grown) (hb2.mono (by simp; omega)))) (by show _ ≤ w.heap.size + 1 + 1; omega) _, Fresh.new (by simp at hgg; omega)⟩
     cases ha; simp at hgg; show w.heap.size + 1 + 1 ≠ gg; omega
end Go.Proofs.Ytadilppdlbhjnaa
namespace Go.Proofs.Ytadilppdlbhjnaa
set_option linter.unusedSimpArgs false
set_option linter.unusedVariables false
open Go.RowKit
set_option maxHeartbeats 400000 in
theorem refok_any (r : Int) (n cap b : Nat) (p : Option Addr) (w : World) (hn : n ≤ 20000) (hc : w.cell? ⟨b, 0, none⟩ = some (.slice p n cap)) :
 Calls Try.prog 130 #[.int .i64 r, .pointer (some ⟨b, 0, none⟩)] w fun e w' => e = .returned (.bool (refOk r n)) ∧ w' = w := by
 by_cases h : 0 ≤ r
 · have H : Hid (decide (r < 2 * (n : Int)) = refOk r n) := by unfold refOk; exact decide_eq_decide.2 ⟨fun x => ⟨h, x⟩, fun x => x.2⟩
   go_enter Try.func130, Try.ntmps130
   go_wp2
   go_ret
   exact ⟨ret_bool H.out, rfl⟩
 · have H : Hid (false = refOk r n) := by unfold refOk; exact (decide_eq_false (fun x => h x.1)).symm
   go_enter Try.func130, Try.ntmps130
   go_wp2
   go_ret
   exact ⟨ret_bool H.out, rfl⟩
theorem SlAt.setBox {α : Type} {E : Nat} {enc : α → Nat → Value} {w : World} {p : Option Addr} {xs : List α} (h : SlAt E enc w p xs) {q : Addr} {v0 : Value} (hq : w.cell? q = some v0) (hne : ∀ x j, enc x j ≠ v0) (u : Value) : SlAt E enc (w.setCell q u) p xs := by
 rcases h with h | ⟨b, off, hp, hb, hc⟩
 · exact .inl h
 · refine .inr ⟨b, off, hp, by simpa using hb, fun i x hx j hj => ?_⟩
   have hcc := hc i x hx j hj
   rw [World.cell?_setCell_other w q ⟨b, off + i * E + j, none⟩ u (fun e => ?_)]
   · exact hcc
   · subst e
     rw [hcc] at hq
     exact hne x j (Option.some.inj hq)
theorem gEnc_ne_slice (a : Option Addr) (n c : Nat) (x : Gate) (j : Nat) : gEnc x j ≠ .slice a n c := by
 unfold gEnc; split <;> simp
theorem cand_bad {c : List Gate} {a b : Int} (h : refOk a c.length = false ∨ refOk b c.length = false) : cand c a b = (c, -1) := by simp [cand, h]
theorem cand_lie {c : List Gate} {a b : Int} (h1 : refOk a c.length = true) (h2 : refOk b c.length = true) (h : a = 1 ∨ b = 1 ∨ a = cnot b) : cand c a b = (c, 1) := by simp [cand, h1, h2, h]
theorem cand_a0 {c : List Gate} {a b : Int} (h1 : refOk a c.length = true) (h2 : refOk b c.length = true) (h : ¬ (a = 1 ∨ b = 1 ∨ a = cnot b)) (h3 : a = 0) : cand c a b = (c, b) := by
 unfold cand; rw [if_neg (by simp [h1, h2]), if_neg h, if_pos h3]
theorem cand_b0 {c : List Gate} {a b : Int} (h1 : refOk a c.length = true) (h2 : refOk b c.length = true) (h : ¬ (a = 1 ∨ b = 1 ∨ a = cnot b)) (h3 : ¬ a = 0) (h4 : b = 0 ∨ a = b) : cand c a b = (c, a) := by
 unfold cand; rw [if_neg (by simp [h1, h2]), if_neg h, if_neg h3, if_pos h4]
theorem cand_new {c : List Gate} {a b : Int} (h1 : refOk a c.length = true) (h2 : refOk b c.length = true) (h : ¬ (a = 1 ∨ b = 1 ∨ a = cnot b)) (h3 : ¬ a = 0) (h4 : ¬ (b = 0 ∨ a = b)) : cand c a b = cshare c ⟨2, min a b, max a b⟩ := by
 unfold cand; rw [if_neg (by simp [h1, h2]), if_neg h, if_neg h3, if_neg h4]; rfl
def AndPost (w : World) (p : Option Addr) (gs : List Gate) (a b : Int) : Ending → World → Prop := RetCirc w p (cand gs a b).1 (cand gs a b).2
set_option maxRecDepth 100000 in
set_option maxHeartbeats 1000000 in
theorem and_new (gs : List Gate) (a b : Int) (p : Option Addr) (cap : Nat) (w : World) (ha1 : a ≤ 9223372036854775807) (hb1 : b ≤ 9223372036854775807) (hl : gs.length ≤ 20000) (hcap : gs.length ≤ cap) (hcm : cap ≤ maxLen) (hp : p = none → cap = 0) (hg : GatesAt w p gs)
 (ra : refOk a gs.length = true) (rb : refOk b gs.length = true) (a1 : (a == 1) = false) (b1 : (b == 1) = false) (ab : (a == cnot b) = false) (a0 : (a == 0) = false) (b0 : (b == 0) = false) (aeb : (a == b) = false) (hn : ¬ (a = 1 ∨ b = 1 ∨ a = cnot b)) :
 Calls Try.prog 80 #[.agg #[.slice p gs.length cap], .int .i64 a, .int .i64 b] w (AndPost w p gs a b) := by
 have HP : RetCirc w p (cand gs a b).1 (cand gs a b).2 = AndPost w p gs a b := rfl
 rw [← HP]; clear HP
 rw [cand_new ra rb hn (by simpa using a0) (by simp at b0 aeb; simp [b0, aeb])]
 clear hn
 have hne : a ≠ b := by simpa using aeb
 rcases Int.lt_or_gt_of_ne hne with hlt | hlt <;> clear hne
 · rw [show (⟨2, min a b, max a b⟩ : Gate) = ⟨2, a, b⟩ from by rw [Int.min_eq_left (by omega), Int.max_eq_right (by omega)]]
   have Hcm := Lib.hid hcm; have Hp := Lib.hid hp; have Hg := Lib.hid hg; clear hcm hp hg
   go_enter Try.func80, Try.ntmps80
   go_wp2_with (first | (go_at_call 130; refine (refok_any _ gs.length cap _ p _ hl (by go_cell)).mono ?_; rintro e w' ⟨rfl, rfl⟩) | (go_at_call 81; refine (not_any _ _ hb1).mono ?_; rintro e w' ⟨rfl, rfl⟩))
   refine (share_any gs ⟨2, a, b⟩ p cap _ hl hcap Hcm.out Hp.out (Hg.out.mono (by go_grown))).mono ?_
   rintro e w1 ⟨p1, cap1, rfl, hq1, hq2, hq3, hq4, hbl, hfr⟩
   obtain ⟨hc1, hf1⟩ := bcell hbl
   have HB1 : Below w.heap.size w w1 := Below.trans (by go_grown) (hbl.mono (by simp; omega))
   have Hq3 := Lib.hid hq3; have Hq4 := Lib.hid hq4; have Hfr := Lib.hid hfr; clear hq3 hq4 hfr
   generalize cshare gs ⟨2, a, b⟩ = R at *
   obtain ⟨gs1, r1⟩ := R
   dsimp only at *
   have kz : w.heap.size + 1 < w1.heap.size := by have := hbl.size; simp at this; omega
   go_wp2_with fail
   refine bodyPost_ret (by simp [results, Try.results80, go_sem, hc1, kz]; try rfl) rfl ?_
   refine ⟨p1, cap1, rfl, hq1, hq2, Hq3.out, Hq4.out.setBox (v0 := .slice none 0 0) (oldcell hbl (by go_cell) (by simp)) (gEnc_ne_slice _ _ _) _, Below.setCell HB1 (by show _ ≤ w.heap.size + 1; omega) _, Hfr.out.up (by simp; omega)⟩
 · rw [show (⟨2, min a b, max a b⟩ : Gate) = ⟨2, b, a⟩ from by rw [Int.min_eq_right (by omega), Int.max_eq_left (by omega)]]
   have Hcm := Lib.hid hcm; have Hp := Lib.hid hp; have Hg := Lib.hid hg; clear hcm hp hg
   go_enter Try.func80, Try.ntmps80
   go_wp2_with (first | (go_at_call 130; refine (refok_any _ gs.length cap _ p _ hl (by go_cell)).mono ?_; rintro e w' ⟨rfl, rfl⟩) | (go_at_call 81; refine (not_any _ _ hb1).mono ?_; rintro e w' ⟨rfl, rfl⟩))
   refine (share_any gs ⟨2, b, a⟩ p cap _ hl hcap Hcm.out Hp.out (Hg.out.mono (by go_grown))).mono ?_
   rintro e w1 ⟨p1, cap1, rfl, hq1, hq2, hq3, hq4, hbl, hfr⟩
   obtain ⟨hc1, hf1⟩ := bcell hbl
   have HB1 : Below w.heap.size w w1 := Below.trans (by go_grown) (hbl.mono (by simp; omega))
   have Hq3 := Lib.hid hq3; have Hq4 := Lib.hid hq4; have Hfr := Lib.hid hfr; clear hq3 hq4 hfr
   generalize cshare gs ⟨2, b, a⟩ = R at *
   obtain ⟨gs1, r1⟩ := R
   dsimp only at *
   have kz : w.heap.size + 1 < w1.heap.size := by have := hbl.size; simp at this; omega
   go_wp2_with fail
   refine bodyPost_ret (by simp [results, Try.results80, go_sem, hc1, kz]; try rfl) rfl ?_
   refine ⟨p1, cap1, rfl, hq1, hq2, Hq3.out, Hq4.out.setBox (v0 := .slice none 0 0) (oldcell hbl (by go_cell) (by simp)) (gEnc_ne_slice _ _ _) _, Below.setCell HB1 (by show _ ≤ w.heap.size + 1; omega) _, Hfr.out.up (by simp; omega)⟩
set_option maxRecDepth 100000 in
set_option maxHeartbeats 1000000 in
theorem and_any (gs : List Gate) (a b : Int) (p : Option Addr) (cap : Nat) (w : World) (ha1 : a ≤ 9223372036854775807) (hb1 : b ≤ 9223372036854775807) (hl : gs.length ≤ 20000) (hcap : gs.length ≤ cap) (hcm : cap ≤ maxLen) (hp : p = none → cap = 0) (hg : GatesAt w p gs) :
 Calls Try.prog 80 #[.agg #[.slice p gs.length cap], .int .i64 a, .int .i64 b] w (AndPost w p gs a b) := by
 have HP : RetCirc w p (cand gs a b).1 (cand gs a b).2 = AndPost w p gs a b := rfl
 cases ra : refOk a gs.length with
 | false =>
  rw [← HP]; clear HP
  rw [cand_bad (.inl ra)]
  have Hcm := Lib.hid hcm; have Hp := Lib.hid hp; have Hg := Lib.hid hg; clear hcm hp hg
  go_enter Try.func80, Try.ntmps80
  go_wp2_with (first | (go_at_call 130; refine (refok_any _ gs.length cap _ p _ hl (by go_cell)).mono ?_; rintro e w' ⟨rfl, rfl⟩) | (go_at_call 81; refine (not_any _ _ hb1).mono ?_; rintro e w' ⟨rfl, rfl⟩))
  refine bodyPost_ret (by simp [results, Try.results80, go_sem]; try rfl) rfl ?_
  exact ⟨p, cap, rfl, hcap, Hcm.out, Hp.out, Hg.out.mono (by go_grown), by go_grown, .inl rfl⟩
 | true =>
  cases rb : refOk b gs.length with
  | false =>
   rw [← HP]; clear HP
   rw [cand_bad (.inr rb)]
   have Hcm := Lib.hid hcm; have Hp := Lib.hid hp; have Hg := Lib.hid hg; clear hcm hp hg
   go_enter Try.func80, Try.ntmps80
   go_wp2_with (first | (go_at_call 130; refine (refok_any _ gs.length cap _ p _ hl (by go_cell)).mono ?_; rintro e w' ⟨rfl, rfl⟩) | (go_at_call 81; refine (not_any _ _ hb1).mono ?_; rintro e w' ⟨rfl, rfl⟩))
   refine bodyPost_ret (by simp [results, Try.results80, go_sem]; try rfl) rfl ?_
   exact ⟨p, cap, rfl, hcap, Hcm.out, Hp.out, Hg.out.mono (by go_grown), by go_grown, .inl rfl⟩
  | true =>
   cases a1 : (a == 1) with
   | true =>
    rw [← HP]; clear HP
    rw [cand_lie ra rb (.inl (by simpa using a1))]
    have Hcm := Lib.hid hcm; have Hp := Lib.hid hp; have Hg := Lib.hid hg; clear hcm hp hg
    go_enter Try.func80, Try.ntmps80
    go_wp2_with (first | (go_at_call 130; refine (refok_any _ gs.length cap _ p _ hl (by go_cell)).mono ?_; rintro e w' ⟨rfl, rfl⟩) | (go_at_call 81; refine (not_any _ _ hb1).mono ?_; rintro e w' ⟨rfl, rfl⟩))
    refine bodyPost_ret (by simp [results, Try.results80, go_sem]; try rfl) rfl ?_
    exact ⟨p, cap, rfl, hcap, Hcm.out, Hp.out, Hg.out.mono (by go_grown), by go_grown, .inl rfl⟩
   | false =>
    cases b1 : (b == 1) with
    | true =>
     rw [← HP]; clear HP
     rw [cand_lie ra rb (.inr (.inl (by simpa using b1)))]
     have Hcm := Lib.hid hcm; have Hp := Lib.hid hp; have Hg := Lib.hid hg; clear hcm hp hg
     go_enter Try.func80, Try.ntmps80
     go_wp2_with (first | (go_at_call 130; refine (refok_any _ gs.length cap _ p _ hl (by go_cell)).mono ?_; rintro e w' ⟨rfl, rfl⟩) | (go_at_call 81; refine (not_any _ _ hb1).mono ?_; rintro e w' ⟨rfl, rfl⟩))
     refine bodyPost_ret (by simp [results, Try.results80, go_sem]; try rfl) rfl ?_
     exact ⟨p, cap, rfl, hcap, Hcm.out, Hp.out, Hg.out.mono (by go_grown), by go_grown, .inl rfl⟩
    | false =>
     cases ab : (a == cnot b) with
     | true =>
      rw [← HP]; clear HP
      rw [cand_lie ra rb (.inr (.inr (by simpa using ab)))]
      have Hcm := Lib.hid hcm; have Hp := Lib.hid hp; have Hg := Lib.hid hg; clear hcm hp hg
      go_enter Try.func80, Try.ntmps80
      go_wp2_with (first | (go_at_call 130; refine (refok_any _ gs.length cap _ p _ hl (by go_cell)).mono ?_; rintro e w' ⟨rfl, rfl⟩) | (go_at_call 81; refine (not_any _ _ hb1).mono ?_; rintro e w' ⟨rfl, rfl⟩))
      refine bodyPost_ret (by simp [results, Try.results80, go_sem]; try rfl) rfl ?_
      exact ⟨p, cap, rfl, hcap, Hcm.out, Hp.out, Hg.out.mono (by go_grown), by go_grown, .inl rfl⟩
     | false =>
      have hn := Lib.hid (show ¬ (a = 1 ∨ b = 1 ∨ a = cnot b) from by simp at a1 b1 ab; simp [a1, b1, ab])
      cases a0 : (a == 0) with
      | true =>
       rw [← HP]; clear HP
       rw [cand_a0 ra rb hn.out (by simpa using a0)]
       have Hcm := Lib.hid hcm; have Hp := Lib.hid hp; have Hg := Lib.hid hg; clear hcm hp hg
       go_enter Try.func80, Try.ntmps80
       go_wp2_with (first | (go_at_call 130; refine (refok_any _ gs.length cap _ p _ hl (by go_cell)).mono ?_; rintro e w' ⟨rfl, rfl⟩) | (go_at_call 81; refine (not_any _ _ hb1).mono ?_; rintro e w' ⟨rfl, rfl⟩))
       refine bodyPost_ret (by simp [results, Try.results80, go_sem]; try rfl) rfl ?_
       exact ⟨p, cap, rfl, hcap, Hcm.out, Hp.out, Hg.out.mono (by go_grown), by go_grown, .inl rfl⟩
      | false =>
       cases b0 : (b == 0) with
       | true =>
        rw [← HP]; clear HP
        rw [cand_b0 ra rb hn.out (by simpa using a0) (.inl (by simpa using b0))]
        have Hcm := Lib.hid hcm; have Hp := Lib.hid hp; have Hg := Lib.hid hg; clear hcm hp hg
        go_enter Try.func80, Try.ntmps80
        go_wp2_with (first | (go_at_call 130; refine (refok_any _ gs.length cap _ p _ hl (by go_cell)).mono ?_; rintro e w' ⟨rfl, rfl⟩) | (go_at_call 81; refine (not_any _ _ hb1).mono ?_; rintro e w' ⟨rfl, rfl⟩))
        refine bodyPost_ret (by simp [results, Try.results80, go_sem]; try rfl) rfl ?_
        exact ⟨p, cap, rfl, hcap, Hcm.out, Hp.out, Hg.out.mono (by go_grown), by go_grown, .inl rfl⟩
       | false =>
        cases aeb : (a == b) with
        | true =>
         rw [← HP]; clear HP
         rw [cand_b0 ra rb hn.out (by simpa using a0) (.inr (by simpa using aeb))]
         have Hcm := Lib.hid hcm; have Hp := Lib.hid hp; have Hg := Lib.hid hg; clear hcm hp hg
         go_enter Try.func80, Try.ntmps80
         go_wp2_with (first | (go_at_call 130; refine (refok_any _ gs.length cap _ p _ hl (by go_cell)).mono ?_; rintro e w' ⟨rfl, rfl⟩) | (go_at_call 81; refine (not_any _ _ hb1).mono ?_; rintro e w' ⟨rfl, rfl⟩))
         refine bodyPost_ret (by simp [results, Try.results80, go_sem]; try rfl) rfl ?_
         exact ⟨p, cap, rfl, hcap, Hcm.out, Hp.out, Hg.out.mono (by go_grown), by go_grown, .inl rfl⟩
        | false =>
         exact and_new gs a b p cap w ha1 hb1 hl hcap hcm hp hg ra rb a1 b1 ab a0 b0 aeb hn.out
end Go.Proofs.Ytadilppdlbhjnaa
namespace Go.Proofs.Ytadilppdlbhjnaa
set_option linter.unusedSimpArgs false
set_option linter.unusedVariables false
open Go.RowKit
def BoxC (F : Option Addr → Prop) (w : World) (b : Nat) (gs : List Gate) : Prop :=
 ∃ p cap, w.cell? ⟨b, 0, none⟩ = some (.slice p gs.length cap) ∧ w.frozen? ⟨b, 0, none⟩ = false ∧ gs.length ≤ cap ∧ cap ≤ maxLen ∧ (p = none → cap = 0) ∧ GatesAt w p gs ∧ F p
def BoxN (w : World) (b : Nat) : Prop := w.cell? ⟨b, 0, none⟩ = some (.slice none 0 0) ∧ w.frozen? ⟨b, 0, none⟩ = false
theorem BoxN.keep {B : Nat} {W w1 : World} {b : Nat} (h : BoxN W b) (hB : Below B W w1) (hb : b < B) : BoxN w1 b := ⟨oldcell hB h.1 hb, oldfree hB h.2 hb⟩
theorem BoxN.far {w : World} {b : Nat} (h : BoxN w b) {q : Addr} (hne : q.block ≠ b) (u : Value) : BoxN (w.setCell q u) b :=
 ⟨keep_far h.1 hne, by rw [World.frozen?_setCell]; exact h.2⟩
theorem BoxN.drew {w : World} {b : Nat} (h : BoxN w b) : BoxN w.drew b := h
theorem BoxC.keep {F : Option Addr → Prop} {B : Nat} {W w1 : World} {b : Nat} {gs : List Gate} (h : BoxC F W b gs) (hB : Below B W w1) (hb : b < B) (hW : W.heap.size = B) : BoxC F w1 b gs := by
 obtain ⟨p, cap, h1, h2, h3, h4, h5, h6, h7⟩ := h
 subst hW
 exact ⟨p, cap, oldcell hB h1 hb, oldfree hB h2 hb, h3, h4, h5, h6.mono hB, h7⟩
theorem BoxC.put {F : Option Addr → Prop} {w : World} {b : Nat} {gs : List Gate} {p : Option Addr} {cap : Nat} {a : Option Addr} {n c : Nat} (h : w.cell? ⟨b, 0, none⟩ = some (.slice a n c)) (hf : w.frozen? ⟨b, 0, none⟩ = false) (h1 : gs.length ≤ cap) (h2 : cap ≤ maxLen) (h3 : p = none → cap = 0) (h4 : GatesAt w p gs) (h5 : F p) :
 BoxC F (w.setCell ⟨b, 0, none⟩ (.slice p gs.length cap)) b gs :=
 ⟨p, cap, by go_cell, by rw [World.frozen?_setCell]; exact hf, h1, h2, h3, h4.setBox h (gEnc_ne_slice _ _ _) _, h5⟩
theorem cnot_le {r : Int} (h : r ≤ 9223372036854775807) : cnot r ≤ 9223372036854775807 := by
 unfold cnot; split <;> (try split) <;> omega
theorem cshare_le {c : List Gate} {g : Gate} (h : c.length ≤ 20000) : (cshare c g).1.length ≤ 20000 ∧ (cshare c g).2 ≤ 40000 := by
 unfold cshare
 split
 · rename_i i hi
   have := (List.getElem?_eq_some_iff.1 (cfind_some hi).1).1
   exact ⟨h, by show 2 * (i : Int) ≤ 40000; omega⟩
 · split
   · exact ⟨h, by show (-1 : Int) ≤ _; omega⟩
   · refine ⟨by simp; omega, ?_⟩
     show 2 * (c.length : Int) ≤ 40000; omega
theorem cand_le {c : List Gate} {a b : Int} (h : c.length ≤ 20000) : (cand c a b).1.length ≤ 20000 ∧ (cand c a b).2 ≤ 40000 := by
 unfold cand
 split
 · exact ⟨h, by show (-1 : Int) ≤ _; omega⟩
 · rename_i hv
   have hv : refOk a c.length = true ∧ refOk b c.length = true := by simpa using hv
   have h1 := refOk_true hv.1
   have h2 := refOk_true hv.2
   split
   · exact ⟨h, by show (1 : Int) ≤ _; omega⟩
   · split
     · exact ⟨h, by show b ≤ _; omega⟩
     · split
       · exact ⟨h, by show a ≤ _; omega⟩
       · exact cshare_le h
theorem SlAt.drew' {α : Type} {E : Nat} {enc : α → Nat → Value} {w : World} {p : Option Addr} {xs : List α} (h : SlAt E enc w p xs) : SlAt E enc w.drew p xs := h
def OrPost (w : World) (p : Option Addr) (gs : List Gate) (a b : Int) : Ending → World → Prop := RetCirc w p (cor gs a b).1 (cor gs a b).2
set_option maxRecDepth 100000 in
set_option maxHeartbeats 1000000 in
theorem or_any (gs : List Gate) (a b : Int) (p : Option Addr) (cap : Nat) (w : World) (ha1 : a ≤ 9223372036854775807) (hb1 : b ≤ 9223372036854775807) (hl : gs.length ≤ 20000) (hcap : gs.length ≤ cap) (hcm : cap ≤ maxLen) (hp : p = none → cap = 0) (hg : GatesAt w p gs) :
 Calls Try.prog 135 #[.agg #[.slice p gs.length cap], .int .i64 a, .int .i64 b] w (OrPost w p gs a b) := by
 have Hle := Lib.hid (cand_le (c := gs) (a := cnot a) (b := cnot b) hl)
 have HP : Hid (RetCirc w p (cand gs (cnot a) (cnot b)).1 (cnot (cand gs (cnot a) (cnot b)).2) = OrPost w p gs a b) := rfl
 have Hcm := Lib.hid hcm; have Hp := Lib.hid hp; have Hg := Lib.hid hg; clear hcm hp hg
 go_enter Try.func135, Try.ntmps135
 go_upto_region 1 with fail
 go_cut [8] (fun s8 wx => s8 = .int .i64 (cand gs (cnot a) (cnot b)).2 ∧ BoxC (Fresh w p) wx w.heap.size (cand gs (cnot a) (cnot b)).1 ∧ BoxN wx (w.heap.size + 1) ∧ Below w.heap.size w wx ∧ w.heap.size + 1 < wx.heap.size)
 case first =>
  go_region_with (first | (go_at_call 81; refine (not_any _ _ (by assumption)).mono ?_; rintro e w' ⟨rfl, rfl⟩) | (go_at_call 80; refine (and_any gs (cnot a) (cnot b) p cap _ (cnot_le ha1) (cnot_le hb1) hl hcap Hcm.out Hp.out (Hg.out.mono (by go_grown))).mono ?_; rintro e w1 ⟨p1, cap1, rfl, hq1, hq2, hq3, hq4, hbl, hfr⟩; have k0 := oldcell (b := w.heap.size) (o := 0) (v := .slice p gs.length cap) hbl (by go_cell) (by simp <;> omega); have k1 := oldfree (b := w.heap.size) (o := 0) hbl (by go_cell) (by simp <;> omega)))
  all_goals
   have HB : Below w.heap.size w w1 := Below.trans (by go_grown) (hbl.mono (by simp <;> omega))
   have HN : BoxN w1 (w.heap.size + 1) := BoxN.keep (W := (((w.alloc (Obj.cells #[Value.slice p gs.length cap] 27)).alloc (Obj.cells #[Value.slice none 0 0] 27)).drew)) ⟨by go_cell, by go_cell⟩ hbl (by simp)
   have HZ : w.heap.size + 1 < w1.heap.size := by have := hbl.size; simp at this; omega
   go_wp2_with fail
   go_meet
   exact ⟨rfl, BoxC.put k0 k1 hq1 hq2 hq3 hq4 (hfr.up (by simp <;> omega)), HN.far (by show w.heap.size ≠ w.heap.size + 1; omega) _, HB.setCell (Nat.le_refl _) _, by simpa using HZ⟩
 obtain ⟨rfl, ⟨p1, cap1, h0, h0f, hq1, hq2, hq3, hq4, hfr⟩, ⟨h1, h1f⟩, hB, hz⟩ := hcut
 have Hq3 := Lib.hid hq3; have Hq4 := Lib.hid hq4; have Hfr := Lib.hid hfr; clear hq3 hq4 hfr
 go_wp2_with fail
 go_region_held3 (fun w' => w'.cell? ⟨w.heap.size, 0, none⟩ = some (.slice p1 (cand gs (cnot a) (cnot b)).1.length cap1)) (go_keep) (first | (go_at_call 81; refine (not_any _ _ (by have := Hle.out.2; omega)).mono ?_; rintro e w' ⟨rfl, rfl⟩))
 all_goals
  go_wp2_with fail
  rw [← HP.out]
  refine bodyPost_ret (by simp [results, Try.results135, go_sem, h1, hz]; try rfl) rfl ?_
  exact ⟨p1, cap1, rfl, hq1, hq2, Hq3.out, Hq4.out.drew'.setBox (v0 := .slice none 0 0) (by go_cell) (gEnc_ne_slice _ _ _) _, Below.setCell (Below.drew hB) (by show _ ≤ w.heap.size + 1; omega) _, Hfr.out⟩
end Go.Proofs.Ytadilppdlbhjnaa
namespace Go.Proofs.Ytadilppdlbhjnaa
set_option linter.unusedSimpArgs false
set_option linter.unusedVariables false
open Go.RowKit
theorem wpList_app {α : Type} {E : Nat} {enc : α → Nat → Value} {P : Program} {w : World} {ops : Array Oper} {rest : List Oper} {o : Oper} {a : Act} {Q : Exit → Act → World → Prop} (hgd : o.guard = none) (s x : Operand) (t : TypeId)
 (ho : o.op = .call { callee := .builtin .append, args := #[s, x], argTypes := #[t, t] })
 (B : Nat) (ty : TypeId) (i : TypeInfo) (z : Value) (bytes : Nat) (ht : P.underlying t = some (.slice ty)) (hi : P.info? ty = some i) (hz : i.zero = some z) (hsize : i.size = E) (hby : i.bytes = bytes) (hzs : z.cells.size = E) (hsz : 0 < E)
 (v : Value) (xs : List α) (hs : a.eval s = v) (hown : w.ownsRow B ty E v xs.length (flat E enc xs)) (p : Option Addr) (ys : List α) (c : Nat) (hx : a.eval x = .slice p ys.length c) (hpc : p = none → c = 0) (hys : SlAt E enc w p ys) (hone : ∀ y j, (enc y j).oneCell' = true)
 (h63 : xs.length + ys.length ≤ maxLen) (hbytes : (xs.length + ys.length) * bytes ≤ 140737488355328) (hbase : B ≤ w.heap.size)
 (h : ∀ v' w', w'.ownsRow B ty E v' (xs ++ ys).length (flat E enc (xs ++ ys)) → w.grownBy w' v.ownBlock → Below B w w' → wpList P ops Q rest (a.put o.dst v') w') : wpList P ops Q (o :: rest) a w := by
 cases p with
 | none =>
  obtain rfl := hpc rfl
  have hy : ys = [] := by
   rcases hys with h | ⟨b, off, hp, _⟩
   · exact h
   · cases hp
  subst hy
  refine wpList_append_own_none hgd s x t ho B ty i E ht hi v xs.length _ hs hown hx ?_
  refine h v w (by simpa using hown) ⟨rfl, rfl, rfl, Nat.le_refl _, fun _ _ _ => rfl⟩ (Below.refl _ _)
 | some ad =>
  refine wpList_append_own w hgd s x t ho B ty i z E bytes ht hi hz hsize hby hzs hsz v xs.length _ hs hown ad ys.length c (flat E enc ys) hx (flat_length _ _ _) hys.news ?_ h63 hbytes hbase ?_
  · intro u hu
    obtain ⟨n, hn⟩ := List.getElem?_of_mem hu
    obtain ⟨i, y, j, hy, hj, _, rfl⟩ := flat_inv hn
    exact hone y j
  · intro v' w' h1 h2 _
    exact h v' w' (by rw [flat_append, List.length_append]; exact h1) h2 (Below.grown (Below.refl _ _) h2 hbase (fun k hk => (hown.lt k hk).1))
theorem owns_form {w : World} {base : Nat} {e : TypeId} {size : Nat} {v : Value} {n : Nat} {xs : List Value} (h : w.ownsRow base e size v n xs) (hn : 0 < n) :
 ∃ g cap, v = .slice (some ⟨g, 0, none⟩) n cap ∧ base ≤ g ∧ g < w.heap.size ∧ n ≤ cap ∧ cap ≤ maxLen := by
 rcases h.2 with ⟨_, h0⟩ | ⟨g, cap, cur, hv, hb, hg, h1, h2, _⟩
 · omega
 · refine ⟨g, cap, hv, hb, ?_, h1, h2⟩
   rcases Nat.lt_or_ge g w.heap.size with hlt | hge
   · exact hlt
   · rw [Array.getElem?_eq_none hge] at hg; cases hg
def RSharePost (w : World) (p : Option Addr) (gs : List Gate) (g : Gate) : Ending → World → Prop := RetCirc w p (cshare gs g).1 (cshare gs g).2
set_option maxRecDepth 100000 in
set_option maxHeartbeats 1000000 in
theorem rshare_any (gs : List Gate) (g : Gate) (p : Option Addr) (cap : Nat) (w : World) (hl : gs.length ≤ 20000) (hcap : gs.length ≤ cap) (hcm : cap ≤ maxLen) (hp : p = none → cap = 0) (hg : GatesAt w p gs) :
 Calls Try.prog 131 #[.agg #[.slice p gs.length cap], .agg #[.int .i64 g.k, .int .i64 g.a, .int .i64 g.b]] w (RSharePost w p gs g) := by
 cases hf : cfind gs g with
 | some i =>
  have hi := (List.getElem?_eq_some_iff.1 (cfind_some hf).1).1
  have hfi := findI_some hf
  have HP : Hid (RetCirc w p gs (2 * (i : Int)) = RSharePost w p gs g) := by unfold RSharePost; rw [cshare_some hf]; rfl
  have Hcm := Lib.hid hcm; have Hp := Lib.hid hp; have Hg := Lib.hid hg; have Hf := Lib.hid hf; have Hfi := Lib.hid hfi; clear hcm hp hg hf hfi
  go_enter Try.func131, Try.ntmps131
  go_wp2_with fail
  refine (rfind_any gs g p cap _ (by unfold maxLen; omega) (Hg.out.mono (by go_grown))).mono ?_
  rintro e w1 ⟨rfl, hb1⟩
  rw [Hfi.out]
  obtain ⟨hc1, hf1⟩ := bcell hb1
  have HB1 : Below w.heap.size w w1 := Below.trans (by go_grown) (hb1.mono (by simp; omega))
  go_wp2_with fail
  rw [← HP.out]
  refine bodyPost_ret (by simp [results, Try.results131, go_sem, hc1]; try rfl) rfl ?_
  exact ⟨p, cap, rfl, hcap, Hcm.out, Hp.out, Hg.out.mono (by go_grown), by go_grown, .inl rfl⟩
 | none =>
  have hfi := findI_none' hf
  by_cases hfull : 20000 ≤ gs.length
  · have HP : Hid (RetCirc w p gs (-1) = RSharePost w p gs g) := by unfold RSharePost; rw [cshare_full hf hfull]; rfl
    have Hcm := Lib.hid hcm; have Hp := Lib.hid hp; have Hg := Lib.hid hg; have Hf := Lib.hid hf; have Hfi := Lib.hid hfi; clear hcm hp hg hf hfi
    go_enter Try.func131, Try.ntmps131
    go_wp2_with fail
    refine (rfind_any gs g p cap _ (by unfold maxLen; omega) (Hg.out.mono (by go_grown))).mono ?_
    rintro e w1 ⟨rfl, hb1⟩
    rw [Hfi.out]
    obtain ⟨hc1, hf1⟩ := bcell hb1
    have HB1 : Below w.heap.size w w1 := Below.trans (by go_grown) (hb1.mono (by simp; omega))
    go_wp2_with fail
    rw [← HP.out]
    refine bodyPost_ret (by simp [results, Try.results131, go_sem, hc1]; try rfl) rfl ?_
    exact ⟨p, cap, rfl, hcap, Hcm.out, Hp.out, Hg.out.mono (by go_grown), by go_grown, .inl rfl⟩
  · have HP : Hid (RetCirc w p (gs ++ [g]) (2 * (gs.length : Int)) = RSharePost w p gs g) := by unfold RSharePost; rw [cshare_new hf hfull]; rfl
    have Hcm := Lib.hid hcm; have Hp := Lib.hid hp; have Hg := Lib.hid hg; have Hf := Lib.hid hf; have Hfi := Lib.hid hfi; clear hcm hp hg hf hfi
    obtain ⟨i0, hi0, hz0, hz1, hz2⟩ := info_parts gate_info
    go_enter Try.func131, Try.ntmps131
    go_wp2_with fail
    refine (rfind_any gs g p cap _ (by unfold maxLen; omega) (Hg.out.mono (by go_grown))).mono ?_
    rintro e w1 ⟨rfl, hb1⟩
    rw [Hfi.out]
    have k0 := oldcell (b := w.heap.size) (o := 0) (v := .slice p gs.length cap) hb1 (by go_cell) (by simp <;> omega)
    have k1 := oldcell (b := w.heap.size + 1) (o := 0) (v := .int .i64 g.k) hb1 (by go_cell) (by simp <;> omega)
    have k2 := oldcell (b := w.heap.size + 1) (o := 1) (v := .int .i64 g.a) hb1 (by go_cell) (by simp <;> omega)
    have k3 := oldcell (b := w.heap.size + 1) (o := 2) (v := .int .i64 g.b) hb1 (by go_cell) (by simp <;> omega)
    have k4 := oldcell (b := w.heap.size + 1 + 1) (o := 0) (v := .slice none 0 0) hb1 (by go_cell) (by simp)
    have k5 := oldfree (b := w.heap.size + 1 + 1) (o := 0) hb1 (by go_cell) (by simp)
    have kz : w.heap.size + 1 + 1 < w1.heap.size := by have := hb1.size; simp at this; omega
    have HB1 := Lib.hid (show Below w.heap.size w w1 from Below.trans (by go_grown) (hb1.mono (by simp; omega)))
    clear hb1
    go_wp2_with (first
     | (at_builtin; refine wpList_app (enc := gEnc) rfl _ _ _ rfl (w.heap.size + 3) 85 i0 _ 24 Try.underlying25 hi0 hz0 hz1 hz2 rfl (by omega) (.slice none 0 0) [] rfl (World.ownsRow_nil _ _ _ _) p gs cap rfl Hp.out (Hg.out.mono (HB1.out.trans (by go_grown))) gEnc_one (by simp [maxLen]; omega) (by simp; omega) (by first | omega | (simp; omega)) ?_; intro v1 w2 hown1 hgr1 hbl1; have j0 := oldcell hbl1 k0 (by omega); have j1 := oldcell hbl1 k1 (by omega); have j2 := oldcell hbl1 k2 (by omega); have j3 := oldcell hbl1 k3 (by omega); have j4 := oldcell hbl1 k4 (by omega); have j5 := oldfree hbl1 k5 (by omega); have jz := Nat.lt_of_lt_of_le kz hbl1.size; have Hown1 := Lib.hid hown1; have Hbl1 := Lib.hid hbl1; clear hown1 hbl1 hgr1)
     | (at_builtin; refine wpList_app (enc := gEnc) rfl _ _ _ rfl (w.heap.size + 3) 85 i0 _ 24 Try.underlying25 hi0 hz0 hz1 hz2 rfl (by omega) v1 gs rfl (World.ownsRow.alloc Hown1.out _) (some ⟨w2.heap.size, 0, none⟩) [g] 1 rfl (fun h => by cases h) (SlAt.gate1 (by go_cell) (by go_cell) (by go_cell)) gEnc_one (by simp [maxLen]; omega) (by simp; omega) (by first | omega | (simp; omega)) ?_; intro v2 w3 hown2 hgr2 hbl2; have n0 := oldcell hbl2 (keep_alloc j0) (by omega); have n4 := oldcell hbl2 (keep_alloc j4) (by omega); have n5 := oldfree (b := w.heap.size + 1 + 1) (o := 0) hbl2 (by go_cell) (by omega); have nz := Nat.lt_of_lt_of_le jz (Nat.le_trans (by simp) hbl2.size); have Hown2 := Lib.hid hown2; have Hbl2 := Lib.hid hbl2; clear hown2 hbl2 hgr2))
    obtain ⟨g2, cap2, rfl, hg2, hg3, hg4, hg5⟩ := owns_form Hown2.out (by simp)
    go_region_held3 (fun w' => w'.cell? ⟨w.heap.size, 0, none⟩ = some (.slice p gs.length cap)) (repeat (first | (with_reducible assumption) | (with_reducible refine keep_drew ?_) | (with_reducible refine keep_alloc ?_) | (with_reducible refine keep_far ?_ (by dsimp only; omega)))) (fail)
    all_goals
     have e1 : IntKind.i64.wrap (2 * (gs.length : Int)) = 2 * (gs.length : Int) := IntWalk.i64_in _ (by omega)
     go_wp2_with fail
     rw [← HP.out]
     refine bodyPost_ret (by simp [results, Try.results131, go_sem, n4]; try rfl) rfl ?_
     exact ⟨some ⟨g2, 0, none⟩, cap2, by rw [e1]; simp, hg4, hg5, (fun h => by cases h), (SlAt.of_owns (by omega) Hown2.out).drew'.setBox n4 (gEnc_ne_slice _ _ _) _, Below.setCell (Below.drew ((HB1.out.trans (Hbl1.out.mono (by omega))).trans (Below.trans (by go_grown) (Hbl2.out.mono (by omega))))) (by show _ ≤ w.heap.size + 1 + 1; omega) _, Fresh.new (by omega)⟩
end Go.Proofs.Ytadilppdlbhjnaa
