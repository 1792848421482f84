/- Walks of the solver: end. -/
import Derived.Test.YtdibfjcmgbpnpaaK9
import Derived.Laws.MakeOwn
namespace Go.Proofs.Ytdibfjcmgbpnpaa
set_option linter.unusedSimpArgs false
set_option linter.unusedVariables false
open Go.RowKit

theorem Mm.setc {w : World} {o : Nat → Option Role} {b : Nat} {hd : Role → Value} {ct : Role → List Value} (h : Mm w o b hd ct) {q : Role} {g n c : Nat} (hv : hd q = .slice (some ⟨g, 0, none⟩) n c) (j : Nat) (u : Value) :
    Mm (w.setCell ⟨g, j, none⟩ u) o b hd (upd ct q ((ct q).set j u)) ∧ Ext NoX w o (w.setCell ⟨g, j, none⟩ u) o :=
  ⟨⟨h.hb, h.mem.set hv j u, fun g hg => by rw [World.size_setCell]; exact h.lt g hg⟩, Ext.setCell ((h.mem q).tag g (by rw [hv]; rfl)) u⟩
theorem E_core (s : SS) (oc : Int) (hd : Role → Value) (l : List Int) (V : Value) : upd (upd (E s oc hd) .core (iV l)) .self ((upd (E s oc hd) .core (iV l) .self).set 14 V) = E { s with core := l } oc (upd hd .core V) := by
  funext r; cases r <;> rfl
theorem E_model (s : SS) (oc : Int) (hd : Role → Value) (l : List Int) (V : Value) : upd (upd (E s oc hd) .model (iV l)) .self ((upd (E s oc hd) .model (iV l) .self).set 13 V) = E { s with model := l } oc (upd hd .model V) := by
  funext r; cases r <;> rfl
theorem iV_append (a b : List Int) : iV (a ++ b) = iV a ++ iV b := by unfold iV; rw [List.map_append]
theorem SI.of_owns {w : World} {B : Nat} {p : Option Addr} {c : Nat} {l : List Int} (h : w.ownsRow B 3 1 (.slice p l.length c) l.length (iV l)) : SI w p c l := by
  have h' : OwnG 1 iEnc 3 w B (.slice p l.length c) l := by unfold OwnG; rw [flat_iV]; exact h
  obtain ⟨q, cq, e, h1, h2, h3, h4, h5⟩ := h'.val (by decide)
  simp only [Value.slice.injEq] at e
  obtain ⟨rfl, -, rfl⟩ := e
  exact ⟨h1, h2, h3, h4, fun _ a ha => (h5 a ha).2⟩
/-- a value is appended to a slice of its own -/
theorem own_app1 {w wb wa : World} {B n : Nat} {p : Option Addr} {c : Nat} {xs : List Value} {i0 : TypeInfo} (hi0 : Try.prog.info? 3 = some i0) (hz0 : i0.zero = some (.int .i64 0)) (hz1 : i0.size = 1) (hz2 : i0.bytes = 8)
    (h : w.ownsRow B 3 1 (.slice p n c) n xs) (x : Int) (h1 : Below w.heap.size w wb) (h2 : Below (wb.alloc (.cells #[.int .i64 x] 3)).heap.size (wb.alloc (.cells #[.int .i64 x] 3)) wa) (hn : n ≤ 2000000) (hb : B ≤ w.heap.size) :
    ∃ q c' w', (Builtin.append_ #[29, 29] 29 #[.slice p n c, .slice (some ⟨wb.heap.size, 0, none⟩) 1 1]).run Try.prog wa = .ok (.slice q (n + 1) c') w' ∧ w'.ownsRow B 3 1 (.slice q (n + 1) c') (n + 1) (xs ++ [.int .i64 x]) ∧ Below B w w' := by
  have hB0 : Below wb.heap.size wb (wb.alloc (.cells #[.int .i64 x] 3)) := by go_grown
  have hB : Below w.heap.size w wa := btr (btr h1 hB0) h2
  have ho : wa.ownsRow B 3 1 (.slice p n c) n xs := owns_keep h fun g hg => hB.block g (owns_lt h hg)
  obtain ⟨v', w', hr, h3, h4, -, h5⟩ := run_append_own_at (P := Try.prog) wa B 29 29 3 i0 _ 1 8 Try.underlying29 hi0 hz0 hz1 hz2 rfl (by decide) _ n xs ho (⟨wb.heap.size, 0, none⟩) 1 1 [.int .i64 x] rfl (fun j u hu => by
    have e := one_new wb (.int .i64 x) 3 j u hu
    rw [World.cell?_of_block (h2.block _ (World.block_lt_of_cell? _ _ e))]; exact e) (fun u hu => by simp only [List.mem_singleton] at hu; subst hu; rfl) (by simp only [maxLen]; omega) (by omega) (Nat.le_trans hb hB.size)
  have hbl : Below B w w' := (hB.mono hb).grown h4 (Nat.le_trans hb hB.size) fun k hk => (World.ownsRow.lt ho k hk).1
  rcases id h3.2 with ⟨q, q2⟩ | ⟨g', cap, cur, rfl, -⟩
  · omega
  · exact ⟨_, _, w', hr, h3, hbl⟩
set_option maxRecDepth 100000 in
set_option maxHeartbeats 2000000 in
theorem end_any {w : World} {o : Nat → Option Role} {b : Nat} {s : SS} (h : SolAt w o b s) (hp : s.proof.length ≤ 100000) {p : Option Addr} {cap : Nat} {l : List Int} (hv : w.ownsRow 0 3 1 (.slice p l.length cap) l.length (iV l)) (ho : ∀ g, (Value.slice p l.length cap).ownBlock = some g → o g = none) (hll : l.length ≤ 1000000) (hin : ∀ x ∈ l, -1000000 ≤ x ∧ x ≤ 1000000) :
    Calls Try.prog 39 #[.pointer (some ⟨b, 0, none⟩), .slice p l.length cap] w fun e w' => e = .returned (.int .i64 2) ∧ ∃ o', SolAt w' o' b (s.fin l) ∧ Ext (fun g => (Value.slice p l.length cap).ownBlock = some g) w o w' o' := by
 obtain ⟨i0, hi0, hz0, hz1, hz2⟩ := info_parts int_info
 obtain ⟨oc, hd, hs⟩ := h.sl
 obtain ⟨f14, f14f⟩ := hs.fld 14 (u := hd .core) rfl
 obtain ⟨hm1, hx1⟩ := hs.mm.new .core (by intro q; cases q) hv ho
 obtain ⟨hm2, hx2⟩ := hm1.setc (q := .self) hm1.hb 14 (.slice p l.length cap)
 have hsl := hm2.sl (s := { s with core := l }) (oc := oc) (E_core _ _ _ _ _)
 have hxa := hx1.trans hx2 fun _ _ q => q.elim
 obtain ⟨o1, ho1⟩ : ∃ z, z = tagNew o (.slice p l.length cap) .core := ⟨_, rfl⟩
 rw [← ho1] at hsl hxa
 have hcr : ∀ K, K < l.length → ∃ g, p = some ⟨g, 0, none⟩ ∧ (w.setCell ⟨b, 14, none⟩ (.slice p l.length cap)).cell? ⟨g, K, none⟩ = some (.int .i64 (l.getD K 0)) := by
   intro K hK
   rcases hv.2 with ⟨-, q⟩ | ⟨g, c2, cur, q, -⟩
   · omega
   · simp only [Value.slice.injEq] at q
     obtain ⟨rfl, -, -⟩ := q
     exact ⟨g, rfl, (hsl.cell (r := .core) (upd_self _ _ _) (i := K) (u := .int .i64 (l.getD K 0)) (iV_get hK)).1⟩
 have HS := Lib.hid hsl; have HX := Lib.hid hxa; have HC := Lib.hid hcr; have HIN := Lib.hid hin
 clear hsl hxa hm1 hm2 hx1 hx2 hs hv ho ho1 hcr h hin
 go_enter Try.func39, Try.ntmps39
 go_upto_region 2 with fail
 obtain ⟨w1, hw1⟩ : ∃ z, z = w.setCell ⟨b, 14, none⟩ (.slice p l.length cap) := ⟨_, rfl⟩
 have hcr := HC.out; have hsl := HS.out; have hxa := HX.out
 rw [← hw1] at hcr hsl hxa ⊢
 have HS := Lib.hid hsl; have HX := Lib.hid hxa; have HC := Lib.hid hcr
 clear hw1 f14 f14f hsl hxa hcr
 obtain ⟨w2, hmk, own2, hg2⟩ := run_make_own (P := Try.prog) w1 w1.heap.size 29 3 i0 _ 1 Try.underlying29 hi0 hz0 hz1 .i64 .i64 l.length (by rw [hz2]; omega) (by simp only [maxLen]; omega) (Nat.le_refl _)
 have hb2 : Below w1.heap.size w1 w2 := (Below.refl _ w1).grown hg2 (Nat.le_refl _) (fun k hk => by cases hk)
 go_wp2_with fail
 clear hmk hg2
 go_loopg [5, 17] l.length (fun N s5 s17 wr => ∃ K : Nat, ∃ q c, s17 = .int .i64 K ∧ s5 = .slice q K c ∧ K ≤ l.length ∧ N = l.length - K ∧ wr.ownsRow w1.heap.size 3 1 (.slice q K c) K (iV ((l.take K).map fun y => -y)) ∧ Below w1.heap.size w1 wr)
 case atStart => exact ⟨0, _, _, rfl, rfl, by omega, rfl, own2, hb2⟩
 case round =>
  obtain ⟨K, q, c, rfl, rfl, hK, hN, hO, hbw⟩ := hrel
  have HN := Lib.hid hN; clear hN own2 hb2
  by_cases hlt : K < l.length
  case pos =>
   obtain ⟨gc, rfl, c0⟩ := HC.out K hlt
   replace c0 := oldcell hbw c0 (World.block_lt_of_cell? _ _ c0)
   obtain ⟨x, hx⟩ : ∃ x, l.getD K 0 = x := ⟨_, rfl⟩
   rw [hx] at c0
   have hxm : x ∈ l := by rw [← hx, List.getD_eq_getElem?_getD, List.getElem?_eq_getElem hlt]; exact List.getElem_mem _
   have hwx : IntKind.i64.wrap (-x) = -x := by have := HIN.out x hxm; exact wrapI (by omega) (by omega)
   obtain ⟨q2, c2, w3, hrun, hO3, hb3⟩ := own_app1 hi0 hz0 hz1 hz2 hO (-x) (Below.refl _ _) (Below.refl _ _) (by omega) hbw.size
   have HX3 := Lib.hid hx; have HO3 := Lib.hid hO3; have HB3 := Lib.hid (hbw.trans hb3)
   clear hxm hx hO3 hb3 hO hbw
   go_wp2_with (first | (at_builtin; go_must (refine wpList_run rfl (exec_app rfl rfl rfl hrun) ?_)))
   go_roundg (l.length - (K + 1))
   case measure => (have := HN.out; omega)
   case rel =>
     refine ⟨K + 1, q2, c2, by go_num, rfl, by omega, rfl, ?_, HB3.out⟩
     rw [take_getD_succ hlt, List.map_append, HX3.out, iV_append]
     exact HO3.out
  case neg =>
   obtain rfl : K = l.length := by omega
   rw [List.take_length] at hO
   obtain ⟨Z, hZ⟩ : ∃ Z, l.map (fun y => -y) = Z := ⟨_, rfl⟩
   rw [hZ] at hO
   have hzl : Z.length = l.length := by rw [← hZ, List.length_map]
   rw [← hzl] at hO
   have hsi := SI.of_owns hO
   have hle := learn_any (HS.out.up hbw).at (by show s.proof.length ≤ _; exact hp) hsi (by omega)
   rw [hzl] at hle
   have HZ := Lib.hid hZ; have HB := Lib.hid hbw; have HLE := Lib.hid hle
   clear hsi hO hZ hbw hle
   go_wp2_with (first | (go_at_call 53; refine HLE.out.mono ?_; rintro e w3 ⟨rfl, o3, hs3, hx3⟩; have HS3 := Lib.hid hs3; have HX3 := Lib.hid hx3; clear hs3 hx3))
   go_ret
   have e : s.fin l = SS.learn { s with core := l } Z := by unfold SS.fin; rw [HZ.out]
   rw [e]
   exact ⟨rfl, o3, HS3.out, ((HX.out.trans (Ext.below (X := NoX) HB.out) fun _ _ q => q.elim).trans HX3.out fun _ _ q => q.elim)⟩
end Go.Proofs.Ytdibfjcmgbpnpaa
