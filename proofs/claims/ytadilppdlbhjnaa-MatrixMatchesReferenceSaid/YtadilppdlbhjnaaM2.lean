import Derived.Test.YtadilppdlbhjnaaM1
import Derived.Test.YtadilppdlbhjnaaGC
import Derived.RangeFuncNested
import Derived.RangeFuncBound
import Derived.RangeFuncCalls
import Derived.RangeFuncLeaves
import Derived.Shelf.Abstract
import Derived.Shelf.RegionOpen
import Derived.WalkKit
import Derived.OwnWalkIn
import Derived.TacticsInMore
namespace Go.Proofs.Ytadilppdlbhjnaa
set_option linter.unusedSimpArgs false
set_option linter.unusedVariables false
open Go.RowKit Go.Shelf
attribute [local go_sem] Oper.semAt_some
def KpB (ka kb : Nat) (W W' : World) : Prop := W'.heap[ka]? = W.heap[ka]? ∧ W'.heap[kb]? = W.heap[kb]?
theorem kpB_t {ka kb : Nat} {A B C : World} (h : KpB ka kb A B) (k : KpB ka kb B C) : KpB ka kb A C := ⟨k.1.trans h.1, k.2.trans h.2⟩
theorem kpB_b {ka kb : Nat} {w : World} (ha : ka < w.heap.size) (hb : kb < w.heap.size) (W : World) (l : Nat) (o o' : Obj) (hl : w.heap.size ≤ l) (h : W.heap[l]? = some o) (_ : o.isCells = false) (_ : o.isWalk = false) : KpB ka kb W (W.putObj l o') :=
 ⟨World.putObj_heap_other (by omega), World.putObj_heap_other (by omega)⟩
def SuffAt (w : World) (k : Nat) (p : Option Addr) (cap : Nat) (xs : List Cell) : Prop := xs.length ≤ cap ∧ cap ≤ maxLen ∧ (xs = [] ∨ ∃ off, p = some ⟨k, off, none⟩ ∧ k < w.heap.size ∧ ∀ i x, xs[i]? = some x → ∀ j, j < 2 → w.cell? ⟨k, off + i * 2 + j, none⟩ = some (cEnc x j))
theorem SuffAt.keep {w w' : World} {k : Nat} {p : Option Addr} {cap : Nat} {xs : List Cell} (h : SuffAt w k p cap xs) (hk : w'.heap[k]? = w.heap[k]?) : SuffAt w' k p cap xs := by
 obtain ⟨h1, h2, h3⟩ := h
 refine ⟨h1, h2, h3.imp id ?_⟩
 rintro ⟨off, hp, hlt, hc⟩
 have hs : k < w'.heap.size := by
  have : w'.heap[k]? = some w.heap[k] := by rw [hk, Array.getElem?_eq_getElem hlt]
  exact (Array.getElem?_eq_some_iff.1 this).1
 exact ⟨off, hp, hs, fun i x hx j hj => by rw [World.cell?_of_block (w := w) hk]; exact hc i x hx j hj⟩
theorem grown_below {w w' : World} (h : Below w.heap.size w w') : w.grownBy w' none := ⟨h.os, h.tape, h.output, h.size, fun k hk _ => h.block k hk⟩
abbrev TriB := { t : Tri // t.p ≤ 100000 ∧ t.q ≤ 100000 }
abbrev TriR (R : Tri → Prop) := { t : Tri // R t }
theorem SuffAt.next {w : World} {k off cp : Nat} {x : Cell} {xs : List Cell} (h : SuffAt w k (some ⟨k, off, none⟩) cp (x :: xs)) : SuffAt w k (if cp = 1 then some ⟨k, off, none⟩ else some ⟨k, off + 2, none⟩) (cp - 1) xs := by
 obtain ⟨h1, h2, h3⟩ := h
 simp only [List.length_cons] at h1
 refine ⟨by omega, by omega, ?_⟩
 by_cases hc : cp = 1
 · exact .inl (List.eq_nil_of_length_eq_zero (by omega))
 · rw [if_neg hc]
   rcases h3 with h | ⟨o, ho, hlt, hcell⟩
   · cases h
   · cases ho
     refine .inr ⟨_, rfl, hlt, fun i y hy j hj => ?_⟩
     have := hcell (i + 1) y (by simpa using hy) j hj
     rw [show off + 2 + i * 2 + j = off + (i + 1) * 2 + j by omega]; exact this
def tEnc (t : TriB) : Array Value := #[.int .i64 t.1.rank, .agg #[.int .i64 t.1.p, .int .i64 t.1.q]]
def tEncR {R : Tri → Prop} (t : TriR R) : Array Value := #[.int .i64 t.1.rank, .agg #[.int .i64 t.1.p, .int .i64 t.1.q]]
theorem mzip_refs (a b : List Cell) : (∀ x ∈ a, x.ref ≤ 100000) → (∀ x ∈ b, x.ref ≤ 100000) → ∀ t ∈ mzip a b, t.p ≤ 100000 ∧ t.q ≤ 100000 := by
 refine mzip_ind (P := fun a b => (∀ x ∈ a, x.ref ≤ 100000) → (∀ x ∈ b, x.ref ≤ 100000) → ∀ t ∈ mzip a b, t.p ≤ 100000 ∧ t.q ≤ 100000) ?_ ?_ ?_ ?_ a b
 · intro _ _ t ht; rw [mzip_nil] at ht; cases ht
 · intro x xs ih ha hb t ht
   rw [mzip_left] at ht
   rcases List.mem_cons.1 ht with rfl | ht
   · exact ⟨ha x (List.mem_cons_self ..), (show (1 : Int) ≤ 100000 by decide)⟩
   · exact ih (fun z hz => ha z (List.mem_cons_of_mem _ hz)) hb t ht
 · intro y ys ih ha hb t ht
   rw [mzip_right] at ht
   rcases List.mem_cons.1 ht with rfl | ht
   · exact ⟨(show (1 : Int) ≤ 100000 by decide), hb y (List.mem_cons_self ..)⟩
   · exact ih ha (fun z hz => hb z (List.mem_cons_of_mem _ hz)) t ht
 · intro x xs y ys i1 i2 i3 ha hb t ht
   have hx := ha x (List.mem_cons_self ..); have hy := hb y (List.mem_cons_self ..)
   have ha' := fun z hz => ha z (List.mem_cons_of_mem x hz); have hb' := fun z hz => hb z (List.mem_cons_of_mem y hz)
   rw [mzip_cons] at ht
   split at ht
   · rename_i h
     rcases List.mem_cons.1 ht with rfl | ht
     · exact ⟨hx, (show (1 : Int) ≤ 100000 by decide)⟩
     · exact i1 h ha' hb t ht
   · split at ht
     · rename_i h1 h
       rcases List.mem_cons.1 ht with rfl | ht
       · exact ⟨(show (1 : Int) ≤ 100000 by decide), hy⟩
       · exact i2 h ha hb' t ht
     · rcases List.mem_cons.1 ht with rfl | ht
       · exact ⟨hx, hy⟩
       · exact i3 (by omega) ha' hb' t ht
set_option maxRecDepth 100000 in
set_option maxHeartbeats 4000000 in
theorem merged_stopsR {R : Tri → Prop} (n : Nat) (hn : 1 ≤ n) (a b : List Cell) (hRP : ∀ t ∈ mzip a b, R t) (b1 b2 ka kb : Nat) (ar1 ar2 : Int) (pa pb : Option Addr) (capa capb : Nat) (w : World) (ha : SuffAt w ka pa capa a) (hb : SuffAt w kb pb capb b) (ra : ∀ x ∈ a, x.ref ≤ 100000) (rb : ∀ x ∈ b, x.ref ≤ 100000)
 (hka : ka < w.heap.size) (hkb : kb < w.heap.size) (c1 : w.cell? ⟨b1, 1, none⟩ = some (.slice pa a.length capa)) (c2 : w.cell? ⟨b2, 1, none⟩ = some (.slice pb b.length capb)) :
 SeqStopsK Fence.wide n Try.prog 137 #[.pointer (some ⟨b1, 0, none⟩), .pointer (some ⟨b2, 0, none⟩)] (tEncR (R := R)) (KpB ka kb) (fun xs => xs.map Subtype.val = mzip a b) (fun _ => True) (mzip a b).length w := by
 intro l J Jx W hB hJ hJx hY h0
 refine callsIn_wide.2 ?_
 show Calls Try.prog 137 #[.func (.yield l) #[] #[], .pointer (some ⟨b1, 0, none⟩), .pointer (some ⟨b2, 0, none⟩)] W _
 have e1 := zD hB c1
 have e2 := zD hB c2
 have HA := Lib.hid (ha.keep (hB.block ka hka)); have HB := Lib.hid (hb.keep (hB.block kb hkb))
 have hsz := hB.size
 have HRP := Lib.hid hRP; have HY := Lib.hid hY; have HJ := Lib.hid hJ; have HJX := Lib.hid hJx; have H0 := Lib.hid h0; have RA := Lib.hid ra; have RB := Lib.hid rb
 clear ha hb c1 c2 hY hJ hJx h0 ra rb hB hRP
 go_enter Try.func137, Try.ntmps137
 go_upto_region 0 with fail
 go_cut [4, 5] from 10 to 13 (fun s4 s5 wx => s4 = .slice pa a.length capa ∧ s5 = .slice pb b.length capb ∧ Below W.heap.size W wx)
 case first =>
  as_aux_lemma =>
   refine wp_region_seq (fun w' => Below W.heap.size W w') (by kernel_rfl) (by kernel_rfl) (by first | assumption | go_grown) ?_
   refine seq_pure (v := ?_) (by rfl) ?_ ?_
   rotate_left
   · (intro w hS; go_simp; try with_reducible rfl)
   (try simp only [Act.put, zA, zB, zC])
   refine seq_pure (v := ?_) (by rfl) ?_ ?_
   rotate_left
   · (intro w hS; have kk := zD hS e1; go_simp; try with_reducible rfl)
   (try simp only [Act.put, zA, zB, zC])
   refine seq_pure (v := ?_) (by rfl) ?_ ?_
   rotate_left
   · (intro w hS; go_simp; try with_reducible rfl)
   (try simp only [Act.put, zA, zB, zC])
   refine seq_pure (v := ?_) (by rfl) ?_ ?_
   rotate_left
   · (intro w hS; have kk := zD hS e2; go_simp; try with_reducible rfl)
   (try simp only [Act.put, zA, zB, zC])
   iterate 2 (refine seq_pure (v := ?_) (by rfl) ?_ ?_; rotate_left; (focus (intro w hS; go_simp; try with_reducible rfl)); (try simp only [Act.put, zA, zB, zC]))
   refine seq_nil ?_
   intro w2 HB0
   go_wp2_with fail
   go_meet
   exact ⟨rfl, rfl, HB0⟩
 obtain ⟨rfl, rfl, hst⟩ := hcut
 have HJ0 := Lib.hid (show J [] wc from HJ.out [] W wc none H0.out (grown_below hst) (fun r e => by cases e))
 go_wp2_with fail
 go_loopg [4, 5] (mzip a b).length (fun N s4 s5 wr => ∃ (xs ys : List Cell) (p4 p5 : Option Addr) (cp4 cp5 : Nat) (pre : List (TriR R)), s4 = .slice p4 xs.length cp4 ∧ s5 = .slice p5 ys.length cp5 ∧ SuffAt wr ka p4 cp4 xs ∧ SuffAt wr kb p5 cp5 ys ∧ (∀ x ∈ xs, x.ref ≤ 100000) ∧ (∀ x ∈ ys, x.ref ≤ 100000) ∧ pre.map Subtype.val ++ mzip xs ys = mzip a b ∧ N = (mzip xs ys).length ∧ J pre wr)
 case atStart => exact ⟨a, b, pa, pb, capa, capb, [], rfl, rfl, HA.out.keep (hst.block ka (by omega)), HB.out.keep (hst.block kb (by omega)), RA.out, RB.out, rfl, rfl, HJ0.out⟩
 obtain ⟨xs, ys, p4, p5, cp4, cp5, pre, rfl, rfl, sx, sy, rx, ry, hpre, hN, hj⟩ := hrel
 have HPRE := Lib.hid hpre; have HN := Lib.hid hN; have HJ1 := Lib.hid hj; have SX := Lib.hid sx; have SY := Lib.hid sy; have RX := Lib.hid rx; have RY := Lib.hid ry
 have hxl : xs.length ≤ 9223372036854775807 := by have h1 := sx.1; have h2 := sx.2.1; unfold maxLen at h2; omega
 have hyl : ys.length ≤ 9223372036854775807 := by have h1 := sy.1; have h2 := sy.2.1; unfold maxLen at h2; omega
 clear hpre hN hj sx sy rx ry HJ0 hst
 cases xs with
 | nil =>
  cases ys with
  | nil =>
   simp only [List.length_nil]
   go_wp2_with fail
   go_end0
   exact ⟨⟨_, rfl⟩, .inl ⟨pre, by have := HPRE.out; rw [mzip_nil] at this; simpa using this, HJ1.out⟩⟩
  | cons y ys =>
   obtain ⟨o5, rfl, hk5, hc5⟩ : ∃ off, p5 = some ⟨kb, off, none⟩ ∧ kb < wr.heap.size ∧ ∀ i z, (y :: ys)[i]? = some z → ∀ j, j < 2 → wr.cell? ⟨kb, off + i * 2 + j, none⟩ = some (cEnc z j) := SY.out.2.2.resolve_left (by simp)
   have y0 : wr.cell? ⟨kb, o5, none⟩ = some (.int .i64 y.rank) := by simpa [cEnc] using hc5 0 y rfl 0 (by omega)
   have y1 : wr.cell? ⟨kb, o5 + 1, none⟩ = some (.int .i64 y.ref) := by simpa [cEnc] using hc5 0 y rfl 1 (by omega)
   clear hc5
   simp only [List.length_cons, List.length_nil] at hxl hyl ⊢
   have HM := Lib.hid (show mzip [] (y :: ys) = ⟨y.rank, 1, y.ref⟩ :: mzip [] ys from mzip_right y ys)
   go_upto_region 2 with fail
   go_cut [6, 7] from 22 to 22 (fun s6 s7 wx => s6 = .pointer (some ⟨wr.heap.size, 0, none⟩) ∧ s7 = .int .i64 0 ∧ wx.cell? ⟨wr.heap.size, 0, none⟩ = some (.int .i64 1) ∧ wx.cell? ⟨wr.heap.size, 1, none⟩ = some (.int .i64 1) ∧ wx.frozen? ⟨wr.heap.size, 0, none⟩ = false ∧ wx.frozen? ⟨wr.heap.size, 1, none⟩ = false ∧ Below wr.heap.size wr wx)
   case first =>
    go_wp2_with fail
    go_meet
    exact ⟨rfl, rfl, by go_cell, by go_cell, by go_cell, by go_cell, by go_grown⟩
   obtain ⟨rfl, rfl, r0, r1, f0, f1, hst3⟩ := hcut
   have y0 := oldcell hst3 y0 hk5; have y1 := oldcell hst3 y1 hk5
   obtain ⟨r, hr⟩ : ∃ r, wr.heap.size = r := ⟨_, rfl⟩
   have HR := Lib.hid hr
   have HST3 := Lib.hid hst3
   rw [hr] at r0 r1 f0 f1
   clear hst3
   simp only [hr]
   clear hr
   go_upto_region 3 with fail
   go_cut [8] from 23 to 41 (fun s8 wx => s8 = .bool false ∧ Below wc.heap.size wc wx)
   case first =>
    as_aux_lemma =>
     refine wp_region_seq (fun w' => Below wc.heap.size wc w') (by kernel_rfl) (by kernel_rfl) (by first | assumption | go_grown) ?_
     iterate 8 (refine seq_pure (v := ?_) (by rfl) ?_ ?_; rotate_left; (focus (intro w hS; go_simp; try with_reducible rfl)); (try simp only [Act.put, zA, zB, zC]))
     refine seq_off (by rfl) ?_
     (try simp only [Act.put, zA, zB, zC])
     refine seq_off (by rfl) ?_
     (try simp only [Act.put, zA, zB, zC])
     refine seq_off (by rfl) ?_
     (try simp only [Act.put, zA, zB, zC])
     refine seq_off (by rfl) ?_
     (try simp only [Act.put, zA, zB, zC])
     refine seq_off (by rfl) ?_
     (try simp only [Act.put, zA, zB, zC])
     refine seq_off (by rfl) ?_
     (try simp only [Act.put, zA, zB, zC])
     refine seq_off (by rfl) ?_
     (try simp only [Act.put, zA, zB, zC])
     refine seq_off (by rfl) ?_
     (try simp only [Act.put, zA, zB, zC])
     refine seq_off (by rfl) ?_
     (try simp only [Act.put, zA, zB, zC])
     iterate 3 (refine seq_pure (v := ?_) (by rfl) ?_ ?_; rotate_left; (focus (intro w hS; go_simp; try with_reducible rfl)); (try simp only [Act.put, zA, zB, zC]))
     refine seq_nil ?_
     intro w2 HB0
     go_wp2_with fail
     go_meet
     exact ⟨rfl, HB0⟩
   have HRL1 := Lib.hid (World.block_lt_of_cell? _ _ r0)
   obtain ⟨rfl, hst4⟩ := hcut
   have y0 := zD hst4 y0
   have y1 := zD hst4 y1
   have r0 := zD hst4 r0
   have r1 := zD hst4 r1
   have HRL2 := Lib.hid (World.block_lt_of_cell? _ _ r0)
   go_upto_region 4 with fail
   go_cut [9] from 42 to 60 (fun s9 wx => s9 = .bool true ∧ Below wc.heap.size wc wx)
   case first =>
    as_aux_lemma =>
     refine wp_region_seq (fun w' => Below wc.heap.size wc w') (by kernel_rfl) (by kernel_rfl) (by first | assumption | go_grown) ?_
     iterate 4 (refine seq_pure (v := ?_) (by rfl) ?_ ?_; rotate_left; (focus (intro w hS; go_simp; try with_reducible rfl)); (try simp only [Act.put, zA, zB, zC]))
     refine seq_off (by rfl) ?_
     (try simp only [Act.put, zA, zB, zC])
     refine seq_off (by rfl) ?_
     (try simp only [Act.put, zA, zB, zC])
     refine seq_off (by rfl) ?_
     (try simp only [Act.put, zA, zB, zC])
     refine seq_off (by rfl) ?_
     (try simp only [Act.put, zA, zB, zC])
     refine seq_off (by rfl) ?_
     (try simp only [Act.put, zA, zB, zC])
     refine seq_off (by rfl) ?_
     (try simp only [Act.put, zA, zB, zC])
     refine seq_off (by rfl) ?_
     (try simp only [Act.put, zA, zB, zC])
     refine seq_off (by rfl) ?_
     (try simp only [Act.put, zA, zB, zC])
     refine seq_off (by rfl) ?_
     (try simp only [Act.put, zA, zB, zC])
     refine seq_off (by rfl) ?_
     (try simp only [Act.put, zA, zB, zC])
     refine seq_off (by rfl) ?_
     (try simp only [Act.put, zA, zB, zC])
     refine seq_off (by rfl) ?_
     (try simp only [Act.put, zA, zB, zC])
     refine seq_off (by rfl) ?_
     (try simp only [Act.put, zA, zB, zC])
     refine seq_off (by rfl) ?_
     (try simp only [Act.put, zA, zB, zC])
     iterate 2 (refine seq_pure (v := ?_) (by rfl) ?_ ?_; rotate_left; (focus (intro w hS; go_simp; try with_reducible rfl)); (try simp only [Act.put, zA, zB, zC]))
     refine seq_nil ?_
     intro w2 HB0
     go_wp2_with fail
     go_meet
     exact ⟨rfl, HB0⟩
   obtain ⟨rfl, hst5⟩ := hcut
   have y0 := zD hst5 y0
   have y1 := zD hst5 y1
   have r0 := zD hst5 r0
   have r1 := zD hst5 r1
   have hrlt : r < wc.heap.size := World.block_lt_of_cell? _ _ r0
   have hfz : wc.frozen? ⟨r, 0, none⟩ = false ∧ wc.frozen? ⟨r, 1, none⟩ = false := ⟨oldfree hst5 (oldfree hst4 f0 HRL1.out) HRL2.out, oldfree hst5 (oldfree hst4 f1 HRL1.out) HRL2.out⟩
   obtain ⟨f0, f1⟩ := hfz
   have HB5 := Lib.hid (show Below r wr wc from by rw [← HR.out]; exact HST3.out.trans ((hst4.mono (by have := HST3.out.size; omega)).trans (hst5.mono (by have := HST3.out.size; have := hst4.size; omega))))
   clear hst4 hst5 HST3
   go_upto_region 8 with fail
   go_cut [7, 5] from 74 to 83 (fun s7 s5 wx => s7 = .int .i64 y.rank ∧ (∃ (p : Option Addr) (cp : Nat), s5 = .slice p ys.length cp ∧ SuffAt wc kb p cp ys) ∧ wx.cell? ⟨r, 0, none⟩ = some (.int .i64 1) ∧ wx.cell? ⟨r, 1, none⟩ = some (.int .i64 y.ref) ∧ wx.frozen? ⟨r, 0, none⟩ = false ∧ wx.frozen? ⟨r, 1, none⟩ = false ∧ Below r wc wx)
   case first =>
    have hle1 : (1 : Int) ≤ (ys.length : Int) + 1 := by omega
    have hkr : r ≠ kb := by rw [← HR.out]; omega
    have SN := (SuffAt.next (SY.out.keep (w' := wc) (HB5.out.block kb (by rw [← HR.out]; exact hk5))))
    obtain ⟨pn, hpn⟩ : ∃ p, (if cp5 = 1 then some (⟨kb, o5, none⟩ : Addr) else some ⟨kb, o5 + 2, none⟩) = p := ⟨_, rfl⟩
    rw [hpn] at SN
    have HSN := Lib.hid SN; clear SN
    refine wp_region_seqM (fun s w' => w'.cell? ⟨r, 0, none⟩ = some (.int .i64 (match s with | 0 => 1 | _ => 1)) ∧ w'.cell? ⟨r, 1, none⟩ = some (.int .i64 (match s with | 0 => 1 | _ => y.ref)) ∧ w'.frozen? ⟨r, 0, none⟩ = false ∧ w'.frozen? ⟨r, 1, none⟩ = false ∧ w'.cell? ⟨kb, o5, none⟩ = some (.int .i64 y.rank) ∧ w'.cell? ⟨kb, o5 + 1, none⟩ = some (.int .i64 y.ref) ∧ Below r wc w') [12] (by kernel_rfl) (by kernel_rfl) (by kernel_rfl) ?_ ?_
    · exact ⟨keep_drew r0, keep_drew r1, f0, f1, keep_drew y0, keep_drew y1, (by go_grown)⟩
    iterate 12 (refine seqM_pure (v := ?_) (by decide) (by decide) (by rfl) ?_ ?_; rotate_left; (focus (intro sj hj w hS; obtain ⟨g0, g1, g2, g3, g4, g5, g6⟩ := hS; go_simp; try with_reducible rfl)); (try simp only [Act.put, zA, zB, zC]))
    refine seqM_store (f := fun w' => w'.setCell ⟨r, 1, none⟩ (.int .i64 y.ref)) (by decide) (by decide) (by rfl) ?_ ?_
    · (intro w hS; obtain ⟨g0, g1, g2, g3, g4, g5, g6⟩ := hS; exact ⟨by go_simp, by go_cell, by go_cell, by rw [World.frozen?_setCell]; exact g2, by rw [World.frozen?_setCell]; exact g3, keep_far g4 hkr, keep_far g5 hkr, Below.setCell g6 (Nat.le_refl r) _⟩)
    (try simp only [Act.put, zA, zB, zC])
    refine seqM_pure (v := ?_) (by decide) (by decide) (by rfl) ?_ ?_
    rotate_left
    · (intro sj hj w hS; obtain ⟨g0, g1, g2, g3, g4, g5, g6⟩ := hS; go_simp; try with_reducible rfl)
    (try simp only [Act.put, zA, zB, zC])
    refine seqM_nil ?_
    intro w2 hS
    obtain ⟨g0, g1, g2, g3, g4, g5, g6⟩ := hS
    go_wp2_with fail
    go_meet
    exact ⟨rfl, ⟨_, _, rfl, HSN.out⟩, g0, g1, g2, g3, g6⟩
   obtain ⟨rfl, ⟨p25, cp25, rfl, sn5⟩, r0, r1, f0, f1, hst8⟩ := hcut
   have HB8 := Lib.hid (HB5.out.trans hst8)
   have HS5 := Lib.hid (sn5.keep (w' := wc) (hst8.block kb (by rw [← HR.out]; exact hk5)))
   clear HB5 hst8 sn5
   try clear HSN
   try clear hle1
   try clear hkr
   go_upto_region 9 with fail
   have HBZ := Lib.hid (show Below wr.heap.size wr wc from by rw [HR.out]; exact HB8.out)
   obtain ⟨tb, htb⟩ : ∃ t : TriR R, t.1 = ⟨y.rank, 1, y.ref⟩ := ⟨⟨⟨y.rank, 1, y.ref⟩, HRP.out _ (by rw [← HPRE.out, HM.out]; simp)⟩, rfl⟩
   have hj2 : J pre wc := HJ.out pre wr wc none HJ1.out (grown_below HBZ.out) (fun r e => by cases e)
   have hlen : pre.length < (mzip a b).length := by have := congrArg List.length HPRE.out; rw [HM.out] at this; simp at this; omega
   obtain ⟨fn, tmps, assign, body, hy, hR⟩ := HY.out pre tb wc hj2 hlen
   have hy' : (Instr.yield l #[.int .i64 (y.rank), .agg #[.int .i64 1, .int .i64 y.ref]]).run Try.prog wc = .ok (.round l fn tmps assign body) wc := by have := hy; unfold tEncR at this; rw [htb] at this; exact this
   have HRR := Lib.hid hR
   clear hR hy hlen hj2
   refine (wpIn_wide (n := n)).1 ?_
   gi_wp2
   refine HRR.out.mono ?_
   rintro e W2 (⟨rfl, hJ2, hk2⟩ | ⟨rfl, hx2⟩)
   · gi_wp2
     go_wp2_with fail
     go_roundg (mzip [] ys).length
     case measure => (have := HN.out; rw [HM.out] at this; simp at this; omega)
     case rel => exact ⟨[], ys, _, _, _, _, pre ++ [tb], rfl, rfl, ⟨SX.out.1, SX.out.2.1, .inl rfl⟩, (HS5.out).keep hk2.2, (fun z hz => RX.out z (hz)), (fun z hz => RY.out z (List.mem_cons_of_mem _ hz)), by rw [← HPRE.out, HM.out, List.map_append, List.map_cons, htb]; simp, rfl, hJ2⟩
   · gi_wp2
     go_wp2_with fail
     refine bodyPost_ret (results_none rfl _ _ _) rfl ?_
     exact ⟨⟨_, rfl⟩, .inr ⟨pre ++ [tb], trivial, hx2⟩⟩
 | cons x xs =>
  cases ys with
  | nil =>
   obtain ⟨o4, rfl, hk4, hc4⟩ : ∃ off, p4 = some ⟨ka, off, none⟩ ∧ ka < wr.heap.size ∧ ∀ i z, (x :: xs)[i]? = some z → ∀ j, j < 2 → wr.cell? ⟨ka, off + i * 2 + j, none⟩ = some (cEnc z j) := SX.out.2.2.resolve_left (by simp)
   have x0 : wr.cell? ⟨ka, o4, none⟩ = some (.int .i64 x.rank) := by simpa [cEnc] using hc4 0 x rfl 0 (by omega)
   have x1 : wr.cell? ⟨ka, o4 + 1, none⟩ = some (.int .i64 x.ref) := by simpa [cEnc] using hc4 0 x rfl 1 (by omega)
   clear hc4
   simp only [List.length_cons, List.length_nil] at hxl hyl ⊢
   have HM := Lib.hid (show mzip (x :: xs) [] = ⟨x.rank, x.ref, 1⟩ :: mzip xs [] from mzip_left x xs)
   go_upto_region 2 with fail
   go_cut [6, 7] from 22 to 22 (fun s6 s7 wx => s6 = .pointer (some ⟨wr.heap.size, 0, none⟩) ∧ s7 = .int .i64 0 ∧ wx.cell? ⟨wr.heap.size, 0, none⟩ = some (.int .i64 1) ∧ wx.cell? ⟨wr.heap.size, 1, none⟩ = some (.int .i64 1) ∧ wx.frozen? ⟨wr.heap.size, 0, none⟩ = false ∧ wx.frozen? ⟨wr.heap.size, 1, none⟩ = false ∧ Below wr.heap.size wr wx)
   case first =>
    go_wp2_with fail
    go_meet
    exact ⟨rfl, rfl, by go_cell, by go_cell, by go_cell, by go_cell, by go_grown⟩
   obtain ⟨rfl, rfl, r0, r1, f0, f1, hst3⟩ := hcut
   have x0 := oldcell hst3 x0 hk4; have x1 := oldcell hst3 x1 hk4
   obtain ⟨r, hr⟩ : ∃ r, wr.heap.size = r := ⟨_, rfl⟩
   have HR := Lib.hid hr
   have HST3 := Lib.hid hst3
   rw [hr] at r0 r1 f0 f1
   clear hst3
   simp only [hr]
   clear hr
   go_upto_region 3 with fail
   go_cut [8] from 23 to 41 (fun s8 wx => s8 = .bool true ∧ Below wc.heap.size wc wx)
   case first =>
    as_aux_lemma =>
     refine wp_region_seq (fun w' => Below wc.heap.size wc w') (by kernel_rfl) (by kernel_rfl) (by first | assumption | go_grown) ?_
     iterate 4 (refine seq_pure (v := ?_) (by rfl) ?_ ?_; rotate_left; (focus (intro w hS; go_simp; try with_reducible rfl)); (try simp only [Act.put, zA, zB, zC]))
     refine seq_off (by rfl) ?_
     (try simp only [Act.put, zA, zB, zC])
     refine seq_off (by rfl) ?_
     (try simp only [Act.put, zA, zB, zC])
     refine seq_off (by rfl) ?_
     (try simp only [Act.put, zA, zB, zC])
     refine seq_off (by rfl) ?_
     (try simp only [Act.put, zA, zB, zC])
     refine seq_off (by rfl) ?_
     (try simp only [Act.put, zA, zB, zC])
     refine seq_off (by rfl) ?_
     (try simp only [Act.put, zA, zB, zC])
     refine seq_off (by rfl) ?_
     (try simp only [Act.put, zA, zB, zC])
     refine seq_off (by rfl) ?_
     (try simp only [Act.put, zA, zB, zC])
     refine seq_off (by rfl) ?_
     (try simp only [Act.put, zA, zB, zC])
     refine seq_off (by rfl) ?_
     (try simp only [Act.put, zA, zB, zC])
     refine seq_off (by rfl) ?_
     (try simp only [Act.put, zA, zB, zC])
     refine seq_off (by rfl) ?_
     (try simp only [Act.put, zA, zB, zC])
     refine seq_off (by rfl) ?_
     (try simp only [Act.put, zA, zB, zC])
     refine seq_off (by rfl) ?_
     (try simp only [Act.put, zA, zB, zC])
     iterate 2 (refine seq_pure (v := ?_) (by rfl) ?_ ?_; rotate_left; (focus (intro w hS; go_simp; try with_reducible rfl)); (try simp only [Act.put, zA, zB, zC]))
     refine seq_nil ?_
     intro w2 HB0
     go_wp2_with fail
     go_meet
     exact ⟨rfl, HB0⟩
   have HRL1 := Lib.hid (World.block_lt_of_cell? _ _ r0)
   obtain ⟨rfl, hst4⟩ := hcut
   have x0 := zD hst4 x0
   have x1 := zD hst4 x1
   have r0 := zD hst4 r0
   have r1 := zD hst4 r1
   have HRL2 := Lib.hid (World.block_lt_of_cell? _ _ r0)
   go_upto_region 4 with fail
   go_cut [9] from 42 to 60 (fun s9 wx => s9 = .bool false ∧ Below wc.heap.size wc wx)
   case first =>
    as_aux_lemma =>
     refine wp_region_seq (fun w' => Below wc.heap.size wc w') (by kernel_rfl) (by kernel_rfl) (by first | assumption | go_grown) ?_
     iterate 8 (refine seq_pure (v := ?_) (by rfl) ?_ ?_; rotate_left; (focus (intro w hS; go_simp; try with_reducible rfl)); (try simp only [Act.put, zA, zB, zC]))
     refine seq_off (by rfl) ?_
     (try simp only [Act.put, zA, zB, zC])
     refine seq_off (by rfl) ?_
     (try simp only [Act.put, zA, zB, zC])
     refine seq_off (by rfl) ?_
     (try simp only [Act.put, zA, zB, zC])
     refine seq_off (by rfl) ?_
     (try simp only [Act.put, zA, zB, zC])
     refine seq_off (by rfl) ?_
     (try simp only [Act.put, zA, zB, zC])
     refine seq_off (by rfl) ?_
     (try simp only [Act.put, zA, zB, zC])
     refine seq_off (by rfl) ?_
     (try simp only [Act.put, zA, zB, zC])
     refine seq_off (by rfl) ?_
     (try simp only [Act.put, zA, zB, zC])
     refine seq_off (by rfl) ?_
     (try simp only [Act.put, zA, zB, zC])
     iterate 3 (refine seq_pure (v := ?_) (by rfl) ?_ ?_; rotate_left; (focus (intro w hS; go_simp; try with_reducible rfl)); (try simp only [Act.put, zA, zB, zC]))
     refine seq_nil ?_
     intro w2 HB0
     go_wp2_with fail
     go_meet
     exact ⟨rfl, HB0⟩
   obtain ⟨rfl, hst5⟩ := hcut
   have x0 := zD hst5 x0
   have x1 := zD hst5 x1
   have r0 := zD hst5 r0
   have r1 := zD hst5 r1
   have hrlt : r < wc.heap.size := World.block_lt_of_cell? _ _ r0
   have hfz : wc.frozen? ⟨r, 0, none⟩ = false ∧ wc.frozen? ⟨r, 1, none⟩ = false := ⟨oldfree hst5 (oldfree hst4 f0 HRL1.out) HRL2.out, oldfree hst5 (oldfree hst4 f1 HRL1.out) HRL2.out⟩
   obtain ⟨f0, f1⟩ := hfz
   have HB5 := Lib.hid (show Below r wr wc from by rw [← HR.out]; exact HST3.out.trans ((hst4.mono (by have := HST3.out.size; omega)).trans (hst5.mono (by have := HST3.out.size; have := hst4.size; omega))))
   clear hst4 hst5 HST3
   go_upto_region 6 with fail
   go_cut [7, 4] from 62 to 71 (fun s7 s4 wx => s7 = .int .i64 x.rank ∧ (∃ (p : Option Addr) (cp : Nat), s4 = .slice p xs.length cp ∧ SuffAt wc ka p cp xs) ∧ wx.cell? ⟨r, 0, none⟩ = some (.int .i64 x.ref) ∧ wx.cell? ⟨r, 1, none⟩ = some (.int .i64 1) ∧ wx.frozen? ⟨r, 0, none⟩ = false ∧ wx.frozen? ⟨r, 1, none⟩ = false ∧ Below r wc wx)
   case first =>
    have hle1 : (1 : Int) ≤ (xs.length : Int) + 1 := by omega
    have hkr : r ≠ ka := by rw [← HR.out]; omega
    have SN := (SuffAt.next (SX.out.keep (w' := wc) (HB5.out.block ka (by rw [← HR.out]; exact hk4))))
    obtain ⟨pn, hpn⟩ : ∃ p, (if cp4 = 1 then some (⟨ka, o4, none⟩ : Addr) else some ⟨ka, o4 + 2, none⟩) = p := ⟨_, rfl⟩
    rw [hpn] at SN
    have HSN := Lib.hid SN; clear SN
    refine wp_region_seqM (fun s w' => w'.cell? ⟨r, 0, none⟩ = some (.int .i64 (match s with | 0 => 1 | _ => x.ref)) ∧ w'.cell? ⟨r, 1, none⟩ = some (.int .i64 (match s with | 0 => 1 | _ => 1)) ∧ w'.frozen? ⟨r, 0, none⟩ = false ∧ w'.frozen? ⟨r, 1, none⟩ = false ∧ w'.cell? ⟨ka, o4, none⟩ = some (.int .i64 x.rank) ∧ w'.cell? ⟨ka, o4 + 1, none⟩ = some (.int .i64 x.ref) ∧ Below r wc w') [12] (by kernel_rfl) (by kernel_rfl) (by kernel_rfl) ?_ ?_
    · exact ⟨keep_drew r0, keep_drew r1, f0, f1, keep_drew x0, keep_drew x1, (by go_grown)⟩
    iterate 12 (refine seqM_pure (v := ?_) (by decide) (by decide) (by rfl) ?_ ?_; rotate_left; (focus (intro sj hj w hS; obtain ⟨g0, g1, g2, g3, g4, g5, g6⟩ := hS; go_simp; try with_reducible rfl)); (try simp only [Act.put, zA, zB, zC]))
    refine seqM_store (f := fun w' => w'.setCell ⟨r, 0, none⟩ (.int .i64 x.ref)) (by decide) (by decide) (by rfl) ?_ ?_
    · (intro w hS; obtain ⟨g0, g1, g2, g3, g4, g5, g6⟩ := hS; exact ⟨by go_simp, by go_cell, by go_cell, by rw [World.frozen?_setCell]; exact g2, by rw [World.frozen?_setCell]; exact g3, keep_far g4 hkr, keep_far g5 hkr, Below.setCell g6 (Nat.le_refl r) _⟩)
    (try simp only [Act.put, zA, zB, zC])
    refine seqM_pure (v := ?_) (by decide) (by decide) (by rfl) ?_ ?_
    rotate_left
    · (intro sj hj w hS; obtain ⟨g0, g1, g2, g3, g4, g5, g6⟩ := hS; go_simp; try with_reducible rfl)
    (try simp only [Act.put, zA, zB, zC])
    refine seqM_nil ?_
    intro w2 hS
    obtain ⟨g0, g1, g2, g3, g4, g5, g6⟩ := hS
    go_wp2_with fail
    go_meet
    exact ⟨rfl, ⟨_, _, rfl, HSN.out⟩, g0, g1, g2, g3, g6⟩
   obtain ⟨rfl, ⟨p24, cp24, rfl, sn4⟩, r0, r1, f0, f1, hst6⟩ := hcut
   have HB6 := Lib.hid (HB5.out.trans hst6)
   have HS4 := Lib.hid (sn4.keep (w' := wc) (hst6.block ka (by rw [← HR.out]; exact hk4)))
   clear HB5 hst6 sn4
   try clear HSN
   try clear hle1
   try clear hkr
   go_upto_region 9 with fail
   have HBZ := Lib.hid (show Below wr.heap.size wr wc from by rw [HR.out]; exact HB6.out)
   obtain ⟨tb, htb⟩ : ∃ t : TriR R, t.1 = ⟨x.rank, x.ref, 1⟩ := ⟨⟨⟨x.rank, x.ref, 1⟩, HRP.out _ (by rw [← HPRE.out, HM.out]; simp)⟩, rfl⟩
   have hj2 : J pre wc := HJ.out pre wr wc none HJ1.out (grown_below HBZ.out) (fun r e => by cases e)
   have hlen : pre.length < (mzip a b).length := by have := congrArg List.length HPRE.out; rw [HM.out] at this; simp at this; omega
   obtain ⟨fn, tmps, assign, body, hy, hR⟩ := HY.out pre tb wc hj2 hlen
   have hy' : (Instr.yield l #[.int .i64 (x.rank), .agg #[.int .i64 x.ref, .int .i64 1]]).run Try.prog wc = .ok (.round l fn tmps assign body) wc := by have := hy; unfold tEncR at this; rw [htb] at this; exact this
   have HRR := Lib.hid hR
   clear hR hy hlen hj2
   refine (wpIn_wide (n := n)).1 ?_
   gi_wp2
   refine HRR.out.mono ?_
   rintro e W2 (⟨rfl, hJ2, hk2⟩ | ⟨rfl, hx2⟩)
   · gi_wp2
     go_wp2_with fail
     go_roundg (mzip xs []).length
     case measure => (have := HN.out; rw [HM.out] at this; simp at this; omega)
     case rel => exact ⟨xs, [], _, _, _, _, pre ++ [tb], rfl, rfl, (HS4.out).keep hk2.1, ⟨SY.out.1, SY.out.2.1, .inl rfl⟩, (fun z hz => RX.out z (List.mem_cons_of_mem _ hz)), (fun z hz => RY.out z (hz)), by rw [← HPRE.out, HM.out, List.map_append, List.map_cons, htb]; simp, rfl, hJ2⟩
   · gi_wp2
     go_wp2_with fail
     refine bodyPost_ret (results_none rfl _ _ _) rfl ?_
     exact ⟨⟨_, rfl⟩, .inr ⟨pre ++ [tb], trivial, hx2⟩⟩
  | cons y ys =>
   by_cases hrel : x.rank < y.rank
   case pos =>
    have hd1 : x.rank ≤ y.rank := by omega
    have hd2 : ¬ y.rank ≤ x.rank := by omega
    obtain ⟨o4, rfl, hk4, hc4⟩ : ∃ off, p4 = some ⟨ka, off, none⟩ ∧ ka < wr.heap.size ∧ ∀ i z, (x :: xs)[i]? = some z → ∀ j, j < 2 → wr.cell? ⟨ka, off + i * 2 + j, none⟩ = some (cEnc z j) := SX.out.2.2.resolve_left (by simp)
    have x0 : wr.cell? ⟨ka, o4, none⟩ = some (.int .i64 x.rank) := by simpa [cEnc] using hc4 0 x rfl 0 (by omega)
    have x1 : wr.cell? ⟨ka, o4 + 1, none⟩ = some (.int .i64 x.ref) := by simpa [cEnc] using hc4 0 x rfl 1 (by omega)
    clear hc4
    obtain ⟨o5, rfl, hk5, hc5⟩ : ∃ off, p5 = some ⟨kb, off, none⟩ ∧ kb < wr.heap.size ∧ ∀ i z, (y :: ys)[i]? = some z → ∀ j, j < 2 → wr.cell? ⟨kb, off + i * 2 + j, none⟩ = some (cEnc z j) := SY.out.2.2.resolve_left (by simp)
    have y0 : wr.cell? ⟨kb, o5, none⟩ = some (.int .i64 y.rank) := by simpa [cEnc] using hc5 0 y rfl 0 (by omega)
    have y1 : wr.cell? ⟨kb, o5 + 1, none⟩ = some (.int .i64 y.ref) := by simpa [cEnc] using hc5 0 y rfl 1 (by omega)
    clear hc5
    simp only [List.length_cons, List.length_nil] at hxl hyl ⊢
    have HM := Lib.hid (show mzip (x :: xs) (y :: ys) = ⟨x.rank, x.ref, 1⟩ :: mzip xs (y :: ys) from by rw [mzip_cons, if_pos hrel])
    go_upto_region 2 with fail
    go_cut [6, 7] from 22 to 22 (fun s6 s7 wx => s6 = .pointer (some ⟨wr.heap.size, 0, none⟩) ∧ s7 = .int .i64 0 ∧ wx.cell? ⟨wr.heap.size, 0, none⟩ = some (.int .i64 1) ∧ wx.cell? ⟨wr.heap.size, 1, none⟩ = some (.int .i64 1) ∧ wx.frozen? ⟨wr.heap.size, 0, none⟩ = false ∧ wx.frozen? ⟨wr.heap.size, 1, none⟩ = false ∧ Below wr.heap.size wr wx)
    case first =>
     go_wp2_with fail
     go_meet
     exact ⟨rfl, rfl, by go_cell, by go_cell, by go_cell, by go_cell, by go_grown⟩
    obtain ⟨rfl, rfl, r0, r1, f0, f1, hst3⟩ := hcut
    have x0 := oldcell hst3 x0 hk4; have x1 := oldcell hst3 x1 hk4
    have y0 := oldcell hst3 y0 hk5; have y1 := oldcell hst3 y1 hk5
    obtain ⟨r, hr⟩ : ∃ r, wr.heap.size = r := ⟨_, rfl⟩
    have HR := Lib.hid hr
    have HST3 := Lib.hid hst3
    rw [hr] at r0 r1 f0 f1
    clear hst3
    simp only [hr]
    clear hr
    go_upto_region 3 with fail
    go_cut [8] from 23 to 41 (fun s8 wx => s8 = .bool true ∧ Below wc.heap.size wc wx)
    case first =>
     as_aux_lemma =>
      refine wp_region_seq (fun w' => Below wc.heap.size wc w') (by kernel_rfl) (by kernel_rfl) (by first | assumption | go_grown) ?_
      iterate 11 (refine seq_pure (v := ?_) (by rfl) ?_ ?_; rotate_left; (focus (intro w hS; go_simp; try with_reducible rfl)); (try simp only [Act.put, zA, zB, zC]))
      refine seq_pure (v := ?_) (by rfl) ?_ ?_
      rotate_left
      · (intro w hS; have kk := zD hS x0; go_simp; try with_reducible rfl)
      (try simp only [Act.put, zA, zB, zC])
      iterate 3 (refine seq_pure (v := ?_) (by rfl) ?_ ?_; rotate_left; (focus (intro w hS; go_simp; try with_reducible rfl)); (try simp only [Act.put, zA, zB, zC]))
      refine seq_pure (v := ?_) (by rfl) ?_ ?_
      rotate_left
      · (intro w hS; have kk := zD hS y0; go_simp; try with_reducible rfl)
      (try simp only [Act.put, zA, zB, zC])
      iterate 4 (refine seq_pure (v := ?_) (by rfl) ?_ ?_; rotate_left; (focus (intro w hS; go_simp; try with_reducible rfl)); (try simp only [Act.put, zA, zB, zC]))
      refine seq_nil ?_
      intro w2 HB0
      go_wp2_with fail
      go_meet
      exact ⟨rfl, HB0⟩
    have HRL1 := Lib.hid (World.block_lt_of_cell? _ _ r0)
    obtain ⟨rfl, hst4⟩ := hcut
    have x0 := zD hst4 x0
    have x1 := zD hst4 x1
    have y0 := zD hst4 y0
    have y1 := zD hst4 y1
    have r0 := zD hst4 r0
    have r1 := zD hst4 r1
    have HRL2 := Lib.hid (World.block_lt_of_cell? _ _ r0)
    go_upto_region 4 with fail
    go_cut [9] from 42 to 60 (fun s9 wx => s9 = .bool false ∧ Below wc.heap.size wc wx)
    case first =>
     as_aux_lemma =>
      refine wp_region_seq (fun w' => Below wc.heap.size wc w') (by kernel_rfl) (by kernel_rfl) (by first | assumption | go_grown) ?_
      iterate 11 (refine seq_pure (v := ?_) (by rfl) ?_ ?_; rotate_left; (focus (intro w hS; go_simp; try with_reducible rfl)); (try simp only [Act.put, zA, zB, zC]))
      refine seq_pure (v := ?_) (by rfl) ?_ ?_
      rotate_left
      · (intro w hS; have kk := zD hS y0; go_simp; try with_reducible rfl)
      (try simp only [Act.put, zA, zB, zC])
      iterate 3 (refine seq_pure (v := ?_) (by rfl) ?_ ?_; rotate_left; (focus (intro w hS; go_simp; try with_reducible rfl)); (try simp only [Act.put, zA, zB, zC]))
      refine seq_pure (v := ?_) (by rfl) ?_ ?_
      rotate_left
      · (intro w hS; have kk := zD hS x0; go_simp; try with_reducible rfl)
      (try simp only [Act.put, zA, zB, zC])
      iterate 4 (refine seq_pure (v := ?_) (by rfl) ?_ ?_; rotate_left; (focus (intro w hS; go_simp; try with_reducible rfl)); (try simp only [Act.put, zA, zB, zC]))
      refine seq_nil ?_
      intro w2 HB0
      go_wp2_with fail
      go_meet
      exact ⟨rfl, HB0⟩
    obtain ⟨rfl, hst5⟩ := hcut
    have x0 := zD hst5 x0
    have x1 := zD hst5 x1
    have y0 := zD hst5 y0
    have y1 := zD hst5 y1
    have r0 := zD hst5 r0
    have r1 := zD hst5 r1
    have hrlt : r < wc.heap.size := World.block_lt_of_cell? _ _ r0
    have hfz : wc.frozen? ⟨r, 0, none⟩ = false ∧ wc.frozen? ⟨r, 1, none⟩ = false := ⟨oldfree hst5 (oldfree hst4 f0 HRL1.out) HRL2.out, oldfree hst5 (oldfree hst4 f1 HRL1.out) HRL2.out⟩
    obtain ⟨f0, f1⟩ := hfz
    have HB5 := Lib.hid (show Below r wr wc from by rw [← HR.out]; exact HST3.out.trans ((hst4.mono (by have := HST3.out.size; omega)).trans (hst5.mono (by have := HST3.out.size; have := hst4.size; omega))))
    clear hst4 hst5 HST3
    go_upto_region 6 with fail
    go_cut [7, 4] from 62 to 71 (fun s7 s4 wx => s7 = .int .i64 x.rank ∧ (∃ (p : Option Addr) (cp : Nat), s4 = .slice p xs.length cp ∧ SuffAt wc ka p cp xs) ∧ wx.cell? ⟨r, 0, none⟩ = some (.int .i64 x.ref) ∧ wx.cell? ⟨r, 1, none⟩ = some (.int .i64 1) ∧ wx.frozen? ⟨r, 0, none⟩ = false ∧ wx.frozen? ⟨r, 1, none⟩ = false ∧ Below r wc wx)
    case first =>
     have hle1 : (1 : Int) ≤ (xs.length : Int) + 1 := by omega
     have hkr : r ≠ ka := by rw [← HR.out]; omega
     have SN := (SuffAt.next (SX.out.keep (w' := wc) (HB5.out.block ka (by rw [← HR.out]; exact hk4))))
     obtain ⟨pn, hpn⟩ : ∃ p, (if cp4 = 1 then some (⟨ka, o4, none⟩ : Addr) else some ⟨ka, o4 + 2, none⟩) = p := ⟨_, rfl⟩
     rw [hpn] at SN
     have HSN := Lib.hid SN; clear SN
     refine wp_region_seqM (fun s w' => w'.cell? ⟨r, 0, none⟩ = some (.int .i64 (match s with | 0 => 1 | _ => x.ref)) ∧ w'.cell? ⟨r, 1, none⟩ = some (.int .i64 (match s with | 0 => 1 | _ => 1)) ∧ w'.frozen? ⟨r, 0, none⟩ = false ∧ w'.frozen? ⟨r, 1, none⟩ = false ∧ w'.cell? ⟨ka, o4, none⟩ = some (.int .i64 x.rank) ∧ w'.cell? ⟨ka, o4 + 1, none⟩ = some (.int .i64 x.ref) ∧ Below r wc w') [12] (by kernel_rfl) (by kernel_rfl) (by kernel_rfl) ?_ ?_
     · exact ⟨keep_drew r0, keep_drew r1, f0, f1, keep_drew x0, keep_drew x1, (by go_grown)⟩
     iterate 12 (refine seqM_pure (v := ?_) (by decide) (by decide) (by rfl) ?_ ?_; rotate_left; (focus (intro sj hj w hS; obtain ⟨g0, g1, g2, g3, g4, g5, g6⟩ := hS; go_simp; try with_reducible rfl)); (try simp only [Act.put, zA, zB, zC]))
     refine seqM_store (f := fun w' => w'.setCell ⟨r, 0, none⟩ (.int .i64 x.ref)) (by decide) (by decide) (by rfl) ?_ ?_
     · (intro w hS; obtain ⟨g0, g1, g2, g3, g4, g5, g6⟩ := hS; exact ⟨by go_simp, by go_cell, by go_cell, by rw [World.frozen?_setCell]; exact g2, by rw [World.frozen?_setCell]; exact g3, keep_far g4 hkr, keep_far g5 hkr, Below.setCell g6 (Nat.le_refl r) _⟩)
     (try simp only [Act.put, zA, zB, zC])
     refine seqM_pure (v := ?_) (by decide) (by decide) (by rfl) ?_ ?_
     rotate_left
     · (intro sj hj w hS; obtain ⟨g0, g1, g2, g3, g4, g5, g6⟩ := hS; go_simp; try with_reducible rfl)
     (try simp only [Act.put, zA, zB, zC])
     refine seqM_nil ?_
     intro w2 hS
     obtain ⟨g0, g1, g2, g3, g4, g5, g6⟩ := hS
     go_wp2_with fail
     go_meet
     exact ⟨rfl, ⟨_, _, rfl, HSN.out⟩, g0, g1, g2, g3, g6⟩
    obtain ⟨rfl, ⟨p24, cp24, rfl, sn4⟩, r0, r1, f0, f1, hst6⟩ := hcut
    have y0 := oldcell hst6 y0 (by rw [← HR.out]; exact hk5); have y1 := oldcell hst6 y1 (by rw [← HR.out]; exact hk5)
    have HB6 := Lib.hid (HB5.out.trans hst6)
    have HS4 := Lib.hid (sn4.keep (w' := wc) (hst6.block ka (by rw [← HR.out]; exact hk4)))
    clear HB5 hst6 sn4
    try clear HSN
    try clear hle1
    try clear hkr
    go_upto_region 9 with fail
    have HBZ := Lib.hid (show Below wr.heap.size wr wc from by rw [HR.out]; exact HB6.out)
    obtain ⟨tb, htb⟩ : ∃ t : TriR R, t.1 = ⟨x.rank, x.ref, 1⟩ := ⟨⟨⟨x.rank, x.ref, 1⟩, HRP.out _ (by rw [← HPRE.out, HM.out]; simp)⟩, rfl⟩
    have hj2 : J pre wc := HJ.out pre wr wc none HJ1.out (grown_below HBZ.out) (fun r e => by cases e)
    have hlen : pre.length < (mzip a b).length := by have := congrArg List.length HPRE.out; rw [HM.out] at this; simp at this; omega
    obtain ⟨fn, tmps, assign, body, hy, hR⟩ := HY.out pre tb wc hj2 hlen
    have hy' : (Instr.yield l #[.int .i64 (x.rank), .agg #[.int .i64 x.ref, .int .i64 1]]).run Try.prog wc = .ok (.round l fn tmps assign body) wc := by have := hy; unfold tEncR at this; rw [htb] at this; exact this
    have HRR := Lib.hid hR
    clear hR hy hlen hj2
    refine (wpIn_wide (n := n)).1 ?_
    gi_wp2
    refine HRR.out.mono ?_
    rintro e W2 (⟨rfl, hJ2, hk2⟩ | ⟨rfl, hx2⟩)
    · gi_wp2
      go_wp2_with fail
      go_roundg (mzip xs (y :: ys)).length
      case measure => (have := HN.out; rw [HM.out] at this; simp at this; omega)
      case rel => exact ⟨xs, (y :: ys), _, _, _, _, pre ++ [tb], rfl, rfl, (HS4.out).keep hk2.1, ((SY.out.keep (w' := wc) (HB6.out.block kb (by rw [← HR.out]; exact hk5)))).keep hk2.2, (fun z hz => RX.out z (List.mem_cons_of_mem _ hz)), (fun z hz => RY.out z (hz)), by rw [← HPRE.out, HM.out, List.map_append, List.map_cons, htb]; simp, rfl, hJ2⟩
    · gi_wp2
      go_wp2_with fail
      refine bodyPost_ret (results_none rfl _ _ _) rfl ?_
      exact ⟨⟨_, rfl⟩, .inr ⟨pre ++ [tb], trivial, hx2⟩⟩
   rename ¬ x.rank < y.rank => hn1
   by_cases hrel : y.rank < x.rank
   case pos =>
    have hd1 : ¬ x.rank ≤ y.rank := by omega
    have hd2 : y.rank ≤ x.rank := by omega
    obtain ⟨o4, rfl, hk4, hc4⟩ : ∃ off, p4 = some ⟨ka, off, none⟩ ∧ ka < wr.heap.size ∧ ∀ i z, (x :: xs)[i]? = some z → ∀ j, j < 2 → wr.cell? ⟨ka, off + i * 2 + j, none⟩ = some (cEnc z j) := SX.out.2.2.resolve_left (by simp)
    have x0 : wr.cell? ⟨ka, o4, none⟩ = some (.int .i64 x.rank) := by simpa [cEnc] using hc4 0 x rfl 0 (by omega)
    have x1 : wr.cell? ⟨ka, o4 + 1, none⟩ = some (.int .i64 x.ref) := by simpa [cEnc] using hc4 0 x rfl 1 (by omega)
    clear hc4
    obtain ⟨o5, rfl, hk5, hc5⟩ : ∃ off, p5 = some ⟨kb, off, none⟩ ∧ kb < wr.heap.size ∧ ∀ i z, (y :: ys)[i]? = some z → ∀ j, j < 2 → wr.cell? ⟨kb, off + i * 2 + j, none⟩ = some (cEnc z j) := SY.out.2.2.resolve_left (by simp)
    have y0 : wr.cell? ⟨kb, o5, none⟩ = some (.int .i64 y.rank) := by simpa [cEnc] using hc5 0 y rfl 0 (by omega)
    have y1 : wr.cell? ⟨kb, o5 + 1, none⟩ = some (.int .i64 y.ref) := by simpa [cEnc] using hc5 0 y rfl 1 (by omega)
    clear hc5
    simp only [List.length_cons, List.length_nil] at hxl hyl ⊢
    have HM := Lib.hid (show mzip (x :: xs) (y :: ys) = ⟨y.rank, 1, y.ref⟩ :: mzip (x :: xs) ys from by rw [mzip_cons, if_neg (by omega), if_pos hrel])
    go_upto_region 2 with fail
    go_cut [6, 7] from 22 to 22 (fun s6 s7 wx => s6 = .pointer (some ⟨wr.heap.size, 0, none⟩) ∧ s7 = .int .i64 0 ∧ wx.cell? ⟨wr.heap.size, 0, none⟩ = some (.int .i64 1) ∧ wx.cell? ⟨wr.heap.size, 1, none⟩ = some (.int .i64 1) ∧ wx.frozen? ⟨wr.heap.size, 0, none⟩ = false ∧ wx.frozen? ⟨wr.heap.size, 1, none⟩ = false ∧ Below wr.heap.size wr wx)
    case first =>
     go_wp2_with fail
     go_meet
     exact ⟨rfl, rfl, by go_cell, by go_cell, by go_cell, by go_cell, by go_grown⟩
    obtain ⟨rfl, rfl, r0, r1, f0, f1, hst3⟩ := hcut
    have x0 := oldcell hst3 x0 hk4; have x1 := oldcell hst3 x1 hk4
    have y0 := oldcell hst3 y0 hk5; have y1 := oldcell hst3 y1 hk5
    obtain ⟨r, hr⟩ : ∃ r, wr.heap.size = r := ⟨_, rfl⟩
    have HR := Lib.hid hr
    have HST3 := Lib.hid hst3
    rw [hr] at r0 r1 f0 f1
    clear hst3
    simp only [hr]
    clear hr
    go_upto_region 3 with fail
    go_cut [8] from 23 to 41 (fun s8 wx => s8 = .bool false ∧ Below wc.heap.size wc wx)
    case first =>
     as_aux_lemma =>
      refine wp_region_seq (fun w' => Below wc.heap.size wc w') (by kernel_rfl) (by kernel_rfl) (by first | assumption | go_grown) ?_
      iterate 11 (refine seq_pure (v := ?_) (by rfl) ?_ ?_; rotate_left; (focus (intro w hS; go_simp; try with_reducible rfl)); (try simp only [Act.put, zA, zB, zC]))
      refine seq_pure (v := ?_) (by rfl) ?_ ?_
      rotate_left
      · (intro w hS; have kk := zD hS x0; go_simp; try with_reducible rfl)
      (try simp only [Act.put, zA, zB, zC])
      iterate 3 (refine seq_pure (v := ?_) (by rfl) ?_ ?_; rotate_left; (focus (intro w hS; go_simp; try with_reducible rfl)); (try simp only [Act.put, zA, zB, zC]))
      refine seq_pure (v := ?_) (by rfl) ?_ ?_
      rotate_left
      · (intro w hS; have kk := zD hS y0; go_simp; try with_reducible rfl)
      (try simp only [Act.put, zA, zB, zC])
      iterate 4 (refine seq_pure (v := ?_) (by rfl) ?_ ?_; rotate_left; (focus (intro w hS; go_simp; try with_reducible rfl)); (try simp only [Act.put, zA, zB, zC]))
      refine seq_nil ?_
      intro w2 HB0
      go_wp2_with fail
      go_meet
      exact ⟨rfl, HB0⟩
    have HRL1 := Lib.hid (World.block_lt_of_cell? _ _ r0)
    obtain ⟨rfl, hst4⟩ := hcut
    have x0 := zD hst4 x0
    have x1 := zD hst4 x1
    have y0 := zD hst4 y0
    have y1 := zD hst4 y1
    have r0 := zD hst4 r0
    have r1 := zD hst4 r1
    have HRL2 := Lib.hid (World.block_lt_of_cell? _ _ r0)
    go_upto_region 4 with fail
    go_cut [9] from 42 to 60 (fun s9 wx => s9 = .bool true ∧ Below wc.heap.size wc wx)
    case first =>
     as_aux_lemma =>
      refine wp_region_seq (fun w' => Below wc.heap.size wc w') (by kernel_rfl) (by kernel_rfl) (by first | assumption | go_grown) ?_
      iterate 11 (refine seq_pure (v := ?_) (by rfl) ?_ ?_; rotate_left; (focus (intro w hS; go_simp; try with_reducible rfl)); (try simp only [Act.put, zA, zB, zC]))
      refine seq_pure (v := ?_) (by rfl) ?_ ?_
      rotate_left
      · (intro w hS; have kk := zD hS y0; go_simp; try with_reducible rfl)
      (try simp only [Act.put, zA, zB, zC])
      iterate 3 (refine seq_pure (v := ?_) (by rfl) ?_ ?_; rotate_left; (focus (intro w hS; go_simp; try with_reducible rfl)); (try simp only [Act.put, zA, zB, zC]))
      refine seq_pure (v := ?_) (by rfl) ?_ ?_
      rotate_left
      · (intro w hS; have kk := zD hS x0; go_simp; try with_reducible rfl)
      (try simp only [Act.put, zA, zB, zC])
      iterate 4 (refine seq_pure (v := ?_) (by rfl) ?_ ?_; rotate_left; (focus (intro w hS; go_simp; try with_reducible rfl)); (try simp only [Act.put, zA, zB, zC]))
      refine seq_nil ?_
      intro w2 HB0
      go_wp2_with fail
      go_meet
      exact ⟨rfl, HB0⟩
    obtain ⟨rfl, hst5⟩ := hcut
    have x0 := zD hst5 x0
    have x1 := zD hst5 x1
    have y0 := zD hst5 y0
    have y1 := zD hst5 y1
    have r0 := zD hst5 r0
    have r1 := zD hst5 r1
    have hrlt : r < wc.heap.size := World.block_lt_of_cell? _ _ r0
    have hfz : wc.frozen? ⟨r, 0, none⟩ = false ∧ wc.frozen? ⟨r, 1, none⟩ = false := ⟨oldfree hst5 (oldfree hst4 f0 HRL1.out) HRL2.out, oldfree hst5 (oldfree hst4 f1 HRL1.out) HRL2.out⟩
    obtain ⟨f0, f1⟩ := hfz
    have HB5 := Lib.hid (show Below r wr wc from by rw [← HR.out]; exact HST3.out.trans ((hst4.mono (by have := HST3.out.size; omega)).trans (hst5.mono (by have := HST3.out.size; have := hst4.size; omega))))
    clear hst4 hst5 HST3
    go_upto_region 8 with fail
    go_cut [7, 5] from 74 to 83 (fun s7 s5 wx => s7 = .int .i64 y.rank ∧ (∃ (p : Option Addr) (cp : Nat), s5 = .slice p ys.length cp ∧ SuffAt wc kb p cp ys) ∧ wx.cell? ⟨r, 0, none⟩ = some (.int .i64 1) ∧ wx.cell? ⟨r, 1, none⟩ = some (.int .i64 y.ref) ∧ wx.frozen? ⟨r, 0, none⟩ = false ∧ wx.frozen? ⟨r, 1, none⟩ = false ∧ Below r wc wx)
    case first =>
     have hle1 : (1 : Int) ≤ (ys.length : Int) + 1 := by omega
     have hkr : r ≠ kb := by rw [← HR.out]; omega
     have SN := (SuffAt.next (SY.out.keep (w' := wc) (HB5.out.block kb (by rw [← HR.out]; exact hk5))))
     obtain ⟨pn, hpn⟩ : ∃ p, (if cp5 = 1 then some (⟨kb, o5, none⟩ : Addr) else some ⟨kb, o5 + 2, none⟩) = p := ⟨_, rfl⟩
     rw [hpn] at SN
     have HSN := Lib.hid SN; clear SN
     refine wp_region_seqM (fun s w' => w'.cell? ⟨r, 0, none⟩ = some (.int .i64 (match s with | 0 => 1 | _ => 1)) ∧ w'.cell? ⟨r, 1, none⟩ = some (.int .i64 (match s with | 0 => 1 | _ => y.ref)) ∧ w'.frozen? ⟨r, 0, none⟩ = false ∧ w'.frozen? ⟨r, 1, none⟩ = false ∧ w'.cell? ⟨kb, o5, none⟩ = some (.int .i64 y.rank) ∧ w'.cell? ⟨kb, o5 + 1, none⟩ = some (.int .i64 y.ref) ∧ Below r wc w') [12] (by kernel_rfl) (by kernel_rfl) (by kernel_rfl) ?_ ?_
     · exact ⟨keep_drew r0, keep_drew r1, f0, f1, keep_drew y0, keep_drew y1, (by go_grown)⟩
     iterate 12 (refine seqM_pure (v := ?_) (by decide) (by decide) (by rfl) ?_ ?_; rotate_left; (focus (intro sj hj w hS; obtain ⟨g0, g1, g2, g3, g4, g5, g6⟩ := hS; go_simp; try with_reducible rfl)); (try simp only [Act.put, zA, zB, zC]))
     refine seqM_store (f := fun w' => w'.setCell ⟨r, 1, none⟩ (.int .i64 y.ref)) (by decide) (by decide) (by rfl) ?_ ?_
     · (intro w hS; obtain ⟨g0, g1, g2, g3, g4, g5, g6⟩ := hS; exact ⟨by go_simp, by go_cell, by go_cell, by rw [World.frozen?_setCell]; exact g2, by rw [World.frozen?_setCell]; exact g3, keep_far g4 hkr, keep_far g5 hkr, Below.setCell g6 (Nat.le_refl r) _⟩)
     (try simp only [Act.put, zA, zB, zC])
     refine seqM_pure (v := ?_) (by decide) (by decide) (by rfl) ?_ ?_
     rotate_left
     · (intro sj hj w hS; obtain ⟨g0, g1, g2, g3, g4, g5, g6⟩ := hS; go_simp; try with_reducible rfl)
     (try simp only [Act.put, zA, zB, zC])
     refine seqM_nil ?_
     intro w2 hS
     obtain ⟨g0, g1, g2, g3, g4, g5, g6⟩ := hS
     go_wp2_with fail
     go_meet
     exact ⟨rfl, ⟨_, _, rfl, HSN.out⟩, g0, g1, g2, g3, g6⟩
    obtain ⟨rfl, ⟨p25, cp25, rfl, sn5⟩, r0, r1, f0, f1, hst8⟩ := hcut
    have x0 := oldcell hst8 x0 (by rw [← HR.out]; exact hk4); have x1 := oldcell hst8 x1 (by rw [← HR.out]; exact hk4)
    have HB8 := Lib.hid (HB5.out.trans hst8)
    have HS5 := Lib.hid (sn5.keep (w' := wc) (hst8.block kb (by rw [← HR.out]; exact hk5)))
    clear HB5 hst8 sn5
    try clear HSN
    try clear hle1
    try clear hkr
    go_upto_region 9 with fail
    have HBZ := Lib.hid (show Below wr.heap.size wr wc from by rw [HR.out]; exact HB8.out)
    obtain ⟨tb, htb⟩ : ∃ t : TriR R, t.1 = ⟨y.rank, 1, y.ref⟩ := ⟨⟨⟨y.rank, 1, y.ref⟩, HRP.out _ (by rw [← HPRE.out, HM.out]; simp)⟩, rfl⟩
    have hj2 : J pre wc := HJ.out pre wr wc none HJ1.out (grown_below HBZ.out) (fun r e => by cases e)
    have hlen : pre.length < (mzip a b).length := by have := congrArg List.length HPRE.out; rw [HM.out] at this; simp at this; omega
    obtain ⟨fn, tmps, assign, body, hy, hR⟩ := HY.out pre tb wc hj2 hlen
    have hy' : (Instr.yield l #[.int .i64 (y.rank), .agg #[.int .i64 1, .int .i64 y.ref]]).run Try.prog wc = .ok (.round l fn tmps assign body) wc := by have := hy; unfold tEncR at this; rw [htb] at this; exact this
    have HRR := Lib.hid hR
    clear hR hy hlen hj2
    refine (wpIn_wide (n := n)).1 ?_
    gi_wp2
    refine HRR.out.mono ?_
    rintro e W2 (⟨rfl, hJ2, hk2⟩ | ⟨rfl, hx2⟩)
    · gi_wp2
      go_wp2_with fail
      go_roundg (mzip (x :: xs) ys).length
      case measure => (have := HN.out; rw [HM.out] at this; simp at this; omega)
      case rel => exact ⟨(x :: xs), ys, _, _, _, _, pre ++ [tb], rfl, rfl, ((SX.out.keep (w' := wc) (HB8.out.block ka (by rw [← HR.out]; exact hk4)))).keep hk2.1, (HS5.out).keep hk2.2, (fun z hz => RX.out z (hz)), (fun z hz => RY.out z (List.mem_cons_of_mem _ hz)), by rw [← HPRE.out, HM.out, List.map_append, List.map_cons, htb]; simp, rfl, hJ2⟩
    · gi_wp2
      go_wp2_with fail
      refine bodyPost_ret (results_none rfl _ _ _) rfl ?_
      exact ⟨⟨_, rfl⟩, .inr ⟨pre ++ [tb], trivial, hx2⟩⟩
   have hd1 : x.rank ≤ y.rank := by omega
   have hd2 : y.rank ≤ x.rank := by omega
   obtain ⟨o4, rfl, hk4, hc4⟩ : ∃ off, p4 = some ⟨ka, off, none⟩ ∧ ka < wr.heap.size ∧ ∀ i z, (x :: xs)[i]? = some z → ∀ j, j < 2 → wr.cell? ⟨ka, off + i * 2 + j, none⟩ = some (cEnc z j) := SX.out.2.2.resolve_left (by simp)
   have x0 : wr.cell? ⟨ka, o4, none⟩ = some (.int .i64 x.rank) := by simpa [cEnc] using hc4 0 x rfl 0 (by omega)
   have x1 : wr.cell? ⟨ka, o4 + 1, none⟩ = some (.int .i64 x.ref) := by simpa [cEnc] using hc4 0 x rfl 1 (by omega)
   clear hc4
   obtain ⟨o5, rfl, hk5, hc5⟩ : ∃ off, p5 = some ⟨kb, off, none⟩ ∧ kb < wr.heap.size ∧ ∀ i z, (y :: ys)[i]? = some z → ∀ j, j < 2 → wr.cell? ⟨kb, off + i * 2 + j, none⟩ = some (cEnc z j) := SY.out.2.2.resolve_left (by simp)
   have y0 : wr.cell? ⟨kb, o5, none⟩ = some (.int .i64 y.rank) := by simpa [cEnc] using hc5 0 y rfl 0 (by omega)
   have y1 : wr.cell? ⟨kb, o5 + 1, none⟩ = some (.int .i64 y.ref) := by simpa [cEnc] using hc5 0 y rfl 1 (by omega)
   clear hc5
   simp only [List.length_cons, List.length_nil] at hxl hyl ⊢
   have HM := Lib.hid (show mzip (x :: xs) (y :: ys) = ⟨y.rank, x.ref, y.ref⟩ :: mzip xs ys from by rw [mzip_cons, if_neg (by omega), if_neg (by omega), show x.rank = y.rank by omega])
   go_upto_region 2 with fail
   go_cut [6, 7] from 22 to 22 (fun s6 s7 wx => s6 = .pointer (some ⟨wr.heap.size, 0, none⟩) ∧ s7 = .int .i64 0 ∧ wx.cell? ⟨wr.heap.size, 0, none⟩ = some (.int .i64 1) ∧ wx.cell? ⟨wr.heap.size, 1, none⟩ = some (.int .i64 1) ∧ wx.frozen? ⟨wr.heap.size, 0, none⟩ = false ∧ wx.frozen? ⟨wr.heap.size, 1, none⟩ = false ∧ Below wr.heap.size wr wx)
   case first =>
    go_wp2_with fail
    go_meet
    exact ⟨rfl, rfl, by go_cell, by go_cell, by go_cell, by go_cell, by go_grown⟩
   obtain ⟨rfl, rfl, r0, r1, f0, f1, hst3⟩ := hcut
   have x0 := oldcell hst3 x0 hk4; have x1 := oldcell hst3 x1 hk4
   have y0 := oldcell hst3 y0 hk5; have y1 := oldcell hst3 y1 hk5
   obtain ⟨r, hr⟩ : ∃ r, wr.heap.size = r := ⟨_, rfl⟩
   have HR := Lib.hid hr
   have HST3 := Lib.hid hst3
   rw [hr] at r0 r1 f0 f1
   clear hst3
   simp only [hr]
   clear hr
   go_upto_region 3 with fail
   go_cut [8] from 23 to 41 (fun s8 wx => s8 = .bool true ∧ Below wc.heap.size wc wx)
   case first =>
    as_aux_lemma =>
     refine wp_region_seq (fun w' => Below wc.heap.size wc w') (by kernel_rfl) (by kernel_rfl) (by first | assumption | go_grown) ?_
     iterate 11 (refine seq_pure (v := ?_) (by rfl) ?_ ?_; rotate_left; (focus (intro w hS; go_simp; try with_reducible rfl)); (try simp only [Act.put, zA, zB, zC]))
     refine seq_pure (v := ?_) (by rfl) ?_ ?_
     rotate_left
     · (intro w hS; have kk := zD hS x0; go_simp; try with_reducible rfl)
     (try simp only [Act.put, zA, zB, zC])
     iterate 3 (refine seq_pure (v := ?_) (by rfl) ?_ ?_; rotate_left; (focus (intro w hS; go_simp; try with_reducible rfl)); (try simp only [Act.put, zA, zB, zC]))
     refine seq_pure (v := ?_) (by rfl) ?_ ?_
     rotate_left
     · (intro w hS; have kk := zD hS y0; go_simp; try with_reducible rfl)
     (try simp only [Act.put, zA, zB, zC])
     iterate 4 (refine seq_pure (v := ?_) (by rfl) ?_ ?_; rotate_left; (focus (intro w hS; go_simp; try with_reducible rfl)); (try simp only [Act.put, zA, zB, zC]))
     refine seq_nil ?_
     intro w2 HB0
     go_wp2_with fail
     go_meet
     exact ⟨rfl, HB0⟩
   have HRL1 := Lib.hid (World.block_lt_of_cell? _ _ r0)
   obtain ⟨rfl, hst4⟩ := hcut
   have x0 := zD hst4 x0
   have x1 := zD hst4 x1
   have y0 := zD hst4 y0
   have y1 := zD hst4 y1
   have r0 := zD hst4 r0
   have r1 := zD hst4 r1
   have HRL2 := Lib.hid (World.block_lt_of_cell? _ _ r0)
   go_upto_region 4 with fail
   go_cut [9] from 42 to 60 (fun s9 wx => s9 = .bool true ∧ Below wc.heap.size wc wx)
   case first =>
    as_aux_lemma =>
     refine wp_region_seq (fun w' => Below wc.heap.size wc w') (by kernel_rfl) (by kernel_rfl) (by first | assumption | go_grown) ?_
     iterate 11 (refine seq_pure (v := ?_) (by rfl) ?_ ?_; rotate_left; (focus (intro w hS; go_simp; try with_reducible rfl)); (try simp only [Act.put, zA, zB, zC]))
     refine seq_pure (v := ?_) (by rfl) ?_ ?_
     rotate_left
     · (intro w hS; have kk := zD hS y0; go_simp; try with_reducible rfl)
     (try simp only [Act.put, zA, zB, zC])
     iterate 3 (refine seq_pure (v := ?_) (by rfl) ?_ ?_; rotate_left; (focus (intro w hS; go_simp; try with_reducible rfl)); (try simp only [Act.put, zA, zB, zC]))
     refine seq_pure (v := ?_) (by rfl) ?_ ?_
     rotate_left
     · (intro w hS; have kk := zD hS x0; go_simp; try with_reducible rfl)
     (try simp only [Act.put, zA, zB, zC])
     iterate 4 (refine seq_pure (v := ?_) (by rfl) ?_ ?_; rotate_left; (focus (intro w hS; go_simp; try with_reducible rfl)); (try simp only [Act.put, zA, zB, zC]))
     refine seq_nil ?_
     intro w2 HB0
     go_wp2_with fail
     go_meet
     exact ⟨rfl, HB0⟩
   obtain ⟨rfl, hst5⟩ := hcut
   have x0 := zD hst5 x0
   have x1 := zD hst5 x1
   have y0 := zD hst5 y0
   have y1 := zD hst5 y1
   have r0 := zD hst5 r0
   have r1 := zD hst5 r1
   have hrlt : r < wc.heap.size := World.block_lt_of_cell? _ _ r0
   have hfz : wc.frozen? ⟨r, 0, none⟩ = false ∧ wc.frozen? ⟨r, 1, none⟩ = false := ⟨oldfree hst5 (oldfree hst4 f0 HRL1.out) HRL2.out, oldfree hst5 (oldfree hst4 f1 HRL1.out) HRL2.out⟩
   obtain ⟨f0, f1⟩ := hfz
   have HB5 := Lib.hid (show Below r wr wc from by rw [← HR.out]; exact HST3.out.trans ((hst4.mono (by have := HST3.out.size; omega)).trans (hst5.mono (by have := HST3.out.size; have := hst4.size; omega))))
   clear hst4 hst5 HST3
   go_upto_region 6 with fail
   go_cut [7, 4] from 62 to 71 (fun s7 s4 wx => s7 = .int .i64 x.rank ∧ (∃ (p : Option Addr) (cp : Nat), s4 = .slice p xs.length cp ∧ SuffAt wc ka p cp xs) ∧ wx.cell? ⟨r, 0, none⟩ = some (.int .i64 x.ref) ∧ wx.cell? ⟨r, 1, none⟩ = some (.int .i64 1) ∧ wx.frozen? ⟨r, 0, none⟩ = false ∧ wx.frozen? ⟨r, 1, none⟩ = false ∧ Below r wc wx)
   case first =>
    have hle1 : (1 : Int) ≤ (xs.length : Int) + 1 := by omega
    have hkr : r ≠ ka := by rw [← HR.out]; omega
    have SN := (SuffAt.next (SX.out.keep (w' := wc) (HB5.out.block ka (by rw [← HR.out]; exact hk4))))
    obtain ⟨pn, hpn⟩ : ∃ p, (if cp4 = 1 then some (⟨ka, o4, none⟩ : Addr) else some ⟨ka, o4 + 2, none⟩) = p := ⟨_, rfl⟩
    rw [hpn] at SN
    have HSN := Lib.hid SN; clear SN
    refine wp_region_seqM (fun s w' => w'.cell? ⟨r, 0, none⟩ = some (.int .i64 (match s with | 0 => 1 | _ => x.ref)) ∧ w'.cell? ⟨r, 1, none⟩ = some (.int .i64 (match s with | 0 => 1 | _ => 1)) ∧ w'.frozen? ⟨r, 0, none⟩ = false ∧ w'.frozen? ⟨r, 1, none⟩ = false ∧ w'.cell? ⟨ka, o4, none⟩ = some (.int .i64 x.rank) ∧ w'.cell? ⟨ka, o4 + 1, none⟩ = some (.int .i64 x.ref) ∧ Below r wc w') [12] (by kernel_rfl) (by kernel_rfl) (by kernel_rfl) ?_ ?_
    · exact ⟨keep_drew r0, keep_drew r1, f0, f1, keep_drew x0, keep_drew x1, (by go_grown)⟩
    iterate 12 (refine seqM_pure (v := ?_) (by decide) (by decide) (by rfl) ?_ ?_; rotate_left; (focus (intro sj hj w hS; obtain ⟨g0, g1, g2, g3, g4, g5, g6⟩ := hS; go_simp; try with_reducible rfl)); (try simp only [Act.put, zA, zB, zC]))
    refine seqM_store (f := fun w' => w'.setCell ⟨r, 0, none⟩ (.int .i64 x.ref)) (by decide) (by decide) (by rfl) ?_ ?_
    · (intro w hS; obtain ⟨g0, g1, g2, g3, g4, g5, g6⟩ := hS; exact ⟨by go_simp, by go_cell, by go_cell, by rw [World.frozen?_setCell]; exact g2, by rw [World.frozen?_setCell]; exact g3, keep_far g4 hkr, keep_far g5 hkr, Below.setCell g6 (Nat.le_refl r) _⟩)
    (try simp only [Act.put, zA, zB, zC])
    refine seqM_pure (v := ?_) (by decide) (by decide) (by rfl) ?_ ?_
    rotate_left
    · (intro sj hj w hS; obtain ⟨g0, g1, g2, g3, g4, g5, g6⟩ := hS; go_simp; try with_reducible rfl)
    (try simp only [Act.put, zA, zB, zC])
    refine seqM_nil ?_
    intro w2 hS
    obtain ⟨g0, g1, g2, g3, g4, g5, g6⟩ := hS
    go_wp2_with fail
    go_meet
    exact ⟨rfl, ⟨_, _, rfl, HSN.out⟩, g0, g1, g2, g3, g6⟩
   obtain ⟨rfl, ⟨p24, cp24, rfl, sn4⟩, r0, r1, f0, f1, hst6⟩ := hcut
   have y0 := oldcell hst6 y0 (by rw [← HR.out]; exact hk5); have y1 := oldcell hst6 y1 (by rw [← HR.out]; exact hk5)
   have HB6 := Lib.hid (HB5.out.trans hst6)
   have HS4 := Lib.hid (sn4.keep (w' := wc) (hst6.block ka (by rw [← HR.out]; exact hk4)))
   clear HB5 hst6 sn4
   try clear HSN
   try clear hle1
   try clear hkr
   go_upto_region 8 with fail
   go_cut [7, 5] from 74 to 83 (fun s7 s5 wx => s7 = .int .i64 y.rank ∧ (∃ (p : Option Addr) (cp : Nat), s5 = .slice p ys.length cp ∧ SuffAt wc kb p cp ys) ∧ wx.cell? ⟨r, 0, none⟩ = some (.int .i64 x.ref) ∧ wx.cell? ⟨r, 1, none⟩ = some (.int .i64 y.ref) ∧ wx.frozen? ⟨r, 0, none⟩ = false ∧ wx.frozen? ⟨r, 1, none⟩ = false ∧ Below r wc wx)
   case first =>
    have hle1 : (1 : Int) ≤ (ys.length : Int) + 1 := by omega
    have hkr : r ≠ kb := by rw [← HR.out]; omega
    have SN := (SuffAt.next (SY.out.keep (w' := wc) (HB6.out.block kb (by rw [← HR.out]; exact hk5))))
    obtain ⟨pn, hpn⟩ : ∃ p, (if cp5 = 1 then some (⟨kb, o5, none⟩ : Addr) else some ⟨kb, o5 + 2, none⟩) = p := ⟨_, rfl⟩
    rw [hpn] at SN
    have HSN := Lib.hid SN; clear SN
    refine wp_region_seqM (fun s w' => w'.cell? ⟨r, 0, none⟩ = some (.int .i64 (match s with | 0 => x.ref | _ => x.ref)) ∧ w'.cell? ⟨r, 1, none⟩ = some (.int .i64 (match s with | 0 => 1 | _ => y.ref)) ∧ w'.frozen? ⟨r, 0, none⟩ = false ∧ w'.frozen? ⟨r, 1, none⟩ = false ∧ w'.cell? ⟨kb, o5, none⟩ = some (.int .i64 y.rank) ∧ w'.cell? ⟨kb, o5 + 1, none⟩ = some (.int .i64 y.ref) ∧ Below r wc w') [12] (by kernel_rfl) (by kernel_rfl) (by kernel_rfl) ?_ ?_
    · exact ⟨keep_drew r0, keep_drew r1, f0, f1, keep_drew y0, keep_drew y1, (by go_grown)⟩
    iterate 12 (refine seqM_pure (v := ?_) (by decide) (by decide) (by rfl) ?_ ?_; rotate_left; (focus (intro sj hj w hS; obtain ⟨g0, g1, g2, g3, g4, g5, g6⟩ := hS; go_simp; try with_reducible rfl)); (try simp only [Act.put, zA, zB, zC]))
    refine seqM_store (f := fun w' => w'.setCell ⟨r, 1, none⟩ (.int .i64 y.ref)) (by decide) (by decide) (by rfl) ?_ ?_
    · (intro w hS; obtain ⟨g0, g1, g2, g3, g4, g5, g6⟩ := hS; exact ⟨by go_simp, by go_cell, by go_cell, by rw [World.frozen?_setCell]; exact g2, by rw [World.frozen?_setCell]; exact g3, keep_far g4 hkr, keep_far g5 hkr, Below.setCell g6 (Nat.le_refl r) _⟩)
    (try simp only [Act.put, zA, zB, zC])
    refine seqM_pure (v := ?_) (by decide) (by decide) (by rfl) ?_ ?_
    rotate_left
    · (intro sj hj w hS; obtain ⟨g0, g1, g2, g3, g4, g5, g6⟩ := hS; go_simp; try with_reducible rfl)
    (try simp only [Act.put, zA, zB, zC])
    refine seqM_nil ?_
    intro w2 hS
    obtain ⟨g0, g1, g2, g3, g4, g5, g6⟩ := hS
    go_wp2_with fail
    go_meet
    exact ⟨rfl, ⟨_, _, rfl, HSN.out⟩, g0, g1, g2, g3, g6⟩
   obtain ⟨rfl, ⟨p25, cp25, rfl, sn5⟩, r0, r1, f0, f1, hst8⟩ := hcut
   have HB8 := Lib.hid (HB6.out.trans hst8)
   have HS5 := Lib.hid (sn5.keep (w' := wc) (hst8.block kb (by rw [← HR.out]; exact hk5)))
   have KK := hst8
   clear HB6 hst8 sn5
   try clear HSN
   try clear hle1
   try clear hkr
   have HS4 := Lib.hid (HS4.out.keep (w' := wc) (KK.block ka (by rw [← HR.out]; exact hk4)))
   go_upto_region 9 with fail
   have HBZ := Lib.hid (show Below wr.heap.size wr wc from by rw [HR.out]; exact HB8.out)
   obtain ⟨tb, htb⟩ : ∃ t : TriR R, t.1 = ⟨y.rank, x.ref, y.ref⟩ := ⟨⟨⟨y.rank, x.ref, y.ref⟩, HRP.out _ (by rw [← HPRE.out, HM.out]; simp)⟩, rfl⟩
   have hj2 : J pre wc := HJ.out pre wr wc none HJ1.out (grown_below HBZ.out) (fun r e => by cases e)
   have hlen : pre.length < (mzip a b).length := by have := congrArg List.length HPRE.out; rw [HM.out] at this; simp at this; omega
   obtain ⟨fn, tmps, assign, body, hy, hR⟩ := HY.out pre tb wc hj2 hlen
   have hy' : (Instr.yield l #[.int .i64 (y.rank), .agg #[.int .i64 x.ref, .int .i64 y.ref]]).run Try.prog wc = .ok (.round l fn tmps assign body) wc := by have := hy; unfold tEncR at this; rw [htb] at this; exact this
   have HRR := Lib.hid hR
   clear hR hy hlen hj2
   refine (wpIn_wide (n := n)).1 ?_
   gi_wp2
   refine HRR.out.mono ?_
   rintro e W2 (⟨rfl, hJ2, hk2⟩ | ⟨rfl, hx2⟩)
   · gi_wp2
     go_wp2_with fail
     go_roundg (mzip xs ys).length
     case measure => (have := HN.out; rw [HM.out] at this; simp at this; omega)
     case rel => exact ⟨xs, ys, _, _, _, _, pre ++ [tb], rfl, rfl, (HS4.out).keep hk2.1, (HS5.out).keep hk2.2, (fun z hz => RX.out z (List.mem_cons_of_mem _ hz)), (fun z hz => RY.out z (List.mem_cons_of_mem _ hz)), by rw [← HPRE.out, HM.out, List.map_append, List.map_cons, htb]; simp, rfl, hJ2⟩
   · gi_wp2
     go_wp2_with fail
     refine bodyPost_ret (results_none rfl _ _ _) rfl ?_
     exact ⟨⟨_, rfl⟩, .inr ⟨pre ++ [tb], trivial, hx2⟩⟩
theorem merged_stops (n : Nat) (hn : 1 ≤ n) (a b : List Cell) (b1 b2 ka kb : Nat) (ar1 ar2 : Int) (pa pb : Option Addr) (capa capb : Nat) (w : World) (ha : SuffAt w ka pa capa a) (hb : SuffAt w kb pb capb b) (ra : ∀ x ∈ a, x.ref ≤ 100000) (rb : ∀ x ∈ b, x.ref ≤ 100000)
 (hka : ka < w.heap.size) (hkb : kb < w.heap.size) (c1 : w.cell? ⟨b1, 1, none⟩ = some (.slice pa a.length capa)) (c2 : w.cell? ⟨b2, 1, none⟩ = some (.slice pb b.length capb)) :
 SeqStopsK Fence.wide n Try.prog 137 #[.pointer (some ⟨b1, 0, none⟩), .pointer (some ⟨b2, 0, none⟩)] tEnc (KpB ka kb) (fun xs => xs.map Subtype.val = mzip a b) (fun _ => True) (mzip a b).length w :=
 merged_stopsR (R := fun t => t.p ≤ 100000 ∧ t.q ≤ 100000) n hn a b (mzip_refs a b ra rb) b1 b2 ka kb ar1 ar2 pa pb capa capb w ha hb ra rb hka hkb c1 c2
end Go.Proofs.Ytadilppdlbhjnaa
