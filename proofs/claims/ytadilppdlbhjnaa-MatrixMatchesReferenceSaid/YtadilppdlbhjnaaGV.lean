import Derived.Test.YtadilppdlbhjnaaGN
import Derived.Laws.IdiomCopy
import Derived.Lib.SliceRun
import Derived.Test.YtadilppdlbhjnaaGI
namespace Go.Proofs.Ytadilppdlbhjnaa
set_option linter.unusedSimpArgs false
set_option linter.unusedVariables false
open Go.RowKit
set_option maxRecDepth 100000 in
set_option maxHeartbeats 2000000 in
theorem ovr1_any (xr xf P X : Int) (bp bx : Nat) (w : World) (hp : w.cell? ⟨bp, 0, none⟩ = some (.int .i64 P)) (hx : w.cell? ⟨bx, 0, none⟩ = some (.int .i64 X)) (h0 : 0 ≤ xr) (h1 : xr ≤ 1000000) (hP0 : 0 < P) (hP1 : P ≤ 1000000) :
 Calls Try.prog 99 #[.agg #[.int .i64 xr, .int .i64 xf], .pointer (some ⟨bp, 0, none⟩), .pointer (some ⟨bx, 0, none⟩)] w (RetB w (xr / P != X)) := by
 have hd : xr.tdiv P = xr / P := Int.tdiv_eq_ediv_of_nonneg h0
 have hq0 : 0 ≤ xr / P := Int.ediv_nonneg h0 (Int.le_of_lt hP0)
 have hq1 : xr / P ≤ xr := Int.ediv_le_self _ h0
 have hw : IntKind.i64.wrap (xr / P) = xr / P := by rw [IntWalk.i64_in]; omega
 have hpz : (P == 0) = false := by simp; omega
 have hpz2 : P ≠ 0 := by omega
 obtain ⟨q, hq⟩ : ∃ q, xr / P = q := ⟨_, rfl⟩
 rw [hq] at hd hw ⊢
 clear hq0 hq1 hq
 have hlp := World.block_lt_of_cell? _ _ hp
 have hlx := World.block_lt_of_cell? _ _ hx
 go_enter Try.func99, Try.ntmps99
 go_upto_region 1 with fail
 obtain ⟨wb, hwb⟩ : ∃ x, x = w.alloc (.cells #[.int .i64 xr, .int .i64 xf] 76) := ⟨_, rfl⟩
 have hB : Below w.heap.size w wb := by rw [hwb]; go_grown
 have hz : wb.cell? ⟨w.heap.size, 0, none⟩ = some (.int .i64 xr) := by rw [hwb]; go_cell
 have kp : wb.cell? ⟨bp, 0, none⟩ = some (.int .i64 P) := oldcell hB hp hlp
 have kx : wb.cell? ⟨bx, 0, none⟩ = some (.int .i64 X) := oldcell hB hx hlx
 try rw [← hwb]
 clear hwb hp hx
 refine wp_region_seq (fun w' => Below wb.heap.size wb w') (by kernel_rfl) (by kernel_rfl) (by first | assumption | go_grown) ?_
 refine seq_pure (v := ?_) (by rfl) ?_ ?_
 rotate_left
 · (intro w hS; go_simp; try with_reducible rfl)
 (try simp only [Act.put, zA, zB, zC])
 refine seq_pure (v := ?_) (by rfl) ?_ ?_
 rotate_left
 · (intro w hS; have hz' := zD hS hz; go_simp; try with_reducible rfl)
 (try simp only [Act.put, zA, zB, zC])
 refine seq_pure (v := ?_) (by rfl) ?_ ?_
 rotate_left
 · (intro w hS; have kp' := zD hS kp; go_simp; try with_reducible rfl)
 (try simp only [Act.put, zA, zB, zC])
 refine seq_pure (v := ?_) (by rfl) ?_ ?_
 rotate_left
 · (intro w hS; go_simp; try with_reducible rfl)
 (try simp only [Act.put, zA, zB, zC])
 refine seq_pure (v := ?_) (by rfl) ?_ ?_
 rotate_left
 · (intro w hS; have kx' := zD hS kx; go_simp; try with_reducible rfl)
 (try simp only [Act.put, zA, zB, zC])
 iterate 2 (refine seq_pure (v := ?_) (by rfl) ?_ ?_; rotate_left; (focus (intro w hS; go_simp; try with_reducible rfl)); (try simp only [Act.put, zA, zB, zC]))
 refine seq_nil ?_
 intro w2 HB0
 go_wp2_with fail
 refine bodyPost_ret (by simp [results, Try.results99, go_sem]; try rfl) rfl ?_
 exact ⟨by first | rfl | simp [bne], btr hB HB0⟩
def FirstIx (m : List Cell) (P X i : Int) : Prop := (i = -1 ∧ ∀ y ∈ m, y.rank / P = X) ∨ ∃ k : Nat, i = k ∧ (∃ y, m[k]? = some y ∧ y.rank / P ≠ X) ∧ ∀ j y, m[j]? = some y → j < k → y.rank / P = X
set_option maxRecDepth 100000 in
set_option maxHeartbeats 2000000 in
theorem index_ovr (m : List Cell) (P X : Int) (p : Option Addr) (cap bp bx : Nat) (w : World) (hM : MxAt w p cap m) (hr : ∀ x ∈ m, 0 ≤ x.rank ∧ x.rank ≤ 1000000) (hl : m.length ≤ 100000) (hp : w.cell? ⟨bp, 0, none⟩ = some (.int .i64 P)) (hx : w.cell? ⟨bx, 0, none⟩ = some (.int .i64 X)) (hP0 : 0 < P) (hP1 : P ≤ 1000000) :
 Calls Try.prog 136 #[.slice p m.length cap, .func (.func 99) #[] #[.pointer (some ⟨bp, 0, none⟩), .pointer (some ⟨bx, 0, none⟩)]] w
  fun e w' => ∃ i, e = .returned (.int .i64 i) ∧ FirstIx m P X i ∧ Below w.heap.size w w' := by
 have HM := Lib.hid hM; have HR := Lib.hid hr
 have HP := Lib.hid hp; have HX := Lib.hid hx
 clear hM hr hp hx
 go_enter Try.func136, Try.ntmps136
 go_wp2_with fail
 go_loopg [8] m.length (fun M s8 wr => ∃ K : Nat, s8 = .int .i64 K ∧ K ≤ m.length ∧ M = m.length - K ∧ (∀ j y, m[j]? = some y → j < K → y.rank / P = X) ∧ Below w.heap.size w wr)
 case atStart => exact ⟨0, rfl, by omega, rfl, fun j y _ h => by omega, Below.refl _ _⟩
 obtain ⟨K, rfl, hK, hN, hlow, hb⟩ := hrel
 have HN := Lib.hid hN; have HL := Lib.hid hlow; clear hN hlow
 by_cases hlt : K < m.length
 case pos =>
  have hlt1 : (K : Int) < (m.length : Int) := by omega
  have hlt0 : (0 : Int) ≤ (K : Int) := by omega
  obtain ⟨x, hx⟩ : ∃ x, m[K]? = some x := ⟨_, List.getElem?_eq_getElem hlt⟩
  obtain ⟨b1, o1, rfl, hb1, j0, j1⟩ := cell_cells HM.out.at' hx
  replace j0 := oldcell hb j0 hb1; replace j1 := oldcell hb j1 hb1
  have hxr := HR.out x (List.mem_of_getElem? hx)
  obtain ⟨xr, hxe⟩ : ∃ z, x.rank = z := ⟨_, rfl⟩
  obtain ⟨xf, hxf⟩ : ∃ z, x.ref = z := ⟨_, rfl⟩
  rw [hxe] at j0 hxr; rw [hxf] at j1
  have HXX := Lib.hid hx; have HXE := Lib.hid hxe
  have q1 := hxr.1; have q2 := hxr.2
  clear hx hxe hxf hb1 hxr
  obtain ⟨t, ht⟩ : ∃ t, (xr / P != X) = t := ⟨_, rfl⟩
  have HT := Lib.hid ht; clear ht
  have HC := Lib.hid (ovr1_any xr xf P X bp bx wr (oldcell hb HP.out (World.block_lt_of_cell? _ _ HP.out)) (oldcell hb HX.out (World.block_lt_of_cell? _ _ HX.out)) q1 q2 hP0 hP1)
  cases t with
  | true =>
   go_wp2_with (first | (go_at_call 99; refine HC.out.mono ?_; rw [HT.out]; rintro e w2 ⟨rfl, hb2⟩))
   go_ret
   refine ⟨(K : Int), rfl, .inr ⟨K, rfl, ⟨x, HXX.out, ?_⟩, HL.out⟩, btr hb hb2⟩
   have := HT.out
   rw [HXE.out]; simpa using this
  | false =>
   go_wp2_with (first | (go_at_call 99; refine HC.out.mono ?_; rw [HT.out]; rintro e w2 ⟨rfl, hb2⟩))
   go_roundg (m.length - (K + 1))
   case measure => (have := HN.out; omega)
   case rel => exact ⟨K + 1, by go_num, by omega, rfl, fun j y hj hjk => by
    by_cases e : j = K
    · subst e; rw [HXX.out] at hj; cases hj; have := HT.out; rw [HXE.out]; simpa using this
    · exact HL.out j y hj (by omega), btr hb hb2⟩
 obtain rfl : K = m.length := by omega
 go_wp2_with fail
 go_ret
 exact ⟨-1, rfl, .inl ⟨rfl, fun y hy => by obtain ⟨j, hj⟩ := List.getElem?_of_mem hy; exact HL.out j y hj (List.getElem?_eq_some_iff.1 hj).1⟩, hb⟩
end Go.Proofs.Ytadilppdlbhjnaa
namespace Go.Proofs.Ytadilppdlbhjnaa
set_option linter.unusedSimpArgs false
set_option linter.unusedVariables false
open Go.RowKit
def RowC (w : World) (b off : Nat) (F : List Cell) : Prop := ∀ i x, F[i]? = some x → w.cell? ⟨b, off + i * 2, none⟩ = some (.int .i64 x.rank) ∧ w.cell? ⟨b, off + i * 2 + 1, none⟩ = some (.int .i64 x.ref)
def FreeC (w : World) (b off n : Nat) : Prop := ∀ j, j < n * 2 → w.frozen? ⟨b, off + j, none⟩ = false
theorem RowC.up {w w' : World} {b off : Nat} {F : List Cell} (h : RowC w b off F) (hB : Below w.heap.size w w') : RowC w' b off F := fun i x hx =>
 ⟨oldcell hB (h i x hx).1 (World.block_lt_of_cell? _ _ (h i x hx).1), oldcell hB (h i x hx).2 (World.block_lt_of_cell? _ _ (h i x hx).2)⟩
theorem free_up {w w' : World} {b o : Nat} (h : w.frozen? ⟨b, o, none⟩ = false) (hb : b < w.heap.size) (hB : Below w.heap.size w w') : w'.frozen? ⟨b, o, none⟩ = false := (KeepX.of_below (X := []) hB).free h hb (by simp)
theorem FreeC.up {w w' : World} {b off n : Nat} (h : FreeC w b off n) (hb : b < w.heap.size) (hB : Below w.heap.size w w') : FreeC w' b off n := fun j hj => free_up (h j hj) hb hB
theorem FreeC.set {w : World} {b off n : Nat} (h : FreeC w b off n) (a : Addr) (v : Value) : FreeC (w.setCell a v) b off n := fun j hj => by simpa using h j hj
theorem sc_ne {w : World} {b o1 o2 : Nat} {v : Value} (h : o1 ≠ o2) : (w.setCell ⟨b, o1, none⟩ v).cell? ⟨b, o2, none⟩ = w.cell? ⟨b, o2, none⟩ :=
 World.cell?_setCell_other w ⟨b, o1, none⟩ ⟨b, o2, none⟩ v (by intro e; exact h (congrArg Addr.off e))
theorem RowC.set {w : World} {b off : Nat} {F : List Cell} (h : RowC w b off F) {i : Nat} (hi : i < F.length) (y : Cell) : RowC ((w.setCell ⟨b, off + i * 2, none⟩ (.int .i64 y.rank)).setCell ⟨b, off + i * 2 + 1, none⟩ (.int .i64 y.ref)) b off (F.set i y) := by
 intro t x hx
 have hF := h i F[i] (List.getElem?_eq_getElem hi)
 by_cases e : t = i
 · subst e
   rw [List.getElem?_set_self hi] at hx; cases hx
   have h1 : (w.setCell ⟨b, off + t * 2, none⟩ (.int .i64 y.rank)).cell? ⟨b, off + t * 2 + 1, none⟩ = some (.int .i64 F[t].ref) := by rw [sc_ne (by omega)]; exact hF.2
   exact ⟨by rw [sc_ne (by omega), World.cell?_setCell_same _ _ _ hF.1], by rw [World.cell?_setCell_same _ _ _ h1]⟩
 · rw [List.getElem?_set_ne (by omega)] at hx
   have hx' := h t x hx
   exact ⟨by rw [sc_ne (by omega), sc_ne (by omega)]; exact hx'.1, by rw [sc_ne (by omega), sc_ne (by omega)]; exact hx'.2⟩
theorem run_clear_cells {P : Program} (w : World) (t e ty : TypeId) (z a : Value) (ht : P.underlying t = some (.slice e)) (hv : ∀ w, (zeroValue e).run P w = .ok z w) (hz : z.cells = #[a, a]) (h1 : a.oneCell' = true) (b o n c : Nat) (hn : 0 < n)
 (hc : ∀ j, j < n * 2 → (w.cell? ⟨b, o + j, none⟩).isSome = true) (hf : ∀ j, j < n * 2 → w.frozen? ⟨b, o + j, none⟩ = false) :
 (Builtin.clear_ #[t] ty #[.slice (some ⟨b, o, none⟩) n c]).run P w = .ok (.tuple #[]) (w.setCells b o (List.replicate (n * 2) a)) := by
 have hzc : (Builtin.zeroCells z.cells n).toList = List.replicate (n * 2) a := by
  rw [hz]
  simp [Builtin.zeroCells]
  apply List.ext_getElem
  · simp; try omega
  · intro i h1 h2
    have : i % 2 = 0 ∨ i % 2 = 1 := by omega
    rcases this with h | h <;> simp [h]
 have hst := run_storeCells_cells (P := P) b o (List.replicate (n * 2) a) 0 w (by simpa using hc) (by simpa using hf) (by intro v hv'; rw [List.eq_of_mem_replicate hv']; exact h1)
 simp only [Nat.add_zero] at hst
 obtain ⟨m, rfl⟩ : ∃ m, n = m + 1 := ⟨n - 1, by omega⟩
 simp [Builtin.clear_, run_underlying ht, hv, hzc, hst]
theorem KeepX.setCells {X : List Nat} {w : World} {b : Nat} (hb : b ∈ X) : ∀ (vs : List Value) (o : Nat) (w' : World), KeepX X w w' → KeepX X w (w'.setCells b o vs)
 | [], _, _, h => h
 | v :: r, o, _, h => KeepX.setCells hb r (o + 1) _ (h.setCell (by simpa using hb) v)
theorem filt_at {m : List Cell} {j : Nat} {x : Cell} (f : Cell → Bool) (h : m[j]? = some x) : (m.take (j + 1)).filter f = if f x = true then (m.take j).filter f ++ [x] else (m.take j).filter f := by
 obtain ⟨h1, h2⟩ := List.getElem?_eq_some_iff.1 h
 rw [List.take_succ_eq_append_getElem h1, h2, List.filter_append]
 split <;> rename_i hf <;> simp [hf]
theorem take_set {F : List Cell} {i : Nat} (h : i < F.length) (x : Cell) : (F.set i x).take (i + 1) = F.take i ++ [x] := by
 rw [List.take_succ_eq_append_getElem (by simp; exact h)]
 simp
 rw [List.take_set, List.set_eq_of_length_le (by simp; omega)]
set_option maxRecDepth 100000 in
set_option maxHeartbeats 4000000 in
theorem delete_ovr (m : List Cell) (P X : Int) (p : Option Addr) (cap b bp bx : Nat) (w : World) (hM : MxAt w p cap m) (hr : ∀ x ∈ m, 0 ≤ x.rank ∧ x.rank ≤ 1000000) (hl : m.length ≤ 100000) (hp : w.cell? ⟨bp, 0, none⟩ = some (.int .i64 P)) (hx : w.cell? ⟨bx, 0, none⟩ = some (.int .i64 X)) (hP0 : 0 < P) (hP1 : P ≤ 1000000)
 (hpb : ∀ ad, p = some ad → ad.block = b) (hbp : bp ≠ b) (hbx : bx ≠ b) (hfr : ∀ o, p = some ⟨b, o, none⟩ → FreeC w b o m.length) :
 Calls Try.prog 97 #[.slice p m.length cap, .func (.func 99) #[] #[.pointer (some ⟨bp, 0, none⟩), .pointer (some ⟨bx, 0, none⟩)]] w
  fun e w' => e = .returned (.slice p (m.filter fun y => y.rank / P == X).length cap) ∧ MxAt w' p cap (m.filter fun y => y.rank / P == X) ∧ KeepX [b] w w' := by
 have HI := Lib.hid (index_ovr m P X p cap bp bx w hM hr hl hp hx hP0 hP1)
 have HM := Lib.hid hM; have HR := Lib.hid hr; have HP := Lib.hid hp; have HX := Lib.hid hx; have HFR := Lib.hid hfr; have HPB := Lib.hid hpb
 clear hM hr hp hx hfr hpb
 go_enter Try.func97, Try.ntmps97
 go_upto_region 1 with fail
 go_upto_region 2 with (first | (go_at_call 136; refine HI.out.mono ?_; rintro e w1 ⟨i0, rfl, hfi, hb1⟩))
 rcases hfi with ⟨rfl, hall⟩ | ⟨k, rfl, hk, hlow⟩
 · have hfm : (m.filter fun y => y.rank / P == X) = m := List.filter_eq_self.2 fun y hy => by simpa using hall y hy
   clear hall
   go_wp2_with fail
   go_ret
   rw [hfm]
   exact ⟨rfl, HM.out.up hb1, KeepX.of_below hb1⟩
 · obtain ⟨y0, hy0, hyn⟩ := hk
   have hkl : k < m.length := (List.getElem?_eq_some_iff.1 hy0).1
   obtain ⟨b', off, rfl, hbs, -, -⟩ := cell_cells HM.out.at' hy0
   have hbb := HPB.out _ rfl
   dsimp only at hbb
   subst hbb
   have R0 : RowC w b' off m := fun i x hx => by
    obtain ⟨b2, o2, e, -, j0, j1⟩ := cell_cells HM.out.at' hx
    cases e; exact ⟨j0, j1⟩
   have F0 := HFR.out off rfl
   have hne1 : ((k : Int) == -1) = false := beq_eq_false_iff_ne.2 (by omega)
   have hne2 : ¬ (k : Int) = -1 := by omega
   have T0 := Lib.hid (show m.take k = (m.take (k + 1)).filter fun y => y.rank / P == X by
    rw [filt_at _ hy0, if_neg (by simpa using hyn)]
    symm
    refine List.filter_eq_self.2 fun y hy => ?_
    obtain ⟨j, hj⟩ := List.getElem?_of_mem hy
    obtain ⟨h1, h2⟩ := List.getElem?_eq_some_iff.1 hj
    rw [List.length_take] at h1
    have h3 : m[j]? = some y := by rw [← hj, List.getElem?_take, if_pos (by omega)]
    simpa using hlow j y h3 (by omega))
   have R1 := Lib.hid (R0.up hb1); have F1 := Lib.hid (F0.up hbs hb1)
   have hle := HM.out.le; have hcm := HM.out.cm
   have hbs1 : b' < w1.heap.size := Nat.lt_of_lt_of_le hbs hb1.size
   clear hy0 hyn hlow R0 F0
   go_wp2_with fail
   go_loopg [5, 6, 7] (m.length - (k + 1)) (fun M s5 s6 _ wr => ∃ (i j : Nat) (F : List Cell), s5 = .int .i64 i ∧ s6 = .int .i64 j ∧ i < j ∧ j ≤ m.length ∧ M = m.length - j ∧ F.length = m.length ∧ Hid (F.take i = (m.take j).filter fun y => y.rank / P == X) ∧ Hid (∀ t, j ≤ t → F[t]? = m[t]?) ∧ Hid (RowC wr b' off F) ∧ Hid (FreeC wr b' off m.length) ∧ KeepX [b'] w wr)
   case atStart => exact ⟨k, k + 1, m, rfl, by go_num, by omega, by omega, rfl, rfl, T0, Lib.hid (fun t _ => rfl), R1, F1, KeepX.of_below hb1⟩
   clear T0 R1 F1
   obtain ⟨i, j, F, rfl, rfl, hij, hjm, hN, hFl, HT, HD, HRC, HFC, hkx⟩ := hrel
   have HN := Lib.hid hN; clear hN
   have hbr : b' < wr.heap.size := Nat.lt_of_lt_of_le hbs hkx.size
   by_cases hlt : j < m.length
   case pos =>
    have hlt1 : (j : Int) < (m.length : Int) := by omega
    obtain ⟨x, hx⟩ : ∃ x, m[j]? = some x := ⟨_, List.getElem?_eq_getElem hlt⟩
    have hFx : F[j]? = some x := (HD.out j (Nat.le_refl _)).trans hx
    obtain ⟨j0, j1⟩ := HRC.out j x hFx
    have hiF : i < F.length := by omega
    obtain ⟨c0, c1⟩ := HRC.out i F[i] (List.getElem?_eq_getElem hiF)
    have e0 := HFC.out (i * 2) (by omega)
    have e1 : wr.frozen? ⟨b', off + i * 2 + 1, none⟩ = false := by have := HFC.out (i * 2 + 1) (by omega); rwa [← Nat.add_assoc] at this
    have hxr := HR.out x (List.mem_of_getElem? hx)
    obtain ⟨xr, hxe⟩ : ∃ z, x.rank = z := ⟨_, rfl⟩
    obtain ⟨xf, hxf⟩ : ∃ z, x.ref = z := ⟨_, rfl⟩
    obtain ⟨v0, hv0⟩ : ∃ z, F[i].rank = z := ⟨_, rfl⟩
    obtain ⟨v1, hv1⟩ : ∃ z, F[i].ref = z := ⟨_, rfl⟩
    rw [hxe] at j0 hxr; rw [hxf] at j1; rw [hv0] at c0; rw [hv1] at c1
    have HXX := Lib.hid hx; have HXE := Lib.hid hxe; have HXF := Lib.hid hxf
    have q1 := hxr.1; have q2 := hxr.2
    clear hx hxe hxf hxr hFx hv0 hv1
    obtain ⟨t, ht⟩ : ∃ t, (xr / P != X) = t := ⟨_, rfl⟩
    have HTT := Lib.hid ht; clear ht
    go_upto_region 8 with fail
    obtain ⟨b8, hb8⟩ : ∃ b, b = wr.heap.size := ⟨_, rfl⟩
    obtain ⟨wx, hwx⟩ : ∃ z, z = wr.alloc (.cells #[.int .i64 xr, .int .i64 xf] 76) := ⟨_, rfl⟩
    try rw [← hwx]
    try rw [← hb8]
    have hBx : Below wr.heap.size wr wx := by rw [hwx]; go_grown
    have z0 : wx.cell? ⟨b8, 0, none⟩ = some (.int .i64 xr) := by rw [hwx, hb8]; go_cell
    have z1 : wx.cell? ⟨b8, 1, none⟩ = some (.int .i64 xf) := by rw [hwx, hb8]; go_cell
    have HC := Lib.hid (ovr1_any xr xf P X bp bx wx (oldcell hBx (hkx.cell HP.out (by simpa using hbp)) (World.block_lt_of_cell? _ _ (hkx.cell HP.out (by simpa using hbp)))) (oldcell hBx (hkx.cell HX.out (by simpa using hbx)) (World.block_lt_of_cell? _ _ (hkx.cell HX.out (by simpa using hbx)))) q1 q2 hP0 hP1)
    replace c0 := oldcell hBx c0 hbr; replace c1 := oldcell hBx c1 hbr
    replace e0 := free_up e0 hbr hBx; replace e1 := free_up e1 hbr hBx
    have HRX := Lib.hid (HRC.out.up hBx); have HFX := Lib.hid (HFC.out.up hbr hBx)
    replace hkx := hkx.upB hBx
    have hbx8 : b' < wx.heap.size := Nat.lt_of_lt_of_le hbr hBx.size
    have hz8 := World.block_lt_of_cell? _ _ z0
    clear hwx hBx j0 j1 hb8 HRC HFC
    dsimp only at hz8
    cases t with
    | true =>
     go_wp2_with (first | (go_at_call 99; refine HC.out.mono ?_; rw [HTT.out]; rintro e w2 ⟨rfl, hb2⟩))
     go_roundg (m.length - (j + 1))
     case measure => (have := HN.out; omega)
     case rel => exact ⟨i, j + 1, F, rfl, by go_num, by omega, by omega, rfl, hFl, Lib.hid (by rw [filt_at _ HXX.out, if_neg (by rw [HXE.out]; simpa using HTT.out)]; exact HT.out), Lib.hid (fun t ht => HD.out t (by omega)), Lib.hid (HRX.out.up hb2), Lib.hid (HFX.out.up hbx8 hb2), hkx.upB hb2⟩
    | false =>
     go_wp2_with (first | (go_at_call 99; refine HC.out.mono ?_; rw [HTT.out]; rintro e w2 ⟨rfl, hb2⟩; replace z0 := oldcell hb2 z0 hz8; replace z1 := oldcell hb2 z1 hz8; replace c0 := oldcell hb2 c0 hbx8; replace c1 := oldcell hb2 c1 hbx8; replace e0 := free_up e0 hbx8 hb2; replace e1 := free_up e1 hbx8 hb2; replace hkx := hkx.upB hb2; have HRY := Lib.hid (HRX.out.up hb2); have HFY := Lib.hid (HFX.out.up hbx8 hb2)))
     go_roundg (m.length - (j + 1))
     case measure => (have := HN.out; omega)
     case rel => exact ⟨i + 1, j + 1, F.set i x, by go_num, by go_num, by omega, by omega, rfl, by simp; exact hFl, Lib.hid (by rw [filt_at _ HXX.out, if_pos (by rw [HXE.out]; simpa using HTT.out), take_set hiF, HT.out]), Lib.hid (fun t ht => by rw [List.getElem?_set_ne (by omega)]; exact HD.out t (by omega)), Lib.hid (by have := HRY.out.set hiF x; rw [HXE.out, HXF.out] at this; exact this), Lib.hid ((HFY.out.set _ _).set _ _), (hkx.setCell (by simp) _).setCell (by simp) _⟩
   obtain rfl : j = m.length := by omega
   have hltn : ¬ (m.length : Int) < (m.length : Int) := by omega
   have hcl : ∀ ty, (Builtin.clear_ #[28] ty #[.slice (some ⟨b', off + i * 2, none⟩) (m.length - i) (cap - i)]).run Try.prog wr = .ok (.tuple #[]) (wr.setCells b' (off + i * 2) (List.replicate ((m.length - i) * 2) (.int .i64 0))) := fun ty =>
    run_clear_cells wr _ _ ty _ (.int .i64 0) Try.underlying28 Try.zeroValue76 rfl rfl b' (off + i * 2) _ _ (by omega) (fun j hj => by
     have hq : i + j / 2 < F.length := by omega
     obtain ⟨a0, a1⟩ := HRC.out (i + j / 2) F[i + j / 2] (List.getElem?_eq_getElem hq)
     rcases Nat.mod_two_eq_zero_or_one j with h | h
     · rw [show off + i * 2 + j = off + (i + j / 2) * 2 by omega, a0]; rfl
     · rw [show off + i * 2 + j = off + (i + j / 2) * 2 + 1 by omega, a1]; rfl) (fun j hj => by rw [show off + i * 2 + j = off + (i * 2 + j) by omega]; exact HFC.out _ (by omega))
   have hi0 : (0 : Int) ≤ (i : Int) := by omega
   have him : (i : Int) ≤ (m.length : Int) := by omega
   have hic : (i : Int) ≤ (cap : Int) := by omega
   have him2 : i ≤ m.length := by omega
   have hic2 : i ≤ cap := by omega
   have hmc : (m.length : Int) ≤ (cap : Int) := by omega
   go_wp2_with fail
   go_ret
   have hG := HT.out
   rw [List.take_length] at hG
   have hGl : (m.filter fun y => y.rank / P == X).length = i := by rw [← hG, List.length_take]; omega
   have hkz := KeepX.setCells (X := [b']) (b := b') (by simp) (List.replicate ((m.length - i) * 2) (.int .i64 0)) (off + i * 2) wr hkx
   refine ⟨by rw [hGl]; rfl, ⟨by omega, hcm, (fun h => by cases h), .inr ⟨b', off, rfl, Nat.lt_of_lt_of_le hbs hkz.size, fun t x hx j hj => ?_⟩, fun a h => by cases h; exact Nat.lt_of_lt_of_le hbs hkz.size⟩, hkz⟩
   have hti : t < i := by have := (List.getElem?_eq_some_iff.1 hx).1; omega
   rw [← hG, List.getElem?_take, if_pos hti] at hx
   obtain ⟨a0, a1⟩ := HRC.out t x hx
   rw [World.cell?_setCells_out _ _ _ _ _ (fun _ _ => by left; show off + t * 2 + j < _; omega)]
   match j, hj with
   | 0, _ => exact a0
   | 1, _ => exact a1
end Go.Proofs.Ytadilppdlbhjnaa
namespace Go.Proofs.Ytadilppdlbhjnaa
set_option linter.unusedSimpArgs false
set_option linter.unusedVariables false
open Go.RowKit
set_option maxRecDepth 100000 in
set_option maxHeartbeats 2000000 in
theorem clone_cells (m : List Cell) (p : Option Addr) (cap : Nat) (w : World) (hM : MxAt w p cap m) (hl : m.length ≤ 100000) :
 Calls Try.prog 98 #[.slice p m.length cap] w
  fun e w' => ∃ q cq, e = .returned (.slice q m.length cq) ∧ MxAt w' q cq m ∧ (∀ ad, q = some ad → w.heap.size ≤ ad.block) ∧ (∀ b o, q = some ⟨b, o, none⟩ → FreeC w' b o m.length) ∧ Below w.heap.size w w' := by
 have q22 : ∀ (w : World) (a : Option Addr) (n c n' c' : Nat), (binOp .eql 28 (.slice a n c) (.slice none n' c')).run Try.prog w = .ok (.bool a.isNone) w := fun w a n c n' c' => Lib.run_eql_slice_nil w _ _ a n c n' c' Try.underlying28
 cases p with
 | none =>
  have h0 : m.length = 0 := by have := hM.p0 rfl; have := hM.le; omega
  obtain rfl : m = [] := List.length_eq_zero_iff.1 h0
  have HM := Lib.hid hM; clear hM h0
  go_enter Try.func98, Try.ntmps98
  go_wp2_with fail
  go_ret
  exact ⟨none, 0, rfl, MxAt.nil _, (fun _ h => by cases h), (fun _ _ h => by cases h), Below.refl _ _⟩
 | some ad =>
  obtain ⟨i0, hi, hz0, hz1, hz2⟩ := info_parts cell_info
  have HM := Lib.hid hM
  clear hM
  go_enter Try.func98, Try.ntmps98
  go_wp2_with (at_builtin; refine wpList_append_own _ rfl _ _ 28 rfl w.heap.size 76 i0 (.agg #[.int .i64 0, .int .i64 0]) 2 16 Try.underlying28 hi hz0 hz1 hz2 rfl (by decide) _ _ _ rfl (World.ownsRow_made w #[] 0 (Nat.le_refl _) (Nat.zero_le _) rfl) ad m.length cap (flat 2 cEnc m) rfl ?qc1 ?qc2 ?qc3 ?qc4 ?qc5 ?qc6 ?_)
  case qc1 => exact flat_length 2 cEnc m
  case qc2 =>
   intro j u hj
   exact (HM.out.up (by go_grown)).at'.news j u hj
  case qc3 =>
   intro u hu
   obtain ⟨n, hn⟩ := List.getElem?_of_mem hu
   obtain ⟨i, y, j, hy, hj, _, rfl⟩ := flat_inv hn
   match j, hj with
   | 0, _ => rfl
   | 1, _ => rfl
  case qc4 => unfold maxLen; omega
  case qc5 => omega
  case qc6 => simp
  intro v' w1 hown hgrow hnil
  go_wp2_with fail
  go_ret
  have ho : w1.ownsRow w.heap.size 76 2 v' m.length (flat 2 cEnc m) := by simpa using hown
  have hB : Below w.heap.size w w1 := ((Below.refl _ w).alloc (Nat.le_refl _) _).grown hgrow (by simp) (by intro k hk; simp [Value.ownBlock] at hk; omega)
  rcases ho.2 with ⟨hv, -⟩ | ⟨g, c', cur, hv, hg, hh, hc1, hc2, hs, ht⟩
  · exact absurd hv hnil
  · subst hv
    have hlt : g < w1.heap.size := by
     rcases Nat.lt_or_ge g w1.heap.size with h | h
     · exact h
     · rw [Array.getElem?_eq_none h] at hh; cases hh
    exact ⟨some ⟨g, 0, none⟩, c', rfl, ⟨hc1, hc2, (fun h => by cases h), SlAt.of_owns (by omega) ho, fun a h => by cases h; exact hlt⟩, (fun a h => by cases h; exact hg), (fun b o h j hj => by cases h; simp [World.frozen?, hh]), hB⟩
end Go.Proofs.Ytadilppdlbhjnaa
namespace Go.Proofs.Ytadilppdlbhjnaa
set_option linter.unusedSimpArgs false
set_option linter.unusedVariables false
theorem getD_in {c : List Gate} {doms : List Int} (hg : Good c) (hd : ∀ r ∈ doms, In c r) (i : Nat) : In c (doms.getD i 1) := by
 rw [List.getD_eq_getElem?_getD]
 rcases h : doms[i]? with _ | x
 · exact in_1 hg.ne
 · exact hd x (List.mem_of_getElem? h)
theorem kept_one {c : List Gate} {p d : Int} (hg : Good c) (hl : c.length < 20000) (hp : In c p) (hd : In c d) :
 Grow c (if p = 1 then (c, 1) else cbut c p d).1 1 ∧ In (if p = 1 then (c, 1) else cbut c p d).1 (if p = 1 then (c, 1) else cbut c p d).2 ∧ ∀ V, cv (if p = 1 then (c, 1) else cbut c p d).1 V (if p = 1 then (c, 1) else cbut c p d).2 = (cv c V p && !cv c V d) := by
 split
 · rename_i h
   subst h
   exact ⟨.refl hg _, in_1 hg.ne, fun V => by rw [cv_1 hg V]; rfl⟩
 · exact ok_but.one hg hl hp hd
theorem over_ok {N P : Int} {doms : List Int} : ∀ (l : List Tri) (c : List Gate) (m : List Cell), Good c → c.length + 2 * l.length ≤ 20000 → MOk c N m → (∀ r ∈ doms, In c r) →
 (∀ t ∈ l, In c t.p ∧ In c t.q ∧ 0 ≤ t.rank ∧ t.rank < N) → l.Pairwise (fun s t => s.rank < t.rank) → (∀ t ∈ l, ∀ y ∈ m, y.rank < t.rank) →
 Grow c (overRun P doms l (c, m)).1 (2 * l.length) ∧ MOk (overRun P doms l (c, m)).1 N (overRun P doms l (c, m)).2 ∧ (∀ t ∈ l, ∀ V, cv (overRun P doms l (c, m)).1 V (mat (overRun P doms l (c, m)).2 t.rank) = ((cv c V t.p && !cv c V (doms.getD (t.rank / P).toNat 1)) || cv c V t.q)) ∧
  ∀ r, (∀ t ∈ l, t.rank ≠ r) → mat (overRun P doms l (c, m)).2 r = mat m r
 | [], c, m, hg, _, hm, _, _, _, _ => ⟨.refl hg _, hm, by simp, fun r _ => rfl⟩
 | t :: l, c, m, hg, hl, hm, hd, ht, hs, hlow => by
  simp only [List.length_cons] at hl
  obtain ⟨hp, hq, h0, hN⟩ := ht t (List.mem_cons_self ..)
  have hdi := getD_in hg hd (t.rank / P).toNat
  obtain ⟨gk, ik, vk⟩ := kept_one hg (by omega) hp hdi
  obtain ⟨K, hK⟩ : ∃ K, (if t.p = 1 then (c, 1) else cbut c t.p (doms.getD (t.rank / P).toNat 1)) = K := ⟨_, rfl⟩
  rw [hK] at gk ik vk
  have lk := gk.len
  obtain ⟨go, io, vo⟩ := ok_or.one gk.good (by omega) ik (hq.up gk)
  have g1 := gk.trans go
  have i1 := io
  have hlo := hlow t (List.mem_cons_self ..)
  obtain ⟨hs1, hs2⟩ := List.pairwise_cons.1 hs
  have hm1 : MOk (cor K.1 K.2 t.q).1 N (put m t.rank (cor K.1 K.2 t.q).2) := (hm.up g1.ge).put hlo h0 hN i1
  have hlen := g1.len
  have v1 : ∀ V, cv (cor K.1 K.2 t.q).1 V (cor K.1 K.2 t.q).2 = ((cv c V t.p && !cv c V (doms.getD (t.rank / P).toNat 1)) || cv c V t.q) := fun V => by rw [vo V, vk V, hq.cv gk V]
  obtain ⟨a1, a2, a3, a4⟩ := over_ok (N := N) (P := P) (doms := doms) l (cor K.1 K.2 t.q).1 (put m t.rank (cor K.1 K.2 t.q).2) g1.good (by omega) hm1 (fun r hr => (hd r hr).up g1)
   (fun s hs' => by obtain ⟨x1, x2, x3, x4⟩ := ht s (List.mem_cons_of_mem _ hs'); exact ⟨x1.up g1, x2.up g1, x3, x4⟩) hs2
   (fun s hs' y hy => by
    rcases mem_put hy with hy | ⟨rfl, _⟩
    · exact hlow s (List.mem_cons_of_mem _ hs') y hy
    · exact hs1 s hs')
  have e : overRun P doms (t :: l) (c, m) = overRun P doms l ((cor K.1 K.2 t.q).1, put m t.rank (cor K.1 K.2 t.q).2) := by rw [← hK]; rfl
  rw [e]
  refine ⟨(g1.trans a1).more (by simp; omega), a2, fun s hs' V => ?_, fun r hr => ?_⟩
  · rcases List.mem_cons.1 hs' with rfl | hs'
    · rw [a4 s.rank (fun u hu => by have := hs1 u hu; omega), mat_put hlo, if_pos rfl, i1.cv a1 V, v1 V]
    · rw [a3 s hs' V, (ht s (List.mem_cons_of_mem _ hs')).1.cv g1 V, (ht s (List.mem_cons_of_mem _ hs')).2.1.cv g1 V, (getD_in hg hd _).cv g1 V]
  · rw [a4 r (fun u hu => hr u (List.mem_cons_of_mem _ hu)), mat_put hlo, if_neg (fun h => hr t (List.mem_cons_self ..) h.symm)]
theorem dom_ok {c : List Gate} {N P : Int} {b : List Cell} (hg : Good c) (hb : MOk c N b) : ∀ k, c.length + k * b.length ≤ 20000 →
 Grow c (domTo P b c k).1 (k * b.length) ∧ (domTo P b c k).2.length = k ∧ (∀ r ∈ (domTo P b c k).2, In (domTo P b c k).1 r) ∧ ∀ i, i < k → ∀ V, cv (domTo P b c k).1 V ((domTo P b c k).2.getD i 1) = (domRow P b i).any fun r => cv c V r
 | 0, _ => ⟨.refl hg _, rfl, by simp [domTo], fun i hi => by omega⟩
 | k + 1, hl => by
  have hkb : (k + 1) * b.length = k * b.length + b.length := Nat.succ_mul _ _
  obtain ⟨g0, l0, i0, v0⟩ := dom_ok hg hb k (by omega)
  have n0 := g0.len
  obtain ⟨D, ds, hD⟩ : ∃ D ds, domTo P b c k = (D, ds) := ⟨_, _, rfl⟩
  rw [hD] at g0 l0 i0 v0 n0
  dsimp only at g0 l0 i0 v0 n0
  have hrow : (domRow P b k).length ≤ b.length := by unfold domRow; rw [List.length_map]; exact List.length_filter_le _ _
  have hin : ∀ r ∈ domRow P b k, In c r := fun r hr => by
   unfold domRow at hr
   obtain ⟨y, hy, rfl⟩ := List.mem_map.1 hr
   exact hb.ref_in (List.mem_filter.1 hy).1
  obtain ⟨g1, i1, v1⟩ := orAll_ok (domRow P b k) D 1 g0.good (by omega) (in_1 g0.good.ne) (fun r hr => (hin r hr).up g0)
  have e : domTo P b c (k + 1) = ((orAll (domRow P b k) (D, 1)).1, ds ++ [(orAll (domRow P b k) (D, 1)).2]) := by show ((orAll (domRow P b k) ((domTo P b c k).1, 1)).1, (domTo P b c k).2 ++ _) = _; rw [hD]
  rw [e]
  refine ⟨(g0.trans g1).more (by omega), by simp [l0], fun r hr => ?_, fun i hi V => ?_⟩
  · rcases List.mem_append.1 hr with hr | hr
    · exact (i0 r hr).up g1
    · rw [List.mem_singleton.1 hr]; exact i1
  · by_cases h : i < k
    · have h1 : (ds ++ [(orAll (domRow P b k) (D, 1)).2]).getD i 1 = ds.getD i 1 := by rw [List.getD_eq_getElem?_getD, List.getD_eq_getElem?_getD, List.getElem?_append_left (by omega)]
      dsimp only
      rw [h1, (getD_in g0.good i0 i).cv g1 V, v0 i h V]
    · obtain rfl : i = k := by omega
      have h1 : (ds ++ [(orAll (domRow P b i) (D, 1)).2]).getD i 1 = (orAll (domRow P b i) (D, 1)).2 := by rw [List.getD_eq_getElem?_getD, List.getElem?_append_right (by omega), l0]; simp
      dsimp only
      rw [h1, v1 V, cv_1 g0.good V, Bool.false_or, Bool.eq_iff_iff, List.any_eq_true, List.any_eq_true]
      exact ⟨fun ⟨r, hr, h⟩ => ⟨r, hr, by rw [← (hin r hr).cv g0 V]; exact h⟩, fun ⟨r, hr, h⟩ => ⟨r, hr, by rw [(hin r hr).cv g0 V]; exact h⟩⟩
def domV (c : List Gate) (V : List Bool) (P : Int) (n : Nat) (b : List Cell) (r : Int) : Bool := decide ((r / P).toNat < n) && (domRow P b ((r / P).toNat : Nat)).any fun x => cv c V x
theorem override_ok {c : List Gate} {N P : Int} {n : Nat} {a b : List Cell} (hg : Good c) (ha : MOk c N a) (hb : MOk c N b) (hl : c.length + n * b.length + 2 * (a.length + b.length) ≤ 20000) :
 Grow c (mOverride c n P a b).1 (n * b.length + 2 * (a.length + b.length)) ∧ MOk (mOverride c n P a b).1 N (mOverride c n P a b).2 ∧
  ∀ V r, cv (mOverride c n P a b).1 V (mat (mOverride c n P a b).2 r) = ((cv c V (mat a r) && !domV c V P n b r) || cv c V (mat b r)) := by
 obtain ⟨g0, l0, i0, v0⟩ := dom_ok (P := P) hg hb n (by omega)
 obtain ⟨s1, s2, s3, s4⟩ := mzip_spec a b ha.sorted hb.sorted
 have hlen := mzip_len a b
 have n0 := g0.len
 unfold mOverride
 obtain ⟨D, ds, hD⟩ : ∃ D ds, domTo P b c n = (D, ds) := ⟨_, _, rfl⟩
 rw [hD] at g0 l0 i0 v0 n0 ⊢
 dsimp only at g0 l0 i0 v0 n0 ⊢
 obtain ⟨a1, a2, a3, a4⟩ := over_ok (N := N) (P := P) (doms := ds) (mzip a b) D [] g0.good (by omega) MOk.nil i0 (fun t ht => by
  obtain ⟨e1, e2, e3⟩ := s1 t ht
  refine ⟨by rw [e1]; exact (ha.mat_in' hg _).up g0, by rw [e2]; exact (hb.mat_in' hg _).up g0, ?_⟩
  rcases e3 with ⟨x, hx, e⟩ | ⟨x, hx, e⟩
  · rw [← e]; exact ha.ranks x hx
  · rw [← e]; exact hb.ranks x hx) s2 (fun _ _ y hy => by cases hy)
 have hdv : ∀ V r, cv D V (ds.getD (r / P).toNat 1) = domV c V P n b r := fun V r => by
  unfold domV
  by_cases h : (r / P).toNat < n
  · rw [v0 _ h V, decide_eq_true h, Bool.true_and]
  · rw [List.getD_eq_getElem?_getD, List.getElem?_eq_none (by omega), decide_eq_false h, Bool.false_and]; exact cv_1 g0.good V
 refine ⟨(g0.trans a1).more (by omega), a2, fun V r => ?_⟩
 by_cases h : ∃ t ∈ mzip a b, t.rank = r
 · obtain ⟨t, ht, rfl⟩ := h
   obtain ⟨e1, e2, _⟩ := s1 t ht
   rw [a3 t ht V, hdv, e1, e2, (ha.mat_in' hg _).cv g0 V, (hb.mat_in' hg _).cv g0 V]
 · have e0 : ∀ t ∈ mzip a b, t.rank ≠ r := fun t ht e => h ⟨t, ht, e⟩
   have ea : mat a r = 1 := mat_out fun x hx e => by obtain ⟨t, ht, e'⟩ := s3 x hx; exact e0 t ht (e'.trans e)
   have eb : mat b r = 1 := mat_out fun x hx e => by obtain ⟨t, ht, e'⟩ := s4 x hx; exact e0 t ht (e'.trans e)
   rw [a4 r e0, ea, eb]
   show cv _ V 1 = _
   rw [cv_1 a1.good, cv_1 hg]; rfl
end Go.Proofs.Ytadilppdlbhjnaa
