import Derived.Test.YtadilppdlbhjnaaGZ
import Derived.Test.YtadilppdlbhjnaaN1
import Derived.Test.YtadilppdlbhjnaaMO
import Derived.Test.YtadilppdlbhjnaaLB
namespace Go.Proofs.Ytadilppdlbhjnaa
set_option linter.unusedSimpArgs false
set_option linter.unusedVariables false
open Go.RowKit
set_option maxRecDepth 100000 in
set_option maxHeartbeats 16000000 in
theorem roverride_any (c : List Gate) (a b : List Cell) (ar1 ar2 : Int) (k1 n P : Nat) (N0 : Int) (p pa pb : Option Addr) (cap ca cb : Nat) (w : World) (hC : CAt w p cap c) (hA : MxAt w pa ca a) (hD : MxAt w pb cb b)
 (ha1 : ar1 = (k1 : Int) + 1) (hk3 : k1 ≤ 3) (hn0 : 0 < n) (hn : n ≤ 12) (hp : n ^ k1 = P) (hg : Good c) (hl : c.length + n * b.length + 2 * (a.length + b.length) + 2 ≤ 20000) (ha : MOk c N0 a) (hb : MOk c N0 b) (hN : N0 ≤ (n : Int) * P) (hN2 : N0 ≤ 2000) :
 Calls Try.prog 54 #[.agg #[.slice p c.length cap], .int .i64 n, .agg #[.int .i64 ar1, .slice pa a.length ca], .agg #[.int .i64 ar2, .slice pb b.length cb]] w (RetCMF w p none (mOverride c n P a b).1 ar1 (mOverride c n P a b).2) := by
 obtain ⟨i0, hi0, hz0, hz1, hz2⟩ := info_parts int_info
 have hp1 : 0 < P := by rw [← hp]; exact Nat.pow_pos hn0
 have hp2 : P ≤ 1728 := by rw [← hp]; exact Nat.le_trans (Nat.pow_le_pow_left hn k1) (Nat.le_trans (Nat.pow_le_pow_right (by decide) hk3) (by decide))
 have HPW := Lib.hid hp; clear hp
 obtain ⟨s, hs0⟩ : ∃ s, w.heap.size = s := ⟨_, rfl⟩
 obtain ⟨W2, hW2⟩ : ∃ W2, W2 = (((((w.alloc (.cells #[.slice p c.length cap] 27)).alloc (.cells #[.int .i64 ar1, .slice pa a.length ca] 30)).alloc (.cells #[.int .i64 ar2, .slice pb b.length cb] 30)).alloc (.cells #[.slice none 0 0] 27)).alloc (.cells #[.int .i64 0, .slice none 0 0] 30)) := ⟨_, rfl⟩
 have hbw : Below w.heap.size w W2 := by rw [hW2]; go_grown
 have zz : s + 5 ≤ W2.heap.size := by rw [hW2, ← hs0]; simp
 have hs : Cells W2 [(s, 0, .slice p c.length cap)] := by rw [hW2, ← hs0]; exact ⟨⟨by go_cell, by go_cell⟩, trivial⟩
 have hk : Cells W2 [(s + 1, 0, .int .i64 ar1), (s + 1, 1, .slice pa a.length ca), (s + 2, 0, .int .i64 ar2), (s + 2, 1, .slice pb b.length cb), (s + 3, 0, .slice none 0 0), (s + 4, 0, .int .i64 0), (s + 4, 1, .slice none 0 0)] := by rw [hW2, ← hs0]; exact ⟨⟨by go_cell, by go_cell⟩, ⟨by go_cell, by go_cell⟩, ⟨by go_cell, by go_cell⟩, ⟨by go_cell, by go_cell⟩, ⟨by go_cell, by go_cell⟩, ⟨by go_cell, by go_cell⟩, ⟨by go_cell, by go_cell⟩, trivial⟩
 have HW2 := Lib.hid hW2; have HS := Lib.hid hs0
 clear hW2 hs0
 have hc0 : 0 < c.length := hg.ne
 have hal : a.length ≤ 2000 := by have := sorted_len (lo := 0) (N := N0) ha.sorted ha.ranks; omega
 have hbl0 : b.length ≤ 2000 := by have := sorted_len (lo := 0) (N := N0) hb.sorted hb.ranks; omega
 obtain ⟨nb, hnb⟩ : ∃ z, n * b.length = z := ⟨_, rfl⟩
 rw [hnb] at hl
 have DOM := Lib.hid (fun K (hK : K ≤ n) => dom_ok (P := (P : Int)) hg hb K (by have h := Nat.mul_le_mul_right b.length hK; omega))
 have KB := Lib.hid (fun K (hK : K ≤ n) => (show K * b.length ≤ nb by rw [← hnb]; exact Nat.mul_le_mul_right b.length hK))
 have hwr : IntKind.i64.wrap (ar1 - 1) = ar1 - 1 := by rw [IntWalk.i64_in]; omega
 have oC : Off s 5 p := Off.old (by rw [← HS.out]; exact hC.lt hc0)
 have HA := Lib.hid hA; have HD := Lib.hid hD; have HMA := Lib.hid ha; have HMB := Lib.hid hb; have HG := Lib.hid hg; have HA1 := Lib.hid ha1; have HNN := Lib.hid hN
 clear hA hD ha hb hg ha1 hnb hN
 replace hC : CAt W2 p cap c := hC.mono hbw
 have hO : OwnG 1 iEnc 3 W2 (s + 5) (.slice none 0 0) ([] : List Int) := OwnG.nil
 have FC := Lib.hid (show Fresh w p p from .inl rfl)
 go_enter Try.func54, Try.ntmps54
 go_upto_region 1 with fail
 rw [← HW2.out]
 simp only [HS.out, Nat.add_assoc, Nat.reduceAdd]
 obtain ⟨⟨y00, y00f⟩, -⟩ := id hs
 obtain ⟨⟨y10, y10f⟩, ⟨y11, y11f⟩, ⟨y20, y20f⟩, ⟨y21, y21f⟩, ⟨y30, y30f⟩, ⟨y40, y40f⟩, ⟨y41, y41f⟩, -⟩ := id hk
 go_upto_region 3 with (first | (go_at_call 109; refine (rpower_is _ (k := k1) (q := P) (by have := HA1.out; omega) HPW.out hn hk3).mono ?_; rintro e w3 ⟨rfl, hw⟩; replace hw := hw.symm; subst hw))
 go_wp2_with fail
 go_loopg [11, 12] n (fun N s11 s12 wr => ∃ K : Nat, ∃ C : List Gate, ∃ ds : List Int, ∃ v : Value, ∃ pc : Option Addr, ∃ cc : Nat, v = s11 ∧ s12 = .int .i64 K ∧ K ≤ n ∧ N = n - K ∧ domTo P b c K = (C, ds) ∧ Off s 5 pc ∧ Fresh w p pc ∧ (∀ ad, pc = some ad → v.ownBlock ≠ some ad.block) ∧ Cells wr [(s, 0, .slice pc C.length cc)] ∧ Cells wr [(s + 1, 0, .int .i64 ar1), (s + 1, 1, .slice pa a.length ca), (s + 2, 0, .int .i64 ar2), (s + 2, 1, .slice pb b.length cb), (s + 3, 0, .slice none 0 0), (s + 4, 0, .int .i64 0), (s + 4, 1, .slice none 0 0)] ∧ CAt wr pc cc C ∧ OwnG 1 iEnc 3 wr (s + 5) v ds ∧ Below w.heap.size w wr ∧ s + 5 ≤ wr.heap.size)
 case atStart => exact ⟨0, c, [], .slice none 0 0, p, cap, rfl, rfl, by omega, rfl, rfl, oC, FC.out, (fun _ _ h => by cases h), hs, hk, hC, hO, hbw, zz⟩
 clear hs hk hC hO hbw zz FC
 obtain ⟨K, C, ds, v, pc, cc, rfl, rfl, hK, hN, hdom, oC, frC, ov, hs, hk, hC, hO, hbw, zz⟩ := hrel
 have FC := Lib.hid frC; have OV := Lib.hid ov; have HN := Lib.hid hN
 obtain ⟨g0, l0, i0c, -⟩ := DOM.out K hK
 rw [hdom] at g0 l0 i0c
 dsimp only at g0 l0 i0c
 have hCl : C.length ≤ c.length + nb := by have := g0.len; have := KB.out K hK; omega
 have hdl : ds.length ≤ 12 := by omega
 have G0 := Lib.hid g0; have IDS := Lib.hid i0c; have HDOM := Lib.hid hdom; have HDL := Lib.hid l0
 clear frC ov hN g0 i0c hdom l0
 by_cases hlt : K < n
 case pos =>
  have hlti : (K : Int) < (n : Int) := by omega
  clear y00 y00f y10 y10f y11 y11f y20 y20f y21 y21f y30 y30f y40 y40f y41 y41f
  obtain ⟨⟨y00, y00f⟩, -⟩ := id hs
  obtain ⟨⟨y10, y10f⟩, ⟨y11, y11f⟩, ⟨y20, y20f⟩, ⟨y21, y21f⟩, ⟨y30, y30f⟩, ⟨y40, y40f⟩, ⟨y41, y41f⟩, -⟩ := id hk
  go_wp2_with fail
  go_loopg [13, 14] b.length (fun N s13 s14 wr => ∃ I : Nat, ∃ E : List Gate, ∃ r : Int, ∃ pc : Option Addr, ∃ cc : Nat, s13 = .int .i64 r ∧ s14 = .int .i64 I ∧ I ≤ b.length ∧ N = b.length - I ∧ orAll (domRow P (b.take I) K) (C, 1) = (E, r) ∧ Off s 5 pc ∧ Fresh w p pc ∧ (∀ ad, pc = some ad → v.ownBlock ≠ some ad.block) ∧ Cells wr [(s, 0, .slice pc E.length cc)] ∧ Cells wr [(s + 1, 0, .int .i64 ar1), (s + 1, 1, .slice pa a.length ca), (s + 2, 0, .int .i64 ar2), (s + 2, 1, .slice pb b.length cb), (s + 3, 0, .slice none 0 0), (s + 4, 0, .int .i64 0), (s + 4, 1, .slice none 0 0)] ∧ CAt wr pc cc E ∧ OwnG 1 iEnc 3 wr (s + 5) v ds ∧ Below w.heap.size w wr ∧ s + 5 ≤ wr.heap.size)
  case atStart => exact ⟨0, C, 1, pc, cc, rfl, rfl, by omega, rfl, rfl, oC, FC.out, OV.out, hs, hk, hC, hO, hbw, zz⟩
  clear hs hk hC hO hbw zz oC FC OV
  obtain ⟨I, E, r, pc, cc, rfl, rfl, hI, hN2, hrow, oC, frC, ov, hs, hk, hC, hO, hbw, zz⟩ := hrel
  obtain ⟨gE, hEl, hrE⟩ := row_ok G0.out.good (fun x hx => (show In c x.ref from ⟨(HMB.out.refs x hx).1, (HMB.out.refs x hx).2.1⟩).up G0.out) (by omega) hI hrow
  have hr1 := hrE.2
  have FC := Lib.hid frC; have OV := Lib.hid ov; have HN2 := Lib.hid hN2; have HROW := Lib.hid hrow
  have GE := Lib.hid gE
  clear frC ov hN2 hrow gE hrE
  by_cases hltI : I < b.length
  case neg =>
   obtain rfl : I = b.length := by omega
   have HDT := Lib.hid (domTo_succ (E := E) (r := r) HDOM.out (by have h := HROW.out; rw [List.take_length] at h; exact h))
   obtain ⟨v2, w9, hrun, hO2, hgr, hbl9, hob⟩ := (hO.up (show Below wr.heap.size wr (wr.alloc (.cells #[.int .i64 r] 3)) by go_grown)).app 42 42 i0 _ 8 Try.underlying42 hi0 hz0 hz1 hz2 rfl (by decide) (⟨wr.heap.size, 0, none⟩) [r] 1 (SI.one r wr _).at' (fun _ _ => rfl) (by simp [maxLen]; omega) (by simp; omega) (by simp; omega)
   obtain ⟨q2, cq2, hv2, -, -, -, -, hqb⟩ := hO2.val (by decide)
   simp only [List.length_singleton] at hrun
   have hcl := hC.lt (show 0 < E.length from GE.out.ne)
   have hba : Below wr.heap.size wr (wr.alloc (.cells #[.int .i64 r] 3)) := by go_grown
   have hC9 : CAt w9 pc cc E := by
    have h1 := hC.mono hba
    exact ⟨h1.le, h1.cm, h1.p0, h1.at'.grown hgr fun ad had e => OV.out ad had e.symm⟩
   have ov9 : ∀ ad, pc = some ad → v2.ownBlock ≠ some ad.block := fun ad had e => by
    rcases hob with q | q
    · exact OV.out ad had (q.symm.trans e)
    · rw [q] at e
      have h1 := hcl ad had
      have h2 : (wr.alloc (.cells #[.int .i64 r] 3)).heap.size = wr.heap.size + 1 := by simp
      rw [h2] at e
      have := Option.some.inj e
      omega
   have hb9 : Below (s + 5) wr w9 := (hba.mono zz).trans hbl9
   have hs9 : Cells w9 [(s, 0, .slice pc E.length cc)] := hs.below hb9 (by simp)
   have hk9 : Cells w9 [(s + 1, 0, .int .i64 ar1), (s + 1, 1, .slice pa a.length ca), (s + 2, 0, .int .i64 ar2), (s + 2, 1, .slice pb b.length cb), (s + 3, 0, .slice none 0 0), (s + 4, 0, .int .i64 0), (s + 4, 1, .slice none 0 0)] := hk.below hb9 (by simp)
   have hbw9 : Below w.heap.size w w9 := hbw.trans (hb9.mono (by have := HS.out; omega))
   have zz9 : s + 5 ≤ w9.heap.size := Nat.le_trans zz hb9.size
   have hl9 : (ds ++ [r]).length = K + 1 := by rw [List.length_append, HDL.out]; rfl
   have OV9 := Lib.hid ov9; have HC9 := Lib.hid hC9; have HO9 := Lib.hid hO2; have F9 := Lib.hid (And.intro hs9 (And.intro hk9 (And.intro hbw9 zz9)))
   clear hcl hba hC9 ov9 hb9 hs9 hk9 hbw9 zz9 hgr hbl9 hob hO2 hqb hv2 hl9
   clear y00 y00f y10 y10f y11 y11f y20 y20f y21 y21f y30 y30f y40 y40f y41 y41f
   obtain ⟨⟨y00, y00f⟩, -⟩ := id hs
   obtain ⟨⟨y10, y10f⟩, ⟨y11, y11f⟩, ⟨y20, y20f⟩, ⟨y21, y21f⟩, ⟨y30, y30f⟩, ⟨y40, y40f⟩, ⟨y41, y41f⟩, -⟩ := id hk
   go_wp2_with (first | (at_builtin; go_must (refine wpList_run rfl (exec_app rfl rfl rfl hrun) ?_)))
   obtain ⟨hs9, hk9, hbw9, zz9⟩ := F9.out
   go_roundg (n - (K + 1))
   case measure => (have := HN.out; omega)
   case rel => exact ⟨K + 1, E, ds ++ [r], v2, pc, cc, rfl, by go_num, by omega, rfl, HDT.out, oC, FC.out, OV9.out, hs9, hk9, HC9.out, HO9.out, hbw9, zz9⟩
  have hIi : (I : Int) < (b.length : Int) := by omega
  obtain ⟨y, hy⟩ : ∃ y, b[I]? = some y := ⟨_, List.getElem?_eq_getElem hltI⟩
  obtain ⟨by', oy, rfl, hby, j0, j1⟩ := cell_cells (HD.out.up hbw).at' hy
  have hym := List.mem_of_getElem? hy
  have hyr := HMB.out.ranks y hym; have hyf := HMB.out.refs y hym
  have hyes : y.rank / (P : Int) = (K : Int) → ∀ D s', cor E r y.ref = (D, s') → orAll (domRow P (b.take (I + 1)) K) (C, 1) = (D, s') := fun q D s' o => row_yes hy q HROW.out o
  have hno : ¬ y.rank / (P : Int) = (K : Int) → orAll (domRow P (b.take (I + 1)) K) (C, 1) = (E, r) := fun q => (row_no hy q).trans HROW.out
  obtain ⟨yr, e1⟩ : ∃ z, y.rank = z := ⟨_, rfl⟩
  obtain ⟨yf, e2⟩ : ∃ z, y.ref = z := ⟨_, rfl⟩
  rw [e1] at j0 hyr hyes hno; rw [e2] at j1 hyf hyes
  have hbo : by' < s := by have := HD.out.lt _ rfl; have := HS.out; dsimp only at *; omega
  obtain ⟨Q, hQ⟩ : ∃ z, yr / (P : Int) = z := ⟨_, rfl⟩
  have htd : yr.tdiv (P : Int) = Q := by rw [Int.tdiv_eq_ediv_of_nonneg hyr.1]; exact hQ
  rw [hQ] at hyes hno
  have hPi : ¬ (P : Int) = 0 := by omega
  have hPn : ¬ P = 0 := by omega
  have hPb : ((P : Int) == 0) = false := (beq_eq_false_iff_ne (α := Int)).2 hPi
  have hQ1 : Q ≤ yr := by rw [← hQ]; exact Int.ediv_le_self _ hyr.1
  have hQ0 : 0 ≤ Q := by rw [← hQ]; exact Int.ediv_nonneg hyr.1 (by omega)
  have hwq : IntKind.i64.wrap Q = Q := by rw [IntWalk.i64_in]; omega
  have HYES := Lib.hid hyes; have HNO := Lib.hid hno
  clear hy hym hyes hno e1 e2 hby hQ
  by_cases hq : Q = (K : Int)
  case neg =>
   have hqb : (Q == (K : Int)) = false := (beq_eq_false_iff_ne (α := Int)).2 hq
   have HNQ := Lib.hid (HNO.out hq)
   clear y00 y00f y10 y10f y11 y11f y20 y20f y21 y21f y30 y30f y40 y40f y41 y41f
   obtain ⟨⟨y00, y00f⟩, -⟩ := id hs
   obtain ⟨⟨y10, y10f⟩, ⟨y11, y11f⟩, ⟨y20, y20f⟩, ⟨y21, y21f⟩, ⟨y30, y30f⟩, ⟨y40, y40f⟩, ⟨y41, y41f⟩, -⟩ := id hk
   go_wp2_with fail
   go_roundg (b.length - (I + 1))
   case measure => (have := HN2.out; omega)
   clear y00 y00f y10 y10f y11 y11f y20 y20f y21 y21f y30 y30f y40 y40f y41 y41f
   case rel => exact ⟨I + 1, E, r, pc, cc, rfl, by go_num, by omega, rfl, HNQ.out, oC, FC.out, OV.out, hs, hk, hC, hO, hbw, zz⟩
  have hqb : (Q == (K : Int)) = true := by simpa using hq
  obtain ⟨dd, x, hop⟩ : ∃ dd x, cor E r yf = (dd, x) := ⟨_, _, rfl⟩
  have HOP := Lib.hid hop
  have HROW2 := Lib.hid (HYES.out hq dd x hop)
  clear hop hq
  clear y00 y00f y10 y10f y11 y11f y20 y20f y21 y21f y30 y30f y40 y40f y41 y41f
  obtain ⟨⟨y00, y00f⟩, -⟩ := id hs
  obtain ⟨⟨y10, y10f⟩, ⟨y11, y11f⟩, ⟨y20, y20f⟩, ⟨y21, y21f⟩, ⟨y30, y30f⟩, ⟨y40, y40f⟩, ⟨y41, y41f⟩, -⟩ := id hk
  go_upto_region 11 with fail
  go_cut [15, 16] from 52 to 63 (fun s15 s16 wx => ∃ (bd : Nat) (pd : Option Addr) (cd : Nat), s15 = .pointer (some ⟨bd, 0, none⟩) ∧ s16 = .int .i64 x ∧ wx.cell? ⟨bd, 0, none⟩ = some (.slice pd dd.length cd) ∧ CAt wx pd cd dd ∧ Off s 5 pd ∧ Fresh w p pd ∧ (∀ ad, pd = some ad → v.ownBlock ≠ some ad.block) ∧ Below wr.heap.size wr wx)
  case first =>
   as_aux_lemma =>
    have hacc : Below wr.heap.size wr wr := Below.refl _ _
    have hvb : ∀ k, v.ownBlock = some k → k < wr.heap.size := fun k hk => (World.ownsRow.lt hO k hk).2
    clear y00 y00f y10 y10f y11 y11f y20 y20f y21 y21f y30 y30f y40 y40f y41 y41f
    refine wp_region_seqE (fun x => Below wr.heap.size wr x) (.one 0 0 (.one 1 1 (.one 2 1 (.one 3 0 (.one 4 1 (.one 5 1 (.one 6 1 (.one 7 0 (.alt 8 3 (.one 9 1 (.one 10 1 (.one 11 1 (.alt 12 2 (.alt 13 3 (.one 14 1 .nil) .stop) .stop)))) (.alt 12 2 (.alt 8 3 (.one 9 1 (.one 10 1 (.one 11 1 (.alt 13 3 (.one 14 1 .nil) .stop)))) .stop) .stop)))))))))) (by kernel_rfl) (by kernel_rfl) (by kernel_rfl) (Below.drew (Below.refl _ _)) ?_
    iterate 8 ((first | (refine seqE_free (v := ?_) rfl (by rfl) ?_ ?_; rotate_left; (focus (intro w; go_simp; try with_reducible rfl))) | (refine seqE_pure (v := ?_) rfl (by rfl) ?_ ?_; rotate_left; (focus (intro w hS; obtain ⟨⟨y00, -⟩, -⟩ := hs.up hS; obtain ⟨-, -, -, ⟨y21, -⟩, -⟩ := hk.up hS; have j0 := zD hS j0; have j1 := zD hS j1; go_simp; try with_reducible rfl)))); (try simp only [Act.put, zA, zB, zC]))
    clear hs
    clear hk
    clear j0 j1
    refine seqE_callB (f := ?_) (args := ?_) rfl (by rfl) ?_ ?_ ?_
    rotate_left 2
    focus (intro w hS; go_simp; first | done | with_reducible rfl | (refine ⟨?_, ?_⟩ <;> with_reducible rfl))
    ·
     intro w1 hS
     refine (ror_fr (hC.mono hS) (by omega) (by omega) (by omega) HOP.out).mono ?_
     rintro e v1 ⟨pd, cd, rfl, hE, hbl, frE⟩
     refine ⟨_, rfl, (fun x => Below v1.heap.size v1 x), Below.refl _ _, ?_⟩
     have hXw := Nat.le_trans zz hS.size; have hXa := Nat.le_trans hacc.size hS.size
     have hX := btr hS hbl
     replace hC := hC.mono hX; replace hbw := btr hbw hX; replace zz := Nat.le_trans zz (Below.size hX); replace hacc := btr hacc hX
     have oE : Off s 5 pd := Off.fresh frE oC hXw
     have FE := Lib.hid (Fresh.trans FC.out frE (by have h := HS.out; have h2 := hXw; omega))
     have ov2 : ∀ ad, pd = some ad → v.ownBlock ≠ some ad.block := fun ad had e => by
      rcases frE with q | q
      · exact OV.out ad (by rw [← q]; exact had) e
      · have h1 := q ad had; have h2 := hvb _ e; have h3 := hXa; omega
     clear frE
     clear hX hS hbl hXw hXa
     (try simp only [Act.put, zA, zB, zC])
     iterate 3 (refine seqE_free (v := ?_) rfl (by rfl) ?_ ?_; rotate_left; (focus (intro w; go_simp; try with_reducible rfl)); (try simp only [Act.put, zA, zB, zC]))
     refine seqE_move rfl (by rfl) ?_ seqE_stop
     intro w2 hS
     refine ⟨.pointer (some ⟨w2.heap.size, 0, none⟩), w2.alloc (.cells #[.slice none 0 0] 27), (by go_simp; try with_reducible rfl), ?_⟩
     obtain ⟨b15, hb15⟩ : ∃ b, b = w2.heap.size := ⟨_, rfl⟩
     obtain ⟨v2, hw2⟩ : ∃ zW, zW = w2.alloc (.cells #[.slice none 0 0] 27) := ⟨_, rfl⟩
     rw [← hw2, ← hb15]
     have hbl : Below w2.heap.size w2 v2 := by rw [hw2]; go_grown
     have hge15 : s + 5 ≤ b15 := by rw [hb15]; exact Nat.le_trans zz hS.size
     have hga15 : wr.heap.size ≤ b15 := by rw [hb15]; exact Nat.le_trans hacc.size hS.size
     refine ⟨(fun x => Below v2.heap.size v2 x), Below.refl _ _, fun x hx => btr (btr hS hbl) hx, ?_⟩
     have hX := btr hS hbl
     replace hC := hC.mono hX; replace hE := hE.mono hX; replace hbw := btr hbw hX; replace zz := Nat.le_trans zz (Below.size hX); replace hacc := btr hacc hX
     have hs : Cells v2 [(b15, 0, .slice none 0 0)] := ⟨⟨by rw [hw2, hb15]; go_cell, by rw [hw2, hb15]; go_cell⟩, trivial⟩
     clear hX hS hbl hw2 hb15
     (try simp only [Act.put, zA, zB, zC])
     refine seqE_storeB rfl (by rfl) ?_ seqE_stop
     intro w3 hS
     replace hs := hs.up hS; replace hC := hC.mono hS; replace hE := hE.mono hS; replace hbw := btr hbw hS; replace zz := Nat.le_trans zz (Below.size hS); replace hacc := btr hacc hS
     obtain ⟨⟨d150, d150f⟩, -⟩ := id hs
     refine ⟨(w3.setCell ⟨b15, 0, none⟩ (.slice pd dd.length cd)), (by go_simp; try with_reducible rfl), (fun x => Below ((w3.setCell ⟨b15, 0, none⟩ (.slice pd dd.length cd))).heap.size ((w3.setCell ⟨b15, 0, none⟩ (.slice pd dd.length cd))) x), Below.refl _ _, ?_⟩
     obtain ⟨v3, hw⟩ : ∃ zW, zW = (w3.setCell ⟨b15, 0, none⟩ (.slice pd dd.length cd)) := ⟨_, rfl⟩
     rw [← hw]
     replace hs : Cells v3 [(b15, 0, .slice pd dd.length cd)] := by rw [hw]; exact ⟨⟨by go_cell, (fz d150f)⟩, trivial⟩
     replace hC : CAt v3 pc cc E := by rw [hw]; exact hC.box d150 _
     replace hE : CAt v3 pd cd dd := by rw [hw]; exact hE.box d150 _
     replace hbw : Below w.heap.size w v3 := by rw [hw]; exact (Below.setCell hbw (by have h := HS.out; (try dsimp only); omega) _)
     replace hacc : Below wr.heap.size wr v3 := by rw [hw]; exact (Below.setCell hacc (by have h := HS.out; (try dsimp only); omega) _)
     replace zz : s + 5 ≤ v3.heap.size := by rw [hw]; simpa using zz
     clear hw
     clear d150 d150f
     clear hS
     (try simp only [Act.put, zA, zB, zC])
     iterate 1 (refine seqE_free (v := ?_) rfl (by rfl) ?_ ?_; rotate_left; (focus (intro w; go_simp; try with_reducible rfl)); (try simp only [Act.put, zA, zB, zC]))
     refine seqE_nil ?_
     intro wz hS
     replace hs := hs.up hS; replace hC := hC.mono hS; replace hE := hE.mono hS; replace hbw := btr hbw hS; replace zz := Nat.le_trans zz (Below.size hS); replace hacc := btr hacc hS; clear hS
     obtain ⟨⟨d150, d150f⟩, -⟩ := id hs
     go_wp2_with fail
     go_meet
     exact ⟨_, _, _, rfl, rfl, d150, hE, oE, FE.out, ov2, hacc⟩
    refine seqE_move rfl (by rfl) ?_ seqE_stop
    intro w4 hS
    refine ⟨.pointer (some ⟨w4.heap.size, 0, none⟩), w4.alloc (.cells #[.slice none 0 0] 27), (by go_simp; try with_reducible rfl), ?_⟩
    obtain ⟨b15, hb15⟩ : ∃ b, b = w4.heap.size := ⟨_, rfl⟩
    obtain ⟨v4, hw4⟩ : ∃ zW, zW = w4.alloc (.cells #[.slice none 0 0] 27) := ⟨_, rfl⟩
    rw [← hw4, ← hb15]
    have hbl : Below w4.heap.size w4 v4 := by rw [hw4]; go_grown
    have hge15 : s + 5 ≤ b15 := by rw [hb15]; exact Nat.le_trans zz hS.size
    have hga15 : wr.heap.size ≤ b15 := by rw [hb15]; exact Nat.le_trans hacc.size hS.size
    refine ⟨(fun x => Below v4.heap.size v4 x), Below.refl _ _, fun x hx => btr (btr hS hbl) hx, ?_⟩
    have hX := btr hS hbl
    replace hC := hC.mono hX; replace hbw := btr hbw hX; replace zz := Nat.le_trans zz (Below.size hX); replace hacc := btr hacc hX
    have hs : Cells v4 [(b15, 0, .slice none 0 0)] := ⟨⟨by rw [hw4, hb15]; go_cell, by rw [hw4, hb15]; go_cell⟩, trivial⟩
    clear hX hS hbl hw4 hb15
    (try simp only [Act.put, zA, zB, zC])
    refine seqE_callB (f := ?_) (args := ?_) rfl (by rfl) ?_ ?_ seqE_stop
    rotate_left 2
    focus (intro w hS; go_simp; first | done | with_reducible rfl | (refine ⟨?_, ?_⟩ <;> with_reducible rfl))
    intro w5 hS
    refine (ror_fr (hC.mono hS) (by omega) (by omega) (by omega) HOP.out).mono ?_
    rintro e v5 ⟨pd, cd, rfl, hE, hbl, frE⟩
    refine ⟨_, rfl, (fun x => Below v5.heap.size v5 x), Below.refl _ _, ?_⟩
    have hXw := Nat.le_trans zz hS.size; have hXa := Nat.le_trans hacc.size hS.size
    have hX := btr hS hbl
    replace hs := hs.up hX; replace hC := hC.mono hX; replace hbw := btr hbw hX; replace zz := Nat.le_trans zz (Below.size hX); replace hacc := btr hacc hX
    have oE : Off s 5 pd := Off.fresh frE oC hXw
    have FE := Lib.hid (Fresh.trans FC.out frE (by have h := HS.out; have h2 := hXw; omega))
    have ov2 : ∀ ad, pd = some ad → v.ownBlock ≠ some ad.block := fun ad had e => by
     rcases frE with q | q
     · exact OV.out ad (by rw [← q]; exact had) e
     · have h1 := q ad had; have h2 := hvb _ e; have h3 := hXa; omega
    clear frE
    clear hX hS hbl hXw hXa
    (try simp only [Act.put, zA, zB, zC])
    iterate 3 (refine seqE_free (v := ?_) rfl (by rfl) ?_ ?_; rotate_left; (focus (intro w; go_simp; try with_reducible rfl)); (try simp only [Act.put, zA, zB, zC]))
    refine seqE_storeB rfl (by rfl) ?_ seqE_stop
    intro w6 hS
    replace hs := hs.up hS; replace hC := hC.mono hS; replace hE := hE.mono hS; replace hbw := btr hbw hS; replace zz := Nat.le_trans zz (Below.size hS); replace hacc := btr hacc hS
    obtain ⟨⟨d150, d150f⟩, -⟩ := id hs
    refine ⟨(w6.setCell ⟨b15, 0, none⟩ (.slice pd dd.length cd)), (by go_simp; try with_reducible rfl), (fun x => Below ((w6.setCell ⟨b15, 0, none⟩ (.slice pd dd.length cd))).heap.size ((w6.setCell ⟨b15, 0, none⟩ (.slice pd dd.length cd))) x), Below.refl _ _, ?_⟩
    obtain ⟨v6, hw⟩ : ∃ zW, zW = (w6.setCell ⟨b15, 0, none⟩ (.slice pd dd.length cd)) := ⟨_, rfl⟩
    rw [← hw]
    replace hs : Cells v6 [(b15, 0, .slice pd dd.length cd)] := by rw [hw]; exact ⟨⟨by go_cell, (fz d150f)⟩, trivial⟩
    replace hC : CAt v6 pc cc E := by rw [hw]; exact hC.box d150 _
    replace hE : CAt v6 pd cd dd := by rw [hw]; exact hE.box d150 _
    replace hbw : Below w.heap.size w v6 := by rw [hw]; exact (Below.setCell hbw (by have h := HS.out; (try dsimp only); omega) _)
    replace hacc : Below wr.heap.size wr v6 := by rw [hw]; exact (Below.setCell hacc (by have h := HS.out; (try dsimp only); omega) _)
    replace zz : s + 5 ≤ v6.heap.size := by rw [hw]; simpa using zz
    clear hw
    clear d150 d150f
    clear hS
    (try simp only [Act.put, zA, zB, zC])
    iterate 1 (refine seqE_free (v := ?_) rfl (by rfl) ?_ ?_; rotate_left; (focus (intro w; go_simp; try with_reducible rfl)); (try simp only [Act.put, zA, zB, zC]))
    refine seqE_nil ?_
    intro wz hS
    replace hs := hs.up hS; replace hC := hC.mono hS; replace hE := hE.mono hS; replace hbw := btr hbw hS; replace zz := Nat.le_trans zz (Below.size hS); replace hacc := btr hacc hS; clear hS
    obtain ⟨⟨d150, d150f⟩, -⟩ := id hs
    go_wp2_with fail
    go_meet
    exact ⟨_, _, _, rfl, rfl, d150, hE, oE, FE.out, ov2, hacc⟩
  obtain ⟨bd, pd, cd, rfl, rfl, e0, hE, oE, frE, ovE, hst⟩ := hcut
  replace hs := hs.up hst; replace hk := hk.up hst; replace hC := hC.mono hst; replace hO := hO.up hst; replace hbw := btr hbw hst; replace zz := Nat.le_trans zz (Below.size hst); replace j0 := zD hst j0; replace j1 := zD hst j1; have FE := Lib.hid frE; have OVE := Lib.hid ovE; clear hst frE ovE
  clear y00 y00f y10 y10f y11 y11f y20 y20f y21 y21f y30 y30f y40 y40f y41 y41f
  obtain ⟨⟨y00, y00f⟩, -⟩ := id hs
  obtain ⟨⟨y10, y10f⟩, ⟨y11, y11f⟩, ⟨y20, y20f⟩, ⟨y21, y21f⟩, ⟨y30, y30f⟩, ⟨y40, y40f⟩, ⟨y41, y41f⟩, -⟩ := id hk
  go_upto_region 13 with fail
  obtain ⟨w8, hw⟩ : ∃ zW, zW = (wc.setCell ⟨s, 0, none⟩ (.slice pd dd.length cd)) := ⟨_, rfl⟩
  rw [← hw]
  replace hs : Cells w8 [(s, 0, .slice pd dd.length cd)] := by rw [hw]; exact ⟨⟨by go_cell, (fz y00f)⟩, trivial⟩
  replace hk : Cells w8 [(s + 1, 0, .int .i64 ar1), (s + 1, 1, .slice pa a.length ca), (s + 2, 0, .int .i64 ar2), (s + 2, 1, .slice (some ⟨by', oy, none⟩) b.length cb), (s + 3, 0, .slice none 0 0), (s + 4, 0, .int .i64 0), (s + 4, 1, .slice none 0 0)] := by rw [hw]; exact (hk.far (by simp <;> omega))
  replace hO : OwnG 1 iEnc 3 w8 (s + 5) v ds := by rw [hw]; exact (hO.set ((by (try dsimp only); omega)) _)
  replace hE : CAt w8 pd cd dd := by rw [hw]; exact hE.box y00 _
  replace j0 : w8.cell? ⟨by', oy + I * 2, none⟩ = some (.int .i64 yr) := by rw [hw]; exact (keep_far j0 (by first | omega | (dsimp only; omega)))
  replace j1 : w8.cell? ⟨by', oy + I * 2 + 1, none⟩ = some (.int .i64 yf) := by rw [hw]; exact (keep_far j1 (by first | omega | (dsimp only; omega)))
  replace hbw : Below w.heap.size w w8 := by rw [hw]; exact (Below.setCell hbw (by have h := HS.out; (try dsimp only); omega) _)
  replace zz : s + 5 ≤ w8.heap.size := by rw [hw]; simpa using zz
  clear hw
  clear y00 y00f y10 y10f y11 y11f y20 y20f y21 y21f y30 y30f y40 y40f y41 y41f
  obtain ⟨⟨y00, y00f⟩, -⟩ := id hs
  obtain ⟨⟨y10, y10f⟩, ⟨y11, y11f⟩, ⟨y20, y20f⟩, ⟨y21, y21f⟩, ⟨y30, y30f⟩, ⟨y40, y40f⟩, ⟨y41, y41f⟩, -⟩ := id hk
  go_wp2_with fail
  go_roundg (b.length - (I + 1))
  case measure => (have := HN2.out; omega)
  clear y00 y00f y10 y10f y11 y11f y20 y20f y21 y21f y30 y30f y40 y40f y41 y41f
  case rel => exact ⟨I + 1, dd, x, pd, cd, rfl, by go_num, by omega, rfl, HROW2.out, oE, FE.out, OVE.out, hs, hk, hE, hO, hbw, zz⟩
 obtain rfl : K = n := by omega
 obtain ⟨qd, cqd, rfl, o1, o2, o3, o4, o5⟩ := hO.val (by decide)
 have hQ : SI wr qd cqd ds := ⟨o1, o2, o3, o4, fun a ha => (o5 a ha).2⟩
 have oQ : Off s 5 qd := fun a ha => .inr (o5 a ha).1
 have q5 : ∀ a, qd = some a → a.block < wr.heap.size := fun a ha => (o5 a ha).2
 obtain ⟨LD, hLD⟩ : ∃ z, ds.length = z := ⟨_, rfl⟩
 clear hO o1 o2 o3 o4 o5 OV
 clear y00 y00f y10 y10f y11 y11f y20 y20f y21 y21f y30 y30f y40 y40f y41 y41f
 obtain ⟨⟨y00, y00f⟩, -⟩ := id hs
 obtain ⟨⟨y10, y10f⟩, ⟨y11, y11f⟩, ⟨y20, y20f⟩, ⟨y21, y21f⟩, ⟨y30, y30f⟩, ⟨y40, y40f⟩, ⟨y41, y41f⟩, -⟩ := id hk
 go_upto_region 16 with fail
 obtain ⟨wm, hw⟩ : ∃ zW, zW = wr.alloc (.cells #[.int .i64 ar1, .slice none 0 0] 30) := ⟨_, rfl⟩
 obtain ⟨b17, hb17⟩ : ∃ zW, zW = wr.heap.size := ⟨_, rfl⟩
 rw [← hw, ← hb17]
 have hbl : Below wr.heap.size wr wm := by rw [hw]; go_grown
 have hge17 : s + 5 ≤ b17 := by rw [hb17]; exact zz
 have hgw17 : wr.heap.size ≤ b17 := by rw [hb17]; exact Nat.le_refl _
 clear y00 y00f y10 y10f y11 y11f y20 y20f y21 y21f y30 y30f y40 y40f y41 y41f
 replace hs := hs.up hbl; replace hk := hk.up hbl; replace hC := hC.mono hbl; replace hQ := hQ.up hbl; replace hbw := btr hbw hbl; replace zz := Nat.le_trans zz (Below.size hbl)
 replace hs : Cells wm [(b17, 0, .int .i64 ar1), (b17, 1, .slice none 0 0), (s, 0, .slice pc C.length cc)] := ⟨⟨by rw [hw, hb17]; go_cell, by rw [hw, hb17]; go_cell⟩, ⟨by rw [hw, hb17]; go_cell, by rw [hw, hb17]; go_cell⟩, hs⟩
 clear hbl hw hb17
 have NQ := Lib.hid (show ∀ a, qd = some a → a.block ≠ b17 from fun a ha e => by have h1 := q5 a ha; omega)
 have hb17 : b17 < wm.heap.size := World.block_lt_of_cell? _ _ hs.1.1
 clear q5
 obtain ⟨⟨d170, d170f⟩, ⟨d171, d171f⟩, ⟨y00, y00f⟩, -⟩ := id hs
 obtain ⟨⟨y10, y10f⟩, ⟨y11, y11f⟩, ⟨y20, y20f⟩, ⟨y21, y21f⟩, ⟨y30, y30f⟩, ⟨y40, y40f⟩, ⟨y41, y41f⟩, -⟩ := id hk
 have hml := mranks_len a b
 go_upto_region 17 with (first | (go_at_call 105; refine (ranks_any a b ar1 ar2 pa pb ca cb _ (HA.out.up hbw) (HD.out.up hbw) (by omega) (by omega)).mono ?_; rintro e w5 ⟨ql, cql, rfl, hL, hbl, oL⟩; have NL := Lib.hid (show ∀ a, ql = some a → a.block ≠ b17 from fun a ha e => by have h1 := oL a ha; omega); replace oL : Off s 5 ql := Off.ge oL zz; replace hs := hs.up hbl; replace hk := hk.up hbl; replace hC := hC.mono hbl; replace hQ := hQ.up hbl; replace hbw := btr hbw hbl; replace zz := Nat.le_trans zz (Below.size hbl); clear hbl))
 clear d170 d170f d171 d171f y00 y00f y10 y10f y11 y11f y20 y20f y21 y21f y30 y30f y40 y40f y41 y41f
 obtain ⟨⟨d170, d170f⟩, ⟨d171, d171f⟩, ⟨y00, y00f⟩, -⟩ := id hs
 obtain ⟨⟨y10, y10f⟩, ⟨y11, y11f⟩, ⟨y20, y20f⟩, ⟨y21, y21f⟩, ⟨y30, y30f⟩, ⟨y40, y40f⟩, ⟨y41, y41f⟩, -⟩ := id hk
 have hM : MxAt w5 none 0 [] := MxAt.nil _
 go_wp2_with fail
 go_loopg [19] (mranks a b).length (fun N s19 wr => ∃ J : Nat, ∃ D : List Gate, ∃ M : List Cell, ∃ pc : Option Addr, ∃ cc : Nat, ∃ pm : Option Addr, ∃ cm : Nat, s19 = .int .i64 J ∧ J ≤ (mranks a b).length ∧ N = (mranks a b).length - J ∧ overRun P ds ((mzip a b).take J) (C, []) = (D, M) ∧ Off s 5 pc ∧ Off s 5 pm ∧ Fresh w p pc ∧ Fresh w none pm ∧ Cells wr [(b17, 0, .int .i64 ar1), (b17, 1, .slice pm M.length cm), (s, 0, .slice pc D.length cc)] ∧ Cells wr [(s + 1, 0, .int .i64 ar1), (s + 1, 1, .slice pa a.length ca), (s + 2, 0, .int .i64 ar2), (s + 2, 1, .slice pb b.length cb), (s + 3, 0, .slice none 0 0), (s + 4, 0, .int .i64 0), (s + 4, 1, .slice none 0 0)] ∧ SI wr qd cqd ds ∧ SI wr ql cql (mranks a b) ∧ CAt wr pc cc D ∧ MxAt wr pm cm M ∧ Below w.heap.size w wr ∧ s + 5 ≤ wr.heap.size)
 case atStart => exact ⟨0, C, [], pc, cc, none, 0, rfl, by omega, rfl, rfl, oC, Off.none _ _, FC.out, .inl rfl, hs, hk, hQ, hL, hC, hM, hbw, zz⟩
 clear hs hk hQ hL hC hM hbw zz oC FC
 obtain ⟨J, D, M, pc, cc, pm, cm, rfl, hJ, hN3, hrun, oC, oM, frC, frM, hs, hk, hQ, hL, hC, hM, hbw, zz⟩ := hrel
 have HN3 := Lib.hid hN3; have HRUN := Lib.hid hrun; have FC := Lib.hid frC; have FM := Lib.hid frM
 obtain ⟨gD, hDl, hMO, gCD⟩ := over_pre HG.out HMA.out HMB.out G0.out IDS.out (by omega) hrun
 have hMl : M.length ≤ 2000 := by have := sorted_len (lo := 0) (N := N0) hMO.sorted hMO.ranks; omega
 have GD := Lib.hid gD; have GCD := Lib.hid gCD
 clear hN3 hrun frC frM gD hMO gCD
 by_cases hltJ : J < (mranks a b).length
 case neg =>
  obtain rfl : J = (mranks a b).length := by omega
  have HF := Lib.hid (show mOverride c K P a b = (D, M) by
   have h := HRUN.out
   have e := rtri_eq HMA.out.sorted HMB.out.sorted
   have e2 := rtri_len a b
   rw [e] at e2
   rw [← e2, List.take_length] at h
   unfold mOverride
   rw [HDOM.out]; exact h)
  clear d170 d170f d171 d171f y00 y00f y10 y10f y11 y11f y20 y20f y21 y21f y30 y30f y40 y40f y41 y41f
  obtain ⟨⟨d170, d170f⟩, ⟨d171, d171f⟩, ⟨y00, y00f⟩, -⟩ := id hs
  obtain ⟨⟨y10, y10f⟩, ⟨y11, y11f⟩, ⟨y20, y20f⟩, ⟨y21, y21f⟩, ⟨y30, y30f⟩, ⟨y40, y40f⟩, ⟨y41, y41f⟩, -⟩ := id hk
  go_upto_region 28 with fail
  go_region
  go_wp2_with fail
  obtain ⟨W9, hW9⟩ : ∃ W9, W9 = (((wr.setCell ⟨s + 3, 0, none⟩ (.slice pc D.length cc)).setCell ⟨s + 4, 0, none⟩ (.int .i64 (ar1))).setCell ⟨s + 4, 1, none⟩ (.slice pm M.length cm)).drew := ⟨_, rfl⟩
  rw [← hW9]
  have e0 : W9.cell? ⟨s + 3, 0, none⟩ = some (.slice pc D.length cc) := by rw [hW9]; go_cell
  have e1 : W9.cell? ⟨s + 4, 0, none⟩ = some (.int .i64 (ar1)) := by rw [hW9]; go_cell
  have e2 : W9.cell? ⟨s + 4, 1, none⟩ = some (.slice pm M.length cm) := by rw [hW9]; go_cell
  replace hC : CAt W9 pc cc D := by rw [hW9]; exact (((hC.set (oC.ne (by omega) (by omega)) _).set (oC.ne (by omega) (by omega)) _).set (oC.ne (by omega) (by omega)) _).mono (Below.drew (Below.refl _ _))
  replace hM : MxAt W9 pm cm M := by rw [hW9]; exact (((hM.set (oM.ne (by omega) (by omega)) _).set (oM.ne (by omega) (by omega)) _).set (oM.ne (by omega) (by omega)) _).up (Below.drew (Below.refl _ _))
  have B9 : Below w.heap.size w W9 := by
   rw [hW9]
   refine Below.drew ?_
   iterate 3 refine Below.setCell ?_ (by have h := HS.out; (try dsimp only); omega) _
   exact hbw
  clear hW9
  rw [HF.out]
  refine bodyPost_ret (by simp [results, Try.results54, go_sem, e0, e1, e2]; try rfl) rfl ?_
  exact ⟨_, _, _, _, rfl, hC, hM, B9, FC.out, FM.out⟩
 have hltJi : (J : Int) < ((mranks a b).length : Int) := by omega
 obtain ⟨r, hr⟩ : ∃ r, (mranks a b)[J]? = some r := ⟨_, List.getElem?_eq_getElem hltJ⟩
 obtain ⟨bq, oq, rfl, hbq, j0⟩ := int_cell hL.at' hr
 have hT : (mzip a b)[J]? = some ⟨r, mat a r, mat b r⟩ := by rw [← rtri_eq HMA.out.sorted HMB.out.sorted]; exact rtri_get hr
 obtain ⟨hp, hq, -⟩ := (fun t => (mzip_spec a b HMA.out.sorted HMB.out.sorted).1 t) _ (List.mem_of_getElem? hT)
 have hrk : 0 ≤ r ∧ r < N0 := by
  obtain ⟨-, -, e3⟩ := (mzip_spec a b HMA.out.sorted HMB.out.sorted).1 _ (List.mem_of_getElem? hT)
  rcases e3 with ⟨x, hx, e⟩ | ⟨x, hx, e⟩
  · have := HMA.out.ranks x hx; dsimp only at e; omega
  · have := HMB.out.ranks x hx; dsimp only at e; omega
 have hpi := ((HMA.out.mat_in' HG.out r).up G0.out).up GCD.out
 have hqi := ((HMB.out.mat_in' HG.out r).up G0.out).up GCD.out
 have hN9 := HNN.out
 have hnP : (K : Int) * P ≤ 12 * 1728 := by have := Nat.mul_le_mul hn hp2; have h2 : ((K * P : Nat) : Int) ≤ ((12 * 1728 : Nat) : Int) := Int.ofNat_le.2 this; simpa using h2
 obtain ⟨P1, hP1⟩ : ∃ z, mat a r = z := ⟨_, rfl⟩
 obtain ⟨Q1, hQ1⟩ : ∃ z, mat b r = z := ⟨_, rfl⟩
 obtain ⟨Q, hQe⟩ : ∃ z, r / (P : Int) = z := ⟨_, rfl⟩
 have hQn : Q < (K : Int) := by rw [← hQe]; exact Int.ediv_lt_of_lt_mul (by omega) (by omega)
 have hQ0 : 0 ≤ Q := by rw [← hQe]; exact Int.ediv_nonneg hrk.1 (by omega)
 have htd : r.tdiv (P : Int) = Q := by rw [Int.tdiv_eq_ediv_of_nonneg hrk.1]; exact hQe
 have hwq : IntKind.i64.wrap Q = Q := by rw [IntWalk.i64_in]; omega
 have hPi : ¬ (P : Int) = 0 := by omega
 have hPn : ¬ P = 0 := by omega
 have hPb : ((P : Int) == 0) = false := (beq_eq_false_iff_ne (α := Int)).2 hPi
 rw [hP1] at hpi; rw [hQ1] at hqi
 have hqi2 := hqi.2; have hpi2 := hpi.2
 have hst : ∀ k E x M2, (if P1 = 1 then (D, 1) else cbut D P1 (ds.getD Q.toNat 1)) = k → cor k.1 k.2 Q1 = (E, x) → put M r x = M2 → overRun P ds ((mzip a b).take (J + 1)) (C, []) = (E, M2) := fun k E x M2 h1 h2 h3 => by
  rw [over_take hT HRUN.out, over_step (k := k.2) (D := k.1) (E := E) (r := x) (by dsimp only; rw [hP1, hQe]; exact h1) (by dsimp only; rw [hQ1]; exact h2)]
  dsimp only; rw [h3]
 have HST := Lib.hid hst; have HP1 := Lib.hid hP1; have HQ1 := Lib.hid hQ1
 have hbo := oL _ rfl
 dsimp only at hbo
 clear hr hT hp hq hrk hst hP1 hQ1 hQe hN9 hnP hbq
 have hb17q : bq ≠ b17 := NL.out _ rfl
 clear d170 d170f d171 d171f y00 y00f y10 y10f y11 y11f y20 y20f y21 y21f y30 y30f y40 y40f y41 y41f
 obtain ⟨⟨d170, d170f⟩, ⟨d171, d171f⟩, ⟨y00, y00f⟩, -⟩ := id hs
 obtain ⟨⟨y10, y10f⟩, ⟨y11, y11f⟩, ⟨y20, y20f⟩, ⟨y21, y21f⟩, ⟨y30, y30f⟩, ⟨y40, y40f⟩, ⟨y41, y41f⟩, -⟩ := id hk
 go_upto_region 20 with fail
 clear d170 d170f d171 d171f y00 y00f y10 y10f y11 y11f y20 y20f y21 y21f y30 y30f y40 y40f y41 y41f
 refine wp_region_seqE (fun x => Below wr.heap.size wr x) (.one 0 0 (.one 1 1 (.one 2 1 (.one 3 1 (.one 4 0 (.alt 5 2 (.one 6 1 .nil) .stop)))))) (by kernel_rfl) (by kernel_rfl) (by kernel_rfl) (Below.drew (Below.refl _ _)) ?_
 iterate 5 ((first | (refine seqE_free (v := ?_) rfl (by rfl) ?_ ?_; rotate_left; (focus (intro w; go_simp; try with_reducible rfl))) | (refine seqE_pure (v := ?_) rfl (by rfl) ?_ ?_; rotate_left; (focus (intro w hS; obtain ⟨⟨y10, -⟩, ⟨y11, -⟩, -⟩ := hk.up hS; have j0 := zD hS j0; go_simp; try with_reducible rfl)))); (try simp only [Act.put, zA, zB, zC]))
 refine seqE_keep (v := .int .i64 P1) (f := ?_) (args := ?_) rfl (by rfl) ?_ ?_ ?_ seqE_stop
 rotate_left 2
 focus (intro w hS; go_simp; first | done | with_reducible rfl | (refine ⟨?_, ?_⟩ <;> with_reducible rfl))
 focus (intro w hS; refine (at_is (HA.out.up (btr hbw hS)) (by omega) HP1.out).mono ?_; rintro e w2 ⟨rfl, hbl⟩; exact ⟨rfl, btr hS hbl⟩)
 (try simp only [Act.put, zA, zB, zC])
 iterate 1 (refine seqE_free (v := ?_) rfl (by rfl) ?_ ?_; rotate_left; (focus (intro w; go_simp; try with_reducible rfl)); (try simp only [Act.put, zA, zB, zC]))
 refine seqE_nil ?_
 intro wz hS; replace j0 := zD hS j0
 replace hs := hs.up hS; replace hk := hk.up hS; replace hQ := hQ.up hS; replace hL := hL.up hS; replace hC := hC.mono hS; replace hM := hM.up hS; replace hbw := btr hbw hS; replace zz := Nat.le_trans zz (Below.size hS); clear hS
 by_cases hp1 : P1 = 1
 case pos =>
  obtain rfl := hp1
  have HSTK := Lib.hid (fun E x M2 (h1 : cor D 1 Q1 = (E, x)) (h2 : put M r x = M2) => HST.out (D, 1) E x M2 (if_pos rfl) h1 h2)
  obtain ⟨⟨d170, d170f⟩, ⟨d171, d171f⟩, ⟨y00, y00f⟩, -⟩ := id hs
  obtain ⟨⟨y10, y10f⟩, ⟨y11, y11f⟩, ⟨y20, y20f⟩, ⟨y21, y21f⟩, ⟨y30, y30f⟩, ⟨y40, y40f⟩, ⟨y41, y41f⟩, -⟩ := id hk
  obtain ⟨dd, x, hop⟩ : ∃ dd x, cor D 1 Q1 = (dd, x) := ⟨_, _, rfl⟩
  obtain ⟨M2, hM2⟩ : ∃ m, put M r x = m := ⟨_, rfl⟩
  have HOP := Lib.hid hop; have HM2 := Lib.hid hM2
  have HNEW := Lib.hid (HSTK.out dd x M2 hop hM2)
  clear hop hM2
  clear d170 d170f d171 d171f y00 y00f y10 y10f y11 y11f y20 y20f y21 y21f y30 y30f y40 y40f y41 y41f
  obtain ⟨⟨d170, d170f⟩, ⟨d171, d171f⟩, ⟨y00, y00f⟩, -⟩ := id hs
  obtain ⟨⟨y10, y10f⟩, ⟨y11, y11f⟩, ⟨y20, y20f⟩, ⟨y21, y21f⟩, ⟨y30, y30f⟩, ⟨y40, y40f⟩, ⟨y41, y41f⟩, -⟩ := id hk
  go_upto_region 25 with fail
  go_cut [23, 24] from 118 to 129 (fun s23 s24 wx => ∃ (bd : Nat) (pd : Option Addr) (cd : Nat), s23 = .pointer (some ⟨bd, 0, none⟩) ∧ s24 = .int .i64 x ∧ wx.cell? ⟨bd, 0, none⟩ = some (.slice pd dd.length cd) ∧ CAt wx pd cd dd ∧ Off s 5 pd ∧ Fresh w p pd ∧ Below wz.heap.size wz wx)
  case first =>
   as_aux_lemma =>
    have hacc : Below wz.heap.size wz wz := Below.refl _ _
    clear d170 d170f d171 d171f y00 y00f y10 y10f y11 y11f y20 y20f y21 y21f y30 y30f y40 y40f y41 y41f
    obtain ⟨-, -, ⟨y00, y00f⟩, -⟩ := hs
    have hs : Cells wz [(s, 0, .slice pc D.length cc)] := ⟨⟨y00, y00f⟩, trivial⟩
    clear y00 y00f
    refine wp_region_seqE (fun x => Below wz.heap.size wz x) (.one 0 0 (.one 1 1 (.one 2 0 (.one 3 1 (.one 4 1 (.one 5 1 (.one 6 0 (.alt 7 2 (.alt 8 3 (.one 9 1 (.one 10 1 (.one 11 1 (.alt 12 2 (.alt 13 3 (.one 14 1 .nil) .stop) .stop)))) (.alt 12 2 (.alt 8 3 (.one 9 1 (.one 10 1 (.one 11 1 (.alt 13 3 (.one 14 1 .nil) .stop)))) .stop) .stop)) (.alt 12 2 (.alt 7 2 (.alt 8 3 (.one 9 1 (.one 10 1 (.one 11 1 (.alt 13 3 (.one 14 1 .nil) .stop)))) .stop) .stop) .stop))))))))) (by kernel_rfl) (by kernel_rfl) (by kernel_rfl) (Below.drew (Below.refl _ _)) ?_
    iterate 7 ((first | (refine seqE_free (v := ?_) rfl (by rfl) ?_ ?_; rotate_left; (focus (intro w; go_simp; try with_reducible rfl))) | (refine seqE_pure (v := ?_) rfl (by rfl) ?_ ?_; rotate_left; (focus (intro w hS; obtain ⟨⟨y00, -⟩, -⟩ := hs.up hS; obtain ⟨-, -, ⟨y20, -⟩, ⟨y21, -⟩, -⟩ := hk.up hS; have j0 := zD hS j0; go_simp; try with_reducible rfl)))); (try simp only [Act.put, zA, zB, zC]))
    clear hs
    clear hk
    clear j0
    refine seqE_keep (v := .int .i64 Q1) (f := ?_) (args := ?_) rfl (by rfl) ?_ ?_ ?_ ?_
    rotate_left 2
    focus (intro w hS; go_simp; first | done | with_reducible rfl | (refine ⟨?_, ?_⟩ <;> with_reducible rfl))
    focus (intro w hS; refine (at_is (HD.out.up (btr hbw hS)) (by omega) HQ1.out).mono ?_; rintro e w2 ⟨rfl, hbl⟩; exact ⟨rfl, btr hS hbl⟩)
    ·
     (try simp only [Act.put, zA, zB, zC])
     refine seqE_callB (f := ?_) (args := ?_) rfl (by rfl) ?_ ?_ ?_
     rotate_left 2
     focus (intro w hS; go_simp; first | done | with_reducible rfl | (refine ⟨?_, ?_⟩ <;> with_reducible rfl))
     ·
      intro w2 hS
      refine (ror_fr (hC.mono hS) (by omega) (by omega) (by omega) HOP.out).mono ?_
      rintro e v2 ⟨pd, cd, rfl, hE, hbl, frE⟩
      refine ⟨_, rfl, (fun x => Below v2.heap.size v2 x), Below.refl _ _, ?_⟩
      have hXw := Nat.le_trans zz hS.size; have hXa := Nat.le_trans hacc.size hS.size
      have hX := btr hS hbl
      replace hC := hC.mono hX; replace hbw := btr hbw hX; replace zz := Nat.le_trans zz (Below.size hX); replace hacc := btr hacc hX
      have oE : Off s 5 pd := Off.fresh frE oC hXw
      have FE := Lib.hid (Fresh.trans FC.out frE (by have h := HS.out; have h2 := hXw; omega))
      clear frE
      clear hX hS hbl hXw hXa
      (try simp only [Act.put, zA, zB, zC])
      iterate 3 (refine seqE_free (v := ?_) rfl (by rfl) ?_ ?_; rotate_left; (focus (intro w; go_simp; try with_reducible rfl)); (try simp only [Act.put, zA, zB, zC]))
      refine seqE_move rfl (by rfl) ?_ seqE_stop
      intro w3 hS
      refine ⟨.pointer (some ⟨w3.heap.size, 0, none⟩), w3.alloc (.cells #[.slice none 0 0] 27), (by go_simp; try with_reducible rfl), ?_⟩
      obtain ⟨b23, hb23⟩ : ∃ b, b = w3.heap.size := ⟨_, rfl⟩
      obtain ⟨v3, hw3⟩ : ∃ zW, zW = w3.alloc (.cells #[.slice none 0 0] 27) := ⟨_, rfl⟩
      rw [← hw3, ← hb23]
      have hbl : Below w3.heap.size w3 v3 := by rw [hw3]; go_grown
      have hge23 : s + 5 ≤ b23 := by rw [hb23]; exact Nat.le_trans zz hS.size
      have hga23 : wz.heap.size ≤ b23 := by rw [hb23]; exact Nat.le_trans hacc.size hS.size
      refine ⟨(fun x => Below v3.heap.size v3 x), Below.refl _ _, fun x hx => btr (btr hS hbl) hx, ?_⟩
      have hX := btr hS hbl
      replace hC := hC.mono hX; replace hE := hE.mono hX; replace hbw := btr hbw hX; replace zz := Nat.le_trans zz (Below.size hX); replace hacc := btr hacc hX
      have hs : Cells v3 [(b23, 0, .slice none 0 0)] := ⟨⟨by rw [hw3, hb23]; go_cell, by rw [hw3, hb23]; go_cell⟩, trivial⟩
      clear hX hS hbl hw3 hb23
      (try simp only [Act.put, zA, zB, zC])
      refine seqE_storeB rfl (by rfl) ?_ seqE_stop
      intro w4 hS
      replace hs := hs.up hS; replace hC := hC.mono hS; replace hE := hE.mono hS; replace hbw := btr hbw hS; replace zz := Nat.le_trans zz (Below.size hS); replace hacc := btr hacc hS
      obtain ⟨⟨d230, d230f⟩, -⟩ := id hs
      refine ⟨(w4.setCell ⟨b23, 0, none⟩ (.slice pd dd.length cd)), (by go_simp; try with_reducible rfl), (fun x => Below ((w4.setCell ⟨b23, 0, none⟩ (.slice pd dd.length cd))).heap.size ((w4.setCell ⟨b23, 0, none⟩ (.slice pd dd.length cd))) x), Below.refl _ _, ?_⟩
      obtain ⟨v4, hw⟩ : ∃ zW, zW = (w4.setCell ⟨b23, 0, none⟩ (.slice pd dd.length cd)) := ⟨_, rfl⟩
      rw [← hw]
      replace hs : Cells v4 [(b23, 0, .slice pd dd.length cd)] := by rw [hw]; exact ⟨⟨by go_cell, (fz d230f)⟩, trivial⟩
      replace hC : CAt v4 pc cc D := by rw [hw]; exact hC.box d230 _
      replace hE : CAt v4 pd cd dd := by rw [hw]; exact hE.box d230 _
      replace hbw : Below w.heap.size w v4 := by rw [hw]; exact (Below.setCell hbw (by have h := HS.out; (try dsimp only); omega) _)
      replace hacc : Below wz.heap.size wz v4 := by rw [hw]; exact (Below.setCell hacc (by have h := HS.out; (try dsimp only); omega) _)
      replace zz : s + 5 ≤ v4.heap.size := by rw [hw]; simpa using zz
      clear hw
      clear d230 d230f
      clear hS
      (try simp only [Act.put, zA, zB, zC])
      iterate 1 (refine seqE_free (v := ?_) rfl (by rfl) ?_ ?_; rotate_left; (focus (intro w; go_simp; try with_reducible rfl)); (try simp only [Act.put, zA, zB, zC]))
      refine seqE_nil ?_
      intro wz hS
      replace hs := hs.up hS; replace hC := hC.mono hS; replace hE := hE.mono hS; replace hbw := btr hbw hS; replace zz := Nat.le_trans zz (Below.size hS); replace hacc := btr hacc hS; clear hS
      obtain ⟨⟨d230, d230f⟩, -⟩ := id hs
      go_wp2_with fail
      go_meet
      exact ⟨_, _, _, rfl, rfl, d230, hE, oE, FE.out, hacc⟩
     refine seqE_move rfl (by rfl) ?_ seqE_stop
     intro w5 hS
     refine ⟨.pointer (some ⟨w5.heap.size, 0, none⟩), w5.alloc (.cells #[.slice none 0 0] 27), (by go_simp; try with_reducible rfl), ?_⟩
     obtain ⟨b23, hb23⟩ : ∃ b, b = w5.heap.size := ⟨_, rfl⟩
     obtain ⟨v5, hw5⟩ : ∃ zW, zW = w5.alloc (.cells #[.slice none 0 0] 27) := ⟨_, rfl⟩
     rw [← hw5, ← hb23]
     have hbl : Below w5.heap.size w5 v5 := by rw [hw5]; go_grown
     have hge23 : s + 5 ≤ b23 := by rw [hb23]; exact Nat.le_trans zz hS.size
     have hga23 : wz.heap.size ≤ b23 := by rw [hb23]; exact Nat.le_trans hacc.size hS.size
     refine ⟨(fun x => Below v5.heap.size v5 x), Below.refl _ _, fun x hx => btr (btr hS hbl) hx, ?_⟩
     have hX := btr hS hbl
     replace hC := hC.mono hX; replace hbw := btr hbw hX; replace zz := Nat.le_trans zz (Below.size hX); replace hacc := btr hacc hX
     have hs : Cells v5 [(b23, 0, .slice none 0 0)] := ⟨⟨by rw [hw5, hb23]; go_cell, by rw [hw5, hb23]; go_cell⟩, trivial⟩
     clear hX hS hbl hw5 hb23
     (try simp only [Act.put, zA, zB, zC])
     refine seqE_callB (f := ?_) (args := ?_) rfl (by rfl) ?_ ?_ seqE_stop
     rotate_left 2
     focus (intro w hS; go_simp; first | done | with_reducible rfl | (refine ⟨?_, ?_⟩ <;> with_reducible rfl))
     intro w6 hS
     refine (ror_fr (hC.mono hS) (by omega) (by omega) (by omega) HOP.out).mono ?_
     rintro e v6 ⟨pd, cd, rfl, hE, hbl, frE⟩
     refine ⟨_, rfl, (fun x => Below v6.heap.size v6 x), Below.refl _ _, ?_⟩
     have hXw := Nat.le_trans zz hS.size; have hXa := Nat.le_trans hacc.size hS.size
     have hX := btr hS hbl
     replace hs := hs.up hX; replace hC := hC.mono hX; replace hbw := btr hbw hX; replace zz := Nat.le_trans zz (Below.size hX); replace hacc := btr hacc hX
     have oE : Off s 5 pd := Off.fresh frE oC hXw
     have FE := Lib.hid (Fresh.trans FC.out frE (by have h := HS.out; have h2 := hXw; omega))
     clear frE
     clear hX hS hbl hXw hXa
     (try simp only [Act.put, zA, zB, zC])
     iterate 3 (refine seqE_free (v := ?_) rfl (by rfl) ?_ ?_; rotate_left; (focus (intro w; go_simp; try with_reducible rfl)); (try simp only [Act.put, zA, zB, zC]))
     refine seqE_storeB rfl (by rfl) ?_ seqE_stop
     intro w7 hS
     replace hs := hs.up hS; replace hC := hC.mono hS; replace hE := hE.mono hS; replace hbw := btr hbw hS; replace zz := Nat.le_trans zz (Below.size hS); replace hacc := btr hacc hS
     obtain ⟨⟨d230, d230f⟩, -⟩ := id hs
     refine ⟨(w7.setCell ⟨b23, 0, none⟩ (.slice pd dd.length cd)), (by go_simp; try with_reducible rfl), (fun x => Below ((w7.setCell ⟨b23, 0, none⟩ (.slice pd dd.length cd))).heap.size ((w7.setCell ⟨b23, 0, none⟩ (.slice pd dd.length cd))) x), Below.refl _ _, ?_⟩
     obtain ⟨v7, hw⟩ : ∃ zW, zW = (w7.setCell ⟨b23, 0, none⟩ (.slice pd dd.length cd)) := ⟨_, rfl⟩
     rw [← hw]
     replace hs : Cells v7 [(b23, 0, .slice pd dd.length cd)] := by rw [hw]; exact ⟨⟨by go_cell, (fz d230f)⟩, trivial⟩
     replace hC : CAt v7 pc cc D := by rw [hw]; exact hC.box d230 _
     replace hE : CAt v7 pd cd dd := by rw [hw]; exact hE.box d230 _
     replace hbw : Below w.heap.size w v7 := by rw [hw]; exact (Below.setCell hbw (by have h := HS.out; (try dsimp only); omega) _)
     replace hacc : Below wz.heap.size wz v7 := by rw [hw]; exact (Below.setCell hacc (by have h := HS.out; (try dsimp only); omega) _)
     replace zz : s + 5 ≤ v7.heap.size := by rw [hw]; simpa using zz
     clear hw
     clear d230 d230f
     clear hS
     (try simp only [Act.put, zA, zB, zC])
     iterate 1 (refine seqE_free (v := ?_) rfl (by rfl) ?_ ?_; rotate_left; (focus (intro w; go_simp; try with_reducible rfl)); (try simp only [Act.put, zA, zB, zC]))
     refine seqE_nil ?_
     intro wz hS
     replace hs := hs.up hS; replace hC := hC.mono hS; replace hE := hE.mono hS; replace hbw := btr hbw hS; replace zz := Nat.le_trans zz (Below.size hS); replace hacc := btr hacc hS; clear hS
     obtain ⟨⟨d230, d230f⟩, -⟩ := id hs
     go_wp2_with fail
     go_meet
     exact ⟨_, _, _, rfl, rfl, d230, hE, oE, FE.out, hacc⟩
    refine seqE_move rfl (by rfl) ?_ seqE_stop
    intro w8 hS
    refine ⟨.pointer (some ⟨w8.heap.size, 0, none⟩), w8.alloc (.cells #[.slice none 0 0] 27), (by go_simp; try with_reducible rfl), ?_⟩
    obtain ⟨b23, hb23⟩ : ∃ b, b = w8.heap.size := ⟨_, rfl⟩
    obtain ⟨v8, hw8⟩ : ∃ zW, zW = w8.alloc (.cells #[.slice none 0 0] 27) := ⟨_, rfl⟩
    rw [← hw8, ← hb23]
    have hbl : Below w8.heap.size w8 v8 := by rw [hw8]; go_grown
    have hge23 : s + 5 ≤ b23 := by rw [hb23]; exact Nat.le_trans zz hS.size
    have hga23 : wz.heap.size ≤ b23 := by rw [hb23]; exact Nat.le_trans hacc.size hS.size
    refine ⟨(fun x => Below v8.heap.size v8 x), Below.refl _ _, fun x hx => btr (btr hS hbl) hx, ?_⟩
    have hX := btr hS hbl
    replace hC := hC.mono hX; replace hbw := btr hbw hX; replace zz := Nat.le_trans zz (Below.size hX); replace hacc := btr hacc hX
    have hs : Cells v8 [(b23, 0, .slice none 0 0)] := ⟨⟨by rw [hw8, hb23]; go_cell, by rw [hw8, hb23]; go_cell⟩, trivial⟩
    clear hX hS hbl hw8 hb23
    (try simp only [Act.put, zA, zB, zC])
    refine seqE_keep (v := .int .i64 Q1) (f := ?_) (args := ?_) rfl (by rfl) ?_ ?_ ?_ seqE_stop
    rotate_left 2
    focus (intro w hS; go_simp; first | done | with_reducible rfl | (refine ⟨?_, ?_⟩ <;> with_reducible rfl))
    focus (intro w hS; refine (at_is (HD.out.up (btr hbw hS)) (by omega) HQ1.out).mono ?_; rintro e w2 ⟨rfl, hbl⟩; exact ⟨rfl, btr hS hbl⟩)
    (try simp only [Act.put, zA, zB, zC])
    refine seqE_callB (f := ?_) (args := ?_) rfl (by rfl) ?_ ?_ seqE_stop
    rotate_left 2
    focus (intro w hS; go_simp; first | done | with_reducible rfl | (refine ⟨?_, ?_⟩ <;> with_reducible rfl))
    intro w10 hS
    refine (ror_fr (hC.mono hS) (by omega) (by omega) (by omega) HOP.out).mono ?_
    rintro e v10 ⟨pd, cd, rfl, hE, hbl, frE⟩
    refine ⟨_, rfl, (fun x => Below v10.heap.size v10 x), Below.refl _ _, ?_⟩
    have hXw := Nat.le_trans zz hS.size; have hXa := Nat.le_trans hacc.size hS.size
    have hX := btr hS hbl
    replace hs := hs.up hX; replace hC := hC.mono hX; replace hbw := btr hbw hX; replace zz := Nat.le_trans zz (Below.size hX); replace hacc := btr hacc hX
    have oE : Off s 5 pd := Off.fresh frE oC hXw
    have FE := Lib.hid (Fresh.trans FC.out frE (by have h := HS.out; have h2 := hXw; omega))
    clear frE
    clear hX hS hbl hXw hXa
    (try simp only [Act.put, zA, zB, zC])
    iterate 3 (refine seqE_free (v := ?_) rfl (by rfl) ?_ ?_; rotate_left; (focus (intro w; go_simp; try with_reducible rfl)); (try simp only [Act.put, zA, zB, zC]))
    refine seqE_storeB rfl (by rfl) ?_ seqE_stop
    intro w11 hS
    replace hs := hs.up hS; replace hC := hC.mono hS; replace hE := hE.mono hS; replace hbw := btr hbw hS; replace zz := Nat.le_trans zz (Below.size hS); replace hacc := btr hacc hS
    obtain ⟨⟨d230, d230f⟩, -⟩ := id hs
    refine ⟨(w11.setCell ⟨b23, 0, none⟩ (.slice pd dd.length cd)), (by go_simp; try with_reducible rfl), (fun x => Below ((w11.setCell ⟨b23, 0, none⟩ (.slice pd dd.length cd))).heap.size ((w11.setCell ⟨b23, 0, none⟩ (.slice pd dd.length cd))) x), Below.refl _ _, ?_⟩
    obtain ⟨v11, hw⟩ : ∃ zW, zW = (w11.setCell ⟨b23, 0, none⟩ (.slice pd dd.length cd)) := ⟨_, rfl⟩
    rw [← hw]
    replace hs : Cells v11 [(b23, 0, .slice pd dd.length cd)] := by rw [hw]; exact ⟨⟨by go_cell, (fz d230f)⟩, trivial⟩
    replace hC : CAt v11 pc cc D := by rw [hw]; exact hC.box d230 _
    replace hE : CAt v11 pd cd dd := by rw [hw]; exact hE.box d230 _
    replace hbw : Below w.heap.size w v11 := by rw [hw]; exact (Below.setCell hbw (by have h := HS.out; (try dsimp only); omega) _)
    replace hacc : Below wz.heap.size wz v11 := by rw [hw]; exact (Below.setCell hacc (by have h := HS.out; (try dsimp only); omega) _)
    replace zz : s + 5 ≤ v11.heap.size := by rw [hw]; simpa using zz
    clear hw
    clear d230 d230f
    clear hS
    (try simp only [Act.put, zA, zB, zC])
    iterate 1 (refine seqE_free (v := ?_) rfl (by rfl) ?_ ?_; rotate_left; (focus (intro w; go_simp; try with_reducible rfl)); (try simp only [Act.put, zA, zB, zC]))
    refine seqE_nil ?_
    intro wz hS
    replace hs := hs.up hS; replace hC := hC.mono hS; replace hE := hE.mono hS; replace hbw := btr hbw hS; replace zz := Nat.le_trans zz (Below.size hS); replace hacc := btr hacc hS; clear hS
    obtain ⟨⟨d230, d230f⟩, -⟩ := id hs
    go_wp2_with fail
    go_meet
    exact ⟨_, _, _, rfl, rfl, d230, hE, oE, FE.out, hacc⟩
  obtain ⟨bd, pd, cd, rfl, rfl, e0, hE, oE, frE, hst⟩ := hcut
  replace hs := hs.up hst; replace hk := hk.up hst; replace hQ := hQ.up hst; replace hL := hL.up hst; replace hC := hC.mono hst; replace hM := hM.up hst; replace hbw := btr hbw hst; replace zz := Nat.le_trans zz (Below.size hst); replace j0 := zD hst j0; have FE := Lib.hid frE; clear hst frE
  clear d170 d170f d171 d171f y00 y00f y10 y10f y11 y11f y20 y20f y21 y21f y30 y30f y40 y40f y41 y41f
  obtain ⟨⟨d170, d170f⟩, ⟨d171, d171f⟩, ⟨y00, y00f⟩, -⟩ := id hs
  obtain ⟨⟨y10, y10f⟩, ⟨y11, y11f⟩, ⟨y20, y20f⟩, ⟨y21, y21f⟩, ⟨y30, y30f⟩, ⟨y40, y40f⟩, ⟨y41, y41f⟩, -⟩ := id hk
  go_upto_region 27 with fail
  obtain ⟨wv, hw⟩ : ∃ zW, zW = (wc.setCell ⟨s, 0, none⟩ (.slice pd dd.length cd)) := ⟨_, rfl⟩
  rw [← hw]
  replace hs : Cells wv [(b17, 0, .int .i64 ar1), (b17, 1, .slice pm M.length cm), (s, 0, .slice pd dd.length cd)] := by rw [hw]; exact ⟨⟨by go_cell, (fz d170f)⟩, ⟨by go_cell, (fz d171f)⟩, ⟨by go_cell, (fz y00f)⟩, trivial⟩
  replace hk : Cells wv [(s + 1, 0, .int .i64 ar1), (s + 1, 1, .slice pa a.length ca), (s + 2, 0, .int .i64 ar2), (s + 2, 1, .slice pb b.length cb), (s + 3, 0, .slice none 0 0), (s + 4, 0, .int .i64 0), (s + 4, 1, .slice none 0 0)] := by rw [hw]; exact (hk.far (by simp <;> omega))
  replace hQ : SI wv qd cqd ds := by rw [hw]; exact (hQ.set (oQ.ne (by omega) (by omega)) _)
  replace hL : SI wv (some ⟨bq, oq, none⟩) cql (mranks a b) := by rw [hw]; exact (hL.set (oL.ne (by omega) (by omega)) _)
  replace hM : MxAt wv pm cm M := by rw [hw]; exact hM.box y00 _
  replace hE : CAt wv pd cd dd := by rw [hw]; exact hE.box y00 _
  replace j0 : wv.cell? ⟨bq, oq + J, none⟩ = some (.int .i64 r) := by rw [hw]; exact (keep_far j0 (by first | omega | (dsimp only; omega)))
  replace hbw : Below w.heap.size w wv := by rw [hw]; exact (Below.setCell hbw (by have h := HS.out; (try dsimp only); omega) _)
  replace zz : s + 5 ≤ wv.heap.size := by rw [hw]; simpa using zz
  clear hw
  clear d170 d170f d171 d171f y00 y00f y10 y10f y11 y11f y20 y20f y21 y21f y30 y30f y40 y40f y41 y41f
  clear e0
  obtain ⟨⟨d170, d170f⟩, ⟨d171, d171f⟩, ⟨y00, y00f⟩, -⟩ := id hs
  obtain ⟨⟨y10, y10f⟩, ⟨y11, y11f⟩, ⟨y20, y20f⟩, ⟨y21, y21f⟩, ⟨y30, y30f⟩, ⟨y40, y40f⟩, ⟨y41, y41f⟩, -⟩ := id hk
  clear d170 d170f d171 d171f y00 y00f y10 y10f y11 y11f y20 y20f y21 y21f y30 y30f y40 y40f y41 y41f
  refine wp_region_seqE (fun x => Below wv.heap.size wv x) (.one 0 0 (.one 1 1 (.one 2 1 (.one 3 1 (.one 4 0 (.one 5 1 (.alt 6 3 (.alt 7 3 .nil .stop) .stop))))))) (by kernel_rfl) (by kernel_rfl) (by kernel_rfl) (Below.drew (Below.refl _ _)) ?_
  iterate 6 ((first | (refine seqE_free (v := ?_) rfl (by rfl) ?_ ?_; rotate_left; (focus (intro w; go_simp; try with_reducible rfl))) | (refine seqE_pure (v := ?_) rfl (by rfl) ?_ ?_; rotate_left; (focus (intro w hS; obtain ⟨⟨d170, -⟩, ⟨d171, -⟩, -⟩ := hs.up hS; have j0 := zD hS j0; go_simp; try with_reducible rfl)))); (try simp only [Act.put, zA, zB, zC]))
  refine seqE_callB (f := ?_) (args := ?_) rfl (by rfl) ?_ ?_ seqE_stop
  rotate_left 2
  focus (intro w hS; go_simp; first | done | with_reducible rfl | (refine ⟨?_, ?_⟩ <;> with_reducible rfl))
  intro w1 hS
  refine (with_is (hM.up hS) (by omega) HM2.out).mono ?_
  rintro e v1 ⟨pn, cn, rfl, hN, hbl, frN⟩
  refine ⟨_, rfl, (fun x => Below v1.heap.size v1 x), Below.refl _ _, ?_⟩
  have hXw := Nat.le_trans zz hS.size
  have hX := btr hS hbl; replace j0 := zD hX j0
  replace hs := hs.up hX; replace hk := hk.up hX; replace hQ := hQ.up hX; replace hL := hL.up hX; replace hM := hM.up hX; replace hE := hE.mono hX; replace hbw := btr hbw hX; replace zz := Nat.le_trans zz (Below.size hX)
  have oN : Off s 5 pn := Off.fresh frN oM hXw
  have FN := Lib.hid (Fresh.trans FM.out frN (by have h := HS.out; have h2 := hXw; omega))
  clear frN
  clear hX hS hbl hXw
  (try simp only [Act.put, zA, zB, zC])
  refine seqE_storeB rfl (by rfl) ?_ seqE_stop
  intro w2 hS; replace j0 := zD hS j0
  replace hs := hs.up hS; replace hk := hk.up hS; replace hQ := hQ.up hS; replace hL := hL.up hS; replace hM := hM.up hS; replace hE := hE.mono hS; replace hN := hN.up hS; replace hbw := btr hbw hS; replace zz := Nat.le_trans zz (Below.size hS)
  obtain ⟨⟨d170, d170f⟩, ⟨d171, d171f⟩, ⟨y00, y00f⟩, -⟩ := id hs
  obtain ⟨⟨y10, y10f⟩, ⟨y11, y11f⟩, ⟨y20, y20f⟩, ⟨y21, y21f⟩, ⟨y30, y30f⟩, ⟨y40, y40f⟩, ⟨y41, y41f⟩, -⟩ := id hk
  refine ⟨((w2.setCell ⟨b17, 0, none⟩ (.int .i64 ar1)).setCell ⟨b17, 1, none⟩ (.slice pn M2.length cn)), (by go_simp; try with_reducible rfl), (fun x => Below (((w2.setCell ⟨b17, 0, none⟩ (.int .i64 ar1)).setCell ⟨b17, 1, none⟩ (.slice pn M2.length cn))).heap.size (((w2.setCell ⟨b17, 0, none⟩ (.int .i64 ar1)).setCell ⟨b17, 1, none⟩ (.slice pn M2.length cn))) x), Below.refl _ _, ?_⟩
  obtain ⟨v2, hw⟩ : ∃ zW, zW = ((w2.setCell ⟨b17, 0, none⟩ (.int .i64 ar1)).setCell ⟨b17, 1, none⟩ (.slice pn M2.length cn)) := ⟨_, rfl⟩
  rw [← hw]
  replace hs : Cells v2 [(b17, 0, .int .i64 ar1), (b17, 1, .slice pn M2.length cn), (s, 0, .slice pd dd.length cd)] := by rw [hw]; exact ⟨⟨by go_cell, (fz (fz d170f))⟩, ⟨by go_cell, (fz (fz d171f))⟩, ⟨by go_cell, (fz (fz y00f))⟩, trivial⟩
  replace hk : Cells v2 [(s + 1, 0, .int .i64 ar1), (s + 1, 1, .slice pa a.length ca), (s + 2, 0, .int .i64 ar2), (s + 2, 1, .slice pb b.length cb), (s + 3, 0, .slice none 0 0), (s + 4, 0, .int .i64 0), (s + 4, 1, .slice none 0 0)] := by rw [hw]; exact ((hk.far (by simp <;> omega)).far (by simp <;> omega))
  replace hQ : SI v2 qd cqd ds := by rw [hw]; exact ((hQ.set ((fun a ha e => NQ.out a ha e.symm)) _).set ((fun a ha e => NQ.out a ha e.symm)) _)
  replace hL : SI v2 (some ⟨bq, oq, none⟩) cql (mranks a b) := by rw [hw]; exact ((hL.set ((fun a ha e => NL.out a ha e.symm)) _).set ((fun a ha e => NL.out a ha e.symm)) _)
  replace hM : MxAt v2 pm cm M := by rw [hw]; exact hM.boxM d171 _ _
  replace hE : CAt v2 pd cd dd := by rw [hw]; exact hE.boxM d171 _ _
  replace hN : MxAt v2 pn cn M2 := by rw [hw]; exact hN.boxM d171 _ _
  replace j0 : v2.cell? ⟨bq, oq + J, none⟩ = some (.int .i64 r) := by rw [hw]; exact (keep_far (keep_far j0 (by first | omega | (dsimp only; omega))) (by first | omega | (dsimp only; omega)))
  replace hbw : Below w.heap.size w v2 := by rw [hw]; exact (Below.setCell (Below.setCell hbw (by have h := HS.out; (try dsimp only); omega) _) (by have h := HS.out; (try dsimp only); omega) _)
  replace zz : s + 5 ≤ v2.heap.size := by rw [hw]; simpa using zz
  clear hw
  clear d170 d170f d171 d171f y00 y00f y10 y10f y11 y11f y20 y20f y21 y21f y30 y30f y40 y40f y41 y41f
  clear hS
  (try simp only [Act.put, zA, zB, zC])
  refine seqE_nil ?_
  intro wz hS; replace j0 := zD hS j0
  replace hs := hs.up hS; replace hk := hk.up hS; replace hQ := hQ.up hS; replace hL := hL.up hS; replace hM := hM.up hS; replace hE := hE.mono hS; replace hN := hN.up hS; replace hbw := btr hbw hS; replace zz := Nat.le_trans zz (Below.size hS); clear hS
  go_wp2_with fail
  go_roundg ((mranks a b).length - (J + 1))
  case measure => (have := HN3.out; omega)
  case rel => exact ⟨J + 1, dd, M2, pd, cd, pn, cn, by go_num, by omega, rfl, HNEW.out, oE, oN, FE.out, FN.out, hs, hk, hQ, hL, hE, hN, hbw, zz⟩
 have hp1b : (P1 == 1) = false := (beq_eq_false_iff_ne (α := Int)).2 hp1
 have hp1n : (P1 != 1) = true := by rw [bne, hp1b]; rfl
 obtain ⟨i, rfl⟩ : ∃ i : Nat, Q = (i : Int) := ⟨Q.toNat, by omega⟩
 have hiL : i < ds.length := by have := HDL.out; omega
 obtain ⟨dv, hdv⟩ : ∃ z, ds[i]? = some z := ⟨_, List.getElem?_eq_getElem hiL⟩
 obtain ⟨bx, ox, rfl, hbx, jd⟩ := int_cell hQ.at' hdv
 have hin := (IDS.out dv (List.mem_of_getElem? hdv)).up GCD.out
 obtain ⟨dd0, x0, hop0⟩ : ∃ dd x, cbut D P1 dv = (dd, x) := ⟨_, _, rfl⟩
 have hk1 := kept_one GD.out (by omega) hpi hin
 rw [if_neg hp1, hop0] at hk1
 obtain ⟨gk, ik, -⟩ := hk1
 dsimp only at gk ik
 have hgkl := gk.len
 have HOP0 := Lib.hid hop0
 have HSTK := Lib.hid (fun E x M2 (h1 : cor dd0 x0 Q1 = (E, x)) (h2 : put M r x = M2) => HST.out (dd0, x0) E x M2 (by rw [if_neg hp1, Int.toNat_natCast, List.getD_eq_getElem?_getD, hdv]; exact hop0) h1 h2)
 have hin2 := hin.2; have hin1 := hin.1; have hik2 := ik.2
 have hn1 : cnot dv ≤ 9223372036854775807 := by unfold cnot; split <;> (try split) <;> omega
 have hLD2 := (show (i : Int) < (ds.length : Int) by omega)
 have hLD3 : i < LD := by omega
 have hLD4 : (i : Int) < (LD : Int) := by omega
 have hboD := oQ _ rfl
 have hbxd : bx ≠ b17 := NQ.out _ rfl
 dsimp only at hboD
 clear hop0 hdv gk ik hbx
 obtain ⟨⟨d170, d170f⟩, ⟨d171, d171f⟩, ⟨y00, y00f⟩, -⟩ := id hs
 obtain ⟨⟨y10, y10f⟩, ⟨y11, y11f⟩, ⟨y20, y20f⟩, ⟨y21, y21f⟩, ⟨y30, y30f⟩, ⟨y40, y40f⟩, ⟨y41, y41f⟩, -⟩ := id hk
 go_upto_region 22 with fail
 go_cut [21, 22] from 100 to 115 (fun s21 s22 wx => ∃ (bd : Nat) (pd : Option Addr) (cd : Nat), s21 = .pointer (some ⟨bd, 0, none⟩) ∧ s22 = .int .i64 x0 ∧ wx.cell? ⟨bd, 0, none⟩ = some (.slice pd dd0.length cd) ∧ CAt wx pd cd dd0 ∧ Off s 5 pd ∧ Fresh w p pd ∧ Below wz.heap.size wz wx)
 case first =>
  as_aux_lemma =>
   have hacc : Below wz.heap.size wz wz := Below.refl _ _
   clear d170 d170f d171 d171f y00 y00f y10 y10f y11 y11f y20 y20f y21 y21f y30 y30f y40 y40f y41 y41f
   obtain ⟨-, -, ⟨y00, y00f⟩, -⟩ := hs
   have hs : Cells wz [(s, 0, .slice pc D.length cc)] := ⟨⟨y00, y00f⟩, trivial⟩
   clear y00 y00f
   clear hk
   refine wp_region_seqE (fun x => Below wz.heap.size wz x) (.one 0 0 (.one 1 1 (.one 2 1 (.one 3 1 (.one 4 1 (.one 5 1 (.one 6 0 (.one 7 1 (.one 8 1 (.one 9 1 (.one 10 0 (.one 11 1 (.alt 12 3 (.one 13 1 (.one 14 1 (.one 15 1 (.alt 16 2 (.alt 17 3 (.one 18 1 .nil) .stop) .stop)))) (.alt 16 2 (.alt 12 3 (.one 13 1 (.one 14 1 (.one 15 1 (.alt 17 3 (.one 18 1 .nil) .stop)))) .stop) .stop)))))))))))))) (by kernel_rfl) (by kernel_rfl) (by kernel_rfl) (Below.drew (Below.refl _ _)) ?_
   iterate 11 ((first | (refine seqE_free (v := ?_) rfl (by rfl) ?_ ?_; rotate_left; (focus (intro w; go_simp; try with_reducible rfl))) | (refine seqE_pure (v := ?_) rfl (by rfl) ?_ ?_; rotate_left; (focus (intro w hS; obtain ⟨⟨y00, -⟩, -⟩ := hs.up hS; have j0 := zD hS j0; have jd := zD hS jd; go_simp; try with_reducible rfl)))); (try simp only [Act.put, zA, zB, zC]))
   refine seqE_fcall (v := .int .i64 (cnot dv)) (f := ?_) (args := ?_) rfl (by rfl) ?_ ?_ ?_
   rotate_left 2
   focus (intro w; go_simp; first | done | with_reducible rfl | (refine ⟨?_, ?_⟩ <;> with_reducible rfl))
   focus (intro w; exact rnot_any dv w (by omega))
   (try simp only [Act.put, zA, zB, zC])
   clear hs
   clear j0 jd
   refine seqE_callB (f := ?_) (args := ?_) rfl (by rfl) ?_ ?_ ?_
   rotate_left 2
   focus (intro w hS; go_simp; first | done | with_reducible rfl | (refine ⟨?_, ?_⟩ <;> with_reducible rfl))
   ·
    intro w1 hS
    refine (rand_fr (hC.mono hS) (by omega) hn1 (by omega) HOP0.out).mono ?_
    rintro e v1 ⟨pd0, cd0, rfl, hE0, hbl, frE⟩
    refine ⟨_, rfl, (fun x => Below v1.heap.size v1 x), Below.refl _ _, ?_⟩
    have hXw := Nat.le_trans zz hS.size; have hXa := Nat.le_trans hacc.size hS.size
    have hX := btr hS hbl
    replace hQ := hQ.up hX; replace hL := hL.up hX; replace hC := hC.mono hX; replace hbw := btr hbw hX; replace zz := Nat.le_trans zz (Below.size hX); replace hacc := btr hacc hX
    have oE0 : Off s 5 pd0 := Off.fresh frE oC hXw
    have FE0 := Lib.hid (Fresh.trans FC.out frE (by have h := HS.out; have h2 := hXw; omega))
    clear frE
    clear hX hS hbl hXw hXa
    (try simp only [Act.put, zA, zB, zC])
    iterate 3 (refine seqE_free (v := ?_) rfl (by rfl) ?_ ?_; rotate_left; (focus (intro w; go_simp; try with_reducible rfl)); (try simp only [Act.put, zA, zB, zC]))
    refine seqE_move rfl (by rfl) ?_ seqE_stop
    intro w2 hS
    refine ⟨.pointer (some ⟨w2.heap.size, 0, none⟩), w2.alloc (.cells #[.slice none 0 0] 27), (by go_simp; try with_reducible rfl), ?_⟩
    obtain ⟨b21, hb21⟩ : ∃ b, b = w2.heap.size := ⟨_, rfl⟩
    obtain ⟨v2, hw2⟩ : ∃ zW, zW = w2.alloc (.cells #[.slice none 0 0] 27) := ⟨_, rfl⟩
    rw [← hw2, ← hb21]
    have hbl : Below w2.heap.size w2 v2 := by rw [hw2]; go_grown
    have hge21 : s + 5 ≤ b21 := by rw [hb21]; exact Nat.le_trans zz hS.size
    have hga21 : wz.heap.size ≤ b21 := by rw [hb21]; exact Nat.le_trans hacc.size hS.size
    refine ⟨(fun x => Below v2.heap.size v2 x), Below.refl _ _, fun x hx => btr (btr hS hbl) hx, ?_⟩
    have hX := btr hS hbl
    replace hQ := hQ.up hX; replace hL := hL.up hX; replace hC := hC.mono hX; replace hE0 := hE0.mono hX; replace hbw := btr hbw hX; replace zz := Nat.le_trans zz (Below.size hX); replace hacc := btr hacc hX
    have hs : Cells v2 [(b21, 0, .slice none 0 0)] := ⟨⟨by rw [hw2, hb21]; go_cell, by rw [hw2, hb21]; go_cell⟩, trivial⟩
    clear hX hS hbl hw2 hb21
    (try simp only [Act.put, zA, zB, zC])
    refine seqE_storeB rfl (by rfl) ?_ seqE_stop
    intro w3 hS
    replace hs := hs.up hS; replace hQ := hQ.up hS; replace hL := hL.up hS; replace hC := hC.mono hS; replace hE0 := hE0.mono hS; replace hbw := btr hbw hS; replace zz := Nat.le_trans zz (Below.size hS); replace hacc := btr hacc hS
    obtain ⟨⟨d210, d210f⟩, -⟩ := id hs
    refine ⟨(w3.setCell ⟨b21, 0, none⟩ (.slice pd0 dd0.length cd0)), (by go_simp; try with_reducible rfl), (fun x => Below ((w3.setCell ⟨b21, 0, none⟩ (.slice pd0 dd0.length cd0))).heap.size ((w3.setCell ⟨b21, 0, none⟩ (.slice pd0 dd0.length cd0))) x), Below.refl _ _, ?_⟩
    obtain ⟨v3, hw⟩ : ∃ zW, zW = (w3.setCell ⟨b21, 0, none⟩ (.slice pd0 dd0.length cd0)) := ⟨_, rfl⟩
    rw [← hw]
    replace hs : Cells v3 [(b21, 0, .slice pd0 dd0.length cd0)] := by rw [hw]; exact ⟨⟨by go_cell, (fz d210f)⟩, trivial⟩
    replace hQ : SI v3 (some ⟨bx, ox, none⟩) cqd ds := by rw [hw]; exact hQ.box d210 _
    replace hL : SI v3 (some ⟨bq, oq, none⟩) cql (mranks a b) := by rw [hw]; exact hL.box d210 _
    replace hC : CAt v3 pc cc D := by rw [hw]; exact hC.box d210 _
    replace hE0 : CAt v3 pd0 cd0 dd0 := by rw [hw]; exact hE0.box d210 _
    replace hbw : Below w.heap.size w v3 := by rw [hw]; exact (Below.setCell hbw (by have h := HS.out; (try dsimp only); omega) _)
    replace hacc : Below wz.heap.size wz v3 := by rw [hw]; exact (Below.setCell hacc (by have h := HS.out; (try dsimp only); omega) _)
    replace zz : s + 5 ≤ v3.heap.size := by rw [hw]; simpa using zz
    clear hw
    clear d210 d210f
    clear hS
    (try simp only [Act.put, zA, zB, zC])
    iterate 1 (refine seqE_free (v := ?_) rfl (by rfl) ?_ ?_; rotate_left; (focus (intro w; go_simp; try with_reducible rfl)); (try simp only [Act.put, zA, zB, zC]))
    refine seqE_nil ?_
    intro wz hS
    replace hs := hs.up hS; replace hQ := hQ.up hS; replace hL := hL.up hS; replace hC := hC.mono hS; replace hE0 := hE0.mono hS; replace hbw := btr hbw hS; replace zz := Nat.le_trans zz (Below.size hS); replace hacc := btr hacc hS; clear hS
    obtain ⟨⟨d210, d210f⟩, -⟩ := id hs
    go_wp2_with fail
    go_meet
    exact ⟨_, _, _, rfl, rfl, d210, hE0, oE0, FE0.out, hacc⟩
   refine seqE_move rfl (by rfl) ?_ seqE_stop
   intro w4 hS
   refine ⟨.pointer (some ⟨w4.heap.size, 0, none⟩), w4.alloc (.cells #[.slice none 0 0] 27), (by go_simp; try with_reducible rfl), ?_⟩
   obtain ⟨b21, hb21⟩ : ∃ b, b = w4.heap.size := ⟨_, rfl⟩
   obtain ⟨v4, hw4⟩ : ∃ zW, zW = w4.alloc (.cells #[.slice none 0 0] 27) := ⟨_, rfl⟩
   rw [← hw4, ← hb21]
   have hbl : Below w4.heap.size w4 v4 := by rw [hw4]; go_grown
   have hge21 : s + 5 ≤ b21 := by rw [hb21]; exact Nat.le_trans zz hS.size
   have hga21 : wz.heap.size ≤ b21 := by rw [hb21]; exact Nat.le_trans hacc.size hS.size
   refine ⟨(fun x => Below v4.heap.size v4 x), Below.refl _ _, fun x hx => btr (btr hS hbl) hx, ?_⟩
   have hX := btr hS hbl
   replace hQ := hQ.up hX; replace hL := hL.up hX; replace hC := hC.mono hX; replace hbw := btr hbw hX; replace zz := Nat.le_trans zz (Below.size hX); replace hacc := btr hacc hX
   have hs : Cells v4 [(b21, 0, .slice none 0 0)] := ⟨⟨by rw [hw4, hb21]; go_cell, by rw [hw4, hb21]; go_cell⟩, trivial⟩
   clear hX hS hbl hw4 hb21
   (try simp only [Act.put, zA, zB, zC])
   refine seqE_callB (f := ?_) (args := ?_) rfl (by rfl) ?_ ?_ seqE_stop
   rotate_left 2
   focus (intro w hS; go_simp; first | done | with_reducible rfl | (refine ⟨?_, ?_⟩ <;> with_reducible rfl))
   intro w5 hS
   refine (rand_fr (hC.mono hS) (by omega) hn1 (by omega) HOP0.out).mono ?_
   rintro e v5 ⟨pd0, cd0, rfl, hE0, hbl, frE⟩
   refine ⟨_, rfl, (fun x => Below v5.heap.size v5 x), Below.refl _ _, ?_⟩
   have hXw := Nat.le_trans zz hS.size; have hXa := Nat.le_trans hacc.size hS.size
   have hX := btr hS hbl
   replace hs := hs.up hX; replace hQ := hQ.up hX; replace hL := hL.up hX; replace hC := hC.mono hX; replace hbw := btr hbw hX; replace zz := Nat.le_trans zz (Below.size hX); replace hacc := btr hacc hX
   have oE0 : Off s 5 pd0 := Off.fresh frE oC hXw
   have FE0 := Lib.hid (Fresh.trans FC.out frE (by have h := HS.out; have h2 := hXw; omega))
   clear frE
   clear hX hS hbl hXw hXa
   (try simp only [Act.put, zA, zB, zC])
   iterate 3 (refine seqE_free (v := ?_) rfl (by rfl) ?_ ?_; rotate_left; (focus (intro w; go_simp; try with_reducible rfl)); (try simp only [Act.put, zA, zB, zC]))
   refine seqE_storeB rfl (by rfl) ?_ seqE_stop
   intro w6 hS
   replace hs := hs.up hS; replace hQ := hQ.up hS; replace hL := hL.up hS; replace hC := hC.mono hS; replace hE0 := hE0.mono hS; replace hbw := btr hbw hS; replace zz := Nat.le_trans zz (Below.size hS); replace hacc := btr hacc hS
   obtain ⟨⟨d210, d210f⟩, -⟩ := id hs
   refine ⟨(w6.setCell ⟨b21, 0, none⟩ (.slice pd0 dd0.length cd0)), (by go_simp; try with_reducible rfl), (fun x => Below ((w6.setCell ⟨b21, 0, none⟩ (.slice pd0 dd0.length cd0))).heap.size ((w6.setCell ⟨b21, 0, none⟩ (.slice pd0 dd0.length cd0))) x), Below.refl _ _, ?_⟩
   obtain ⟨v6, hw⟩ : ∃ zW, zW = (w6.setCell ⟨b21, 0, none⟩ (.slice pd0 dd0.length cd0)) := ⟨_, rfl⟩
   rw [← hw]
   replace hs : Cells v6 [(b21, 0, .slice pd0 dd0.length cd0)] := by rw [hw]; exact ⟨⟨by go_cell, (fz d210f)⟩, trivial⟩
   replace hQ : SI v6 (some ⟨bx, ox, none⟩) cqd ds := by rw [hw]; exact hQ.box d210 _
   replace hL : SI v6 (some ⟨bq, oq, none⟩) cql (mranks a b) := by rw [hw]; exact hL.box d210 _
   replace hC : CAt v6 pc cc D := by rw [hw]; exact hC.box d210 _
   replace hE0 : CAt v6 pd0 cd0 dd0 := by rw [hw]; exact hE0.box d210 _
   replace hbw : Below w.heap.size w v6 := by rw [hw]; exact (Below.setCell hbw (by have h := HS.out; (try dsimp only); omega) _)
   replace hacc : Below wz.heap.size wz v6 := by rw [hw]; exact (Below.setCell hacc (by have h := HS.out; (try dsimp only); omega) _)
   replace zz : s + 5 ≤ v6.heap.size := by rw [hw]; simpa using zz
   clear hw
   clear d210 d210f
   clear hS
   (try simp only [Act.put, zA, zB, zC])
   iterate 1 (refine seqE_free (v := ?_) rfl (by rfl) ?_ ?_; rotate_left; (focus (intro w; go_simp; try with_reducible rfl)); (try simp only [Act.put, zA, zB, zC]))
   refine seqE_nil ?_
   intro wz hS
   replace hs := hs.up hS; replace hQ := hQ.up hS; replace hL := hL.up hS; replace hC := hC.mono hS; replace hE0 := hE0.mono hS; replace hbw := btr hbw hS; replace zz := Nat.le_trans zz (Below.size hS); replace hacc := btr hacc hS; clear hS
   obtain ⟨⟨d210, d210f⟩, -⟩ := id hs
   go_wp2_with fail
   go_meet
   exact ⟨_, _, _, rfl, rfl, d210, hE0, oE0, FE0.out, hacc⟩
 obtain ⟨bd0, pd0, cd0, rfl, rfl, e0, hE0, oE0, frE, hst⟩ := hcut
 replace hs := hs.up hst; replace hk := hk.up hst; replace hQ := hQ.up hst; replace hL := hL.up hst; replace hC := hC.mono hst; replace hM := hM.up hst; replace hbw := btr hbw hst; replace zz := Nat.le_trans zz (Below.size hst); replace j0 := zD hst j0; replace jd := zD hst jd; have FE0 := Lib.hid frE; clear hst frE
 clear d170 d170f d171 d171f y00 y00f y10 y10f y11 y11f y20 y20f y21 y21f y30 y30f y40 y40f y41 y41f
 obtain ⟨⟨d170, d170f⟩, ⟨d171, d171f⟩, ⟨y00, y00f⟩, -⟩ := id hs
 obtain ⟨⟨y10, y10f⟩, ⟨y11, y11f⟩, ⟨y20, y20f⟩, ⟨y21, y21f⟩, ⟨y30, y30f⟩, ⟨y40, y40f⟩, ⟨y41, y41f⟩, -⟩ := id hk
 go_upto_region 25 with fail
 obtain ⟨wu, hw⟩ : ∃ zW, zW = (wc.setCell ⟨s, 0, none⟩ (.slice pd0 dd0.length cd0)) := ⟨_, rfl⟩
 rw [← hw]
 replace hs : Cells wu [(b17, 0, .int .i64 ar1), (b17, 1, .slice pm M.length cm), (s, 0, .slice pd0 dd0.length cd0)] := by rw [hw]; exact ⟨⟨by go_cell, (fz d170f)⟩, ⟨by go_cell, (fz d171f)⟩, ⟨by go_cell, (fz y00f)⟩, trivial⟩
 replace hk : Cells wu [(s + 1, 0, .int .i64 ar1), (s + 1, 1, .slice pa a.length ca), (s + 2, 0, .int .i64 ar2), (s + 2, 1, .slice pb b.length cb), (s + 3, 0, .slice none 0 0), (s + 4, 0, .int .i64 0), (s + 4, 1, .slice none 0 0)] := by rw [hw]; exact (hk.far (by simp <;> omega))
 replace hQ : SI wu (some ⟨bx, ox, none⟩) cqd ds := by rw [hw]; exact (hQ.set (oQ.ne (by omega) (by omega)) _)
 replace hL : SI wu (some ⟨bq, oq, none⟩) cql (mranks a b) := by rw [hw]; exact (hL.set (oL.ne (by omega) (by omega)) _)
 replace hM : MxAt wu pm cm M := by rw [hw]; exact hM.box y00 _
 replace hE0 : CAt wu pd0 cd0 dd0 := by rw [hw]; exact hE0.box y00 _
 replace j0 : wu.cell? ⟨bq, oq + J, none⟩ = some (.int .i64 r) := by rw [hw]; exact (keep_far j0 (by first | omega | (dsimp only; omega)))
 replace jd : wu.cell? ⟨bx, ox + i, none⟩ = some (.int .i64 dv) := by rw [hw]; exact (keep_far jd (by first | omega | (dsimp only; omega)))
 replace hbw : Below w.heap.size w wu := by rw [hw]; exact (Below.setCell hbw (by have h := HS.out; (try dsimp only); omega) _)
 replace zz : s + 5 ≤ wu.heap.size := by rw [hw]; simpa using zz
 clear hw
 clear d170 d170f d171 d171f y00 y00f y10 y10f y11 y11f y20 y20f y21 y21f y30 y30f y40 y40f y41 y41f
 clear e0 jd
 obtain ⟨dd, x, hop⟩ : ∃ dd x, cor dd0 x0 Q1 = (dd, x) := ⟨_, _, rfl⟩
 obtain ⟨M2, hM2⟩ : ∃ m, put M r x = m := ⟨_, rfl⟩
 have HOP := Lib.hid hop; have HM2 := Lib.hid hM2
 have HNEW := Lib.hid (HSTK.out dd x M2 hop hM2)
 clear hop hM2
 obtain ⟨⟨d170, d170f⟩, ⟨d171, d171f⟩, ⟨y00, y00f⟩, -⟩ := id hs
 obtain ⟨⟨y10, y10f⟩, ⟨y11, y11f⟩, ⟨y20, y20f⟩, ⟨y21, y21f⟩, ⟨y30, y30f⟩, ⟨y40, y40f⟩, ⟨y41, y41f⟩, -⟩ := id hk
 go_upto_region 25 with fail
 go_cut [23, 24] from 118 to 129 (fun s23 s24 wx => ∃ (bd : Nat) (pd : Option Addr) (cd : Nat), s23 = .pointer (some ⟨bd, 0, none⟩) ∧ s24 = .int .i64 x ∧ wx.cell? ⟨bd, 0, none⟩ = some (.slice pd dd.length cd) ∧ CAt wx pd cd dd ∧ Off s 5 pd ∧ Fresh w p pd ∧ Below wu.heap.size wu wx)
 case first =>
  as_aux_lemma =>
   have hacc : Below wu.heap.size wu wu := Below.refl _ _
   clear d170 d170f d171 d171f y00 y00f y10 y10f y11 y11f y20 y20f y21 y21f y30 y30f y40 y40f y41 y41f
   obtain ⟨-, -, ⟨y00, y00f⟩, -⟩ := hs
   have hs : Cells wu [(s, 0, .slice pd0 dd0.length cd0)] := ⟨⟨y00, y00f⟩, trivial⟩
   clear y00 y00f
   refine wp_region_seqE (fun x => Below wu.heap.size wu x) (.one 0 0 (.one 1 1 (.one 2 0 (.one 3 1 (.one 4 1 (.one 5 1 (.one 6 0 (.alt 7 2 (.alt 8 3 (.one 9 1 (.one 10 1 (.one 11 1 (.alt 12 2 (.alt 13 3 (.one 14 1 .nil) .stop) .stop)))) (.alt 12 2 (.alt 8 3 (.one 9 1 (.one 10 1 (.one 11 1 (.alt 13 3 (.one 14 1 .nil) .stop)))) .stop) .stop)) (.alt 12 2 (.alt 7 2 (.alt 8 3 (.one 9 1 (.one 10 1 (.one 11 1 (.alt 13 3 (.one 14 1 .nil) .stop)))) .stop) .stop) .stop))))))))) (by kernel_rfl) (by kernel_rfl) (by kernel_rfl) (Below.drew (Below.refl _ _)) ?_
   iterate 7 ((first | (refine seqE_free (v := ?_) rfl (by rfl) ?_ ?_; rotate_left; (focus (intro w; go_simp; try with_reducible rfl))) | (refine seqE_pure (v := ?_) rfl (by rfl) ?_ ?_; rotate_left; (focus (intro w hS; obtain ⟨⟨y00, -⟩, -⟩ := hs.up hS; obtain ⟨-, -, ⟨y20, -⟩, ⟨y21, -⟩, -⟩ := hk.up hS; have j0 := zD hS j0; go_simp; try with_reducible rfl)))); (try simp only [Act.put, zA, zB, zC]))
   clear hs
   clear hk
   clear j0
   refine seqE_keep (v := .int .i64 Q1) (f := ?_) (args := ?_) rfl (by rfl) ?_ ?_ ?_ ?_
   rotate_left 2
   focus (intro w hS; go_simp; first | done | with_reducible rfl | (refine ⟨?_, ?_⟩ <;> with_reducible rfl))
   focus (intro w hS; refine (at_is (HD.out.up (btr hbw hS)) (by omega) HQ1.out).mono ?_; rintro e w2 ⟨rfl, hbl⟩; exact ⟨rfl, btr hS hbl⟩)
   ·
    (try simp only [Act.put, zA, zB, zC])
    refine seqE_callB (f := ?_) (args := ?_) rfl (by rfl) ?_ ?_ ?_
    rotate_left 2
    focus (intro w hS; go_simp; first | done | with_reducible rfl | (refine ⟨?_, ?_⟩ <;> with_reducible rfl))
    ·
     intro w2 hS
     refine (ror_fr (hE0.mono hS) (by omega) (by omega) (by omega) HOP.out).mono ?_
     rintro e v2 ⟨pd, cd, rfl, hE, hbl, frE⟩
     refine ⟨_, rfl, (fun x => Below v2.heap.size v2 x), Below.refl _ _, ?_⟩
     have hXw := Nat.le_trans zz hS.size; have hXa := Nat.le_trans hacc.size hS.size
     have hX := btr hS hbl
     replace hE0 := hE0.mono hX; replace hbw := btr hbw hX; replace zz := Nat.le_trans zz (Below.size hX); replace hacc := btr hacc hX
     have oE : Off s 5 pd := Off.fresh frE oE0 hXw
     have FE := Lib.hid (Fresh.trans FE0.out frE (by have h := HS.out; have h2 := hXw; omega))
     clear frE
     clear hX hS hbl hXw hXa
     (try simp only [Act.put, zA, zB, zC])
     iterate 3 (refine seqE_free (v := ?_) rfl (by rfl) ?_ ?_; rotate_left; (focus (intro w; go_simp; try with_reducible rfl)); (try simp only [Act.put, zA, zB, zC]))
     refine seqE_move rfl (by rfl) ?_ seqE_stop
     intro w3 hS
     refine ⟨.pointer (some ⟨w3.heap.size, 0, none⟩), w3.alloc (.cells #[.slice none 0 0] 27), (by go_simp; try with_reducible rfl), ?_⟩
     obtain ⟨b23, hb23⟩ : ∃ b, b = w3.heap.size := ⟨_, rfl⟩
     obtain ⟨v3, hw3⟩ : ∃ zW, zW = w3.alloc (.cells #[.slice none 0 0] 27) := ⟨_, rfl⟩
     rw [← hw3, ← hb23]
     have hbl : Below w3.heap.size w3 v3 := by rw [hw3]; go_grown
     have hge23 : s + 5 ≤ b23 := by rw [hb23]; exact Nat.le_trans zz hS.size
     have hga23 : wu.heap.size ≤ b23 := by rw [hb23]; exact Nat.le_trans hacc.size hS.size
     refine ⟨(fun x => Below v3.heap.size v3 x), Below.refl _ _, fun x hx => btr (btr hS hbl) hx, ?_⟩
     have hX := btr hS hbl
     replace hE0 := hE0.mono hX; replace hE := hE.mono hX; replace hbw := btr hbw hX; replace zz := Nat.le_trans zz (Below.size hX); replace hacc := btr hacc hX
     have hs : Cells v3 [(b23, 0, .slice none 0 0)] := ⟨⟨by rw [hw3, hb23]; go_cell, by rw [hw3, hb23]; go_cell⟩, trivial⟩
     clear hX hS hbl hw3 hb23
     (try simp only [Act.put, zA, zB, zC])
     refine seqE_storeB rfl (by rfl) ?_ seqE_stop
     intro w4 hS
     replace hs := hs.up hS; replace hE0 := hE0.mono hS; replace hE := hE.mono hS; replace hbw := btr hbw hS; replace zz := Nat.le_trans zz (Below.size hS); replace hacc := btr hacc hS
     obtain ⟨⟨d230, d230f⟩, -⟩ := id hs
     refine ⟨(w4.setCell ⟨b23, 0, none⟩ (.slice pd dd.length cd)), (by go_simp; try with_reducible rfl), (fun x => Below ((w4.setCell ⟨b23, 0, none⟩ (.slice pd dd.length cd))).heap.size ((w4.setCell ⟨b23, 0, none⟩ (.slice pd dd.length cd))) x), Below.refl _ _, ?_⟩
     obtain ⟨v4, hw⟩ : ∃ zW, zW = (w4.setCell ⟨b23, 0, none⟩ (.slice pd dd.length cd)) := ⟨_, rfl⟩
     rw [← hw]
     replace hs : Cells v4 [(b23, 0, .slice pd dd.length cd)] := by rw [hw]; exact ⟨⟨by go_cell, (fz d230f)⟩, trivial⟩
     replace hE0 : CAt v4 pd0 cd0 dd0 := by rw [hw]; exact hE0.box d230 _
     replace hE : CAt v4 pd cd dd := by rw [hw]; exact hE.box d230 _
     replace hbw : Below w.heap.size w v4 := by rw [hw]; exact (Below.setCell hbw (by have h := HS.out; (try dsimp only); omega) _)
     replace hacc : Below wu.heap.size wu v4 := by rw [hw]; exact (Below.setCell hacc (by have h := HS.out; (try dsimp only); omega) _)
     replace zz : s + 5 ≤ v4.heap.size := by rw [hw]; simpa using zz
     clear hw
     clear d230 d230f
     clear hS
     (try simp only [Act.put, zA, zB, zC])
     iterate 1 (refine seqE_free (v := ?_) rfl (by rfl) ?_ ?_; rotate_left; (focus (intro w; go_simp; try with_reducible rfl)); (try simp only [Act.put, zA, zB, zC]))
     refine seqE_nil ?_
     intro wz hS
     replace hs := hs.up hS; replace hE0 := hE0.mono hS; replace hE := hE.mono hS; replace hbw := btr hbw hS; replace zz := Nat.le_trans zz (Below.size hS); replace hacc := btr hacc hS; clear hS
     obtain ⟨⟨d230, d230f⟩, -⟩ := id hs
     go_wp2_with fail
     go_meet
     exact ⟨_, _, _, rfl, rfl, d230, hE, oE, FE.out, hacc⟩
    refine seqE_move rfl (by rfl) ?_ seqE_stop
    intro w5 hS
    refine ⟨.pointer (some ⟨w5.heap.size, 0, none⟩), w5.alloc (.cells #[.slice none 0 0] 27), (by go_simp; try with_reducible rfl), ?_⟩
    obtain ⟨b23, hb23⟩ : ∃ b, b = w5.heap.size := ⟨_, rfl⟩
    obtain ⟨v5, hw5⟩ : ∃ zW, zW = w5.alloc (.cells #[.slice none 0 0] 27) := ⟨_, rfl⟩
    rw [← hw5, ← hb23]
    have hbl : Below w5.heap.size w5 v5 := by rw [hw5]; go_grown
    have hge23 : s + 5 ≤ b23 := by rw [hb23]; exact Nat.le_trans zz hS.size
    have hga23 : wu.heap.size ≤ b23 := by rw [hb23]; exact Nat.le_trans hacc.size hS.size
    refine ⟨(fun x => Below v5.heap.size v5 x), Below.refl _ _, fun x hx => btr (btr hS hbl) hx, ?_⟩
    have hX := btr hS hbl
    replace hE0 := hE0.mono hX; replace hbw := btr hbw hX; replace zz := Nat.le_trans zz (Below.size hX); replace hacc := btr hacc hX
    have hs : Cells v5 [(b23, 0, .slice none 0 0)] := ⟨⟨by rw [hw5, hb23]; go_cell, by rw [hw5, hb23]; go_cell⟩, trivial⟩
    clear hX hS hbl hw5 hb23
    (try simp only [Act.put, zA, zB, zC])
    refine seqE_callB (f := ?_) (args := ?_) rfl (by rfl) ?_ ?_ seqE_stop
    rotate_left 2
    focus (intro w hS; go_simp; first | done | with_reducible rfl | (refine ⟨?_, ?_⟩ <;> with_reducible rfl))
    intro w6 hS
    refine (ror_fr (hE0.mono hS) (by omega) (by omega) (by omega) HOP.out).mono ?_
    rintro e v6 ⟨pd, cd, rfl, hE, hbl, frE⟩
    refine ⟨_, rfl, (fun x => Below v6.heap.size v6 x), Below.refl _ _, ?_⟩
    have hXw := Nat.le_trans zz hS.size; have hXa := Nat.le_trans hacc.size hS.size
    have hX := btr hS hbl
    replace hs := hs.up hX; replace hE0 := hE0.mono hX; replace hbw := btr hbw hX; replace zz := Nat.le_trans zz (Below.size hX); replace hacc := btr hacc hX
    have oE : Off s 5 pd := Off.fresh frE oE0 hXw
    have FE := Lib.hid (Fresh.trans FE0.out frE (by have h := HS.out; have h2 := hXw; omega))
    clear frE
    clear hX hS hbl hXw hXa
    (try simp only [Act.put, zA, zB, zC])
    iterate 3 (refine seqE_free (v := ?_) rfl (by rfl) ?_ ?_; rotate_left; (focus (intro w; go_simp; try with_reducible rfl)); (try simp only [Act.put, zA, zB, zC]))
    refine seqE_storeB rfl (by rfl) ?_ seqE_stop
    intro w7 hS
    replace hs := hs.up hS; replace hE0 := hE0.mono hS; replace hE := hE.mono hS; replace hbw := btr hbw hS; replace zz := Nat.le_trans zz (Below.size hS); replace hacc := btr hacc hS
    obtain ⟨⟨d230, d230f⟩, -⟩ := id hs
    refine ⟨(w7.setCell ⟨b23, 0, none⟩ (.slice pd dd.length cd)), (by go_simp; try with_reducible rfl), (fun x => Below ((w7.setCell ⟨b23, 0, none⟩ (.slice pd dd.length cd))).heap.size ((w7.setCell ⟨b23, 0, none⟩ (.slice pd dd.length cd))) x), Below.refl _ _, ?_⟩
    obtain ⟨v7, hw⟩ : ∃ zW, zW = (w7.setCell ⟨b23, 0, none⟩ (.slice pd dd.length cd)) := ⟨_, rfl⟩
    rw [← hw]
    replace hs : Cells v7 [(b23, 0, .slice pd dd.length cd)] := by rw [hw]; exact ⟨⟨by go_cell, (fz d230f)⟩, trivial⟩
    replace hE0 : CAt v7 pd0 cd0 dd0 := by rw [hw]; exact hE0.box d230 _
    replace hE : CAt v7 pd cd dd := by rw [hw]; exact hE.box d230 _
    replace hbw : Below w.heap.size w v7 := by rw [hw]; exact (Below.setCell hbw (by have h := HS.out; (try dsimp only); omega) _)
    replace hacc : Below wu.heap.size wu v7 := by rw [hw]; exact (Below.setCell hacc (by have h := HS.out; (try dsimp only); omega) _)
    replace zz : s + 5 ≤ v7.heap.size := by rw [hw]; simpa using zz
    clear hw
    clear d230 d230f
    clear hS
    (try simp only [Act.put, zA, zB, zC])
    iterate 1 (refine seqE_free (v := ?_) rfl (by rfl) ?_ ?_; rotate_left; (focus (intro w; go_simp; try with_reducible rfl)); (try simp only [Act.put, zA, zB, zC]))
    refine seqE_nil ?_
    intro wz hS
    replace hs := hs.up hS; replace hE0 := hE0.mono hS; replace hE := hE.mono hS; replace hbw := btr hbw hS; replace zz := Nat.le_trans zz (Below.size hS); replace hacc := btr hacc hS; clear hS
    obtain ⟨⟨d230, d230f⟩, -⟩ := id hs
    go_wp2_with fail
    go_meet
    exact ⟨_, _, _, rfl, rfl, d230, hE, oE, FE.out, hacc⟩
   refine seqE_move rfl (by rfl) ?_ seqE_stop
   intro w8 hS
   refine ⟨.pointer (some ⟨w8.heap.size, 0, none⟩), w8.alloc (.cells #[.slice none 0 0] 27), (by go_simp; try with_reducible rfl), ?_⟩
   obtain ⟨b23, hb23⟩ : ∃ b, b = w8.heap.size := ⟨_, rfl⟩
   obtain ⟨v8, hw8⟩ : ∃ zW, zW = w8.alloc (.cells #[.slice none 0 0] 27) := ⟨_, rfl⟩
   rw [← hw8, ← hb23]
   have hbl : Below w8.heap.size w8 v8 := by rw [hw8]; go_grown
   have hge23 : s + 5 ≤ b23 := by rw [hb23]; exact Nat.le_trans zz hS.size
   have hga23 : wu.heap.size ≤ b23 := by rw [hb23]; exact Nat.le_trans hacc.size hS.size
   refine ⟨(fun x => Below v8.heap.size v8 x), Below.refl _ _, fun x hx => btr (btr hS hbl) hx, ?_⟩
   have hX := btr hS hbl
   replace hE0 := hE0.mono hX; replace hbw := btr hbw hX; replace zz := Nat.le_trans zz (Below.size hX); replace hacc := btr hacc hX
   have hs : Cells v8 [(b23, 0, .slice none 0 0)] := ⟨⟨by rw [hw8, hb23]; go_cell, by rw [hw8, hb23]; go_cell⟩, trivial⟩
   clear hX hS hbl hw8 hb23
   (try simp only [Act.put, zA, zB, zC])
   refine seqE_keep (v := .int .i64 Q1) (f := ?_) (args := ?_) rfl (by rfl) ?_ ?_ ?_ seqE_stop
   rotate_left 2
   focus (intro w hS; go_simp; first | done | with_reducible rfl | (refine ⟨?_, ?_⟩ <;> with_reducible rfl))
   focus (intro w hS; refine (at_is (HD.out.up (btr hbw hS)) (by omega) HQ1.out).mono ?_; rintro e w2 ⟨rfl, hbl⟩; exact ⟨rfl, btr hS hbl⟩)
   (try simp only [Act.put, zA, zB, zC])
   refine seqE_callB (f := ?_) (args := ?_) rfl (by rfl) ?_ ?_ seqE_stop
   rotate_left 2
   focus (intro w hS; go_simp; first | done | with_reducible rfl | (refine ⟨?_, ?_⟩ <;> with_reducible rfl))
   intro w10 hS
   refine (ror_fr (hE0.mono hS) (by omega) (by omega) (by omega) HOP.out).mono ?_
   rintro e v10 ⟨pd, cd, rfl, hE, hbl, frE⟩
   refine ⟨_, rfl, (fun x => Below v10.heap.size v10 x), Below.refl _ _, ?_⟩
   have hXw := Nat.le_trans zz hS.size; have hXa := Nat.le_trans hacc.size hS.size
   have hX := btr hS hbl
   replace hs := hs.up hX; replace hE0 := hE0.mono hX; replace hbw := btr hbw hX; replace zz := Nat.le_trans zz (Below.size hX); replace hacc := btr hacc hX
   have oE : Off s 5 pd := Off.fresh frE oE0 hXw
   have FE := Lib.hid (Fresh.trans FE0.out frE (by have h := HS.out; have h2 := hXw; omega))
   clear frE
   clear hX hS hbl hXw hXa
   (try simp only [Act.put, zA, zB, zC])
   iterate 3 (refine seqE_free (v := ?_) rfl (by rfl) ?_ ?_; rotate_left; (focus (intro w; go_simp; try with_reducible rfl)); (try simp only [Act.put, zA, zB, zC]))
   refine seqE_storeB rfl (by rfl) ?_ seqE_stop
   intro w11 hS
   replace hs := hs.up hS; replace hE0 := hE0.mono hS; replace hE := hE.mono hS; replace hbw := btr hbw hS; replace zz := Nat.le_trans zz (Below.size hS); replace hacc := btr hacc hS
   obtain ⟨⟨d230, d230f⟩, -⟩ := id hs
   refine ⟨(w11.setCell ⟨b23, 0, none⟩ (.slice pd dd.length cd)), (by go_simp; try with_reducible rfl), (fun x => Below ((w11.setCell ⟨b23, 0, none⟩ (.slice pd dd.length cd))).heap.size ((w11.setCell ⟨b23, 0, none⟩ (.slice pd dd.length cd))) x), Below.refl _ _, ?_⟩
   obtain ⟨v11, hw⟩ : ∃ zW, zW = (w11.setCell ⟨b23, 0, none⟩ (.slice pd dd.length cd)) := ⟨_, rfl⟩
   rw [← hw]
   replace hs : Cells v11 [(b23, 0, .slice pd dd.length cd)] := by rw [hw]; exact ⟨⟨by go_cell, (fz d230f)⟩, trivial⟩
   replace hE0 : CAt v11 pd0 cd0 dd0 := by rw [hw]; exact hE0.box d230 _
   replace hE : CAt v11 pd cd dd := by rw [hw]; exact hE.box d230 _
   replace hbw : Below w.heap.size w v11 := by rw [hw]; exact (Below.setCell hbw (by have h := HS.out; (try dsimp only); omega) _)
   replace hacc : Below wu.heap.size wu v11 := by rw [hw]; exact (Below.setCell hacc (by have h := HS.out; (try dsimp only); omega) _)
   replace zz : s + 5 ≤ v11.heap.size := by rw [hw]; simpa using zz
   clear hw
   clear d230 d230f
   clear hS
   (try simp only [Act.put, zA, zB, zC])
   iterate 1 (refine seqE_free (v := ?_) rfl (by rfl) ?_ ?_; rotate_left; (focus (intro w; go_simp; try with_reducible rfl)); (try simp only [Act.put, zA, zB, zC]))
   refine seqE_nil ?_
   intro wz hS
   replace hs := hs.up hS; replace hE0 := hE0.mono hS; replace hE := hE.mono hS; replace hbw := btr hbw hS; replace zz := Nat.le_trans zz (Below.size hS); replace hacc := btr hacc hS; clear hS
   obtain ⟨⟨d230, d230f⟩, -⟩ := id hs
   go_wp2_with fail
   go_meet
   exact ⟨_, _, _, rfl, rfl, d230, hE, oE, FE.out, hacc⟩
 obtain ⟨bd, pd, cd, rfl, rfl, e0, hE, oE, frE, hst⟩ := hcut
 replace hs := hs.up hst; replace hk := hk.up hst; replace hQ := hQ.up hst; replace hL := hL.up hst; replace hM := hM.up hst; replace hE0 := hE0.mono hst; replace hbw := btr hbw hst; replace zz := Nat.le_trans zz (Below.size hst); replace j0 := zD hst j0; have FE := Lib.hid frE; clear hst frE
 clear d170 d170f d171 d171f y00 y00f y10 y10f y11 y11f y20 y20f y21 y21f y30 y30f y40 y40f y41 y41f
 obtain ⟨⟨d170, d170f⟩, ⟨d171, d171f⟩, ⟨y00, y00f⟩, -⟩ := id hs
 obtain ⟨⟨y10, y10f⟩, ⟨y11, y11f⟩, ⟨y20, y20f⟩, ⟨y21, y21f⟩, ⟨y30, y30f⟩, ⟨y40, y40f⟩, ⟨y41, y41f⟩, -⟩ := id hk
 go_upto_region 27 with fail
 obtain ⟨wv, hw⟩ : ∃ zW, zW = (wc.setCell ⟨s, 0, none⟩ (.slice pd dd.length cd)) := ⟨_, rfl⟩
 rw [← hw]
 replace hs : Cells wv [(b17, 0, .int .i64 ar1), (b17, 1, .slice pm M.length cm), (s, 0, .slice pd dd.length cd)] := by rw [hw]; exact ⟨⟨by go_cell, (fz d170f)⟩, ⟨by go_cell, (fz d171f)⟩, ⟨by go_cell, (fz y00f)⟩, trivial⟩
 replace hk : Cells wv [(s + 1, 0, .int .i64 ar1), (s + 1, 1, .slice pa a.length ca), (s + 2, 0, .int .i64 ar2), (s + 2, 1, .slice pb b.length cb), (s + 3, 0, .slice none 0 0), (s + 4, 0, .int .i64 0), (s + 4, 1, .slice none 0 0)] := by rw [hw]; exact (hk.far (by simp <;> omega))
 replace hQ : SI wv (some ⟨bx, ox, none⟩) cqd ds := by rw [hw]; exact (hQ.set (oQ.ne (by omega) (by omega)) _)
 replace hL : SI wv (some ⟨bq, oq, none⟩) cql (mranks a b) := by rw [hw]; exact (hL.set (oL.ne (by omega) (by omega)) _)
 replace hM : MxAt wv pm cm M := by rw [hw]; exact hM.box y00 _
 replace hE : CAt wv pd cd dd := by rw [hw]; exact hE.box y00 _
 replace j0 : wv.cell? ⟨bq, oq + J, none⟩ = some (.int .i64 r) := by rw [hw]; exact (keep_far j0 (by first | omega | (dsimp only; omega)))
 replace hbw : Below w.heap.size w wv := by rw [hw]; exact (Below.setCell hbw (by have h := HS.out; (try dsimp only); omega) _)
 replace zz : s + 5 ≤ wv.heap.size := by rw [hw]; simpa using zz
 clear hw
 clear d170 d170f d171 d171f y00 y00f y10 y10f y11 y11f y20 y20f y21 y21f y30 y30f y40 y40f y41 y41f
 clear e0
 obtain ⟨⟨d170, d170f⟩, ⟨d171, d171f⟩, ⟨y00, y00f⟩, -⟩ := id hs
 obtain ⟨⟨y10, y10f⟩, ⟨y11, y11f⟩, ⟨y20, y20f⟩, ⟨y21, y21f⟩, ⟨y30, y30f⟩, ⟨y40, y40f⟩, ⟨y41, y41f⟩, -⟩ := id hk
 clear d170 d170f d171 d171f y00 y00f y10 y10f y11 y11f y20 y20f y21 y21f y30 y30f y40 y40f y41 y41f
 refine wp_region_seqE (fun x => Below wv.heap.size wv x) (.one 0 0 (.one 1 1 (.one 2 1 (.one 3 1 (.one 4 0 (.one 5 1 (.alt 6 3 (.alt 7 3 .nil .stop) .stop))))))) (by kernel_rfl) (by kernel_rfl) (by kernel_rfl) (Below.drew (Below.refl _ _)) ?_
 iterate 6 ((first | (refine seqE_free (v := ?_) rfl (by rfl) ?_ ?_; rotate_left; (focus (intro w; go_simp; try with_reducible rfl))) | (refine seqE_pure (v := ?_) rfl (by rfl) ?_ ?_; rotate_left; (focus (intro w hS; obtain ⟨⟨d170, -⟩, ⟨d171, -⟩, -⟩ := hs.up hS; have j0 := zD hS j0; go_simp; try with_reducible rfl)))); (try simp only [Act.put, zA, zB, zC]))
 refine seqE_callB (f := ?_) (args := ?_) rfl (by rfl) ?_ ?_ seqE_stop
 rotate_left 2
 focus (intro w hS; go_simp; first | done | with_reducible rfl | (refine ⟨?_, ?_⟩ <;> with_reducible rfl))
 intro w1 hS
 refine (with_is (hM.up hS) (by omega) HM2.out).mono ?_
 rintro e v1 ⟨pn, cn, rfl, hN, hbl, frN⟩
 refine ⟨_, rfl, (fun x => Below v1.heap.size v1 x), Below.refl _ _, ?_⟩
 have hXw := Nat.le_trans zz hS.size
 have hX := btr hS hbl; replace j0 := zD hX j0
 replace hs := hs.up hX; replace hk := hk.up hX; replace hQ := hQ.up hX; replace hL := hL.up hX; replace hM := hM.up hX; replace hE := hE.mono hX; replace hbw := btr hbw hX; replace zz := Nat.le_trans zz (Below.size hX)
 have oN : Off s 5 pn := Off.fresh frN oM hXw
 have FN := Lib.hid (Fresh.trans FM.out frN (by have h := HS.out; have h2 := hXw; omega))
 clear frN
 clear hX hS hbl hXw
 (try simp only [Act.put, zA, zB, zC])
 refine seqE_storeB rfl (by rfl) ?_ seqE_stop
 intro w2 hS; replace j0 := zD hS j0
 replace hs := hs.up hS; replace hk := hk.up hS; replace hQ := hQ.up hS; replace hL := hL.up hS; replace hM := hM.up hS; replace hE := hE.mono hS; replace hN := hN.up hS; replace hbw := btr hbw hS; replace zz := Nat.le_trans zz (Below.size hS)
 obtain ⟨⟨d170, d170f⟩, ⟨d171, d171f⟩, ⟨y00, y00f⟩, -⟩ := id hs
 obtain ⟨⟨y10, y10f⟩, ⟨y11, y11f⟩, ⟨y20, y20f⟩, ⟨y21, y21f⟩, ⟨y30, y30f⟩, ⟨y40, y40f⟩, ⟨y41, y41f⟩, -⟩ := id hk
 refine ⟨((w2.setCell ⟨b17, 0, none⟩ (.int .i64 ar1)).setCell ⟨b17, 1, none⟩ (.slice pn M2.length cn)), (by go_simp; try with_reducible rfl), (fun x => Below (((w2.setCell ⟨b17, 0, none⟩ (.int .i64 ar1)).setCell ⟨b17, 1, none⟩ (.slice pn M2.length cn))).heap.size (((w2.setCell ⟨b17, 0, none⟩ (.int .i64 ar1)).setCell ⟨b17, 1, none⟩ (.slice pn M2.length cn))) x), Below.refl _ _, ?_⟩
 obtain ⟨v2, hw⟩ : ∃ zW, zW = ((w2.setCell ⟨b17, 0, none⟩ (.int .i64 ar1)).setCell ⟨b17, 1, none⟩ (.slice pn M2.length cn)) := ⟨_, rfl⟩
 rw [← hw]
 replace hs : Cells v2 [(b17, 0, .int .i64 ar1), (b17, 1, .slice pn M2.length cn), (s, 0, .slice pd dd.length cd)] := by rw [hw]; exact ⟨⟨by go_cell, (fz (fz d170f))⟩, ⟨by go_cell, (fz (fz d171f))⟩, ⟨by go_cell, (fz (fz y00f))⟩, trivial⟩
 replace hk : Cells v2 [(s + 1, 0, .int .i64 ar1), (s + 1, 1, .slice pa a.length ca), (s + 2, 0, .int .i64 ar2), (s + 2, 1, .slice pb b.length cb), (s + 3, 0, .slice none 0 0), (s + 4, 0, .int .i64 0), (s + 4, 1, .slice none 0 0)] := by rw [hw]; exact ((hk.far (by simp <;> omega)).far (by simp <;> omega))
 replace hQ : SI v2 (some ⟨bx, ox, none⟩) cqd ds := by rw [hw]; exact ((hQ.set ((fun a ha e => NQ.out a ha e.symm)) _).set ((fun a ha e => NQ.out a ha e.symm)) _)
 replace hL : SI v2 (some ⟨bq, oq, none⟩) cql (mranks a b) := by rw [hw]; exact ((hL.set ((fun a ha e => NL.out a ha e.symm)) _).set ((fun a ha e => NL.out a ha e.symm)) _)
 replace hM : MxAt v2 pm cm M := by rw [hw]; exact hM.boxM d171 _ _
 replace hE : CAt v2 pd cd dd := by rw [hw]; exact hE.boxM d171 _ _
 replace hN : MxAt v2 pn cn M2 := by rw [hw]; exact hN.boxM d171 _ _
 replace j0 : v2.cell? ⟨bq, oq + J, none⟩ = some (.int .i64 r) := by rw [hw]; exact (keep_far (keep_far j0 (by first | omega | (dsimp only; omega))) (by first | omega | (dsimp only; omega)))
 replace hbw : Below w.heap.size w v2 := by rw [hw]; exact (Below.setCell (Below.setCell hbw (by have h := HS.out; (try dsimp only); omega) _) (by have h := HS.out; (try dsimp only); omega) _)
 replace zz : s + 5 ≤ v2.heap.size := by rw [hw]; simpa using zz
 clear hw
 clear d170 d170f d171 d171f y00 y00f y10 y10f y11 y11f y20 y20f y21 y21f y30 y30f y40 y40f y41 y41f
 clear hS
 (try simp only [Act.put, zA, zB, zC])
 refine seqE_nil ?_
 intro wz hS; replace j0 := zD hS j0
 replace hs := hs.up hS; replace hk := hk.up hS; replace hQ := hQ.up hS; replace hL := hL.up hS; replace hM := hM.up hS; replace hE := hE.mono hS; replace hN := hN.up hS; replace hbw := btr hbw hS; replace zz := Nat.le_trans zz (Below.size hS); clear hS
 go_wp2_with fail
 go_roundg ((mranks a b).length - (J + 1))
 case measure => (have := HN3.out; omega)
 case rel => exact ⟨J + 1, dd, M2, pd, cd, pn, cn, by go_num, by omega, rfl, HNEW.out, oE, oN, FE.out, FN.out, hs, hk, hQ, hL, hE, hN, hbw, zz⟩
end Go.Proofs.Ytadilppdlbhjnaa
