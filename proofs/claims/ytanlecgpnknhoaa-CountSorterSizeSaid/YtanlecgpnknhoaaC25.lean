/- Walk of CountSorterSize. -/
import Derived.Test.YtanlecgpnknhoaaC18
namespace Go.Proofs.Ytanlecgpnknhoaa
set_option linter.unusedSimpArgs false
set_option linter.unusedVariables false
open Go.RowKit


theorem raw_plain (L : List Step) (A B : List Nat) (h0 : L.length ≤ 40) (h1 : A.length ≤ 9) (h2 : B.length ≤ 9) :
    ∃ c refs a b, cbuild L = (c, refs) ∧ A.map (cpick refs) = a ∧ B.map (cpick refs) = b ∧ Good c ∧ c.length ≤ 121 ∧ RefsIn a c.length ∧ RefsIn b c.length ∧ a.length = A.length ∧ b.length = B.length := by
  have HB := built L (by omega)
  obtain ⟨c, refs, hcb⟩ : ∃ c refs, cbuild L = (c, refs) := ⟨_, _, rfl⟩
  have hg := HB.good; have hr := HB.refs; have hl := HB.len
  rw [hcb] at hg hr hl
  dsimp only at hg hr hl
  have hp : ∀ n, 0 ≤ cpick refs n ∧ cpick refs n < 2 * (c.length : Int) := fun n => cpick_in hr hg.ne n
  refine ⟨c, refs, _, _, hcb, rfl, rfl, hg, by omega, fun r h => ?_, fun r h => ?_, by simp, by simp⟩
  · obtain ⟨n, _, rfl⟩ := List.mem_map.1 h; exact hp n
  · obtain ⟨n, _, rfl⟩ := List.mem_map.1 h; exact hp n
theorem inputs_is {x : RawV} {q : RawP} {w : World} {c : List Gate} {refs a b : List Int} {na nb : Nat} (hx : RawOk w x q) (h0 : x.L.length ≤ 40) (h1 : x.A.length ≤ 9) (h2 : x.B.length ≤ 9) (hcb : cbuild x.L = (c, refs)) (ha : x.A.map (cpick refs) = a) (hb : x.B.map (cpick refs) = b) (hna : x.A.length = na) (hnb : x.B.length = nb) :
    Calls Try.prog 41 #[.agg #[.slice q.pL x.L.length q.cL, .slice q.pA x.A.length q.cA, .slice q.pB x.B.length q.cB, .slice q.pV x.V.length q.cV, .int .i8 x.by']] w (RetIn w c a b na nb) := by
  subst ha hb hna hnb
  exact inputs_any x q w hx h0 h1 h2 c refs hcb
theorem btr' {B : Nat} {w w1 w2 : World} (h : Below B w w1) (k : Below B w1 w2) : Below B w w2 := h.trans k
theorem sops9 {n : Nat} (h : n ≤ 9) : sOps (plog n n 0) ≤ 126 := by
  match n, h with
  | 0, _ | 1, _ | 2, _ | 3, _ | 4, _ | 5, _ | 6, _ | 7, _ | 8, _ | 9, _ => decide
theorem total_ops {n m : Nat} (h : n ≤ m) : opsTotal n ≤ opsTotal m := Nat.mul_le_mul h (Nat.mul_le_mul h (by omega))
theorem add_ops {x y x' y' : Nat} (h : x ≤ x') (k : y ≤ y') : opsAdd x y ≤ opsAdd x' y' := Nat.mul_le_mul (by omega) (by omega)
theorem cntv_append (c : List Gate) (a b : List Int) (vals : List Bool) : cntv c (a ++ b) vals = cntv c a vals + cntv c b vals := by unfold cntv; rw [List.map_append, cnt_append]
theorem RefsIn.append {a b : List Int} {n : Nat} (h : RefsIn a n) (k : RefsIn b n) : RefsIn (a ++ b) n := fun r hr => (List.mem_append.1 hr).elim (h r) (k r)
theorem SA.of_owns {w : World} {B n : Nat} {v : Value} {xs : List Int} (h : w.ownsRow B 3 1 v xs.length (flat 1 iEnc xs)) (hn : xs.length = n) : ∃ q cq, v = .slice q n cq ∧ SA w q n cq xs := by
  obtain ⟨q, cq, hv, h1, h2, h3, h4⟩ := owns_val (by omega) h
  subst hn
  exact ⟨q, cq, hv, ⟨rfl, h1, h2, h3, h4, fun a ha => (h.lt a.block (by rw [hv, ha]; rfl)).2⟩⟩
/-- The values of a raw input. -/
theorem RawOk.va {w w' : World} {x : RawV} {q : RawP} (h : RawOk w x q) (hB : Below w.heap.size w w') : VA w' q.pV x.V.length x.V := ⟨rfl, h.l3, h.a3.mono hB⟩

/-- The circuit of n inputs, and their references. -/
def cins : Nat → List Gate × List Int
  | 0 => (cnew, [])
  | k + 1 => ((cinput (cins k).1 ((k : Int) + 1)).1, (cins k).2 ++ [(cinput (cins k).1 ((k : Int) + 1)).2])
def sizeOk (k : Nat) : Bool :=
  let c := (cins k).1; let l := (cins k).2; let x := (usorter 1 l).run c
  (l.length == k) && (x.2.length == k) && decide (0 < c.length) && decide (c.length ≤ 20) && decide ((x.1.length : Int) - (c.length : Int) ≤ 2 * csize (plog k k 0)) && (decide (k < 2) || decide (c.length < x.1.length)) && decide (x.1.length ≤ 200) && l.all (fun r => decide (r ≤ 100))
set_option maxRecDepth 100000 in
theorem sizeOk_all : ∀ k < 17, sizeOk k = true := by decide +kernel
theorem cins_ne : ∀ k, (cins k).1 ≠ []
  | 0 => by decide
  | k + 1 => by
    have ih := cins_ne k
    show (cinput (cins k).1 _).1 ≠ []
    unfold cinput; split
    · exact ih
    · unfold cshare; split
      · exact ih
      · split
        · exact ih
        · simp

set_option maxRecDepth 100000 in
set_option maxHeartbeats 8000000 in
theorem sorterSize_any (n : Nat) (w : World) (hn : n < 256) : Calls Try.prog 12 #[.int .u8 n] w (RetB w true) := by
  obtain ⟨k, hk⟩ : ∃ k, n % 17 = k := ⟨_, rfl⟩
  have hk17 : k < 17 := by rw [← hk]; exact Nat.mod_lt _ (by decide)
  have hrw : Int.tmod (n : Int) 17 = (k : Int) := by rw [Int.tmod_eq_emod_of_nonneg (by omega)]; have : ((n % 17 : Nat) : Int) = (k : Int) := congrArg Int.ofNat hk; omega
  clear hk
  obtain ⟨i0, hi0, hz0, hz1, hz2⟩ := info_parts int_info
  go_enter Try.func12, Try.ntmps12
  go_upto_region 3 with (first | (go_at_call 39; refine (head16_any _).mono ?_; rintro e w1 ⟨rfl, hb1⟩))
  go_upto_region 4 with (first | (go_at_call 55; refine (rnew_any _).mono ?_; rintro e w2 ⟨p1, rfl, hn1, hn2, hbl, _⟩))
  obtain ⟨b5, hb5⟩ : ∃ b, w2.heap.size = b := ⟨_, rfl⟩
  obtain ⟨W2, hW2, y0, y0f⟩ : ∃ W2, (w2.alloc (.cells #[.slice p1 1 1] 25)).alloc (.cells #[] 3) = W2 ∧ W2.cell? ⟨b5, 0, none⟩ = some (.slice p1 1 1) ∧ W2.frozen? ⟨b5, 0, none⟩ = false := ⟨_, rfl, by rw [← hb5]; go_cell, by rw [← hb5]; go_cell⟩
  have z2 : W2.heap.size = b5 + 1 + 1 := by rw [← hW2, ← hb5]; simp
  have O6 : W2.ownsRow (b5 + 1) 3 1 (.slice (some ⟨b5 + 1, 0, none⟩) 0 0) 0 (flat 1 iEnc []) := by
    have := World.ownsRow_lit (e := 3) (size := 1) (base := b5 + 1) (w2.alloc (.cells #[.slice p1 1 1] 25)) #[] 0 (by simp; omega) (by decide) rfl
    rw [show (w2.alloc (.cells #[.slice p1 1 1] 25)).heap.size = b5 + 1 by simp; omega] at this
    rw [← hW2]; exact this
  have hk2 : Below w2.heap.size w2 W2 := by rw [← hW2]; go_grown
  have HB2 := Lib.hid (show Below w.heap.size w W2 from (btr hb1 hbl).trans (hk2.mono (by have := hb1.size; have := hbl.size; omega)))
  have hwb : w.heap.size ≤ b5 := by have := hb1.size; have := hbl.size; omega
  have hC0 : CAt W2 p1 1 cnew := ⟨Nat.le_refl _, by decide, hn2, hn1.mono hk2⟩
  have HC0 := Lib.hid hC0; have HO6 := Lib.hid O6; have HW2 := Lib.hid hW2
  have hp1 : ∀ a, p1 = some a → some a.block ≠ (Value.slice (some ⟨b5 + 1, 0, none⟩) 0 0).ownBlock := by
    intro a ha
    have hb : a.block < w2.heap.size := by
      rcases hn1 with h | ⟨b, off, hp, hb, _⟩
      · cases h
      · rw [ha] at hp; cases hp; exact hb
    simp [Value.ownBlock]; omega
  have HP1 := Lib.hid hp1
  clear hW2 O6 hk2 hC0 hn1 hn2 hbl hb1 hp1
  have HB5 := Lib.hid hb5
  clear hb5
  go_wp2_with fail
  rw [HW2.out]
  simp only [HB5.out]
  go_loopg [6, 7] k (fun N v6 v7 wr => ∃ (K : Nat) (pc : Option Addr) (capc : Nat), v7 = .int .i64 ((K : Int) + 1) ∧ K ≤ k ∧ N = k - K ∧ wr.cell? ⟨b5, 0, none⟩ = some (.slice pc (cins K).1.length capc) ∧ wr.frozen? ⟨b5, 0, none⟩ = false ∧ CAt wr pc capc (cins K).1 ∧ wr.ownsRow (b5 + 1) 3 1 v6 (cins K).2.length (flat 1 iEnc (cins K).2) ∧ (∀ a, pc = some a → some a.block ≠ v6.ownBlock) ∧ b5 + 1 < wr.heap.size ∧ Below w.heap.size w wr)
  case atStart => exact ⟨0, p1, 1, rfl, by omega, rfl, y0, y0f, HC0.out, HO6.out, HP1.out, by omega, HB2.out⟩
  case round =>
    obtain ⟨K, pc, capc, rfl, hK, hN, h0, h0f, hC, hown, hne, hsz, hbw⟩ := hrel
    have HNk := Lib.hid hN; clear hN y0 y0f
    have hok := sizeOk_all K (by omega)
    simp only [sizeOk, Bool.and_eq_true, beq_iff_eq, decide_eq_true_eq, List.all_eq_true] at hok
    obtain ⟨⟨⟨⟨⟨⟨⟨hll, hsl⟩, hc0⟩, hc20⟩, hsz2⟩, hgr⟩, hd2⟩, hrr⟩ := hok
    have HRl := Lib.hid hll
    have HC := Lib.hid hC; have HO := Lib.hid hown; have HNE := Lib.hid hne; have HBW := Lib.hid hbw; have HLT := Lib.hid hown.lt
    have HS2 := Lib.hid hsz2; have HGR := Lib.hid hgr; have HSL := Lib.hid hsl; have HD2 := Lib.hid hd2; have HRR := Lib.hid hrr
    obtain ⟨q, cq, rfl, ho1, ho2, ho3, ho4⟩ := owns_val (by omega) HO.out
    have Ho3 := Lib.hid ho3; have Ho4 := Lib.hid ho4
    clear hC hown hne hbw hll hsl hsz2 hgr hd2 hrr ho3 ho4
    by_cases hlt : K < k
    case pos =>
      have hle : (K : Int) + 1 ≤ (k : Int) := by omega
      have hne0 := Lib.hid (cins_ne (K + 1))
      have HS := Lib.hid (show cins (K + 1) = ((cinput (cins K).1 ((K : Int) + 1)).1, (cins K).2 ++ [(cinput (cins K).1 ((K : Int) + 1)).2]) from rfl)
      generalize cins K = X at *
      obtain ⟨gs, refs⟩ := X
      dsimp only at *
      obtain ⟨g2, hg2⟩ : ∃ x, (cinput gs ((K : Int) + 1)).1 = x := ⟨_, rfl⟩
      obtain ⟨r2, hr2⟩ : ∃ x, (cinput gs ((K : Int) + 1)).2 = x := ⟨_, rfl⟩
      have HG2 := Lib.hid hg2; have HR2 := Lib.hid hr2
      clear hg2 hr2
      go_upto_region 8 with fail
      go_cut [8, 9] (fun s8 s9 wx => ∃ b8 : Nat, s8 = .pointer (some ⟨b8, 0, none⟩) ∧ wr.heap.size ≤ b8 ∧ s9 = .int .i64 r2 ∧ BoxC (Fresh wr pc) wx b8 g2 ∧ Below wr.heap.size wr wx)
      case first =>
        as_aux_lemma =>
          go_wp2_with (first | (go_at_call 20; refine (rinput_any gs ((K : Int) + 1) pc capc _ (by omega) HC.out.le HC.out.cm HC.out.p0 HC.out.at').mono ?_; rintro e w3 hpost; unfold RInputPost at hpost; rw [HG2.out, HR2.out] at hpost; obtain ⟨p2, cap2, rfl, q1, q2, q3, q4, hbl, hfr⟩ := hpost))
          have hzz := hbl.size
          go_meet
          exact ⟨_, rfl, (by omega), rfl, BoxC.new q1 q2 q3 q4 hfr, bal hbl _⟩
      case rest =>
        obtain ⟨b8, rfl, hb8, rfl, ⟨p2, cap2, g0, g0f, hr1, hr2, hr3, hr4, hfr⟩, hbx⟩ := hcut
        have f0 := oldcell hbx h0 (by omega)
        have f0f := oldfree hbx h0f (by omega)
        have HBX := Lib.hid hbx; have Hr3 := Lib.hid hr3; have Hr4 := Lib.hid hr4; have HFR := Lib.hid hfr; clear hbx hr3 hr4 hfr
        have hwx := HBX.out.size
        have HO2 := Lib.hid (ownsRow_setCell_below (owns_below HO.out HBX.out) (a := ⟨b5, 0, none⟩) (by show b5 < b5 + 1; omega) (.slice p2 g2.length cap2))
        go_wp2_with (first | (at_builtin; go_must (refine wpList_app2 (enc := iEnc) rfl _ _ _ rfl (b5 + 1) 3 i0 _ 8 Try.underlying28 hi0 hz0 hz1 hz2 rfl (by omega) _ refs rfl (HO2.out.alloc _) (some ⟨wc.heap.size, 0, none⟩) [r2] 1 rfl (fun h => by cases h) (SlAt.int1 (by go_cell)) iEnc_one (by rw [HRl.out]; simp [maxLen]; omega) (by rw [HRl.out]; simp; omega) (by simp; omega) ?_); intro v2 w3 hown2 hgr2 hbl2 hat2; have n0 := oldcell hbl2 (keep_alloc (cell_set f0)) (by omega); have n0f := oldfree hbl2 (free_alloc (free_set f0f) (by simp; omega)) (by omega); have HOW2 := Lib.hid hown2; have HGR2 := Lib.hid hgr2; have HBL2 := Lib.hid hbl2; have HAT2 := Lib.hid hat2; clear hown2 hgr2 hbl2 hat2))
        have hfx : ∀ a, p2 = some a → some a.block ≠ (Value.slice q refs.length cq).ownBlock := by
          intro a ha
          rcases HFR.out with h | h
          · exact HNE.out a (h ▸ ha)
          · intro e
            have := (HLT.out a.block e.symm).2
            have := h a ha
            omega
        have hg5 := SlAt.grown (((Hr4.out.setBox f0 (gEnc_ne_slice _ _ _) (.slice p2 g2.length cap2)).mono (w' := (wc.setCell ⟨b5, 0, none⟩ (.slice p2 g2.length cap2)).alloc (.cells #[.int .i64 r2] 3)) (by go_grown))) HGR2.out hfx
        have hp2 : ∀ a, p2 = some a → a.block < wc.heap.size := by
          intro a ha
          rcases Hr4.out with h | ⟨b, off, hp, hb, _⟩
          · have h1 := hne0.out; rw [HS.out] at h1; dsimp only at h1; rw [HG2.out] at h1; exact absurd h h1
          · rw [ha] at hp; cases hp; exact hb
        go_roundg (k - (K + 1))
        case measure => (have := HNk.out; omega)
        case rel =>
          have HSK : cins (K + 1) = (g2, refs ++ [r2]) := by rw [HS.out, HG2.out, HR2.out]
          have hz3 := HBL2.out.size
          simp at hz3
          refine ⟨K + 1, p2, cap2, by go_num, by omega, rfl, by rw [HSK]; exact n0, n0f, ?_, by rw [HSK]; exact HOW2.out, fun a ha => ?_, by omega, ?_⟩
          · rw [HSK]; exact ⟨hr1, hr2, Hr3.out, hg5⟩
          · rcases HAT2.out with h | h
            · rw [h]; exact hfx a ha
            · rw [h]; have := hp2 a ha; simp; omega
          · exact HBW.out.trans ((HBX.out.mono HBW.out.size).trans (Below.trans (by go_grown) (HBL2.out.mono (by omega))))
    case neg =>
      obtain rfl : K = k := by omega
      generalize cins K = X at *
      obtain ⟨gs, refs⟩ := X
      dsimp only at *
      obtain ⟨d, s, e1⟩ : ∃ d s, (usorter 1 refs).run gs = (d, s) := ⟨_, _, rfl⟩
      have hS2 := HS2.out; have hGR := HGR.out; have hSL := HSL.out; have hD2 := HD2.out
      rw [e1] at hS2 hGR hSL hD2
      dsimp only at hS2 hGR hSL hD2
      have E1 := Lib.hid e1
      clear HS2 HGR HSL HD2 e1
      have hB5 : Bx wr b5 gs := ⟨pc, capc, h0, h0f, HC.out⟩
      have hS6 : SA wr q K cq refs := ⟨HRl.out, by rw [← HRl.out]; exact ho1, ho2, Ho3.out, Ho4.out, fun a ha => (HLT.out a.block (by rw [ha]; rfl)).2⟩
      have hW := HBW.out
      have hcz : 0 ≤ csize (plog K K 0) ∧ csize (plog K K 0) ≤ 63 := by unfold csize; split <;> omega
      obtain ⟨cz, hczd⟩ : ∃ z, csize (plog K K 0) = z := ⟨_, rfl⟩
      rw [hczd] at hcz hS2
      obtain ⟨hcz0, hcz1⟩ := hcz
      have HCZ := Lib.hid hczd
      have HAL : Hid (AllLe refs) := Lib.hid (fun r hr => by have := HRR.out r hr; omega)
      have HGR : Hid (K < 2 ∨ gs.length < d.length) := Lib.hid (by simpa using hGR)
      have HSLn := Lib.hid hSL; have HS2 := Lib.hid hS2
      have hnle : ¬ ((K : Int) + 1 ≤ (K : Int)) := by omega
      rw [HRl.out]
      clear h0 h0f HC HO HNE HLT HBW ho1 ho2 Ho3 Ho4 hGR HRR HRl hczd hS2 hSL hrw hK HNk hlt

      go_upto_region 11 with fail
      obtain ⟨p5, c5, k5, k5f, hC5⟩ := id hB5
      go_cut [10, 11] from 34 to 39 (fun s10 s11 wx => (∃ (b : Nat) (q : Option Addr) (cq : Nat), s10 = .pointer (some ⟨b, 0, none⟩) ∧ s11 = .slice q K cq ∧ Bx wx b d ∧ SA wx q K cq s) ∧ Below wr.heap.size wr wx)
      case first =>
        as_aux_lemma =>
          go_wp2_with (first | (go_at_call 43; refine (sorter_is hC5 hS6 (Below.refl _ _) (by omega) HAL.out (by omega) hc0 E1.out HSLn.out).mono ?_; rintro e w2 ⟨p2, cap2, q2, cq2, rfl, hC2, hS2, hbl⟩))
          go_meet
          exact ⟨⟨_, _, _, rfl, rfl, Bx.new hC2 _, hS2.up (bal (Below.refl _ _) _)⟩, (by first | exact bal hbl _ | exact bal (btr (by go_grown) hbl) _)⟩
      case rest =>
        clear k5 k5f hC5
        obtain ⟨⟨b10, q11, cq11, rfl, rfl, hB10, hS11⟩, hst⟩ := hcut
        replace hB5 := hB5.up hst
        replace hS6 := hS6.up hst
        replace hW := btr hW hst
        clear hst
        go_upto_region 12 with fail
        obtain ⟨p5, c5, k5, k5f, hC5⟩ := id hB5
        obtain ⟨p10, c10, k10, k10f, hC10⟩ := id hB10
        have T1 := Lib.hid (fun (w' : World) (hB' : Below wc.heap.size wc w') => comparators_any K w' (by omega))
        rw [HCZ.out] at T1
        have hw1 : IntKind.i64.wrap ((d.length : Int) - (gs.length : Int)) = (d.length : Int) - (gs.length : Int) := by (rw [IntWalk.i64_in]; omega)
        have hw2 : IntKind.i64.wrap (2 * cz) = 2 * cz := by (rw [IntWalk.i64_in]; omega)
        by_cases h2 : K < 2
        ·
          have hk2 : (K : Int) < 2 := by omega
          as_aux_lemma =>
            refine wp_region_seq (fun w' => Below wc.heap.size wc w') (by kernel_rfl) (by kernel_rfl) (by first | assumption | go_grown) ?_
            refine seq_pure (v := ?_) (by rfl) ?_ ?_
            rotate_left
            · (intro w hS; go_simp; try with_reducible rfl)
            (try simp only [Act.put, List.setIfInBounds_toArray, List.set_cons_zero, List.set_cons_succ])
            refine seq_pure (v := ?_) (by rfl) ?_ ?_
            rotate_left
            · (intro w hS; go_simp; try with_reducible rfl)
            (try simp only [Act.put, List.setIfInBounds_toArray, List.set_cons_zero, List.set_cons_succ])
            refine seq_pure (v := ?_) (by rfl) ?_ ?_
            rotate_left
            · (intro w hS; go_simp; try with_reducible rfl)
            (try simp only [Act.put, List.setIfInBounds_toArray, List.set_cons_zero, List.set_cons_succ])
            refine seq_pure (v := ?_) (by rfl) ?_ ?_
            rotate_left
            · (intro w hS; go_simp; try with_reducible rfl)
            (try simp only [Act.put, List.setIfInBounds_toArray, List.set_cons_zero, List.set_cons_succ])
            refine seq_pure (v := ?_) (by rfl) ?_ ?_
            rotate_left
            · (intro w hS; go_simp; try with_reducible rfl)
            (try simp only [Act.put, List.setIfInBounds_toArray, List.set_cons_zero, List.set_cons_succ])
            refine seq_pure (v := ?_) (by rfl) ?_ ?_
            rotate_left
            · (intro w hS; go_simp; try with_reducible rfl)
            (try simp only [Act.put, List.setIfInBounds_toArray, List.set_cons_zero, List.set_cons_succ])
            refine seq_pure (v := ?_) (by rfl) ?_ ?_
            rotate_left
            · (intro w hS; go_simp; try with_reducible rfl)
            (try simp only [Act.put, List.setIfInBounds_toArray, List.set_cons_zero, List.set_cons_succ])
            refine seq_pure (v := ?_) (by rfl) ?_ ?_
            rotate_left
            · (intro w hS; go_simp; try with_reducible rfl)
            (try simp only [Act.put, List.setIfInBounds_toArray, List.set_cons_zero, List.set_cons_succ])
            refine seq_pure (v := ?_) (by rfl) ?_ ?_
            rotate_left
            · (intro w hS; go_simp; try with_reducible rfl)
            (try simp only [Act.put, List.setIfInBounds_toArray, List.set_cons_zero, List.set_cons_succ])
            refine seq_pure (v := ?_) (by rfl) ?_ ?_
            rotate_left
            · (intro w hS; have kk := oldcell hS k10 (World.block_lt_of_cell? _ _ k10); go_simp; try with_reducible rfl)
            (try simp only [Act.put, List.setIfInBounds_toArray, List.set_cons_zero, List.set_cons_succ])
            refine seq_pure (v := ?_) (by rfl) ?_ ?_
            rotate_left
            · (intro w hS; go_simp; try with_reducible rfl)
            (try simp only [Act.put, List.setIfInBounds_toArray, List.set_cons_zero, List.set_cons_succ])
            refine seq_pure (v := ?_) (by rfl) ?_ ?_
            rotate_left
            · (intro w hS; go_simp; try with_reducible rfl)
            (try simp only [Act.put, List.setIfInBounds_toArray, List.set_cons_zero, List.set_cons_succ])
            refine seq_pure (v := ?_) (by rfl) ?_ ?_
            rotate_left
            · (intro w hS; have kk := oldcell hS k5 (World.block_lt_of_cell? _ _ k5); go_simp; try with_reducible rfl)
            (try simp only [Act.put, List.setIfInBounds_toArray, List.set_cons_zero, List.set_cons_succ])
            refine seq_pure (v := ?_) (by rfl) ?_ ?_
            rotate_left
            · (intro w hS; go_simp; try with_reducible rfl)
            (try simp only [Act.put, List.setIfInBounds_toArray, List.set_cons_zero, List.set_cons_succ])
            refine seq_pure (v := ?_) (by rfl) ?_ ?_
            rotate_left
            · (intro w hS; go_simp; try with_reducible rfl)
            (try simp only [Act.put, List.setIfInBounds_toArray, List.set_cons_zero, List.set_cons_succ])
            refine seq_pure (v := ?_) (by rfl) ?_ ?_
            rotate_left
            · (intro w hS; go_simp; try with_reducible rfl)
            (try simp only [Act.put, List.setIfInBounds_toArray, List.set_cons_zero, List.set_cons_succ])
            refine seq_call (v := .int .i64 cz) (f := ?_) (args := ?_) (by rfl) ?_ ?_ ?_
            rotate_left 2
            · (intro w hS; go_simp; first | done | with_reducible rfl | (refine ⟨?_, ?_⟩ <;> with_reducible rfl))
            · (intro w hS; refine (T1.out w hS).mono ?_; rintro e w' ⟨he, hb⟩; exact ⟨he, btr hS hb⟩)
            (try simp only [Act.put, List.setIfInBounds_toArray, List.set_cons_zero, List.set_cons_succ])
            refine seq_pure (v := ?_) (by rfl) ?_ ?_
            rotate_left
            · (intro w hS; go_simp; try with_reducible rfl)
            (try simp only [Act.put, List.setIfInBounds_toArray, List.set_cons_zero, List.set_cons_succ])
            refine seq_pure (v := ?_) (by rfl) ?_ ?_
            rotate_left
            · (intro w hS; have hx := HS2.out; go_simp; try with_reducible rfl)
            (try simp only [Act.put, List.setIfInBounds_toArray, List.set_cons_zero, List.set_cons_succ])
            refine seq_pure (v := ?_) (by rfl) ?_ ?_
            rotate_left
            · (intro w hS; go_simp; try with_reducible rfl)
            (try simp only [Act.put, List.setIfInBounds_toArray, List.set_cons_zero, List.set_cons_succ])
            refine seq_pure (v := ?_) (by rfl) ?_ ?_
            rotate_left
            · (intro w hS; go_simp; try with_reducible rfl)
            (try simp only [Act.put, List.setIfInBounds_toArray, List.set_cons_zero, List.set_cons_succ])
            refine seq_pure (v := ?_) (by rfl) ?_ ?_
            rotate_left
            · (intro w hS; go_simp; try with_reducible rfl)
            (try simp only [Act.put, List.setIfInBounds_toArray, List.set_cons_zero, List.set_cons_succ])
            refine seq_pure (v := ?_) (by rfl) ?_ ?_
            rotate_left
            · (intro w hS; go_simp; try with_reducible rfl)
            (try simp only [Act.put, List.setIfInBounds_toArray, List.set_cons_zero, List.set_cons_succ])
            refine seq_pure (v := ?_) (by rfl) ?_ ?_
            rotate_left
            · (intro w hS; go_simp; try with_reducible rfl)
            (try simp only [Act.put, List.setIfInBounds_toArray, List.set_cons_zero, List.set_cons_succ])
            refine seq_off (by rfl) ?_
            (try simp only [Act.put, List.setIfInBounds_toArray, List.set_cons_zero, List.set_cons_succ])
            refine seq_off (by rfl) ?_
            (try simp only [Act.put, List.setIfInBounds_toArray, List.set_cons_zero, List.set_cons_succ])
            refine seq_off (by rfl) ?_
            (try simp only [Act.put, List.setIfInBounds_toArray, List.set_cons_zero, List.set_cons_succ])
            refine seq_off (by rfl) ?_
            (try simp only [Act.put, List.setIfInBounds_toArray, List.set_cons_zero, List.set_cons_succ])
            refine seq_off (by rfl) ?_
            (try simp only [Act.put, List.setIfInBounds_toArray, List.set_cons_zero, List.set_cons_succ])
            refine seq_off (by rfl) ?_
            (try simp only [Act.put, List.setIfInBounds_toArray, List.set_cons_zero, List.set_cons_succ])
            refine seq_off (by rfl) ?_
            (try simp only [Act.put, List.setIfInBounds_toArray, List.set_cons_zero, List.set_cons_succ])
            refine seq_pure (v := ?_) (by rfl) ?_ ?_
            rotate_left
            · (intro w hS; go_simp; try with_reducible rfl)
            (try simp only [Act.put, List.setIfInBounds_toArray, List.set_cons_zero, List.set_cons_succ])
            refine seq_pure (v := ?_) (by rfl) ?_ ?_
            rotate_left
            · (intro w hS; go_simp; try with_reducible rfl)
            (try simp only [Act.put, List.setIfInBounds_toArray, List.set_cons_zero, List.set_cons_succ])
            refine seq_pure (v := ?_) (by rfl) ?_ ?_
            rotate_left
            · (intro w hS; go_simp; try with_reducible rfl)
            (try simp only [Act.put, List.setIfInBounds_toArray, List.set_cons_zero, List.set_cons_succ])
            refine seq_nil ?_
            intro w2 HB0
            go_wp2_with fail
            go_ret
            exact ⟨rfl, btr hW HB0⟩
        ·
          have hk2 : ¬ (K : Int) < 2 := by omega
          have hgd : gs.length < d.length := HGR.out.resolve_left h2
          have hgd2 : (gs.length : Int) < (d.length : Int) := by omega
          as_aux_lemma =>
            refine wp_region_seq (fun w' => Below wc.heap.size wc w') (by kernel_rfl) (by kernel_rfl) (by first | assumption | go_grown) ?_
            refine seq_pure (v := ?_) (by rfl) ?_ ?_
            rotate_left
            · (intro w hS; go_simp; try with_reducible rfl)
            (try simp only [Act.put, List.setIfInBounds_toArray, List.set_cons_zero, List.set_cons_succ])
            refine seq_pure (v := ?_) (by rfl) ?_ ?_
            rotate_left
            · (intro w hS; go_simp; try with_reducible rfl)
            (try simp only [Act.put, List.setIfInBounds_toArray, List.set_cons_zero, List.set_cons_succ])
            refine seq_pure (v := ?_) (by rfl) ?_ ?_
            rotate_left
            · (intro w hS; go_simp; try with_reducible rfl)
            (try simp only [Act.put, List.setIfInBounds_toArray, List.set_cons_zero, List.set_cons_succ])
            refine seq_pure (v := ?_) (by rfl) ?_ ?_
            rotate_left
            · (intro w hS; go_simp; try with_reducible rfl)
            (try simp only [Act.put, List.setIfInBounds_toArray, List.set_cons_zero, List.set_cons_succ])
            refine seq_pure (v := ?_) (by rfl) ?_ ?_
            rotate_left
            · (intro w hS; go_simp; try with_reducible rfl)
            (try simp only [Act.put, List.setIfInBounds_toArray, List.set_cons_zero, List.set_cons_succ])
            refine seq_pure (v := ?_) (by rfl) ?_ ?_
            rotate_left
            · (intro w hS; go_simp; try with_reducible rfl)
            (try simp only [Act.put, List.setIfInBounds_toArray, List.set_cons_zero, List.set_cons_succ])
            refine seq_pure (v := ?_) (by rfl) ?_ ?_
            rotate_left
            · (intro w hS; go_simp; try with_reducible rfl)
            (try simp only [Act.put, List.setIfInBounds_toArray, List.set_cons_zero, List.set_cons_succ])
            refine seq_pure (v := ?_) (by rfl) ?_ ?_
            rotate_left
            · (intro w hS; go_simp; try with_reducible rfl)
            (try simp only [Act.put, List.setIfInBounds_toArray, List.set_cons_zero, List.set_cons_succ])
            refine seq_pure (v := ?_) (by rfl) ?_ ?_
            rotate_left
            · (intro w hS; go_simp; try with_reducible rfl)
            (try simp only [Act.put, List.setIfInBounds_toArray, List.set_cons_zero, List.set_cons_succ])
            refine seq_pure (v := ?_) (by rfl) ?_ ?_
            rotate_left
            · (intro w hS; have kk := oldcell hS k10 (World.block_lt_of_cell? _ _ k10); go_simp; try with_reducible rfl)
            (try simp only [Act.put, List.setIfInBounds_toArray, List.set_cons_zero, List.set_cons_succ])
            refine seq_pure (v := ?_) (by rfl) ?_ ?_
            rotate_left
            · (intro w hS; go_simp; try with_reducible rfl)
            (try simp only [Act.put, List.setIfInBounds_toArray, List.set_cons_zero, List.set_cons_succ])
            refine seq_pure (v := ?_) (by rfl) ?_ ?_
            rotate_left
            · (intro w hS; go_simp; try with_reducible rfl)
            (try simp only [Act.put, List.setIfInBounds_toArray, List.set_cons_zero, List.set_cons_succ])
            refine seq_pure (v := ?_) (by rfl) ?_ ?_
            rotate_left
            · (intro w hS; have kk := oldcell hS k5 (World.block_lt_of_cell? _ _ k5); go_simp; try with_reducible rfl)
            (try simp only [Act.put, List.setIfInBounds_toArray, List.set_cons_zero, List.set_cons_succ])
            refine seq_pure (v := ?_) (by rfl) ?_ ?_
            rotate_left
            · (intro w hS; go_simp; try with_reducible rfl)
            (try simp only [Act.put, List.setIfInBounds_toArray, List.set_cons_zero, List.set_cons_succ])
            refine seq_pure (v := ?_) (by rfl) ?_ ?_
            rotate_left
            · (intro w hS; go_simp; try with_reducible rfl)
            (try simp only [Act.put, List.setIfInBounds_toArray, List.set_cons_zero, List.set_cons_succ])
            refine seq_pure (v := ?_) (by rfl) ?_ ?_
            rotate_left
            · (intro w hS; go_simp; try with_reducible rfl)
            (try simp only [Act.put, List.setIfInBounds_toArray, List.set_cons_zero, List.set_cons_succ])
            refine seq_call (v := .int .i64 cz) (f := ?_) (args := ?_) (by rfl) ?_ ?_ ?_
            rotate_left 2
            · (intro w hS; go_simp; first | done | with_reducible rfl | (refine ⟨?_, ?_⟩ <;> with_reducible rfl))
            · (intro w hS; refine (T1.out w hS).mono ?_; rintro e w' ⟨he, hb⟩; exact ⟨he, btr hS hb⟩)
            (try simp only [Act.put, List.setIfInBounds_toArray, List.set_cons_zero, List.set_cons_succ])
            refine seq_pure (v := ?_) (by rfl) ?_ ?_
            rotate_left
            · (intro w hS; go_simp; try with_reducible rfl)
            (try simp only [Act.put, List.setIfInBounds_toArray, List.set_cons_zero, List.set_cons_succ])
            refine seq_pure (v := ?_) (by rfl) ?_ ?_
            rotate_left
            · (intro w hS; have hx := HS2.out; go_simp; try with_reducible rfl)
            (try simp only [Act.put, List.setIfInBounds_toArray, List.set_cons_zero, List.set_cons_succ])
            refine seq_pure (v := ?_) (by rfl) ?_ ?_
            rotate_left
            · (intro w hS; go_simp; try with_reducible rfl)
            (try simp only [Act.put, List.setIfInBounds_toArray, List.set_cons_zero, List.set_cons_succ])
            refine seq_pure (v := ?_) (by rfl) ?_ ?_
            rotate_left
            · (intro w hS; go_simp; try with_reducible rfl)
            (try simp only [Act.put, List.setIfInBounds_toArray, List.set_cons_zero, List.set_cons_succ])
            refine seq_pure (v := ?_) (by rfl) ?_ ?_
            rotate_left
            · (intro w hS; go_simp; try with_reducible rfl)
            (try simp only [Act.put, List.setIfInBounds_toArray, List.set_cons_zero, List.set_cons_succ])
            refine seq_pure (v := ?_) (by rfl) ?_ ?_
            rotate_left
            · (intro w hS; go_simp; try with_reducible rfl)
            (try simp only [Act.put, List.setIfInBounds_toArray, List.set_cons_zero, List.set_cons_succ])
            refine seq_pure (v := ?_) (by rfl) ?_ ?_
            rotate_left
            · (intro w hS; go_simp; try with_reducible rfl)
            (try simp only [Act.put, List.setIfInBounds_toArray, List.set_cons_zero, List.set_cons_succ])
            refine seq_pure (v := ?_) (by rfl) ?_ ?_
            rotate_left
            · (intro w hS; go_simp; try with_reducible rfl)
            (try simp only [Act.put, List.setIfInBounds_toArray, List.set_cons_zero, List.set_cons_succ])
            refine seq_pure (v := ?_) (by rfl) ?_ ?_
            rotate_left
            · (intro w hS; have kk := oldcell hS k10 (World.block_lt_of_cell? _ _ k10); go_simp; try with_reducible rfl)
            (try simp only [Act.put, List.setIfInBounds_toArray, List.set_cons_zero, List.set_cons_succ])
            refine seq_pure (v := ?_) (by rfl) ?_ ?_
            rotate_left
            · (intro w hS; go_simp; try with_reducible rfl)
            (try simp only [Act.put, List.setIfInBounds_toArray, List.set_cons_zero, List.set_cons_succ])
            refine seq_pure (v := ?_) (by rfl) ?_ ?_
            rotate_left
            · (intro w hS; go_simp; try with_reducible rfl)
            (try simp only [Act.put, List.setIfInBounds_toArray, List.set_cons_zero, List.set_cons_succ])
            refine seq_pure (v := ?_) (by rfl) ?_ ?_
            rotate_left
            · (intro w hS; have kk := oldcell hS k5 (World.block_lt_of_cell? _ _ k5); go_simp; try with_reducible rfl)
            (try simp only [Act.put, List.setIfInBounds_toArray, List.set_cons_zero, List.set_cons_succ])
            refine seq_pure (v := ?_) (by rfl) ?_ ?_
            rotate_left
            · (intro w hS; go_simp; try with_reducible rfl)
            (try simp only [Act.put, List.setIfInBounds_toArray, List.set_cons_zero, List.set_cons_succ])
            refine seq_pure (v := ?_) (by rfl) ?_ ?_
            rotate_left
            · (intro w hS; go_simp; try with_reducible rfl)
            (try simp only [Act.put, List.setIfInBounds_toArray, List.set_cons_zero, List.set_cons_succ])
            refine seq_pure (v := ?_) (by rfl) ?_ ?_
            rotate_left
            · (intro w hS; go_simp; try with_reducible rfl)
            (try simp only [Act.put, List.setIfInBounds_toArray, List.set_cons_zero, List.set_cons_succ])
            refine seq_pure (v := ?_) (by rfl) ?_ ?_
            rotate_left
            · (intro w hS; go_simp; try with_reducible rfl)
            (try simp only [Act.put, List.setIfInBounds_toArray, List.set_cons_zero, List.set_cons_succ])
            refine seq_pure (v := ?_) (by rfl) ?_ ?_
            rotate_left
            · (intro w hS; go_simp; try with_reducible rfl)
            (try simp only [Act.put, List.setIfInBounds_toArray, List.set_cons_zero, List.set_cons_succ])
            refine seq_nil ?_
            intro w2 HB0
            go_wp2_with fail
            go_ret
            exact ⟨rfl, btr hW HB0⟩
end Go.Proofs.Ytanlecgpnknhoaa
