/- Walks of layer 16: Comparators and Merge of the reference. -/
import Derived.Test.YtanlecgpnknhoaaC12
namespace Go.Proofs.Ytanlecgpnknhoaa
set_option linter.unusedSimpArgs false
set_option linter.unusedVariables false
open Go.RowKit

def csize : Nat → Int | 0 => 0 | 1 => 1 | 2 => 5 | 3 => 19 | _ => 63
def csizes : List Int := [0, 1, 5, 19, 63, 191, 543]

set_option maxRecDepth 100000 in
set_option maxHeartbeats 2000000 in
theorem comparators_any (n : Nat) (w : World) (h : n ≤ 16) : Calls Try.prog 56 #[.int .i64 n] w fun e w' => e = .returned (.int .i64 (csize (plog n n 0))) ∧ Below w.heap.size w w' := by
  go_enter Try.func56, Try.ntmps56
  go_wp2_with fail
  go_loopg [4, 5] (n + 1) (fun N' v4 v5 wr => ∃ e Z : Nat, v4 = .int .i64 e ∧ v5 = .int .i64 Z ∧ 2 ^ e = Z ∧ plog n n 0 = plog n (n - e) e ∧ e ≤ n ∧ e ≤ 4 ∧ N' = n + 1 - e ∧ IntsAt wr (some ⟨w.heap.size, 0, none⟩) csizes ∧ Below w.heap.size w wr)
  case atStart =>
    refine ⟨0, 1, rfl, rfl, rfl, rfl, by omega, by omega, rfl, ?_, by go_grown⟩
    exact SlAt.block (by rfl)
  case round =>
    obtain ⟨e, Z, rfl, rfl, hZ, hpl, he, he4, hN', hI, hB⟩ := hrel
    have HI := Lib.hid hI; have HB := Lib.hid hB; clear hI hB
    have hZe : e < Z := by rw [← hZ]; exact Nat.lt_two_pow_self
    have he6 : (e : Int) < 6 := by omega
    have he7 : decide ((e : Int) < 6) = true := decide_eq_true he6
    by_cases hlt : Z < n
    case pos =>
      have he3 : e ≤ 3 := by
        rcases Nat.lt_or_ge 3 e with h4 | h4
        · exfalso
          obtain rfl : e = 4 := by omega
          have : Z = 16 := by rw [← hZ]
          omega
        · exact h4
      have hZ8 : Z ≤ 8 := by rw [← hZ]; exact Nat.pow_le_pow_right (by omega) (show e ≤ 3 from he3)
      obtain ⟨f, hf⟩ : ∃ f, n - e = f + 1 := ⟨n - e - 1, by omega⟩
      have hp2 : plog n n 0 = plog n (n - (e + 1)) (e + 1) := by
        rw [hpl, hf]; rw [show plog n (f + 1) e = if 2 ^ e < n then plog n f (e + 1) else e from rfl, hZ, if_pos hlt, show n - (e + 1) = f by omega]
      have HP2 := Lib.hid hp2; have HZ := Lib.hid hZ; have HN' := Lib.hid hN'
      clear hp2 hZ hN' hpl hf
      go_wp2_with fail
      go_roundg (n + 1 - (e + 1))
      case measure => (have := HN'.out; omega)
      case rel => exact ⟨e + 1, Z + Z, by go_num, by go_num, by rw [Nat.pow_succ, HZ.out]; omega, HP2.out, by omega, by omega, rfl, HI.out, HB.out⟩
    case neg =>
      have hp2 : plog n n 0 = e := by
        rw [hpl]; rcases n - e with _ | f
        · rfl
        · rw [show plog n (f + 1) e = if 2 ^ e < n then plog n f (e + 1) else e from rfl, hZ, if_neg hlt]
      have HP2 := Lib.hid hp2; have HZ := Lib.hid hZ
      clear hp2 hZ hN' hpl
      obtain ⟨x, hx⟩ : ∃ x, csizes[e]? = some x := ⟨_, List.getElem?_eq_getElem (by show e < 7; omega)⟩
      have hxe : csize e = x := by
        have h5 : e < 5 := by omega
        revert hx
        match e, h5 with
        | 0, _ | 1, _ | 2, _ | 3, _ | 4, _ => intro h; simpa [csizes, csize] using h
      have HX := Lib.hid hxe
      obtain ⟨b, off, hp, hb, hc⟩ := int_cell HI.out hx
      cases hp
      have he0 : (0 : Int) ≤ (e : Int) := by omega
      have he70 : (e : Int) < 7 := by omega
      clear hx hxe
      rw [Nat.zero_add] at hc
      go_wp2_with fail
      go_ret
      exact ⟨ret_int (by rw [HP2.out, HX.out]), HB.out⟩

/-- Where a reference among the first k, and how many so far. -/
theorem addIn_at (x y : List Int) (k lo n : Nat) (c : List Gate) : (addIn 0 1 x y k lo 0).run c = (c, 1) := rfl

theorem owns_keepX {X : List Nat} {w w' : World} {base : Nat} {e : TypeId} {size : Nat} {v : Value} {n : Nat} {xs : List Value} (h : w.ownsRow base e size v n xs) (hk : KeepX X w w') (hx : ∀ k ∈ X, k < base) : w'.ownsRow base e size v n xs := by
  refine ⟨h.1, ?_⟩
  rcases h.2 with h0 | ⟨g, cap, cur, hv, hb, hg, hr⟩
  · exact .inl h0
  · exact .inr ⟨g, cap, cur, hv, hb, by rw [hk.block g (Array.getElem?_eq_some_iff.1 hg).1 (fun hm => by have := hx g hm; omega)]; exact hg, hr⟩

set_option maxRecDepth 100000 in
set_option maxHeartbeats 8000000 in
theorem merge_any' (c : List Gate) (x y : List Int) (p px py : Option Addr) (cap cx cy : Nat) (w : World) (hx : x.length ≤ 100) (hy : y.length ≤ 100) (hxr : AllLe x) (hyr : AllLe y) (hl : c.length ≤ 20000) (hc : 0 < c.length)
    (hC : CAt w p cap c) (hix : IntsAt w px x) (hiy : IntsAt w py y) (hpx : ∀ a, px = some a → a.block < w.heap.size) (hpy : ∀ a, py = some a → a.block < w.heap.size) :
    Calls Try.prog 71 #[.agg #[.slice p c.length cap], .slice px x.length cx, .slice py y.length cy] w (RetCL w ((uadd 0 1 x y).run c)) := by
  obtain ⟨i0, hi0, hz0, hz1, hz2⟩ := info_parts int_info
  obtain ⟨n, hn⟩ : ∃ n, x.length + y.length = n := ⟨_, rfl⟩
  have HN := Lib.hid hn
  have hn2 : n ≤ 200 := by omega
  have hnI : (x.length : Int) + (y.length : Int) = (n : Int) := by omega
  have HNI := Lib.hid hnI
  clear hnI hn
  have HXR := Lib.hid hxr; have HYR := Lib.hid hyr; have HC := Lib.hid hC; have HIX := Lib.hid hix; have HIY := Lib.hid hiy; have HPX := Lib.hid hpx; have HPY := Lib.hid hpy
  clear hxr hyr hC hix hiy hpx hpy
  go_enter Try.func71, Try.ntmps71
  go_wp2_with fail
  have hn3 : (n : Int) ≤ (x.length : Int) + (y.length : Int) := by have := HNI.out; omega
  have hn4 : (x.length : Int) + (y.length : Int) ≤ (n : Int) := by have := HNI.out; omega
  go_loopg [8, 9] n (fun N v8 v9 wr => ∃ K : Nat, v9 = .int .i64 ((K : Int) + 1) ∧ K ≤ n ∧ N = n - K ∧ BoxC (fun p => ∀ a, p = some a → some a.block ≠ v8.ownBlock) wr w.heap.size ((addTo 0 1 x y K).run c).1 ∧ BoxN wr (w.heap.size + 1) ∧ wr.ownsRow (w.heap.size + 1 + 1) 3 1 v8 ((addTo 0 1 x y K).run c).2.length (flat 1 iEnc ((addTo 0 1 x y K).run c).2) ∧ Below w.heap.size w wr ∧ w.heap.size + 1 + 1 ≤ wr.heap.size)
  case atStart =>
    refine ⟨0, rfl, by omega, rfl, ⟨p, cap, (show _ = some (Value.slice p c.length cap) by go_cell), by go_cell, HC.out.le, HC.out.cm, HC.out.p0, HC.out.at'.mono (by go_grown), ?_⟩, ⟨by go_cell, by go_cell⟩, ?_, by go_grown, by simp⟩
    · intro a ha
      have := HC.out.spot hc a ha
      simp [Value.ownBlock]; omega
    · have := World.ownsRow_lit (e := 3) (size := 1) (base := w.heap.size + 1 + 1) ((w.alloc (.cells #[.slice p c.length cap] 25)).alloc (.cells #[.slice none 0 0] 25)) #[] 0 (by simp) (by decide) rfl
      rw [show ((w.alloc (.cells #[.slice p c.length cap] 25)).alloc (.cells #[.slice none 0 0] 25)).heap.size = w.heap.size + 1 + 1 by simp] at this
      exact this
  case round =>
    obtain ⟨K, rfl, hK, hN, hBC, hBN, hown, hbw, hsz⟩ := hrel
    have HNk := Lib.hid hN; clear hN
    obtain ⟨c0, hc0⟩ : ∃ z, ((addTo 0 1 x y K).run c).1 = z := ⟨_, rfl⟩
    obtain ⟨l0, hl0⟩ : ∃ z, ((addTo 0 1 x y K).run c).2 = z := ⟨_, rfl⟩
    have hl0l : l0.length = K := by rw [← hl0]; exact addTo_len x y c K
    have hc0l : c0.length ≤ 20000 := by rw [← hc0]; exact run_le _ c hl
    have hc0p : 0 < c0.length := by rw [← hc0]; have := run_ge (addTo 0 1 x y K) c; omega
    rw [hc0] at hBC; rw [hl0] at hown
    obtain ⟨q, cq, rfl, o1, o2, o3, o4⟩ := owns_val (by omega) hown
    have HLT := Lib.hid hown.lt
    have HC0 := Lib.hid hc0; have HL0 := Lib.hid hl0; have HLL := Lib.hid hl0l; have HBN := Lib.hid hBN; have HO := Lib.hid hown; have HBW := Lib.hid hbw; have HQ := Lib.hid o4; have HO3 := Lib.hid o3
    clear hc0 hl0 hl0l hBN hown hbw o4 o3
    by_cases hlt : K < n
    case neg =>
      have HKN := Lib.hid (show K = n by omega)
      have hge : (x.length : Int) + (y.length : Int) < (K : Int) + 1 := by have := HNI.out; have := HKN.out; omega
      obtain ⟨pc, capc, h0, h0f, hq1, hq2, hq3, hq4, hne⟩ := hBC
      have Hq3 := Lib.hid hq3; have Hq4 := Lib.hid hq4; have HNE := Lib.hid hne; clear hq3 hq4 hne
      have h1 := HBN.out.1
      have h1f := HBN.out.2
      go_wp2_with fail
      refine bodyPost_ret (by simp [results, Try.results71, go_sem, h1]; try rfl) rfl ?_
      have e : (uadd 0 1 x y).run c = (c0, l0) := by
        rw [← HC0.out, ← HL0.out, HKN.out, ← HN.out]; rfl
      rw [e]
      refine ⟨pc, capc, q, cq, rfl, ⟨hq1, hq2, Hq3.out, Hq4.out.setBox h1 (gEnc_ne_slice _ _ _) _⟩, HQ.out.setBox h1 (fun x j => by simp [iEnc]) _, fun a ha => ?_, o1, o2, HO3.out, Below.setCell HBW.out (by show _ ≤ w.heap.size + 1; omega) _⟩
      have := HLT.out a.block (by rw [ha]; rfl)
      simpa using this.2
    case pos =>
      have hle : (K : Int) + 1 ≤ (x.length : Int) + (y.length : Int) := by have := HNI.out; omega
      obtain ⟨lo, hlo⟩ : ∃ lo, addLo y.length K = lo := ⟨_, rfl⟩
      obtain ⟨ct, hct⟩ : ∃ ct, addCnt x.length y.length K = ct := ⟨_, rfl⟩
      have hlo1 : (K : Int) + 1 - (y.length : Int) ≤ (lo : Int) ∧ (lo : Int) ≤ (K : Int) + 1 ∧ (0 < lo → (lo : Int) = (K : Int) + 1 - (y.length : Int)) := by unfold addLo at hlo; omega
      have hct1 : lo + ct = min (K + 1) x.length + 1 := by have := HN.out; unfold addCnt at hct; rw [hlo] at hct; unfold addLo at hlo; omega
      have HLO := Lib.hid hlo; have HCT := Lib.hid hct; have HL1 := Lib.hid hlo1; have HC1 := Lib.hid hct1; clear hlo hct hlo1 hct1
      go_wp2_with fail
      obtain ⟨w9, hw9⟩ : ∃ v : World, v = wr := ⟨_, rfl⟩
      subst hw9
      go_loopg [10, 11] (x.length + 1) (fun N v10 v11 wr => ∃ I : Nat, v11 = .int .i64 I ∧ I ≤ x.length + 1 ∧ N = x.length + 1 - I ∧ v10 = .int .i64 ((addIn 0 1 x y K lo (min (I - lo) ct)).run c0).2 ∧ BoxC (fun p => ∀ a, p = some a → some a.block ≠ (Value.slice q l0.length cq).ownBlock) wr w.heap.size ((addIn 0 1 x y K lo (min (I - lo) ct)).run c0).1 ∧ KeepX [w.heap.size] w9 wr)
      case atStart => exact ⟨0, rfl, by omega, by omega, by rw [show min (0 - lo) ct = 0 by omega]; rfl, by rw [show min (0 - lo) ct = 0 by omega]; exact hBC, KeepX.refl _ _⟩
      case round =>
        obtain ⟨I, rfl, hI, hNI2, rfl, hB1, hk1⟩ := hrel
        obtain ⟨J, hJ⟩ : ∃ J, min (I - lo) ct = J := ⟨_, rfl⟩
        rw [hJ] at hB1 ⊢
        obtain ⟨c1, hc1⟩ : ∃ z, ((addIn 0 1 x y K lo J).run c0).1 = z := ⟨_, rfl⟩
        obtain ⟨a1, ha1⟩ : ∃ z, ((addIn 0 1 x y K lo J).run c0).2 = z := ⟨_, rfl⟩
        have hc1l : c1.length ≤ 20000 := by rw [← hc1]; exact run_le _ c0 hc0l
        have hc1p : 0 < c1.length := by rw [← hc1]; have := run_ge (addIn 0 1 x y K lo J) c0; omega
        have ha1l : a1 ≤ 40001 := by rw [← ha1]; exact addIn_le _ _ _ _ hc0l _
        rw [hc1] at hB1; rw [ha1]
        obtain ⟨pc, capc, h0, h0f, hq1, hq2, hq3, hq4, hne⟩ := hB1
        have hszr : w9.heap.size ≤ wr.heap.size := hk1.size
        have Hq3 := Lib.hid hq3; have Hq4 := Lib.hid hq4; have HNE := Lib.hid hne; have HK1 := Lib.hid hk1; have HC1r := Lib.hid hc1; have HA1r := Lib.hid ha1; have HJ := Lib.hid hJ; have HNI2 := Lib.hid hNI2
        clear hq3 hq4 hne hk1 hc1 ha1 hJ hNI2
        by_cases hIx : I ≤ x.length
        case neg =>
          have hIx2 : (x.length : Int) < (I : Int) := by omega
          have HJc := Lib.hid (show J = ct by have := HJ.out; have := HC1.out; omega)
          have HO2 := Lib.hid (owns_keepX HO.out HK1.out (by intro k hk; simp at hk; omega))
          have HBN2 := Lib.hid (show BoxN wr (w.heap.size + 1) from ⟨HK1.out.cell HBN.out.1 (by simp), HK1.out.free HBN.out.2 (by omega) (by simp)⟩)
          have hl0n : l0.length ≤ 200 := by have := HLL.out; omega
          go_wp2_with (first | (at_builtin; go_must (refine wpList_app2 (enc := iEnc) rfl _ _ _ rfl (w.heap.size + 1 + 1) 3 i0 _ 8 Try.underlying28 hi0 hz0 hz1 hz2 rfl (by omega) _ l0 rfl (HO2.out.alloc _) (some ⟨wr.heap.size, 0, none⟩) [a1] 1 rfl (fun h => by cases h) (SlAt.int1 (by go_cell)) iEnc_one (by simp [maxLen]; omega) (by simp; omega) (by simp; omega) ?_); intro v2 w3 hown2 hgr2 hbl2 hat2; have n0 := oldcell hbl2 (keep_alloc h0) (by omega); have n0f := oldfree hbl2 (free_alloc h0f (by omega)) (by omega); have HOW2 := Lib.hid hown2; have HGR2 := Lib.hid hgr2; have HBL2 := Lib.hid hbl2; have HAT2 := Lib.hid hat2; clear hown2 hgr2 hbl2 hat2))
          have hpb : ∀ a, pc = some a → a.block < wr.heap.size := (CAt.mk hq1 hq2 Hq3.out Hq4.out).spot hc1p
          have hg5 := SlAt.grown (Hq4.out.mono (w' := wr.alloc (.cells #[.int .i64 a1] 3)) (by go_grown)) HGR2.out HNE.out
          have e := addTo_succ x y K c
          rw [HC0.out, HL0.out, HLO.out, HCT.out, ← HJc.out, HC1r.out, HA1r.out] at e
          have hbw3 : Below w.heap.size w w3 := (HBW.out.trans (HK1.out.below (by omega) (by simp))).trans (Below.trans (Below.alloc (Below.refl _ _) (by omega) _) (HBL2.out.mono (by omega)))
          go_roundg (n - (K + 1))
          case measure => (have := HNk.out; omega)
          case rel =>
            refine ⟨K + 1, by go_num, by omega, rfl, ?_, ?_, ?_, hbw3, ?_⟩
            · rw [e]
              refine ⟨pc, capc, n0, n0f, hq1, hq2, Hq3.out, hg5, fun a ha => ?_⟩
              rcases HAT2.out with h | h
              · rw [h]; exact HNE.out a ha
              · rw [h]; have := hpb a ha; simp; omega
            · exact ⟨oldcell HBL2.out (keep_alloc HBN2.out.1) (by omega), oldfree HBL2.out (free_alloc HBN2.out.2 (by omega)) (by omega)⟩
            · rw [e]; exact HOW2.out
            · have := HBL2.out.size; simp at this; omega
        case pos =>
          have hIx2 : (I : Int) ≤ (x.length : Int) := by omega
          by_cases hsk : I ≤ K + 1 ∧ lo ≤ I
          case neg =>
            have HS := Lib.hid (show min (I + 1 - lo) ct = J by have := HJ.out; have := HC1.out; omega)
            have hsk2 : (K : Int) + 1 < (I : Int) ∨ (I : Int) < (lo : Int) := by omega
            clear hsk
            rcases hsk2 with hsk | hsk
            · have hj0 : (K : Int) + 1 - (I : Int) < 0 := by omega
              go_wp2_with fail
              go_roundg (x.length + 1 - (I + 1))
              case measure => (have := HNI2.out; omega)
              case rel => exact ⟨I + 1, by go_num, by omega, rfl, by rw [HS.out, HA1r.out], by rw [HS.out, HC1r.out]; exact ⟨pc, capc, h0, h0f, hq1, hq2, Hq3.out, Hq4.out, HNE.out⟩, HK1.out⟩
            · have hj0 : (0 : Int) ≤ (K : Int) + 1 - (I : Int) := by have := HL1.out; omega
              have hj1 : (y.length : Int) < (K : Int) + 1 - (I : Int) := by have := HL1.out; omega
              go_wp2_with fail
              go_roundg (x.length + 1 - (I + 1))
              case measure => (have := HNI2.out; omega)
              case rel => exact ⟨I + 1, by go_num, by omega, rfl, by rw [HS.out, HA1r.out], by rw [HS.out, HC1r.out]; exact ⟨pc, capc, h0, h0f, hq1, hq2, Hq3.out, Hq4.out, HNE.out⟩, HK1.out⟩
          case pos =>
            have hIk : (I : Int) ≤ (K : Int) + 1 := by omega
            have hj0 : (0 : Int) ≤ (K : Int) + 1 - (I : Int) := by omega
            have hj1 : (K : Int) + 1 - (I : Int) ≤ (y.length : Int) := by have := HL1.out; omega
            have HJ0 := Lib.hid (show lo + J = I by have := HJ.out; have := HC1.out; omega)
            have HJ1 := Lib.hid (show min (I + 1 - lo) ct = J + 1 by have := HJ.out; have := HC1.out; omega)
            have HIXr := Lib.hid ((HIX.out.mono HBW.out).mono (show Below w9.heap.size w9 w9 from Below.refl _ _))
            have HIX9 := Lib.hid (((HIX.out.mono HBW.out)).keep2 HK1.out (fun a ha _ => by have := HPX.out a ha; simp; omega))
            have HIY9 := Lib.hid (((HIY.out.mono HBW.out)).keep2 HK1.out (fun a ha _ => by have := HPY.out a ha; simp; omega))
            obtain ⟨r1, hr1⟩ : ∃ z, ureach 0 1 x (I : Int) = z := ⟨_, rfl⟩
            obtain ⟨r2, hr2⟩ : ∃ z, ureach 0 1 y ((K : Int) + 1 - (I : Int)) = z := ⟨_, rfl⟩
            have hr1l : r1 ≤ 9223372036854775807 := by rw [← hr1]; have := ureach_le HXR.out (I : Int); omega
            have hr2l : r2 ≤ 9223372036854775807 := by rw [← hr2]; have := ureach_le HYR.out ((K : Int) + 1 - (I : Int)); omega
            obtain ⟨c2, t2, hc2⟩ : ∃ d r, cand c1 r1 r2 = (d, r) := ⟨_, _, rfl⟩
            obtain ⟨c3, a3, hc3⟩ : ∃ d r, cor c2 a1 t2 = (d, r) := ⟨_, _, rfl⟩
            have hc2l : c2.length ≤ 20000 := by have := (cand_le (a := r1) (b := r2) hc1l).1; rw [hc2] at this; exact this
            have ht2 : t2 ≤ 9223372036854775807 := by have := (cand_le (a := r1) (b := r2) hc1l).2; rw [hc2] at this; omega
            have ha1m : a1 ≤ 9223372036854775807 := by omega
            have HR1 := Lib.hid hr1; have HR2 := Lib.hid hr2; have HC2 := Lib.hid hc2; have HC3 := Lib.hid hc3; clear hr1 hr2 hc2 hc3 HIXr
            go_upto_region 11 with fail
            go_cut [13, 14] (fun s13 s14 wx => ∃ b : Nat, s13 = .pointer (some ⟨b, 0, none⟩) ∧ s14 = .int .i64 t2 ∧ wr.heap.size ≤ b ∧ BoxC (Fresh wr pc) wx b c2 ∧ Below wr.heap.size wr wx)
            case first =>
              go_region_held3 (fun w' => w'.cell? ⟨w.heap.size, 0, none⟩ = some (.slice pc c1.length capc)) ((repeat (first | (with_reducible assumption) | (with_reducible refine keep_drew ?_) | (with_reducible refine keep_far ?_ (by dsimp only; omega)) | (go_cell; done) | (with_reducible refine keep_alloc ?_)))) (first | (go_at_call 76; (with_reducible refine (rreach_any x _ px cx _ (by omega) (by omega) (HIX9.out.mono (by go_grown))).mono ?_); rintro e w' ⟨he, rfl⟩; rw [HR1.out] at he; subst he) | (go_at_call 76; (with_reducible refine (rreach_any y _ py cy _ (by omega) (by omega) (HIY9.out.mono (by go_grown))).mono ?_); rintro e w' ⟨he, rfl⟩; rw [HR2.out] at he; subst he) | (go_at_call 22; refine (rand_any c1 r1 r2 pc capc _ hr1l hr2l hc1l hq1 hq2 Hq3.out (Hq4.out.mono (by go_grown))).mono ?_; unfold RAndPost; rw [HC2.out]; rintro e w1 ⟨p1, cap1, rfl, u1, u2, u3, u4, hbl, hfr⟩; have k0 := oldcell (b := w.heap.size) (o := 0) hbl (v := .slice pc c1.length capc) (by go_cell) (by simp <;> omega); have HZ := hbl.size; obtain ⟨hcc1, hff1⟩ := bcell hbl))
              all_goals
                have HB : Below wr.heap.size wr w1 := Below.trans (by go_grown) (hbl.mono (by simp <;> omega))
                have HF : Fresh wr pc p1 := hfr.up (by simp <;> omega)
                simp at HZ
                go_wp2_with fail
                go_meet
                refine ⟨_, rfl, rfl, ?_, ?_, ?_⟩
                · first | omega | (simp; omega)
                · first | exact BoxC.new u1 u2 u3 u4 HF | (refine BoxC.put (a := none) (n := 0) (c := 0) ?_ ?_ u1 u2 u3 u4 HF <;> go_cell)
                · go_grown
            case rest =>
            obtain ⟨b13, rfl, rfl, hb13, ⟨p2, cap2, g0, g0f, v1, v2, v3, v4, v5⟩, hbx⟩ := hcut
            have V3 := Lib.hid v3; have V4 := Lib.hid v4; have V5 := Lib.hid v5; have HBX := Lib.hid hbx; clear v3 v4 v5 hbx
            have hsx := HBX.out.size
            have f0 := oldcell HBX.out h0 (by omega)
            have f0f := oldfree HBX.out h0f (by omega)
            have hb13l : b13 < wc.heap.size := World.block_lt_of_cell? _ _ g0
            go_wp2_with (first | (go_at_call 24; refine (ror_any c2 a1 t2 p2 cap2 _ ha1m ht2 hc2l v1 v2 V3.out (V4.out.mono (by go_grown))).mono ?_; unfold ROrPost; rw [HC3.out]; rintro e w1 ⟨p3, cap3, rfl, u1, u2, u3, u4, hbl, hfr⟩; have k0 := oldcell hbl f0 (by omega); have k0f := oldfree hbl f0f (by omega); have hzz := World.block_lt_of_cell? _ _ k0; have U3 := Lib.hid u3; have U4 := Lib.hid u4; have HF := Lib.hid hfr; have HBL := Lib.hid hbl; clear u3 u4 hfr hbl))
            have hnew : w.heap.size ≠ w1.heap.size := by omega
            have U4' := (U4.out.setBox k0 (gEnc_ne_slice _ _ _) (.slice p3 c3.length cap3)).mono (w' := (w1.setCell ⟨w.heap.size, 0, none⟩ (.slice p3 c3.length cap3)).alloc (.cells #[.slice p3 c3.length cap3] 25)) (by go_grown)
            have hk3 : KeepX [w.heap.size] w9 ((w1.setCell ⟨w.heap.size, 0, none⟩ (.slice p3 c3.length cap3)).alloc (.cells #[.slice p3 c3.length cap3] 25)) := by
              have k1 : KeepX [w.heap.size] w9 wc := HK1.out.trans (KeepX.of_below HBX.out)
              have k2 : KeepX [w.heap.size] w9 w1 := k1.trans (KeepX.of_below HBL.out)
              exact (k2.setCell (a := ⟨w.heap.size, 0, none⟩) (by simp) _).trans (KeepX.of_below (by go_grown))
            go_roundg (x.length + 1 - (I + 1))
            case measure => (have := HNI2.out; omega)
            case rel =>
              have e := addIn_succ x y K lo J c0
              rw [HJ0.out, HC1r.out, HA1r.out, HR1.out, HR2.out, HC2.out, HC3.out] at e
              refine ⟨I + 1, by go_num, by omega, rfl, by rw [HJ1.out, e], ?_, hk3⟩
              rw [HJ1.out, e]
              refine ⟨p3, cap3, by go_cell, free_alloc (by rw [World.frozen?_setCell]; exact k0f) (by simp; omega), u1, u2, U3.out, U4', fun a ha => ?_⟩
              rcases HF.out with h | h
              · rcases V5.out with h' | h'
                · exact HNE.out a (by rw [← h', ← h]; exact ha)
                · have h6 := h' a (by rw [← h]; exact ha)
                  intro h8
                  have h7 := (HLT.out a.block h8.symm).2
                  omega
              · have h6 := h a ha
                intro h8
                have h7 := (HLT.out a.block h8.symm).2
                omega
end Go.Proofs.Ytanlecgpnknhoaa

