/- Walk of layer 16: Sorter. -/
import Derived.Test.YtanlecgpnknhoaaC4
import Derived.Test.YtanlecgpnknhoaaC11
import Derived.Laws.CopyOwn
import Derived.Laws.CopyRow
namespace Go.Proofs.Ytanlecgpnknhoaa
set_option linter.unusedSimpArgs false
set_option linter.unusedVariables false
open Go.RowKit

@[go_sem] theorem run_store_func {P : Program} {w : World} {a : Addr} {m : Mode} (f : Fn) (x c : Array Value) : Sem.run P (store a (.func f x c) m) w = stored P w a (.func f x c) m := run_store P w a _ m rfl
theorem copy_int {wr : World} {B g Z n ci : Nat} {m l : List Int} {pi : Option Addr} (hO : OwnI wr B g Z Z m) (hI : IntsAt wr pi l) (hn : l.length = n) (hz : n ≤ Z) (hp : pi = none → ci = 0) (hc : n ≤ ci) :
    ∃ w', Sem.run Try.prog (Builtin.copy_ #[28, 28] 3 #[.slice (some ⟨g, 0, none⟩) Z Z, .slice pi n ci]) wr = .ok (goInt n) w' ∧ OwnI w' B g Z Z (l ++ m.drop n) ∧ KeepX [g] wr w' := by
  obtain ⟨i0, hi0, hz0, hz1, hz2⟩ := info_parts int_info
  have hu := Try.underlying28
  have hs1 : (Try.prog.info? 3).map (·.size) = some 1 := by rw [hi0]; simp [hz1]
  rcases pi with _ | a
  · have h0 := hp rfl
    subst h0
    have hn0 : n = 0 := by omega
    subst hn0
    have hl0 : l = [] := List.length_eq_zero_iff.1 hn
    subst hl0
    exact ⟨wr, run_copy_nil (P := Try.prog) wr _ _ _ _ ⟨g, 0, none⟩ Z Z hu (by rw [hs1]; rfl), by simpa using hO, KeepX.refl _ _⟩
  · obtain ⟨hm, hlen, hrow⟩ := hO
    rcases hrow with ⟨hv, _⟩ | ⟨g', cap', cur, hv, hb, hh, h1, h2, h3, h4⟩
    · cases hv
    · cases hv
      rw [flat1_rep'.flat1'] at h4
      have h5 : cur.toList = m.map fun x => iEnc x 0 := by
        rw [← h4]; exact (List.take_of_length_le (by simp [h3])).symm
      have hI' : ∀ j v, (l.map fun x => iEnc x 0)[j]? = some v → wr.cell? (a.add j) = some v := by
        intro j v hv
        rw [List.getElem?_map] at hv
        rcases hI with h | ⟨b, off, hp', hb', hc'⟩
        · subst h; simp at hv
        · cases hp'
          cases hx : l[j]? with
          | none => rw [hx] at hv; cases hv
          | some x =>
            rw [hx] at hv
            cases hv
            have := hc' j x hx 0 (by omega)
            rw [← this]; simp [Addr.add]; split
            · rename_i h0; subst h0; rfl
            · rfl
      have hrun := run_copy_row (P := Try.prog) wr 28 28 3 3 g 0 Z Z a n ci cur 3 (l.map fun x => iEnc x 0) hu hs1 hh (by simp [hn, Nat.min_eq_left hz]) hI' (by simp [hn, h3]; omega) (by
        intro v hv; rw [List.mem_map] at hv; obtain ⟨x, _, rfl⟩ := hv; rfl)
      have hlist : cur.toList.take 0 ++ (l.map fun x => iEnc x 0) ++ cur.toList.drop (0 + (l.map fun x => iEnc x 0).length) = (l ++ m.drop n).map fun x => iEnc x 0 := by
        rw [h5]; simp [hn]
      rw [hlist] at hrun
      refine ⟨wr.setRow g ((l ++ m.drop n).map fun x => iEnc x 0).toArray, by rw [hrun, List.length_map, hn], ⟨by simp [hn, hm]; omega, ⟨by rw [flat1_rep'.flat1']; simp [hn, hm]; omega, .inr ⟨g, Z, _, rfl, hb, setRow_heap wr g cur _ _ _ hh, Nat.le_refl _, h2, by simp [hn, hm]; omega, ?_⟩⟩⟩, ⟨rfl, rfl, rfl, by simp, fun k hk hx => setRow_other wr g k _ (by simpa using hx)⟩⟩
      rw [flat1_rep'.flat1']
      exact List.take_of_length_le (by simp [hn, hm]; omega)

set_option maxRecDepth 100000 in
set_option maxHeartbeats 4000000 in
theorem sorter_any (c : List Gate) (l : List Int) (n : Nat) (p pi : Option Addr) (cap ci : Nat) (w : World) (hn : l.length = n) (h6 : n ≤ 500) (hcap : n ≤ ci) (hcm : ci ≤ maxLen) (hp0 : pi = none → ci = 0) (hr : AllLe l) (hl : c.length ≤ 20000) (hc : 0 < c.length)
    (hC : CAt w p cap c) (hi : IntsAt w pi l) (hpl : ∀ a, pi = some a → a.block < w.heap.size) :
    Calls Try.prog 43 #[.agg #[.slice p c.length cap], .slice pi n ci] w (RetCL w ((usorter 1 l).run c)) := by
  have HN := Lib.hid hn; have HP0 := Lib.hid hp0; have HR := Lib.hid hr; have HC := Lib.hid hC; have HI := Lib.hid hi; have HPL := Lib.hid hpl
  clear hn hp0 hr hC hi hpl
  obtain ⟨i0, hi0, hz0, hz1, hz2⟩ := info_parts int_info
  have hmf : ∀ (fn : Fn) (first cap : Array Value) (w : World), (Instr.makeFunc fn first cap).run Try.prog w = .ok (.func fn first cap) w := fun _ _ _ _ => rfl
  go_enter Try.func43, Try.ntmps43
  go_wp2_with fail
  go_loopg [7] (n + 1) (fun N' v wr => ∃ e Z : Nat, v = .int .i64 Z ∧ 2 ^ e = Z ∧ plog n n 0 = plog n (n - e) e ∧ e ≤ n ∧ Z ≤ 1000 ∧ N' = n + 1 - e ∧ wr = ((((w.alloc (.cells #[.slice p c.length cap] 25)).alloc (.cells #[.slice none 0 0] 25)).alloc (.cells #[.slice p c.length cap] 80)).alloc (.cells #[.pointer (some ⟨w.heap.size + 1 + 1, 0, none⟩)] 78)))
  case atStart => exact ⟨0, 1, rfl, rfl, rfl, by omega, by omega, rfl, rfl⟩
  case round =>
    obtain ⟨e, Z, rfl, hZ, hpl, he, hZ1, hN', rfl⟩ := hrel
    have hZe : e < Z := by rw [← hZ]; exact Nat.lt_two_pow_self
    by_cases hlt : Z < n
    case pos =>
      obtain ⟨f, hf⟩ : ∃ f, n - e = f + 1 := ⟨n - e - 1, by omega⟩
      have hp2 : plog n n 0 = plog n (n - (e + 1)) (e + 1) := by
        rw [hpl, hf]; rw [show plog n (f + 1) e = if 2 ^ e < n then plog n f (e + 1) else e from rfl, hZ, if_pos hlt, show n - (e + 1) = f by omega]
      have HP2 := Lib.hid hp2; have HZ := Lib.hid hZ; have HN' := Lib.hid hN'
      clear hp2 hZ hN' hpl hf
      go_wp2_with fail
      go_roundg (n + 1 - (e + 1))
      case measure => (have := HN'.out; omega)
      case rel => exact ⟨e + 1, Z + Z, by go_num, by rw [Nat.pow_succ, HZ.out]; omega, HP2.out, by omega, by omega, rfl, rfl⟩
    case neg =>
      have hp2 : plog n n 0 = e := by
        rw [hpl]; rcases n - e with _ | f
        · rfl
        · rw [show plog n (f + 1) e = if 2 ^ e < n then plog n f (e + 1) else e from rfl, hZ, if_neg hlt]
      have HP2 := Lib.hid hp2; have HZ := Lib.hid hZ
      clear hp2 hZ hN' hpl
      go_wp2_with fail
      have K0 := Lib.hid (show Below w.heap.size w ((((w.alloc (.cells #[.slice p c.length cap] 25)).alloc (.cells #[.slice none 0 0] 25)).alloc (.cells #[.slice p c.length cap] 80)).alloc (.cells #[.pointer (some ⟨w.heap.size + 1 + 1, 0, none⟩)] 78)) from by go_grown)
      have hb3 := Lib.hid (show BxA [] ((((w.alloc (.cells #[.slice p c.length cap] 25)).alloc (.cells #[.slice none 0 0] 25)).alloc (.cells #[.slice p c.length cap] 80)).alloc (.cells #[.pointer (some ⟨w.heap.size + 1 + 1, 0, none⟩)] 78)) (w.heap.size + 1 + 1) c by
        have := (BxA.of_lit (w := (w.alloc (.cells #[.slice p c.length cap] 25)).alloc (.cells #[.slice none 0 0] 25)) (HC.out.mono (by go_grown)) 80).keep (X := []) (KeepX.of_below (w' := ((((w.alloc (.cells #[.slice p c.length cap] 25)).alloc (.cells #[.slice none 0 0] 25)).alloc (.cells #[.slice p c.length cap] 80)).alloc (.cells #[.pointer (some ⟨w.heap.size + 1 + 1, 0, none⟩)] 78))) (by go_grown)) (by simp) (by simp)
        simpa using this)
      have c4 := Lib.hid (show (((((w.alloc (.cells #[.slice p c.length cap] 25)).alloc (.cells #[.slice none 0 0] 25)).alloc (.cells #[.slice p c.length cap] 80)).alloc (.cells #[.pointer (some ⟨w.heap.size + 1 + 1, 0, none⟩)] 78))).cell? ⟨w.heap.size + 1, 0, none⟩ = some (.slice none 0 0) by go_cell)
      have f4 := Lib.hid (show (((((w.alloc (.cells #[.slice p c.length cap] 25)).alloc (.cells #[.slice none 0 0] 25)).alloc (.cells #[.slice p c.length cap] 80)).alloc (.cells #[.pointer (some ⟨w.heap.size + 1 + 1, 0, none⟩)] 78))).frozen? ⟨w.heap.size + 1, 0, none⟩ = false by go_cell)
      have c6 := Lib.hid (show (((((w.alloc (.cells #[.slice p c.length cap] 25)).alloc (.cells #[.slice none 0 0] 25)).alloc (.cells #[.slice p c.length cap] 80)).alloc (.cells #[.pointer (some ⟨w.heap.size + 1 + 1, 0, none⟩)] 78))).cell? ⟨w.heap.size + 1 + 1 + 1, 0, none⟩ = some (.pointer (some ⟨w.heap.size + 1 + 1, 0, none⟩)) by go_cell)
      have z4 := Lib.hid (show (((((w.alloc (.cells #[.slice p c.length cap] 25)).alloc (.cells #[.slice none 0 0] 25)).alloc (.cells #[.slice p c.length cap] 80)).alloc (.cells #[.pointer (some ⟨w.heap.size + 1 + 1, 0, none⟩)] 78))).heap.size = w.heap.size + 1 + 1 + 1 + 1 by simp)
      generalize hW4 : ((((w.alloc (.cells #[.slice p c.length cap] 25)).alloc (.cells #[.slice none 0 0] 25)).alloc (.cells #[.slice p c.length cap] 80)).alloc (.cells #[.pointer (some ⟨w.heap.size + 1 + 1, 0, none⟩)] 78)) = W4 at *
      clear hW4
      have hr := run_make_full (P := Try.prog) W4 W4.heap.size 28 3 i0 (.int .i64 0) 1 Try.underlying28 hi0 hz0 hz1 .i64 .i64 Z (by rw [hz2]; omega) (by simp [maxLen]; omega) (by simp)
      obtain ⟨w1, hrun, hown, hgr⟩ := hr
      rw [hrun]
      have hO : OwnI w1 W4.heap.size W4.heap.size Z Z (List.replicate Z 0) := ⟨List.length_replicate, by
        rw [flat1_rep']
        have e := toList_madeCells_one (.int .i64 0) Z
        rw [show (Value.int IntKind.i64 0).cells = #[.int .i64 0] from rfl, Nat.mul_one, e] at hown
        exact hown⟩
      have hK0 : Below W4.heap.size W4 w1 := Below.grown (Below.refl _ _) hgr (by simp) (fun k hk => by cases hk)
      have HK := Lib.hid hK0; have HO := Lib.hid hO
      have hg1 := hO.lt
      have hz1 := hgr.size
      clear hown hgr hrun hK0 hO
      generalize hg : W4.heap.size = g at *
      generalize hbl : w1.heap.size = bl at *
      go_wp2_with fail
      have HO2 := Lib.hid (HO.out.keep (X := []) (KeepX.of_below (w' := w1.alloc (.cells #[.slice (some ⟨g, 0, none⟩) Z Z] 28)) (by go_grown)) (by simp))
      have kl2 := Lib.hid (show (w1.alloc (.cells #[.slice (some ⟨g, 0, none⟩) Z Z] 28)).cell? ⟨bl, 0, none⟩ = some (.slice (some ⟨g, 0, none⟩) Z Z) by rw [← hbl]; go_cell)
      go_loopg [26] Z (fun N' v wr => ∃ k : Nat, v = .int .i64 k ∧ k ≤ Z ∧ N' = Z - k ∧ OwnI wr g g Z Z (List.replicate k 1 ++ List.replicate (Z - k) 0) ∧ KeepX [g] (w1.alloc (.cells #[.slice (some ⟨g, 0, none⟩) Z Z] 28)) wr)
      case atStart => exact ⟨0, rfl, by omega, rfl, HO2.out, KeepX.refl _ _⟩
      case round =>
        obtain ⟨k, rfl, hk, hN', ho, hkk⟩ := hrel
        have kl := hkk.cell kl2.out (by simp; omega)
        by_cases hlt3 : k < Z
        case pos =>
          have kc := ho.get hlt3; have kf := ho.free k
          have HN' := Lib.hid hN'; have HOr := Lib.hid ho; have HKr := Lib.hid hkk; clear hN' ho hkk
          go_wp2_with fail
          go_roundg (Z - (k + 1))
          case measure => (have := HN'.out; omega)
          case rel =>
            have hs := HOr.out.set k 1
            rw [show (List.replicate k (1 : Int) ++ List.replicate (Z - k) (0 : Int)).set k (1 : Int) = List.replicate (k + 1) 1 ++ List.replicate (Z - (k + 1)) 0 by
              rw [show Z - k = (Z - (k + 1)) + 1 by omega, List.replicate_succ, List.set_append]
              simp [List.replicate_succ']] at hs
            exact ⟨k + 1, by go_num, by omega, rfl, hs, HKr.out.setCell (by simp) _⟩
        case neg =>
          have hk2 : k = Z := by omega
          subst hk2
          go_wp2_with fail
          have HI7 : IntsAt wr pi l := by
            have i1 := HI.out.mono K0.out
            have i2 := i1.mono (by rw [hg]; exact HK.out)
            have i3 := i2.mono (w' := w1.alloc (.cells #[.slice (some ⟨g, 0, none⟩) k k] 28)) (by go_grown)
            rcases i3 with h | ⟨b', off, hp', hb', hc'⟩
            · exact .inl h
            · have hlt' := HPL.out _ hp'
              have hz4 := z4.out
              exact .inr ⟨b', off, hp', Nat.lt_of_lt_of_le hb' hkk.size, fun i x hx j hj => hkk.cell (hc' i x hx j hj) (by simp; show b' ≠ g; dsimp at hlt'; omega)⟩
          obtain ⟨w7, hcp, ho7, hk7⟩ := copy_int ho HI7 HN.out (by omega) HP0.out hcap
          rw [hcp]
          go_wp2_with fail
          generalize hz7 : w7.heap.size = z at *
          obtain ⟨W, hW⟩ : ∃ W, (((w7.alloc (.cells #[.func (.func 64) #[] #[.pointer (some ⟨bl, 0, none⟩), .pointer (some ⟨w.heap.size + 1 + 1 + 1, 0, none⟩)]] 82)).alloc (.cells #[.func (.func 67) #[] #[.pointer (some ⟨z, 0, none⟩), .pointer (some ⟨z + 1, 0, none⟩)]] 83)).alloc (.cells #[.func (.func 68) #[] #[.pointer (some ⟨z + 1 + 1, 0, none⟩), .pointer (some ⟨z + 1, 0, none⟩)]] 82)) = W := ⟨_, rfl⟩
          have k7W : KeepX [] w7 W := by rw [← hW]; exact KeepX.of_below (by go_grown)
          have k4 : KeepX [] W4 (w1.alloc (.cells #[.slice (some ⟨g, 0, none⟩) k k] 28)) := KeepX.of_below (by rw [hg]; exact HK.out.alloc (by omega) _)
          have kAll : KeepX [g] W4 W := (k4.sub (by simp)).trans (hkk.trans (hk7.trans (k7W.sub (by simp))))
          have zbl : bl < z := by
            have h1 := hkk.size; have h2 := hk7.size; simp at h1; omega
          have hz4 := z4.out
          have SB : BxA [g] W (w.heap.size + 1 + 1) c := (hb3.out.more hc (by rw [hg]; exact Nat.le_refl _)).keep kAll (by simp; omega) (by simp)
          have SO : OwnI W g g k k (l ++ List.replicate (k - n) 1) := by
            have h := ho7.keep k7W (by simp)
            simpa using h
          have w10 : W.cell? ⟨bl, 0, none⟩ = some (.slice (some ⟨g, 0, none⟩) k k) := k7W.cell (hk7.cell kl (by simp; omega)) (by simp)
          have w11 : W.cell? ⟨w.heap.size + 1 + 1 + 1, 0, none⟩ = some (.pointer (some ⟨w.heap.size + 1 + 1, 0, none⟩)) := kAll.cell c6.out (by simp; omega)
          have w12 : W.cell? ⟨z, 0, none⟩ = some (.func (.func 64) #[] #[.pointer (some ⟨bl, 0, none⟩), .pointer (some ⟨w.heap.size + 1 + 1 + 1, 0, none⟩)]) := by subst hW; subst hz7; go_cell
          have w13 : W.cell? ⟨z + 1, 0, none⟩ = some (.func (.func 67) #[] #[.pointer (some ⟨z, 0, none⟩), .pointer (some ⟨z + 1, 0, none⟩)]) := by subst hW; subst hz7; go_cell
          have w14 : W.cell? ⟨z + 1 + 1, 0, none⟩ = some (.func (.func 68) #[] #[.pointer (some ⟨z + 1 + 1, 0, none⟩), .pointer (some ⟨z + 1, 0, none⟩)]) := by subst hW; subst hz7; go_cell
          rw [hW]
          have hab : AllLe (l ++ List.replicate (k - n) 1) := by
            intro r hr
            rcases List.mem_append.1 hr with h | h
            · exact HR.out r h
            · rw [(List.mem_replicate.1 h).2]; omega
          have hc7 := sort_any [] (w.heap.size + 1 + 1) g k g bl (w.heap.size + 1 + 1 + 1) z (z + 1) (z + 1 + 1) hZ1 (by omega) (by omega) e 0 c (l ++ List.replicate (k - n) 1) W (by rw [HZ.out]; omega) ⟨hl, hab⟩ ⟨SB, SO⟩ ⟨w10, w11, w12, w13, by omega, by omega, by omega, by omega, by omega, by omega, by omega, by omega, by omega⟩ w14 (by simp)
          rw [HZ.out] at hc7
          refine hc7.mono ?_
          clear hc7
          obtain ⟨c9, l9, h9⟩ : ∃ c' l', (usort 1 e 0 (l ++ List.replicate (k - n) 1)).run c = (c', l') := ⟨_, _, rfl⟩
          rw [h9]
          rintro e' w8 ⟨he', ⟨sb8, so8⟩, hk8⟩
          subst he'
          have kk8 : KeepX [w.heap.size + 1 + 1, g] W4 w8 := (kAll.sub (by simp)).trans hk8
          have d10 := hk8.cell w10 (by simp; omega)
          have d11 := hk8.cell w11 (by simp; omega)
          have d4 := kk8.cell c4.out (by simp; omega)
          have e4 := kk8.free f4.out (by omega) (by simp; omega)
          obtain ⟨pb, capb, g1, g2, g3, g4⟩ := sb8
          have hfin : (usorter 1 l).run c = (c9, l9.take n) := by
            unfold usorter
            rw [CM.run_bind, HN.out, HP2.out, HZ.out, h9]; rfl
          have G3 := Lib.hid g3; have SO8 := Lib.hid so8; have KK8 := Lib.hid kk8
          have hnk : n ≤ k := by omega
          have hbz : w.heap.size + 1 + 1 < w8.heap.size := by have := kk8.size; omega
          have HFIN := Lib.hid hfin
          clear ho hkk kl HI7 hcp ho7 hk7 k7W k4 kAll SB SO w10 w11 w12 w13 w14 hk8 so8 kk8 g3 hW hfin h9
          go_wp2_with fail

          refine wp_region_seqM (fun s w' => KeepX [w.heap.size + 1] w8 w' ∧ w'.frozen? ⟨w.heap.size + 1, 0, none⟩ = false ∧ w'.cell? ⟨w.heap.size + 1, 0, none⟩ = some (match s with | 0 => .slice none 0 0 | _ => .slice pb c9.length capb) ∧ w' = (match s with | 0 => w8.drew | _ => w8.drew.setCell ⟨w.heap.size + 1, 0, none⟩ (.slice pb c9.length capb))) [8] (by kernel_rfl) (by kernel_rfl) (by kernel_rfl) ?_ ?_
          · exact ⟨KeepX.of_below (by go_grown), e4, d4, rfl⟩
          refine seqM_pure (v := ?_) (by decide) (by decide) (by rfl) ?_ ?_
          rotate_left
          · (intro sj hj w hS; replace hS := hS.1; have kk := hS.cell d11 (by first | (simp; done) | (simp; omega)); go_simp; try with_reducible rfl)
          (try simp only [Act.put, List.setIfInBounds_toArray, List.set_cons_zero, List.set_cons_succ])
          refine seqM_pure (v := ?_) (by decide) (by decide) (by rfl) ?_ ?_
          rotate_left
          · (intro sj hj w hS; replace hS := hS.1; go_simp; try with_reducible rfl)
          (try simp only [Act.put, List.setIfInBounds_toArray, List.set_cons_zero, List.set_cons_succ])
          refine seqM_pure (v := ?_) (by decide) (by decide) (by rfl) ?_ ?_
          rotate_left
          · (intro sj hj w hS; replace hS := hS.1; go_simp; try with_reducible rfl)
          (try simp only [Act.put, List.setIfInBounds_toArray, List.set_cons_zero, List.set_cons_succ])
          refine seqM_pure (v := ?_) (by decide) (by decide) (by rfl) ?_ ?_
          rotate_left
          · (intro sj hj w hS; replace hS := hS.1; have kk := hS.cell g1 (by first | (simp; done) | (simp; omega)); go_simp; try with_reducible rfl)
          (try simp only [Act.put, List.setIfInBounds_toArray, List.set_cons_zero, List.set_cons_succ])
          refine seqM_pure (v := ?_) (by decide) (by decide) (by rfl) ?_ ?_
          rotate_left
          · (intro sj hj w hS; replace hS := hS.1; have kk := hS.cell d10 (by first | (simp; done) | (simp; omega)); go_simp; try with_reducible rfl)
          (try simp only [Act.put, List.setIfInBounds_toArray, List.set_cons_zero, List.set_cons_succ])
          refine seqM_pure (v := ?_) (by decide) (by decide) (by rfl) ?_ ?_
          rotate_left
          · (intro sj hj w hS; replace hS := hS.1; go_simp; try with_reducible rfl)
          (try simp only [Act.put, List.setIfInBounds_toArray, List.set_cons_zero, List.set_cons_succ])
          refine seqM_pure (v := ?_) (by decide) (by decide) (by rfl) ?_ ?_
          rotate_left
          · (intro sj hj w hS; replace hS := hS.1; go_simp; try with_reducible rfl)
          (try simp only [Act.put, List.setIfInBounds_toArray, List.set_cons_zero, List.set_cons_succ])
          refine seqM_pure (v := ?_) (by decide) (by decide) (by rfl) ?_ ?_
          rotate_left
          · (intro sj hj w hS; replace hS := hS.1; go_simp; try with_reducible rfl)
          (try simp only [Act.put, List.setIfInBounds_toArray, List.set_cons_zero, List.set_cons_succ])
          refine seqM_store (f := fun w' => w'.setCell ⟨w.heap.size + 1, 0, none⟩ (.slice pb c9.length capb)) (by decide) (by decide) (by rfl) ?_ ?_
          · (intro w hS; obtain ⟨s1, s2, s3, s4⟩ := hS; refine ⟨by go_simp, s1.setCell (by simp) _, by rw [World.frozen?_setCell]; exact s2, by go_cell, by rw [s4]; rfl⟩)
          (try simp only [Act.put, List.setIfInBounds_toArray, List.set_cons_zero, List.set_cons_succ])
          refine seqM_pure (v := ?_) (by decide) (by decide) (by rfl) ?_ ?_
          rotate_left
          · (intro sj hj w hS; replace hS := hS.1; go_simp; try with_reducible rfl)
          (try simp only [Act.put, List.setIfInBounds_toArray, List.set_cons_zero, List.set_cons_succ])
          refine seqM_nil ?_
          intro w2 hS
          have S1 := Lib.hid hS.1
          have s3 : w2.cell? ⟨w.heap.size + 1, 0, none⟩ = some (.slice pb c9.length capb) := hS.2.2.1
          have hw2 : w2 = w8.drew.setCell ⟨w.heap.size + 1, 0, none⟩ (.slice pb c9.length capb) := hS.2.2.2
          have HW2 := Lib.hid hw2
          clear hS hw2
          go_wp2_with fail
          have hlen : (l9.take n).length = n := by rw [List.length_take, SO8.out.1]; omega
          refine bodyPost_ret (by simp [results, Try.results43, go_sem, s3]; try rfl) rfl ?_
          rw [HFIN.out]
          have hk0 : w.heap.size + 1 + 1 < w8.heap.size := hbz
          have hO : OwnI w2 g g k k l9 := SO8.out.keep S1.out (by simp; omega)
          have hI : IntsAt w2 (some ⟨g, 0, none⟩) (l9.take n) := by
            rcases hO.at' with h | ⟨b, off, hp, hb, hc'⟩
            · exact .inl (by rw [h]; exact List.take_nil)
            · refine .inr ⟨b, off, hp, hb, fun i x hx j hj => hc' i x ?_ j hj⟩
              rw [List.getElem?_take] at hx
              split at hx
              · exact hx
              · cases hx
          refine ⟨pb, capb, some ⟨g, 0, none⟩, k, ?_, ⟨G3.out.le, G3.out.cm, G3.out.p0, ?_⟩, hI, (fun a ha => by cases ha; exact hO.lt), by show (l9.take n).length ≤ k; omega, by simp [maxLen]; omega, (fun h => by cases h), ?_⟩
          · show _ = Ending.returned (.tuple #[_, .slice _ (l9.take n).length _])
            rw [hlen, ← hz4]
          · rw [HW2.out]; exact SlAt.setBox (w := w8.drew) G3.out.at' d4 (gEnc_ne_slice _ _ _) _
          · rw [HW2.out]
            refine Below.setCell ?_ (by show _ ≤ w.heap.size + 1; omega) _
            have hb8 : Below w.heap.size w w8 := K0.out.trans (KK8.out.below (by omega) (by simp; omega))
            exact hb8.trans (by go_grown)
end Go.Proofs.Ytanlecgpnknhoaa
