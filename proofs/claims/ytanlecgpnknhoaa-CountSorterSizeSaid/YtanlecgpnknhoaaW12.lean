/- Walks of layer 13: Valid of the program. -/
import Derived.Test.YtanlecgpnknhoaaW9
import Derived.Test.YtanlecgpnknhoaaMap
namespace Go.Proofs.Ytanlecgpnknhoaa
set_option linter.unusedSimpArgs false
set_option linter.unusedVariables false
open Go.RowKit

attribute [local go_sem ↓] gate_eql gate_neq gate_guard

theorem MapIs.alloc {w : World} {b : Nat} {gs : List Gate} (h : MapIs w b gs) (o : Obj) : MapIs (w.alloc o) b gs := by
  obtain ⟨es, clock, hb, hes⟩ := h
  exact ⟨es, clock, by rw [Below.heap_alloc _ _ _ (Array.getElem?_eq_some_iff.1 hb).1]; exact hb, hes⟩
theorem MapIs.new {w : World} {n : Nat} (hn : w.heap.size = n) : MapIs (w.alloc (.map #[] 0)) n [] := by
  subst hn
  exact ⟨#[], 0, by show (w.heap.push _)[w.heap.size]? = _; simp, rfl⟩
theorem MapIs.lt {w : World} {b : Nat} {gs : List Gate} (h : MapIs w b gs) : b < w.heap.size := by
  obtain ⟨es, clock, hb, hes⟩ := h
  exact (Array.getElem?_eq_some_iff.1 hb).1

set_option maxRecDepth 100000 in
set_option maxHeartbeats 4000000 in
theorem valid_any (gs : List Gate) (p : Option Addr) (cap : Nat) (w : World) (hcl : gs.length ≤ cap) (hcm : cap ≤ maxLen) (hg : GatesAt w p gs) :
    Calls Try.prog 28 #[.agg #[.slice p gs.length cap]] w fun e w' => e = .returned (.bool (cvalid gs)) ∧ Below w.heap.size w w' := by
  unfold maxLen at hcm
  rcases hg with rfl | ⟨b, off, rfl, hb, hc⟩
  · go_enter Try.func28, Try.ntmps28
    go_wp2
    go_step3
    go_wp2
    (try rw [Exit.noGoto_ret])
    go_ret
    exact ⟨rfl, by go_grown⟩
  · by_cases h0 : gs.length = 0
    · obtain rfl : gs = [] := List.eq_nil_of_length_eq_zero h0
      clear hc h0
      go_enter Try.func28, Try.ntmps28
      go_wp2
      go_step3
      go_wp2
      (try rw [Exit.noGoto_ret])
      go_ret
      exact ⟨rfl, by go_grown⟩
    have hne : ((gs.length : Int) == 0) = false := beq_eq_false_iff_ne.2 (by omega)
    by_cases hlong : 20000 < gs.length
    · have hr := Lib.hid (cvalid_long hlong)
      have hlong' : (20000 : Int) < (gs.length : Int) := by omega
      clear h0 hc
      go_enter Try.func28, Try.ntmps28
      go_wp2
      go_step3
      go_wp2
      (try rw [Exit.noGoto_ret])
      go_ret
      exact ⟨ret_bool hr.out.symm, by go_grown⟩
    have hlong' : ¬ (20000 : Int) < (gs.length : Int) := by omega
    obtain ⟨g0, hg0⟩ : ∃ g0, gs[0]? = some g0 := ⟨_, List.getElem?_eq_getElem (by omega)⟩
    obtain ⟨e1, e2, e3⟩ := gate_cells hc hg0
    simp only [Nat.zero_mul, Nat.add_zero] at e1 e2 e3
    have hpos : (0 : Int) < (gs.length : Int) := by omega
    by_cases hz : g0 = ⟨0, 0, 0⟩
    case neg =>
      have hd := gEq_false hz
      have hr := Lib.hid (cvalid_head hg0 hz)
      clear hz hg0 hc h0
      go_enter Try.func28, Try.ntmps28
      go_wp2
      go_step3
      go_wp2
      (try rw [Exit.noGoto_ret])
      go_ret
      exact ⟨ret_bool hr.out.symm, by go_grown⟩
    case pos =>
      have hd := gEq_true hz
      have hr := Lib.hid (cvalid_start hg0 hz (by omega))
      have Hc := Lib.hid hc
      have HG0 := Lib.hid (show gs[0]? = some ⟨0, 0, 0⟩ from by rw [hg0, hz])
      have hs0 : (1 : Int) ≤ (gs.length : Int) := by omega
      have hmm := @run_makeMap Try.prog
      by_cases hcap1 : cap = 1
      · subst hcap1
        have h1 : gs.length = 1 := by omega
        have HR : Hid (cvalid gs = true) := by have h2 := hr.out; rw [cvalidFrom_end (c := gs) (k := 1) (by omega)] at h2; exact h2
        clear hz hg0 hc h0
        go_enter Try.func28, Try.ntmps28
        go_wp2
        go_step3
        go_wp2
        go_step3
        go_wp2
        refine wp_loop_rounds 1 ?_
        rw [rounds_succ]
        go_wp2_with (first | (at_len; refine wpList_len_gate rfl _ rfl (w.heap.size + 1) [] rfl (MapIs.new (by simp)) 0 rfl ?_))
        (try rw [Exit.noGoto_ret])
        go_ret
        exact ⟨ret_bool (by rw [HR.out]), by go_grown⟩
      · clear hz hg0 hc h0
        go_enter Try.func28, Try.ntmps28
        go_wp2
        go_step3
        go_wp2
        go_step3
        go_wp2
        have HL := Lib.hid hpos
        go_loopg [29] (gs.length - 1) (fun n v wr => ∃ k : Nat, v = .int .i64 k ∧ k + 1 ≤ gs.length ∧ n = gs.length - 1 - k ∧ cvalid gs = cvalidFrom (gs.take (k + 1)) (gs.drop (k + 1)) ∧ MapIs wr (w.heap.size + 1) ((gs.drop 1).take k) ∧ Below (w.heap.size + 1) (w.alloc (Obj.cells #[Value.slice (some ⟨b, off, none⟩) gs.length cap] 25)) wr)
        case atStart => exact ⟨0, rfl, by omega, by omega, hr.out, (MapIs.new (by simp)), by go_grown⟩
        case round =>
          obtain ⟨k, rfl, hk, rfl, hv, hM, hB⟩ := hrel
          have h1 := oldcell (b := w.heap.size) (o := 0) (v := .slice (some ⟨b, off, none⟩) gs.length cap) hB (by go_cell) (by omega)
          have HB0 := Lib.hid (show Below w.heap.size w wr from Below.trans (by go_grown) (hB.mono (by omega)))
          have HB := Lib.hid hB; clear hB
          have HV := Lib.hid hv; clear hv hr
          have HM := Lib.hid hM; clear hM
          have hz0 : w.heap.size < wr.heap.size := World.block_lt_of_cell? _ _ h1
          have hz1 : w.heap.size + 1 < wr.heap.size := HM.out.lt
          have HTL : Hid (((gs.drop 1).take k).length = k) := by rw [List.length_take, List.length_drop]; exact Nat.min_eq_left (by omega)
          by_cases hlt : k + 1 < gs.length
          case neg =>
            have HE := Lib.hid (cvalidFrom_end (c := gs) (k := k + 1) (by omega))
            have hq1 : ¬ (k : Int) < ((gs.length - 1 : Nat) : Int) := by omega
            have hq2 : ((k : Int) == (gs.length : Int) - 1) = true := beq_iff_eq.2 (by omega)
            go_wp2_with (first | (at_len; refine wpList_len_gate rfl _ rfl (w.heap.size + 1) ((gs.drop 1).take k) rfl HM.out k HTL.out ?_))
            (try rw [Exit.noGoto_ret])
            go_ret
            exact ⟨ret_bool (HV.out.trans HE.out).symm, HB0.out⟩
          case pos =>
            have hlt0 : (0 : Int) ≤ (k : Int) := by omega
            have hlt1 : (k : Int) < ((gs.length - 1 : Nat) : Int) := by omega
            have hq2 : ((k : Int) == (gs.length : Int) - 1) = false := beq_eq_false_iff_ne.2 (by omega)
            obtain ⟨gk, hgk⟩ : ∃ gk, gs[k + 1]? = some gk := ⟨_, List.getElem?_eq_getElem hlt⟩
            obtain ⟨e4, e5, e6⟩ := gate_cells Hc.out hgk
            rw [show off + (k + 1) * 3 = off + 3 + k * 3 from by omega] at e4 e5 e6
            have h4 := oldcell HB0.out e4 hb
            have h5 := oldcell HB0.out e5 hb
            have h6 := oldcell HB0.out e6 hb
            have HS := Lib.hid (cvalidFrom_step hgk)
            have HGK := Lib.hid hgk
            clear e4 e5 e6 hgk
            obtain ⟨x, y, z⟩ := gk
            obtain ⟨L, hL⟩ : ∃ L, L = (gs.drop 1).take k := ⟨_, rfl⟩
            rw [← hL] at HM HTL
            have HLS := Lib.hid (show (gs.drop 1).take (k + 1) = L ++ [⟨x, y, z⟩] from by
              rw [hL, List.take_succ_eq_append_getElem (by rw [List.length_drop]; omega)]
              congr 2
              rw [List.getElem_drop]
              have := (List.getElem?_eq_some_iff.1 HGK.out).2
              rw [← this]; congr 1; omega)
            have e0 := Lib.hid (show gs.take (k + 1) = ⟨0, 0, 0⟩ :: L from by
              have e : gs.take (k + 1) = gs.take 1 ++ (gs.drop 1).take k := by rw [Nat.add_comm k 1, List.take_add]
              rw [e, ← hL]
              have h1 := HG0.out
              cases gs with
              | nil => simp at h1
              | cons g t => simp at h1; subst h1; simp)
            clear hL
            cases hct : gHas L x y z with
            | true =>
              have HR : Hid (cvalid gs = false) := by
                have hc2 : (gs.take (k + 1)).contains (⟨x, y, z⟩ : Gate) = true := by
                  rw [e0.out, List.contains_iff_mem]
                  exact List.mem_cons_of_mem _ (List.contains_iff_mem.1 hct)
                have h2 := HV.out; rw [HS.out, hc2] at h2; exact Lib.hid (by simpa using h2)
              go_wp2_with (first | (at_lookup; refine wpList_lookup_gate rfl _ _ rfl (w.heap.size + 1) L rfl (HM.out.alloc _) x y z rfl ?_) | (at_len; refine wpList_len_gate rfl _ rfl (w.heap.size + 1) L rfl (HM.out.alloc _) k HTL.out ?_) | (at_mapUpdate; refine wpList_update_gate rfl _ _ _ rfl (w.heap.size + 1) L rfl (HM.out.alloc _) x y z rfl rfl hct ?_; intro w2 hm1 hm2 hm3 hm4 hm5 hm6))
              (try rw [Exit.noGoto_ret])
              go_ret
              exact ⟨ret_bool HR.out.symm, Below.alloc HB0.out (by omega) _⟩
            | false =>
              have HCT : Hid (formedB x y z ((k + 1 : Nat) : Int) = true → (gs.take (k + 1)).contains (⟨x, y, z⟩ : Gate) = false) := by
                intro hfo
                rw [e0.out, List.contains_cons]
                have hne0 : ((⟨x, y, z⟩ : Gate) == ⟨0, 0, 0⟩) = false := by
                  rw [beq_eq_false_iff_ne]; intro e; injection e with e1 e2 e3; subst e1; simp [formedB] at hfo
                rw [hne0, Bool.false_or]; exact hct
              cases k1 : (x == 1) with
              | true =>
                have k1' := Lib.hid (show x = 1 from by simpa using k1)
                have k2 : (x == 2) = false := beq_eq_false_iff_ne.2 (by have := k1'.out; omega)
                by_cases a1 : 1 ≤ y
                case neg =>
                  have HFO := Lib.hid (show formedB x y z ((k + 1 : Nat) : Int) = false from by rw [formedB, k1'.out, if_pos rfl]; exact decide_eq_false (by omega))
                  have HR : Hid (cvalid gs = false) := by
                    have h2 := HV.out; rw [HS.out, HFO.out] at h2; exact Lib.hid (by simpa using h2)
                  go_wp2_with (first | (at_lookup; refine wpList_lookup_gate rfl _ _ rfl (w.heap.size + 1) L rfl (HM.out.alloc _) x y z rfl ?_) | (at_len; refine wpList_len_gate rfl _ rfl (w.heap.size + 1) L rfl (HM.out.alloc _) k HTL.out ?_) | (at_mapUpdate; refine wpList_update_gate rfl _ _ _ rfl (w.heap.size + 1) L rfl (HM.out.alloc _) x y z rfl rfl hct ?_; intro w2 hm1 hm2 hm3 hm4 hm5 hm6))
                  (try rw [Exit.noGoto_ret])
                  go_ret
                  exact ⟨ret_bool HR.out.symm, Below.alloc HB0.out (by omega) _⟩
                by_cases a2 : y ≤ 20000
                case neg =>
                  have HFO := Lib.hid (show formedB x y z ((k + 1 : Nat) : Int) = false from by rw [formedB, k1'.out, if_pos rfl]; exact decide_eq_false (by omega))
                  have HR : Hid (cvalid gs = false) := by
                    have h2 := HV.out; rw [HS.out, HFO.out] at h2; exact Lib.hid (by simpa using h2)
                  go_wp2_with (first | (at_lookup; refine wpList_lookup_gate rfl _ _ rfl (w.heap.size + 1) L rfl (HM.out.alloc _) x y z rfl ?_) | (at_len; refine wpList_len_gate rfl _ rfl (w.heap.size + 1) L rfl (HM.out.alloc _) k HTL.out ?_) | (at_mapUpdate; refine wpList_update_gate rfl _ _ _ rfl (w.heap.size + 1) L rfl (HM.out.alloc _) x y z rfl rfl hct ?_; intro w2 hm1 hm2 hm3 hm4 hm5 hm6))
                  (try rw [Exit.noGoto_ret])
                  go_ret
                  exact ⟨ret_bool HR.out.symm, Below.alloc HB0.out (by omega) _⟩
                cases a3 : (z == 0) with
                | false =>
                  have a3' := Lib.hid (show z ≠ 0 from by simpa using a3)
                  have HFO := Lib.hid (show formedB x y z ((k + 1 : Nat) : Int) = false from by rw [formedB, k1'.out, if_pos rfl]; exact decide_eq_false (by have := a3'.out; omega))
                  have HR : Hid (cvalid gs = false) := by
                    have h2 := HV.out; rw [HS.out, HFO.out] at h2; exact Lib.hid (by simpa using h2)
                  go_wp2_with (first | (at_lookup; refine wpList_lookup_gate rfl _ _ rfl (w.heap.size + 1) L rfl (HM.out.alloc _) x y z rfl ?_) | (at_len; refine wpList_len_gate rfl _ rfl (w.heap.size + 1) L rfl (HM.out.alloc _) k HTL.out ?_) | (at_mapUpdate; refine wpList_update_gate rfl _ _ _ rfl (w.heap.size + 1) L rfl (HM.out.alloc _) x y z rfl rfl hct ?_; intro w2 hm1 hm2 hm3 hm4 hm5 hm6))
                  (try rw [Exit.noGoto_ret])
                  go_ret
                  exact ⟨ret_bool HR.out.symm, Below.alloc HB0.out (by omega) _⟩
                | true =>
                  have a3' := Lib.hid (show z = 0 from by simpa using a3)
                  have HFO := Lib.hid (show formedB x y z ((k + 1 : Nat) : Int) = true from by rw [formedB, k1'.out, if_pos rfl]; exact decide_eq_true (by have := a3'.out; omega))
                  have HR : Hid (cvalid gs = cvalidFrom (gs.take (k + 1 + 1)) (gs.drop (k + 1 + 1))) := by
                    have h2 := HV.out; rw [HS.out, HFO.out, HCT.out (by rw [HFO.out])] at h2; exact Lib.hid (by simpa using h2)
                  go_wp2_with (first | (at_lookup; refine wpList_lookup_gate rfl _ _ rfl (w.heap.size + 1) L rfl (HM.out.alloc _) x y z rfl ?_) | (at_len; refine wpList_len_gate rfl _ rfl (w.heap.size + 1) L rfl (HM.out.alloc _) k HTL.out ?_) | (at_mapUpdate; refine wpList_update_gate rfl _ _ _ rfl (w.heap.size + 1) L rfl (HM.out.alloc _) x y z rfl rfl hct ?_; intro w2 hm1 hm2 hm3 hm4 hm5 hm6))
                  go_roundg (gs.length - 1 - (k + 1))
                  case measure => omega
                  case rel =>
                    refine ⟨k + 1, by go_num, by omega, rfl, HR.out, by rw [HLS.out]; exact hm1, HB.out.trans ⟨hm2, hm3, hm4, by rw [hm5]; simp, fun b hb => ?_⟩⟩
                    rw [hm6 b (by omega), Below.heap_alloc _ _ _ (by omega)]
              | false =>
                have k1' := Lib.hid (show x ≠ 1 from by simpa using k1)
                cases k2 : (x == 2) with
                | false =>
                  have k2' := Lib.hid (show x ≠ 2 from by simpa using k2)
                  have HFO := Lib.hid (show formedB x y z ((k + 1 : Nat) : Int) = false from by rw [formedB, if_neg k1'.out]; exact decide_eq_false (by have := k2'.out; omega))
                  have HR : Hid (cvalid gs = false) := by
                    have h2 := HV.out; rw [HS.out, HFO.out] at h2; exact Lib.hid (by simpa using h2)
                  go_wp2_with (first | (at_lookup; refine wpList_lookup_gate rfl _ _ rfl (w.heap.size + 1) L rfl (HM.out.alloc _) x y z rfl ?_) | (at_len; refine wpList_len_gate rfl _ rfl (w.heap.size + 1) L rfl (HM.out.alloc _) k HTL.out ?_) | (at_mapUpdate; refine wpList_update_gate rfl _ _ _ rfl (w.heap.size + 1) L rfl (HM.out.alloc _) x y z rfl rfl hct ?_; intro w2 hm1 hm2 hm3 hm4 hm5 hm6))
                  (try rw [Exit.noGoto_ret])
                  go_ret
                  exact ⟨ret_bool HR.out.symm, Below.alloc HB0.out (by omega) _⟩
                | true =>
                  have k2' := Lib.hid (show x = 2 from by simpa using k2)
                  by_cases a1 : 2 ≤ y
                  case neg =>
                    have HFO := Lib.hid (show formedB x y z ((k + 1 : Nat) : Int) = false from by rw [formedB, if_neg k1'.out]; exact decide_eq_false (by omega))
                    have HR : Hid (cvalid gs = false) := by
                      have h2 := HV.out; rw [HS.out, HFO.out] at h2; exact Lib.hid (by simpa using h2)
                    go_wp2_with (first | (at_lookup; refine wpList_lookup_gate rfl _ _ rfl (w.heap.size + 1) L rfl (HM.out.alloc _) x y z rfl ?_) | (at_len; refine wpList_len_gate rfl _ rfl (w.heap.size + 1) L rfl (HM.out.alloc _) k HTL.out ?_) | (at_mapUpdate; refine wpList_update_gate rfl _ _ _ rfl (w.heap.size + 1) L rfl (HM.out.alloc _) x y z rfl rfl hct ?_; intro w2 hm1 hm2 hm3 hm4 hm5 hm6))
                    (try rw [Exit.noGoto_ret])
                    go_ret
                    exact ⟨ret_bool HR.out.symm, Below.alloc HB0.out (by omega) _⟩
                  by_cases a2 : y < z
                  case neg =>
                    have HFO := Lib.hid (show formedB x y z ((k + 1 : Nat) : Int) = false from by rw [formedB, if_neg k1'.out]; exact decide_eq_false (by omega))
                    have HR : Hid (cvalid gs = false) := by
                      have h2 := HV.out; rw [HS.out, HFO.out] at h2; exact Lib.hid (by simpa using h2)
                    go_wp2_with (first | (at_lookup; refine wpList_lookup_gate rfl _ _ rfl (w.heap.size + 1) L rfl (HM.out.alloc _) x y z rfl ?_) | (at_len; refine wpList_len_gate rfl _ rfl (w.heap.size + 1) L rfl (HM.out.alloc _) k HTL.out ?_) | (at_mapUpdate; refine wpList_update_gate rfl _ _ _ rfl (w.heap.size + 1) L rfl (HM.out.alloc _) x y z rfl rfl hct ?_; intro w2 hm1 hm2 hm3 hm4 hm5 hm6))
                    (try rw [Exit.noGoto_ret])
                    go_ret
                    exact ⟨ret_bool HR.out.symm, Below.alloc HB0.out (by omega) _⟩
                  by_cases a4 : z < 2 * ((k : Int) + 1)
                  case neg =>
                    have HFO := Lib.hid (show formedB x y z ((k + 1 : Nat) : Int) = false from by rw [formedB, if_neg k1'.out]; exact decide_eq_false (by omega))
                    have HR : Hid (cvalid gs = false) := by
                      have h2 := HV.out; rw [HS.out, HFO.out] at h2; exact Lib.hid (by simpa using h2)
                    go_wp2_with (first | (at_lookup; refine wpList_lookup_gate rfl _ _ rfl (w.heap.size + 1) L rfl (HM.out.alloc _) x y z rfl ?_) | (at_len; refine wpList_len_gate rfl _ rfl (w.heap.size + 1) L rfl (HM.out.alloc _) k HTL.out ?_) | (at_mapUpdate; refine wpList_update_gate rfl _ _ _ rfl (w.heap.size + 1) L rfl (HM.out.alloc _) x y z rfl rfl hct ?_; intro w2 hm1 hm2 hm3 hm4 hm5 hm6))
                    (try rw [Exit.noGoto_ret])
                    go_ret
                    exact ⟨ret_bool HR.out.symm, Below.alloc HB0.out (by omega) _⟩
                  cases a3 : (y / 2 != z / 2) with
                  | false =>
                    have a3' := Lib.hid (show y / 2 = z / 2 from by simpa using a3)
                    have HFO := Lib.hid (show formedB x y z ((k + 1 : Nat) : Int) = false from by rw [formedB, if_neg k1'.out]; exact decide_eq_false (by have := a3'.out; omega))
                    have HR : Hid (cvalid gs = false) := by
                      have h2 := HV.out; rw [HS.out, HFO.out] at h2; exact Lib.hid (by simpa using h2)
                    go_wp2_with (first | (at_lookup; refine wpList_lookup_gate rfl _ _ rfl (w.heap.size + 1) L rfl (HM.out.alloc _) x y z rfl ?_) | (at_len; refine wpList_len_gate rfl _ rfl (w.heap.size + 1) L rfl (HM.out.alloc _) k HTL.out ?_) | (at_mapUpdate; refine wpList_update_gate rfl _ _ _ rfl (w.heap.size + 1) L rfl (HM.out.alloc _) x y z rfl rfl hct ?_; intro w2 hm1 hm2 hm3 hm4 hm5 hm6))
                    (try rw [Exit.noGoto_ret])
                    go_ret
                    exact ⟨ret_bool HR.out.symm, Below.alloc HB0.out (by omega) _⟩
                  | true =>
                    have a3' := Lib.hid (show y / 2 ≠ z / 2 from by simpa using a3)
                    have HFO := Lib.hid (show formedB x y z ((k + 1 : Nat) : Int) = true from by rw [formedB, if_neg k1'.out]; exact decide_eq_true (by have := a3'.out; have := k2'.out; omega))
                    have HR : Hid (cvalid gs = cvalidFrom (gs.take (k + 1 + 1)) (gs.drop (k + 1 + 1))) := by
                      have h2 := HV.out; rw [HS.out, HFO.out, HCT.out (by rw [HFO.out])] at h2; exact Lib.hid (by simpa using h2)
                    go_wp2_with (first | (at_lookup; refine wpList_lookup_gate rfl _ _ rfl (w.heap.size + 1) L rfl (HM.out.alloc _) x y z rfl ?_) | (at_len; refine wpList_len_gate rfl _ rfl (w.heap.size + 1) L rfl (HM.out.alloc _) k HTL.out ?_) | (at_mapUpdate; refine wpList_update_gate rfl _ _ _ rfl (w.heap.size + 1) L rfl (HM.out.alloc _) x y z rfl rfl hct ?_; intro w2 hm1 hm2 hm3 hm4 hm5 hm6))
                    go_roundg (gs.length - 1 - (k + 1))
                    case measure => omega
                    case rel =>
                      refine ⟨k + 1, by go_num, by omega, rfl, HR.out, by rw [HLS.out]; exact hm1, HB.out.trans ⟨hm2, hm3, hm4, by rw [hm5]; simp, fun b hb => ?_⟩⟩
                      rw [hm6 b (by omega), Below.heap_alloc _ _ _ (by omega)]
end Go.Proofs.Ytanlecgpnknhoaa
