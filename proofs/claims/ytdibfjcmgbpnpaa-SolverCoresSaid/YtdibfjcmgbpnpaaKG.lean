/- Walks of the solver: Core, Value; the reference True. -/
import Derived.Test.YtdibfjcmgbpnpaaKF
namespace Go.Proofs.Ytdibfjcmgbpnpaa
set_option linter.unusedSimpArgs false
set_option linter.unusedVariables false
open Go.RowKit

theorem Sl.row_si {w : World} {o : Nat → Option Role} {b : Nat} {s : SS} {oc : Int} {hd : Role → Value} (h : Sl w o b s oc hd) (r : Role) (hty : r.ty = 3) (hes : r.es = 1) {l : List Int} (hl : E s oc hd r = iV l) : ∃ p c, hd r = .slice p l.length c ∧ SI w p c l := by
  obtain ⟨⟨n, hn⟩, -⟩ := h.mem r
  obtain ⟨p, n2, c, e, h1, -⟩ := h.mem.form r
  rw [hl, iV_len, hes, Nat.mul_one] at h1
  have h2 := hn.1
  rw [hl, iV_len, hes, Nat.mul_one] at h2
  rw [hty, hes, hl, e, ← h1, ← h2] at hn
  exact ⟨p, c, by rw [e, h1], SI.of_owns hn⟩
set_option maxRecDepth 100000 in
set_option maxHeartbeats 2000000 in
theorem core_any {w : World} {o : Nat → Option Role} {b : Nat} {s : SS} (h : SolAt w o b s) (hl : s.core.length ≤ 1000000) :
    Calls Try.prog 19 #[.pointer (some ⟨b, 0, none⟩)] w fun e w' => ∃ q cq, e = .returned (.slice q s.core.length cq) ∧ w'.ownsRow w.heap.size 3 1 (.slice q s.core.length cq) s.core.length (iV s.core) ∧ Below w.heap.size w w' := by
 obtain ⟨oc, hd, hs⟩ := h.sl
 obtain ⟨p, c, e, hsi⟩ := hs.row_si .core rfl rfl (l := s.core) rfl
 obtain ⟨f14, -⟩ := hs.fld 14 (u := hd .core) rfl
 rw [e] at f14
 have hcl := clone_any s.core p c w hsi hl
 have HCL := Lib.hid hcl; clear hcl hs hsi e h
 obtain ⟨n, hn⟩ : ∃ z, s.core.length = z := ⟨_, rfl⟩
 rw [hn] at HCL f14 ⊢
 have HN := Lib.hid hn; clear hn
 go_enter Try.func19, Try.ntmps19
 go_wp2_with (first | (go_at_call 45; refine HCL.out.mono ?_; rintro e w1 ⟨q, cq, rfl, ho, hb⟩; have HO := Lib.hid ho; have HB := Lib.hid hb; clear ho hb))
 go_ret
 exact ⟨q, cq, rfl, HO.out, HB.out⟩
set_option maxRecDepth 100000 in
set_option maxHeartbeats 2000000 in
theorem value_any {w : World} {o : Nat → Option Role} {b : Nat} {s : SS} (h : SolAt w o b s) (x : Int) :
    Calls Try.prog 18 #[.pointer (some ⟨b, 0, none⟩), .int .i64 x] w fun e w' => e = .returned (.bool (decide (0 < x) && decide (x < (s.model.length : Int)) && decide (0 < s.model.getD x.toNat 0))) ∧ w' = w := by
 obtain ⟨oc, hd, hs⟩ := h.sl
 obtain ⟨p, c, e, hsi⟩ := hs.row_si .model rfl rfl (l := s.model) rfl
 obtain ⟨f13, -⟩ := hs.fld 13 (u := hd .model) rfl
 rw [e] at f13
 obtain ⟨n, hn⟩ : ∃ z, s.model.length = z := ⟨_, rfl⟩
 rw [hn] at f13 ⊢
 have HSI := Lib.hid hsi; have HN := Lib.hid hn
 clear hs hsi e h hn
 by_cases h0 : 0 < x
 · by_cases h1 : x < (n : Int)
   · obtain ⟨y, hy⟩ : ∃ y, s.model.getD x.toNat 0 = y := ⟨_, rfl⟩
     have hy2 : s.model[x.toNat]? = some y := by rw [← hy, List.getD_eq_getElem?_getD, List.getElem?_eq_getElem (by rw [HN.out]; omega)]; rfl
     obtain ⟨b1, o1, rfl, hb1, c0⟩ := int_cell' HSI.out.at' hy2
     rw [hy]
     have h00 : 0 ≤ x := by omega
     clear hy hy2 hb1
     go_enter Try.func18, Try.ntmps18
     go_wp2_with fail
     go_ret
     exact ⟨by simp [h0, h1], rfl⟩
   · go_enter Try.func18, Try.ntmps18
     go_wp2_with fail
     go_ret
     exact ⟨by simp [h1] <;> (intros; omega), rfl⟩
 · go_enter Try.func18, Try.ntmps18
   go_wp2_with fail
   go_ret
   exact ⟨by simp [h0] <;> (intros; omega), rfl⟩

end Go.Proofs.Ytdibfjcmgbpnpaa
