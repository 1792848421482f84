/- Walk of layer 16: add. -/
import Derived.Test.YtanlecgpnknhoaaC1
import Derived.OwnWalk
namespace Go.Proofs.Ytanlecgpnknhoaa
set_option linter.unusedSimpArgs false
set_option linter.unusedVariables false
open Go.RowKit

theorem cor_le {c : List Gate} {a b : Int} (h : c.length ≤ 20000) : (cor c a b).1.length ≤ 20000 ∧ (cor c a b).2 ≤ 40001 := by
  have := cand_le (a := cnot a) (b := cnot b) h
  refine ⟨this.1, ?_⟩
  show cnot (cand c (cnot a) (cnot b)).2 ≤ 40001
  have h2 := this.2
  generalize (cand c (cnot a) (cnot b)).2 = r at *
  unfold cnot; split <;> (try split) <;> omega
theorem run_le {α : Type} (p : CM Int α) : ∀ c : List Gate, c.length ≤ 20000 → (p.run c).1.length ≤ 20000 := by
  induction p with
  | ret x => intro c h; exact h
  | and a b k ih => intro c h; exact ih _ _ (cand_le h).1
  | or a b k ih => intro c h; exact ih _ _ (cor_le h).1
theorem cand_ge (c : List Gate) (a b : Int) : c.length ≤ (cand c a b).1.length := by
  unfold cand
  split
  · exact Nat.le_refl _
  · split
    · exact Nat.le_refl _
    · split
      · exact Nat.le_refl _
      · split
        · exact Nat.le_refl _
        · unfold cshare; split
          · exact Nat.le_refl _
          · split
            · exact Nat.le_refl _
            · simp
theorem run_ge {α : Type} (p : CM Int α) : ∀ c : List Gate, c.length ≤ (p.run c).1.length := by
  induction p with
  | ret x => intro c; exact Nat.le_refl _
  | and a b k ih => intro c; exact Nat.le_trans (cand_ge c a b) (ih _ _)
  | or a b k ih => intro c; exact Nat.le_trans (cand_ge c (cnot a) (cnot b)) (ih _ _)

theorem SlAt.keep2 {α : Type} {E : Nat} {enc : α → Nat → Value} {X : List Nat} {w w' : World} {p : Option Addr} {xs : List α} (h : SlAt E enc w p xs) (hk : KeepX X w w') (hx : ∀ a, p = some a → a.block < w.heap.size → a.block ∉ X) : SlAt E enc w' p xs := by
  rcases h with h | ⟨b, off, hp, hb, hc⟩
  · exact .inl h
  · exact .inr ⟨b, off, hp, Nat.lt_of_lt_of_le hb hk.size, fun i x hi j hj => hk.cell (hc i x hi j hj) (hx _ hp hb)⟩
def AllLe (l : List Int) : Prop := ∀ r ∈ l, r ≤ 40001
theorem ureach_le {u : List Int} (h : AllLe u) (k : Int) : ureach 0 1 u k ≤ 40001 := by
  unfold ureach
  split
  · omega
  · split
    · omega
    · rw [List.getD_eq_getElem?_getD]
      cases hh : u[(k - 1).toNat]? with
      | none => show (0 : Int) ≤ _; omega
      | some r => exact h r (List.mem_of_getElem? hh)
theorem addIn_le (x y : List Int) (k lo : Nat) {c : List Gate} (hc : c.length ≤ 20000) : ∀ n, ((addIn 0 1 x y k lo n).run c).2 ≤ 40001
  | 0 => by show (1 : Int) ≤ _; omega
  | n + 1 => by
    unfold addIn
    rw [CM.run_bind]
    exact (cor_le (cand_le (run_le _ c hc)).1).2
theorem addIn_succ (x y : List Int) (k lo n : Nat) (c : List Gate) : (addIn 0 1 x y k lo (n + 1)).run c =
    cor (cand ((addIn 0 1 x y k lo n).run c).1 (ureach 0 1 x ((lo + n : Nat) : Int)) (ureach 0 1 y ((k : Int) + 1 - ((lo + n : Nat) : Int)))).1 ((addIn 0 1 x y k lo n).run c).2 (cand ((addIn 0 1 x y k lo n).run c).1 (ureach 0 1 x ((lo + n : Nat) : Int)) (ureach 0 1 y ((k : Int) + 1 - ((lo + n : Nat) : Int)))).2 := by
  rw [show addIn 0 1 x y k lo (n + 1) = (addIn 0 1 x y k lo n).bind fun acc => .and (ureach 0 1 x ((lo + n : Nat) : Int)) (ureach 0 1 y ((k : Int) + 1 - ((lo + n : Nat) : Int))) fun t => .or acc t .ret from rfl, CM.run_bind]; rfl
theorem addTo_succ (x y : List Int) (k : Nat) (c : List Gate) : (addTo 0 1 x y (k + 1)).run c =
    (((addIn 0 1 x y k (addLo y.length k) (addCnt x.length y.length k)).run ((addTo 0 1 x y k).run c).1).1, ((addTo 0 1 x y k).run c).2 ++ [((addIn 0 1 x y k (addLo y.length k) (addCnt x.length y.length k)).run ((addTo 0 1 x y k).run c).1).2]) := by
  rw [show addTo 0 1 x y (k + 1) = (addTo 0 1 x y k).bind fun l => (addIn 0 1 x y k (addLo y.length k) (addCnt x.length y.length k)).bind fun r => .ret (l ++ [r]) from rfl, CM.run_bind, CM.run_bind]; rfl
theorem addTo_len (x y : List Int) (c : List Gate) : ∀ k, ((addTo 0 1 x y k).run c).2.length = k
  | 0 => rfl
  | k + 1 => by rw [addTo_succ]; simp [addTo_len x y c k]
theorem addTo_le (x y : List Int) {c : List Gate} (hc : c.length ≤ 20000) : ∀ k, AllLe ((addTo 0 1 x y k).run c).2
  | 0 => fun r hr => by cases hr
  | k + 1 => by
    rw [addTo_succ]
    intro r hr
    rcases List.mem_append.1 hr with h | h
    · exact addTo_le x y hc k r h
    · rw [List.mem_singleton.1 h]; exact addIn_le _ _ _ _ (run_le _ _ hc) _

theorem flat1_rep' {α : Type} (enc : α → Nat → Value) (n : Nat) (x : α) : flat 1 enc (List.replicate n x) = List.replicate n (enc x 0) := by
  rw [flat1', List.map_replicate]
where flat1' {α : Type} {enc : α → Nat → Value} {xs : List α} : flat 1 enc xs = xs.map fun x => enc x 0 := by
        induction xs with
        | nil => rfl
        | cons x t ih =>
          show (List.range 1).map (enc x) ++ flat 1 enc t = _
          rw [ih]; rfl
/-- n ints in a block of the call's own. -/
def OwnI (w : World) (B g n cap : Nat) (m : List Int) : Prop := m.length = n ∧ w.ownsRow B 3 1 (.slice (some ⟨g, 0, none⟩) n cap) n (flat 1 iEnc m)
theorem OwnI.get {w : World} {B g n cap : Nat} {m : List Int} (h : OwnI w B g n cap m) {i : Nat} (hi : i < n) : w.cell? ⟨g, i, none⟩ = some (.int .i64 (m.getD i 0)) := by
  rw [h.2.cellAt i (by omega), flat1_rep'.flat1', List.getElem?_map, List.getElem?_eq_getElem (by rw [h.1]; exact hi), List.getD_eq_getElem?_getD, List.getElem?_eq_getElem (by rw [h.1]; exact hi)]; rfl
theorem OwnI.free {w : World} {B g n cap : Nat} {m : List Int} (h : OwnI w B g n cap m) (i : Nat) : w.frozen? ⟨g, i, none⟩ = false := h.2.frozenAt i
theorem OwnI.set {w : World} {B g n cap : Nat} {m : List Int} (h : OwnI w B g n cap m) (i : Nat) (b : Int) : OwnI (w.setCell ⟨g, i, none⟩ (.int .i64 b)) B g n cap (m.set i b) := by
  have := (h.2.stored i (.int .i64 b)).1
  have e : (flat 1 iEnc m).set i (.int .i64 b) = flat 1 iEnc (m.set i b) := by rw [flat1_rep'.flat1', flat1_rep'.flat1', List.map_set]; rfl
  rw [e] at this
  exact ⟨by rw [List.length_set]; exact h.1, this⟩
theorem OwnI.at' {w : World} {B g n cap : Nat} {m : List Int} (h : OwnI w B g n cap m) : IntsAt w (some ⟨g, 0, none⟩) m := by
  obtain ⟨rfl, h2⟩ := h
  exact SlAt.of_owns (by omega) h2
theorem OwnI.lt {w : World} {B g n cap : Nat} {m : List Int} (h : OwnI w B g n cap m) : g < w.heap.size := (h.2.lt g rfl).2
theorem OwnI.keep {X : List Nat} {w w' : World} {B g n cap : Nat} {m : List Int} (h : OwnI w B g n cap m) (hk : KeepX X w w') (hg : g ∉ X) : OwnI w' B g n cap m := by
  have hlt := h.lt
  obtain ⟨h1, h2⟩ := h
  refine ⟨h1, h2.1, ?_⟩
  rcases h2.2 with h | ⟨g', cap', cur, hv, hb, hh, hr⟩
  · exact .inl h
  · simp only [Value.slice.injEq, Option.some.injEq, Addr.mk.injEq, and_true, true_and] at hv
    obtain ⟨rfl, rfl⟩ := hv
    exact .inr ⟨g, cap, cur, rfl, hb, by rw [hk.block g hlt hg]; exact hh, hr⟩

theorem BxA.more {L : List Nat} {w : World} {b : Nat} {gs : List Gate} (h : BxA L w b gs) (hc : 0 < gs.length) {g : Nat} (hg : w.heap.size ≤ g) : BxA (g :: L) w b gs := by
  obtain ⟨p, cap, h1, h2, h3, h4⟩ := h
  refine ⟨p, cap, h1, h2, h3, fun a ha hm => ?_⟩
  rcases List.mem_cons.1 hm with hm | hm
  · rcases h3.at' with h | ⟨b', off, hp, hb, _⟩
    · rw [h] at hc; cases hc
    · rw [ha] at hp; cases hp; simp at hm; omega
  · exact h4 a ha hm
theorem BxA.sub {L M : List Nat} {w : World} {b : Nat} {gs : List Gate} (h : BxA M w b gs) (hs : ∀ k ∈ L, k ∈ M) : BxA L w b gs := by
  obtain ⟨p, cap, h1, h2, h3, h4⟩ := h
  exact ⟨p, cap, h1, h2, h3, fun a ha hm => h4 a ha (hs _ hm)⟩

theorem set_mid {l : List Int} {n k : Nat} {v z : Int} (hl : l.length = k) (hk : k < n) : (l ++ List.replicate (n - k) z).set k v = l ++ [v] ++ List.replicate (n - k - 1) z := by
  obtain ⟨d, hd⟩ : ∃ d, n - k = d + 1 := ⟨n - k - 1, by omega⟩
  rw [hd, List.set_append_right _ _ (by omega), hl, Nat.sub_self, List.replicate_succ, List.append_assoc]; rfl

theorem getD_mid {l m : List Int} {k : Nat} {v : Int} (hl : l.length = k) : (l ++ [v] ++ m).getD k 0 = v := by
  rw [List.getD_eq_getElem?_getD, List.append_assoc, List.getElem?_append_right (by omega), hl, Nat.sub_self]; rfl
theorem set_mid' {l m : List Int} {k : Nat} {v z : Int} (hl : l.length = k) : (l ++ [v] ++ m).set k z = l ++ [z] ++ m := by
  rw [List.append_assoc, List.set_append_right _ _ (by omega), hl, Nat.sub_self, List.append_assoc]; rfl

/-- A slice of new ints is returned, the builder at b holds the circuit. -/
def MRetL (L : List Nat) (w : World) (b : Nat) (x : List Gate × List Int) (e : Ending) (w' : World) : Prop :=
  ∃ q cq, e = .returned (.slice q x.2.length cq) ∧ IntsAt w' q x.2 ∧ (∀ a, q = some a → w.heap.size ≤ a.block ∧ a.block < w'.heap.size) ∧ x.2.length ≤ cq ∧ cq ≤ maxLen ∧ (q = none → cq = 0) ∧ BxA L w' b x.1 ∧ KeepX [b] w w'

set_option maxRecDepth 100000 in
set_option maxHeartbeats 4000000 in
theorem addM_any (L : List Nat) (c : List Gate) (x y : List Int) (b : Nat) (px py : Option Addr) (cx cy : Nat) (w : World) (hx : x.length ≤ 1000) (hy : y.length ≤ 1000) (hxr : AllLe x) (hyr : AllLe y) (hl : c.length ≤ 20000) (hc : 0 < c.length)
    (hB : BxA L w b c) (hL : ∀ k ∈ L, k < w.heap.size) (hix : IntsAt w px x) (hiy : IntsAt w py y) (hnx : ∀ a, px = some a → a.block ≠ b) (hny : ∀ a, py = some a → a.block ≠ b) :
    Calls Try.prog 72 #[.pointer (some ⟨b, 0, none⟩), .slice px x.length cx, .slice py y.length cy] w (MRetL L w b ((uadd 0 1 x y).run c)) := by
  obtain ⟨i0, hi0, hz0, hz1, hz2⟩ := info_parts int_info
  obtain ⟨n, hn⟩ : ∃ n, x.length + y.length = n := ⟨_, rfl⟩
  have hnI : (x.length : Int) + (y.length : Int) = (n : Int) := by omega
  have hn2 : n ≤ 2000 := by omega
  have HN := Lib.hid hn; clear hn
  have HXR := Lib.hid hxr; have HYR := Lib.hid hyr; have HL := Lib.hid hL; have HIX := Lib.hid hix; have HIY := Lib.hid hiy; have HNX := Lib.hid hnx; have HNY := Lib.hid hny; have HB := Lib.hid hB
  clear hxr hyr hL hix hiy hnx hny hB
  go_enter Try.func72, Try.ntmps72
  go_wp2_with fail
  have hr := run_make_full (P := Try.prog) w w.heap.size 28 3 i0 (.int .i64 0) 1 Try.underlying28 hi0 hz0 hz1 .i64 .i64 n (by rw [hz2]; omega) (by simp [maxLen]; omega) (by simp)
  obtain ⟨w1, hrun, hown, hgr⟩ := hr
  rw [hrun]
  have hO : OwnI w1 w.heap.size w.heap.size n n (List.replicate n 0) := ⟨List.length_replicate, by
    rw [flat1_rep']
    have e := toList_madeCells_one (.int .i64 0) n
    rw [show (Value.int IntKind.i64 0).cells = #[.int .i64 0] from rfl, Nat.mul_one, e] at hown
    exact hown⟩
  have hK0 : KeepX [] w w1 := KeepX.of_below (Below.grown (Below.refl _ _) hgr (by simp) (fun k hk => by cases hk))
  have hbl := HB.out.lt
  have HK := Lib.hid (hK0.sub (Y := [b, w.heap.size]) (by simp)); have HKn := Lib.hid hK0; have HO := Lib.hid hO; have HZ := Lib.hid hgr.size
  clear hown hgr hrun hK0 hO
  -- GEN
  generalize hG : w.heap.size = g at *
  have HG := Lib.hid hG; clear hG
  have hgb : g ≠ b := by omega
  have HB1 := Lib.hid (show BxA (g :: L) w1 b c from (HB.out.more hc (by rw [HG.out]; exact Nat.le_refl _)).keep HKn.out (by simp) (by simp))
  have HPX := Lib.hid (show ∀ a, px = some a → a.block < w.heap.size → a.block ∉ [b, g] from fun a ha hlt => by have := HNX.out a ha; rw [HG.out] at hlt; simp; omega)
  have HPY := Lib.hid (show ∀ a, py = some a → a.block < w.heap.size → a.block ∉ [b, g] from fun a ha hlt => by have := HNY.out a ha; rw [HG.out] at hlt; simp; omega)
  go_wp2_with fail
  go_loopg [18] n (fun N v wr => ∃ k : Nat, v = .int .i64 k ∧ k ≤ n ∧ N = n - k ∧ BxA (g :: L) wr b ((addTo 0 1 x y k).run c).1 ∧ OwnI wr g g n n (((addTo 0 1 x y k).run c).2 ++ List.replicate (n - k) 0) ∧ KeepX [b, g] w1 wr)
  case atStart => exact ⟨0, rfl, by omega, by omega, HB1.out, (show OwnI w1 g g n n ([] ++ List.replicate (n - 0) 0) from HO.out), KeepX.refl _ _⟩
  case round =>
    obtain ⟨k, rfl, hk, hN, hb0, ho0, hk0⟩ := hrel
    have HNk := Lib.hid hN; clear hN
    have HB0 := Lib.hid hb0; have HO0 := Lib.hid ho0; have HK0 := Lib.hid hk0; clear hb0 ho0 hk0
    obtain ⟨w9, hw9⟩ : ∃ x : World, x = wr := ⟨_, rfl⟩
    subst hw9
    by_cases hlt : k < n
    case neg =>
      have hge : (n : Int) ≤ (k : Int) := by omega
      have HKN := Lib.hid (show k = n by omega)
      go_wp2_with fail
      go_ret
      have e : (uadd 0 1 x y).run c = (addTo 0 1 x y k).run c := by rw [HKN.out, ← HN.out]; rfl
      rw [e]
      have hlen := addTo_len x y c k
      have hO := HO0.out
      rw [HKN.out, Nat.sub_self, List.replicate_zero, List.append_nil, ← HKN.out] at hO
      refine ⟨some ⟨g, 0, none⟩, n, ?_, hO.at', (fun a ha => by cases ha; rw [HG.out]; exact ⟨Nat.le_refl _, HO0.out.lt⟩), by rw [hlen]; exact hk, by simp [maxLen]; omega, (fun h => by cases h), HB0.out.sub (fun z hz => List.mem_cons_of_mem _ hz), ?_⟩
      · rw [hlen, HKN.out]; rfl
      · exact (HK.out.trans HK0.out).fresh (by intro z hz; simp at hz ⊢; rcases hz with rfl | rfl; exact .inl rfl; exact .inr (by rw [HG.out]; exact Nat.le_refl _))
    case pos =>
      have hlt0 : (0 : Int) ≤ (k : Int) := by omega
      have hlt1 : (k : Int) < (n : Int) := by omega
      have cO := HO0.out.get hlt
      have fO := HO0.out.free k
      obtain ⟨lo, hlo⟩ : ∃ lo, addLo y.length k = lo := ⟨_, rfl⟩
      obtain ⟨ct, hct⟩ : ∃ ct, addCnt x.length y.length k = ct := ⟨_, rfl⟩
      have hlo1 : (k : Int) + 1 - (y.length : Int) ≤ (lo : Int) ∧ (lo : Int) ≤ (k : Int) + 1 ∧ (0 < lo → (lo : Int) = (k : Int) + 1 - (y.length : Int)) := by unfold addLo at hlo; omega
      have hct1 : lo + ct = min (k + 1) x.length + 1 := by have := HN.out; unfold addCnt at hct; rw [hlo] at hct; unfold addLo at hlo; omega
      have HLO := Lib.hid hlo; have HCT := Lib.hid hct; have HL1 := Lib.hid hlo1; have HC1 := Lib.hid hct1; clear hlo hct hlo1 hct1
      obtain ⟨c0, hc0⟩ : ∃ z, ((addTo 0 1 x y k).run c).1 = z := ⟨_, rfl⟩
      obtain ⟨l0, hl0⟩ : ∃ z, ((addTo 0 1 x y k).run c).2 = z := ⟨_, rfl⟩
      have hl0l : l0.length = k := by rw [← hl0]; exact addTo_len x y c k
      have hc0l : c0.length ≤ 20000 := by rw [← hc0]; exact run_le _ c hl
      have HC0 := Lib.hid hc0; have HL0 := Lib.hid hl0; have HLL := Lib.hid hl0l
      rw [hc0] at HB0; rw [hl0] at HO0
      clear hc0 hl0 hl0l
      go_upto_region 6 with fail
      go_cut [9] (fun s9 wx => s9 = .int .i64 (lo : Int) ∧ BxA (g :: L) wx b c0 ∧ OwnI wx g g n n (l0 ++ [1] ++ List.replicate (n - k - 1) 0) ∧ KeepX [b, g] w1 wx)
      case first =>
        have hO9 : OwnI (w9.setCell ⟨g, k, none⟩ (.int .i64 1)) g g n n (l0 ++ [1] ++ List.replicate (n - k - 1) 0) := by
          have := HO0.out.set k 1
          rwa [set_mid HLL.out (by omega)] at this
        have hB9 : BxA (g :: L) (w9.setCell ⟨g, k, none⟩ (.int .i64 1)) b c0 := HB0.out.keep (X := [g]) ((KeepX.refl [g] w9).setCell (by simp) _) (by simp; omega) (by simp)
        have h3 := HL1.out
        go_wp2_with fail
        all_goals
          go_meet
          exact ⟨congrArg (Value.int .i64) (by omega), hB9, hO9, HK0.out.setCell (by simp) _⟩
      case rest =>
      clear cO fO
      obtain ⟨rfl, hb9, ho9, hk9⟩ := hcut
      have HB9 := Lib.hid hb9; have HO9 := Lib.hid ho9; have HK9 := Lib.hid hk9; clear hb9 ho9 hk9
      go_wp2_with fail
      go_loopg [9] ct (fun N v wr => ∃ I : Nat, v = .int .i64 I ∧ lo ≤ I ∧ I ≤ lo + ct ∧ N = lo + ct - I ∧ BxA (g :: L) wr b ((addIn 0 1 x y k lo (I - lo)).run c0).1 ∧ OwnI wr g g n n (l0 ++ [((addIn 0 1 x y k lo (I - lo)).run c0).2] ++ List.replicate (n - k - 1) 0) ∧ KeepX [b, g] w1 wr)
      case atStart => exact ⟨lo, rfl, by omega, by omega, by omega, by rw [Nat.sub_self]; exact HB9.out, by rw [Nat.sub_self]; exact HO9.out, HK9.out⟩
      case round =>
        obtain ⟨I, rfl, hI1, hI2, hNI, hb1, ho1, hk1⟩ := hrel
        obtain ⟨J, hJ⟩ : ∃ J, I - lo = J := ⟨_, rfl⟩
        rw [hJ] at hb1 ho1
        have HJ := Lib.hid (show lo + J = I by omega)
        obtain ⟨c1, hc1⟩ : ∃ z, ((addIn 0 1 x y k lo J).run c0).1 = z := ⟨_, rfl⟩
        obtain ⟨a1, ha1⟩ : ∃ z, ((addIn 0 1 x y k lo J).run c0).2 = z := ⟨_, rfl⟩
        have hc1l : c1.length ≤ 20000 := by rw [← hc1]; exact run_le _ c0 hc0l
        have ha1l : a1 ≤ 40001 := by rw [← ha1]; exact addIn_le _ _ _ _ hc0l _
        rw [hc1] at hb1; rw [ha1] at ho1
        have HC1r := Lib.hid hc1; have HA1r := Lib.hid ha1; clear hc1 ha1 hJ
        have HNI := Lib.hid hNI; have HBr := Lib.hid hb1; have HOr := Lib.hid ho1; have HKr := Lib.hid hk1; clear hNI hb1 ho1 hk1
        by_cases hlt2 : I < lo + ct
        case neg =>
          have hIm : (min ((k : Int) + 1) (x.length : Int)) < (I : Int) := by have := HC1.out; omega
          have HIE := Lib.hid (show I = lo + ct by omega)
          go_upto_region 7 with fail
          go_cut [36] (fun s wx => s = .bool false ∧ wx = wr)
          case first =>
            go_wp2_with fail
            all_goals
              go_meet
              first | exact ⟨rfl, rfl⟩ | exact ⟨congrArg Value.bool (decide_eq_false (by omega)), rfl⟩
          case rest =>
          obtain ⟨rfl, hwr⟩ := hcut
          subst hwr
          have hIJ : J = ct := by have := HJ.out; have := HIE.out; omega
          subst hIJ
          go_wp2_with fail
          go_roundg (n - (k + 1))
          case measure => (have := HNk.out; omega)
          case rel =>
            have e := addTo_succ x y k c
            rw [HC0.out, HL0.out, HLO.out, HCT.out, HC1r.out, HA1r.out] at e
            refine ⟨k + 1, by go_num, by omega, rfl, ?_, ?_, HKr.out⟩
            · rw [e]; exact HBr.out
            · rw [e]; exact HOr.out
        case pos =>
          have hIk : (I : Int) ≤ (k : Int) + 1 := by have := HC1.out; omega
          have hIx : (I : Int) ≤ (x.length : Int) := by have := HC1.out; omega
          have hI0 : (0 : Int) ≤ (I : Int) := by omega
          go_upto_region 7 with fail
          go_cut [36] (fun s wx => s = .bool true ∧ wx = wr)
          case first =>
            go_wp2_with fail
            all_goals
              go_meet
              first | exact ⟨rfl, rfl⟩ | exact ⟨congrArg Value.bool (decide_eq_true (by omega)), rfl⟩
          case rest =>
          obtain ⟨rfl, hwr⟩ := hcut
          subst hwr
          have cO := HOr.out.get hlt
          have fO := HOr.out.free k
          have eO : (l0 ++ [a1] ++ List.replicate (n - k - 1) 0).getD k 0 = a1 := getD_mid HLL.out
          rw [eO] at cO
          have hgl := HOr.out.lt
          have hszr := Nat.le_trans HZ.out HKr.out.size
          have HIXr := Lib.hid (HIX.out.keep2 (HK.out.trans HKr.out) HPX.out)
          have HIYr := Lib.hid (HIY.out.keep2 (HK.out.trans HKr.out) HPY.out)
          have hLg := Lib.hid (show ∀ z ∈ g :: L, z < wc.heap.size from fun z hz => by
            rcases List.mem_cons.1 hz with rfl | hz
            · exact hgl
            · have := HL.out z hz; omega)
          have hw1 : IntKind.i64.wrap ((k : Int) + 1) = (k : Int) + 1 := by (rw [IntWalk.i64_in]; omega)
          have hw2 : IntKind.i64.wrap ((k : Int) + 1 - (I : Int)) = (k : Int) + 1 - (I : Int) := by (rw [IntWalk.i64_in]; omega)
          obtain ⟨r1, hr1⟩ : ∃ z, ureach 0 1 x (I : Int) = z := ⟨_, rfl⟩
          obtain ⟨r2, hr2⟩ : ∃ z, ureach 0 1 y ((k : Int) + 1 - (I : Int)) = z := ⟨_, rfl⟩
          have hr1l : r1 ≤ 9223372036854775807 := by rw [← hr1]; have := ureach_le HXR.out (I : Int); omega
          have hr2l : r2 ≤ 9223372036854775807 := by rw [← hr2]; have := ureach_le HYR.out ((k : Int) + 1 - (I : Int)); omega
          obtain ⟨c2, t2, hc2⟩ : ∃ d r, cand c1 r1 r2 = (d, r) := ⟨_, _, rfl⟩
          obtain ⟨c3, a3, hc3⟩ : ∃ d r, cor c2 a1 t2 = (d, r) := ⟨_, _, rfl⟩
          have hc2l : c2.length ≤ 20000 := by have := (cand_le (a := r1) (b := r2) hc1l).1; rw [hc2] at this; exact this
          have ht2 : t2 ≤ 9223372036854775807 := by have := (cand_le (a := r1) (b := r2) hc1l).2; rw [hc2] at this; omega
          have ha1m : a1 ≤ 9223372036854775807 := by omega
          have HR1 := Lib.hid hr1; have HR2 := Lib.hid hr2; have HC2 := Lib.hid hc2; have HC3 := Lib.hid hc3; clear hr1 hr2 hc2 hc3 eO
          go_wp2_with fail
          refine wp_region_seqT (fun s w' => BxA (g :: L) w' b (match s with | 0 => c1 | 1 => c2 | _ => c3) ∧ KeepX [b] wc w') [17, 18] _ (by kernel_rfl) (by kernel_rfl) (by kernel_rfl) (by kernel_rfl) rfl ?_ ?_
          · exact ⟨HBr.out.keep (X := []) (KeepX.of_below (by go_grown)) (by simp) (by simp), KeepX.of_below (by go_grown)⟩
          refine seqM_pure (v := ?_) (by decide) (by decide) (by rfl) ?_ ?_
          rotate_left
          · (intro sj hj w hS; go_simp; try with_reducible rfl)
          (try simp only [Act.put, List.setIfInBounds_toArray, List.set_cons_zero, List.set_cons_succ])
          refine seqM_pure (v := ?_) (by decide) (by decide) (by rfl) ?_ ?_
          rotate_left
          · (intro sj hj w hS; go_simp; try with_reducible rfl)
          (try simp only [Act.put, List.setIfInBounds_toArray, List.set_cons_zero, List.set_cons_succ])
          refine seqM_pure (v := ?_) (by decide) (by decide) (by rfl) ?_ ?_
          rotate_left
          · (intro sj hj w hS; go_simp; try with_reducible rfl)
          (try simp only [Act.put, List.setIfInBounds_toArray, List.set_cons_zero, List.set_cons_succ])
          refine seqM_pure (v := ?_) (by decide) (by decide) (by rfl) ?_ ?_
          rotate_left
          · (intro sj hj w hS; go_simp; try with_reducible rfl)
          (try simp only [Act.put, List.setIfInBounds_toArray, List.set_cons_zero, List.set_cons_succ])
          refine seqM_pure (v := ?_) (by decide) (by decide) (by rfl) ?_ ?_
          rotate_left
          · (intro sj hj w hS; go_simp; try with_reducible rfl)
          (try simp only [Act.put, List.setIfInBounds_toArray, List.set_cons_zero, List.set_cons_succ])
          refine seqM_pure (v := ?_) (by decide) (by decide) (by rfl) ?_ ?_
          rotate_left
          · (intro sj hj w hS; go_simp; try with_reducible rfl)
          (try simp only [Act.put, List.setIfInBounds_toArray, List.set_cons_zero, List.set_cons_succ])
          refine seqM_pure (v := ?_) (by decide) (by decide) (by rfl) ?_ ?_
          rotate_left
          · (intro sj hj w hS; have hKX : KeepX [b] wc w := hS.2; have kk := hKX.cell cO (by simp; omega); go_simp; try with_reducible rfl)
          (try simp only [Act.put, List.setIfInBounds_toArray, List.set_cons_zero, List.set_cons_succ])
          refine seqM_pure (v := ?_) (by decide) (by decide) (by rfl) ?_ ?_
          rotate_left
          · (intro sj hj w hS; go_simp; try with_reducible rfl)
          (try simp only [Act.put, List.setIfInBounds_toArray, List.set_cons_zero, List.set_cons_succ])
          refine seqM_pure (v := ?_) (by decide) (by decide) (by rfl) ?_ ?_
          rotate_left
          · (intro sj hj w hS; go_simp; try with_reducible rfl)
          (try simp only [Act.put, List.setIfInBounds_toArray, List.set_cons_zero, List.set_cons_succ])
          refine seqM_pure (v := ?_) (by decide) (by decide) (by rfl) ?_ ?_
          rotate_left
          · (intro sj hj w hS; go_simp; try with_reducible rfl)
          (try simp only [Act.put, List.setIfInBounds_toArray, List.set_cons_zero, List.set_cons_succ])
          refine seqM_still (v := .int .i64 r1) (f := ?_) (args := ?_) (by decide) (by decide) (by rfl) ?_ ?_ ?_
          rotate_left 2
          · (intro sj hj w hS; go_simp; first | done | with_reducible rfl | (refine ⟨?_, ?_⟩ <;> with_reducible rfl))
          · (intro sj hj w hS; refine (creach_any x _ px cx _ (by omega) (by omega) (HIXr.out.keep hS.2 (fun a ha => by have := HNX.out a ha; simpa using this))).mono ?_; rintro e w' ⟨he, rfl⟩; rw [HR1.out] at he; exact ⟨he, hS⟩)
          (try simp only [Act.put, List.setIfInBounds_toArray, List.set_cons_zero, List.set_cons_succ])
          refine seqM_pure (v := ?_) (by decide) (by decide) (by rfl) ?_ ?_
          rotate_left
          · (intro sj hj w hS; go_simp; try with_reducible rfl)
          (try simp only [Act.put, List.setIfInBounds_toArray, List.set_cons_zero, List.set_cons_succ])
          refine seqM_pure (v := ?_) (by decide) (by decide) (by rfl) ?_ ?_
          rotate_left
          · (intro sj hj w hS; go_simp; try with_reducible rfl)
          (try simp only [Act.put, List.setIfInBounds_toArray, List.set_cons_zero, List.set_cons_succ])
          refine seqM_pure (v := ?_) (by decide) (by decide) (by rfl) ?_ ?_
          rotate_left
          · (intro sj hj w hS; go_simp; try with_reducible rfl)
          (try simp only [Act.put, List.setIfInBounds_toArray, List.set_cons_zero, List.set_cons_succ])
          refine seqM_pure (v := ?_) (by decide) (by decide) (by rfl) ?_ ?_
          rotate_left
          · (intro sj hj w hS; go_simp; try with_reducible rfl)
          (try simp only [Act.put, List.setIfInBounds_toArray, List.set_cons_zero, List.set_cons_succ])
          refine seqM_pure (v := ?_) (by decide) (by decide) (by rfl) ?_ ?_
          rotate_left
          · (intro sj hj w hS; go_simp; try with_reducible rfl)
          (try simp only [Act.put, List.setIfInBounds_toArray, List.set_cons_zero, List.set_cons_succ])
          refine seqM_still (v := .int .i64 r2) (f := ?_) (args := ?_) (by decide) (by decide) (by rfl) ?_ ?_ ?_
          rotate_left 2
          · (intro sj hj w hS; go_simp; first | done | with_reducible rfl | (refine ⟨?_, ?_⟩ <;> with_reducible rfl))
          · (intro sj hj w hS; refine (creach_any y _ py cy _ (by omega) (by omega) (HIYr.out.keep hS.2 (fun a ha => by have := HNY.out a ha; simpa using this))).mono ?_; rintro e w' ⟨he, rfl⟩; rw [HR2.out] at he; exact ⟨he, hS⟩)
          (try simp only [Act.put, List.setIfInBounds_toArray, List.set_cons_zero, List.set_cons_succ])
          refine seqM_call (v := .int .i64 t2) (f := ?_) (args := ?_) (by decide) (by decide) (by rfl) ?_ ?_ ?_
          rotate_left 2
          · (intro w hS; go_simp; first | done | with_reducible rfl | (refine ⟨?_, ?_⟩ <;> with_reducible rfl))
          · (intro w hS; refine (andM_any (g :: L) c1 r1 r2 b w hr1l hr2l hc1l hS.1 (fun z hz => Nat.lt_of_lt_of_le (hLg.out z hz) hS.2.size)).mono ?_; rintro e w' ⟨he, hb, hk⟩; rw [HC2.out] at he hb; exact ⟨he, hb, hS.2.trans hk⟩)
          (try simp only [Act.put, List.setIfInBounds_toArray, List.set_cons_zero, List.set_cons_succ])
          refine seqM_call (v := .int .i64 a3) (f := ?_) (args := ?_) (by decide) (by decide) (by rfl) ?_ ?_ ?_
          rotate_left 2
          · (intro w hS; go_simp; first | done | with_reducible rfl | (refine ⟨?_, ?_⟩ <;> with_reducible rfl))
          · (intro w hS; refine (orM_any (g :: L) c2 a1 t2 b w ha1m ht2 hc2l hS.1 (fun z hz => Nat.lt_of_lt_of_le (hLg.out z hz) hS.2.size)).mono ?_; rintro e w' ⟨he, hb, hk⟩; rw [HC3.out] at he hb; exact ⟨he, hb, hS.2.trans hk⟩)
          (try simp only [Act.put, List.setIfInBounds_toArray, List.set_cons_zero, List.set_cons_succ])
          refine seqM_pure (v := ?_) (by decide) (by decide) (by rfl) ?_ ?_
          rotate_left
          · (intro sj hj w hS; go_simp; try with_reducible rfl)
          (try simp only [Act.put, List.setIfInBounds_toArray, List.set_cons_zero, List.set_cons_succ])
          refine seqM_nil ?_
          intro w2 hS
          have c2O := hS.2.cell cO (by simp; omega)
          have f2O := hS.2.free fO (World.block_lt_of_cell? _ _ cO) (by simp; omega)
          have HS := Lib.hid hS; clear hS
          rw [if_pos (by rfl)]
          go_simp
          go_wp2_with fail
          go_roundg (lo + ct - (I + 1))
          case measure => (have := HNI.out; omega)
          case rel =>
            have e := addIn_succ x y k lo J c0
            rw [HJ.out, HC1r.out, HA1r.out, HR1.out, HR2.out, HC2.out, HC3.out, show J + 1 = I + 1 - lo by have := HJ.out; omega] at e
            have hO := (HOr.out.keep HS.out.2 (by simp; omega)).set k a3
            rw [set_mid' HLL.out] at hO
            refine ⟨I + 1, by go_num, by omega, by omega, rfl, ?_, ?_, ?_⟩
            · rw [e]; exact HS.out.1.keep (X := [g]) ((KeepX.refl [g] _).setCell (by simp) _) (by simp; omega) (by simp)
            · rw [e]; exact hO
            · exact HKr.out.trans ((HS.out.2.sub (by simp)).setCell (by simp) _)
end Go.Proofs.Ytanlecgpnknhoaa
