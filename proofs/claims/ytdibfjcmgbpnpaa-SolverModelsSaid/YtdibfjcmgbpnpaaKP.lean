/- Walks of the solver: Proof. -/
import Derived.Test.YtdibfjcmgbpnpaaKN
namespace Go.Proofs.Ytdibfjcmgbpnpaa
set_option linter.unusedSimpArgs false
set_option linter.unusedVariables false
open Go.RowKit

set_option maxRecDepth 100000 in
set_option maxHeartbeats 2000000 in
theorem copied_any (kd sy : Int) {w : World} {p : Option Addr} {c : Nat} {l : List Int} (hl : SI w p c l) (hll : l.length ≤ 1000000) :
    Calls Try.prog 47 #[.agg #[.int .i64 kd, .slice p l.length c, .int .i64 sy]] w fun e w' => ∃ q cq, e = .returned (.agg #[.int .i64 kd, .slice q l.length cq, .int .i64 sy]) ∧ w'.ownsRow w.heap.size 3 1 (.slice q l.length cq) l.length (iV l) ∧ Below w.heap.size w w' := by
 obtain ⟨w1, hw1⟩ : ∃ z, z = (w.alloc (.cells #[.int .i64 kd, .slice p l.length c, .int .i64 sy] 55)).alloc (.cells #[.int .i64 0, .slice none 0 0, .int .i64 0] 55) := ⟨_, rfl⟩
 have hb1 : Below w.heap.size w w1 := by rw [hw1]; go_grown
 have x0 : w1.cell? ⟨w.heap.size, 0, none⟩ = some (.int .i64 kd) := by rw [hw1]; go_cell
 have x1 : w1.cell? ⟨w.heap.size, 1, none⟩ = some (.slice p l.length c) := by rw [hw1]; go_cell
 have x2 : w1.cell? ⟨w.heap.size, 2, none⟩ = some (.int .i64 sy) := by rw [hw1]; go_cell
 have x1f : w1.frozen? ⟨w.heap.size, 1, none⟩ = false := by rw [hw1]; go_cell
 have y0 : w1.cell? ⟨w.heap.size + 1, 0, none⟩ = some (.int .i64 0) := by rw [hw1]; go_cell
 have y1 : w1.cell? ⟨w.heap.size + 1, 1, none⟩ = some (.slice none 0 0) := by rw [hw1]; go_cell
 have y2 : w1.cell? ⟨w.heap.size + 1, 2, none⟩ = some (.int .i64 0) := by rw [hw1]; go_cell
 have y0f : w1.frozen? ⟨w.heap.size + 1, 0, none⟩ = false := by rw [hw1]; go_cell
 have y1f : w1.frozen? ⟨w.heap.size + 1, 1, none⟩ = false := by rw [hw1]; go_cell
 have y2f : w1.frozen? ⟨w.heap.size + 1, 2, none⟩ = false := by rw [hw1]; go_cell
 have hcl := clone_any l p c w1 (hl.up hb1) hll
 obtain ⟨N, hN⟩ : ∃ z, l.length = z := ⟨_, rfl⟩
 obtain ⟨W, hW⟩ : ∃ z, z = w.heap.size := ⟨_, rfl⟩
 have hsz : W + 2 = w1.heap.size := by rw [hw1, hW]; simp
 rw [← hW] at x0 x1 x2 x1f y0 y1 y2 y0f y1f y2f
 rw [hN] at hw1 x1 hcl ⊢
 have HX := Lib.hid (And.intro x0 (And.intro x1 (And.intro x2 (And.intro x1f (And.intro y0 (And.intro y1 (And.intro y2 (And.intro y0f (And.intro y1f y2f)))))))))
 have HCL := Lib.hid hcl; have HB1 := Lib.hid hb1; have HW1 := Lib.hid hw1; have HW := Lib.hid hW; have HSZ := Lib.hid hsz
 clear hl hcl hb1 hw1 hsz x0 x1 x2 x1f y0 y1 y2 y0f y1f y2f hN hW
 go_enter Try.func47, Try.ntmps47
 go_upto_region 1 with fail
 rw [← HW1.out, ← HW.out]
 have facts : ∀ w2, Below w1.heap.size w1 w2 → (w2.cell? ⟨W, 0, none⟩ = some (.int .i64 kd) ∧ w2.cell? ⟨W, 1, none⟩ = some (.slice p N c) ∧ w2.cell? ⟨W, 2, none⟩ = some (.int .i64 sy) ∧ w2.frozen? ⟨W, 1, none⟩ = false ∧ w2.cell? ⟨W + 1, 0, none⟩ = some (.int .i64 0) ∧ w2.cell? ⟨W + 1, 1, none⟩ = some (.slice none 0 0) ∧ w2.cell? ⟨W + 1, 2, none⟩ = some (.int .i64 0) ∧ w2.frozen? ⟨W + 1, 0, none⟩ = false ∧ w2.frozen? ⟨W + 1, 1, none⟩ = false ∧ w2.frozen? ⟨W + 1, 2, none⟩ = false) := fun w2 hb => by
   obtain ⟨x0, x1, x2, x1f, y0, y1, y2, y0f, y1f, y2f⟩ := HX.out
   exact ⟨oldcell hb x0 (World.block_lt_of_cell? _ _ x0), oldcell hb x1 (World.block_lt_of_cell? _ _ x1), oldcell hb x2 (World.block_lt_of_cell? _ _ x2), oldfree hb x1f (World.block_lt_of_cell? _ _ x1), oldcell hb y0 (World.block_lt_of_cell? _ _ y0), oldcell hb y1 (World.block_lt_of_cell? _ _ y1), oldcell hb y2 (World.block_lt_of_cell? _ _ y2), oldfree hb y0f (World.block_lt_of_cell? _ _ y0), oldfree hb y1f (World.block_lt_of_cell? _ _ y1), oldfree hb y2f (World.block_lt_of_cell? _ _ y2)⟩
 have HF := Lib.hid facts; clear facts
 obtain ⟨-, x1, -⟩ := HX.out
 go_upto_region 2 with (first | (go_at_call 45; refine HCL.out.mono ?_; rintro e w2 ⟨q, cq, rfl, how, hb2⟩; obtain ⟨x0, x1, x2, x1f, y0, y1, y2, y0f, y1f, y2f⟩ := HF.out w2 hb2; have HOW := Lib.hid how; have HB2 := Lib.hid hb2; clear how hb2))
 go_wp2_with fail
 have hsc := fun (v : Value) => World.size_setCell
 obtain ⟨w9, hw9⟩ : ∃ z, z = ((((w2.setCell ⟨W, 1, none⟩ (.slice q N cq)).setCell ⟨W + 1, 0, none⟩ (.int .i64 kd)).setCell ⟨W + 1, 1, none⟩ (.slice q N cq)).setCell ⟨W + 1, 2, none⟩ (.int .i64 sy)) := ⟨_, rfl⟩
 rw [← hw9]
 have z0 : w9.cell? ⟨W + 1, 0, none⟩ = some (.int .i64 kd) := by rw [hw9]; go_cell
 have z1 : w9.cell? ⟨W + 1, 1, none⟩ = some (.slice q N cq) := by rw [hw9]; go_cell
 have z2 : w9.cell? ⟨W + 1, 2, none⟩ = some (.int .i64 sy) := by rw [hw9]; go_cell
 have hW := HW.out; have hsz := HSZ.out
 have how := HOW.out
 have hown9 : w9.ownsRow w.heap.size 3 1 (.slice q N cq) N (iV l) := by
   rw [hw9]
   have h1 := how
   have hb : W + 2 ≤ w1.heap.size := by omega
   exact own_weaken (own_far (own_far (own_far (own_far h1 (by omega) _ _) (by omega) _ _) (by omega) _ _) (by omega) _ _) (by omega)
 have hb9 : Below w.heap.size w w9 := by
   rw [hw9]
   have h1 := (HB1.out.trans (HB2.out.mono HB1.out.size))
   exact Below.setCell (Below.setCell (Below.setCell (Below.setCell h1 (by show w.heap.size ≤ W; omega) _) (by show w.heap.size ≤ W + 1; omega) _) (by show w.heap.size ≤ W + 1; omega) _) (by show w.heap.size ≤ W + 1; omega) _
 have HO9 := Lib.hid hown9; have HB9 := Lib.hid hb9
 clear hown9 hb9 how hw9 hsc hsz x0 x1 x2 x1f y0 y1 y2 y0f y1f y2f
 refine bodyPost_ret (v := .agg #[.int .i64 kd, .slice q N cq, .int .i64 sy]) ?_ rfl ⟨q, cq, rfl, HO9.out, HB9.out⟩
 clear hW
 simp only [results, Try.results47]
 go_simp
def stEnc (x : Option Addr × Nat × Nat) : Nat → Value
  | 0 => .int .i64 1
  | 1 => .slice x.1 x.2.1 x.2.2
  | _ => .int .i64 0
theorem stEnc_one (x : Option Addr × Nat × Nat) (j : Nat) : (stEnc x j).oneCell' = true := by
  match j with
  | 0 => rfl
  | 1 => rfl
  | j + 2 => rfl
theorem SI.grown {w w' : World} {p : Option Addr} {c : Nat} {l : List Int} {row : Option Nat} (h : SI w p c l) (hg : w.grownBy w' row) (hne : ∀ a, p = some a → some a.block ≠ row) : SI w' p c l :=
  ⟨h.le, h.cm, h.q0, h.at'.grown hg hne, fun h0 a ha => Nat.lt_of_lt_of_le (h.lt h0 a ha) hg.size⟩
/-- a slice of proof steps in memory, all of them learned clauses -/
structure PfAt (K : Nat → Prop) (w : World) (q : Option Addr) (cq : Nat) (P : List (List Int)) : Prop where
  le : P.length ≤ cq
  cm : cq ≤ maxLen
  q0 : q = none → cq = 0
  lt : ∀ a, q = some a → a.block < w.heap.size ∧ K a.block
  at' : ∀ (i : Nat) (l : List Int), P[i]? = some l → ∃ b off p c, q = some ⟨b, off, none⟩ ∧ w.cell? ⟨b, off + i * 3, none⟩ = some (.int .i64 1) ∧ w.cell? ⟨b, off + i * 3 + 1, none⟩ = some (.slice p l.length c) ∧ w.cell? ⟨b, off + i * 3 + 2, none⟩ = some (.int .i64 0) ∧ SI w p c l ∧ ∀ a, p = some a → K a.block ∧ a.block < w.heap.size
theorem SI.keep {w w' : World} {p : Option Addr} {c : Nat} {l : List Int} (h : SI w p c l) (hs : w.heap.size ≤ w'.heap.size) (hk : ∀ a, p = some a → w'.heap[a.block]? = w.heap[a.block]?) : SI w' p c l := by
  refine ⟨h.le, h.cm, h.q0, ?_, fun h0 a ha => Nat.lt_of_lt_of_le (h.lt h0 a ha) hs⟩
  rcases h.at' with e | ⟨b, off, hp, hb, hc⟩
  · exact .inl e
  · refine .inr ⟨b, off, hp, Nat.lt_of_lt_of_le hb hs, fun i x hi j hj => ?_⟩
    have hbk : w'.heap[b]? = w.heap[b]? := hk _ hp
    rw [World.cell?_of_block hbk]
    exact hc i x hi j hj
/-- the blocks that K speaks of are left alone -/
theorem PfAt.keep {K : Nat → Prop} {w w' : World} {q : Option Addr} {cq : Nat} {P : List (List Int)} (h : PfAt K w q cq P) (hs : w.heap.size ≤ w'.heap.size) (hk : ∀ g, K g → g < w.heap.size → w'.heap[g]? = w.heap[g]?) : PfAt K w' q cq P :=
  ⟨h.le, h.cm, h.q0, fun a ha => ⟨Nat.lt_of_lt_of_le (h.lt a ha).1 hs, (h.lt a ha).2⟩, fun i l hi => by
    obtain ⟨b, off, p, c, h1, h2, h3, h4, h5, h6⟩ := h.at' i l hi
    have hb := h.lt _ h1
    have hbb := hk b hb.2 hb.1
    exact ⟨b, off, p, c, h1, (World.cell?_of_block hbb).trans h2, (World.cell?_of_block hbb).trans h3, (World.cell?_of_block hbb).trans h4, h5.keep hs fun a ha => hk _ (h6 a ha).1 (h6 a ha).2, fun a ha => ⟨(h6 a ha).1, Nat.lt_of_lt_of_le (h6 a ha).2 hs⟩⟩⟩
theorem PfAt.up {K : Nat → Prop} {w w' : World} {q : Option Addr} {cq : Nat} {P : List (List Int)} (h : PfAt K w q cq P) (hB : Below w.heap.size w w') : PfAt K w' q cq P :=
  h.keep hB.size fun g _ hg => hB.block g hg
theorem PfAt.imp {K K' : Nat → Prop} {w : World} {q : Option Addr} {cq : Nat} {P : List (List Int)} (h : PfAt K w q cq P) (hk : ∀ g, K g → g < w.heap.size → K' g) : PfAt K' w q cq P :=
  ⟨h.le, h.cm, h.q0, fun a ha => ⟨(h.lt a ha).1, hk _ (h.lt a ha).2 (h.lt a ha).1⟩, fun i l hi => by
    obtain ⟨b, off, p, c, h1, h2, h3, h4, h5, h6⟩ := h.at' i l hi
    exact ⟨b, off, p, c, h1, h2, h3, h4, h5, fun a ha => ⟨hk _ (h6 a ha).1 (h6 a ha).2, (h6 a ha).2⟩⟩⟩
theorem flat3_get (a b : Value) (f : Nat → Value) : ∀ (n k : Nat), k < n → ((List.range n).flatMap fun k => [a, f k, b])[k * 3]? = some a ∧ ((List.range n).flatMap fun k => [a, f k, b])[k * 3 + 1]? = some (f k) ∧ ((List.range n).flatMap fun k => [a, f k, b])[k * 3 + 2]? = some b
  | 0, k, h => by omega
  | n + 1, k, h => by
    have hl := flat3_len a b f (List.range n)
    rw [List.length_range] at hl
    rw [List.range_succ, List.flatMap_append]
    rcases Nat.lt_or_ge k n with q | q
    · obtain ⟨h1, h2, h3⟩ := flat3_get a b f n k q
      rw [List.getElem?_append_left (by omega), List.getElem?_append_left (by omega), List.getElem?_append_left (by omega)]
      exact ⟨h1, h2, h3⟩
    · obtain rfl : k = n := by omega
      rw [List.getElem?_append_right (by omega), List.getElem?_append_right (by omega), List.getElem?_append_right (by omega), hl]
      rw [show k * 3 - 3 * k = 0 by omega, show k * 3 + 1 - 3 * k = 1 by omega, show k * 3 + 2 - 3 * k = 2 by omega]
      exact ⟨rfl, rfl, rfl⟩

set_option maxRecDepth 100000 in
set_option maxHeartbeats 2000000 in
theorem proof_any {n : Nat} {A : List (List Int)} {w : World} {o : Nat → Option Role} {b : Nat} {s : SS} (h : SolAt w o b s) (hp : s.proof.length ≤ 100000) (hps : ∀ l ∈ s.proof, l.length ≤ 1000000) :
    Calls Try.prog 26 #[.pointer (some ⟨b, 0, none⟩)] w fun e w' => ∃ q cq, e = .returned (.slice q s.proof.length cq) ∧ PfAt (fun g => w.heap.size ≤ g) w' q cq s.proof ∧ Below w.heap.size w w' := by
 obtain ⟨i1, hi1, hz3, hz4, hz5⟩ := info_parts step_info
 obtain ⟨oc, hd, hs⟩ := h.sl
 obtain ⟨pp, cp, ep⟩ := hs.proof_sl
 obtain ⟨N, hN⟩ : ∃ z, s.proof.length = z := ⟨_, rfl⟩
 rw [hN] at ep hp ⊢
 obtain ⟨f11, -⟩ := hs.fld 11 (u := hd .proof) rfl
 rw [ep] at f11
 have hsteps : ∀ j, j < N → ∃ g p c l, pp = some ⟨g, 0, none⟩ ∧ s.proof[j]? = some l ∧ w.cell? ⟨g, j * 3, none⟩ = some (.int .i64 1) ∧ w.cell? ⟨g, j * 3 + 1, none⟩ = some (.slice p l.length c) ∧ w.cell? ⟨g, j * 3 + 2, none⟩ = some (.int .i64 0) ∧ SI w p c l ∧ l.length ≤ 1000000 := by
   intro j hj
   obtain ⟨g, n', c', e1, -⟩ := hs.mem.blk .proof (by
     show 0 < ((List.range s.proof.length).flatMap _).length
     rw [flat3_len, List.length_range]; omega)
   have e2 := e1
   rw [ep] at e1
   simp only [Value.slice.injEq] at e1
   obtain ⟨f1, f2, f3⟩ := flat3_get (.int .i64 1) (.int .i64 0) (fun k => hd (.step k)) s.proof.length j (by omega)
   have hjp : s.proof[j]? = some (s.proof.getD j []) := by rw [List.getD_eq_getElem?_getD, List.getElem?_eq_getElem (by omega)]; rfl
   obtain ⟨p, c, e3, hsi⟩ := hs.row_si (.step j) rfl rfl (l := s.proof.getD j []) rfl
   refine ⟨g, p, c, _, e1.1, hjp, (hs.cell e2 f1).1, ?_, (hs.cell e2 f3).1, hsi, hps _ (List.mem_of_getElem? hjp)⟩
   rw [← e3]; exact (hs.cell e2 f2).1
 have own0 : OwnG 3 stEnc 55 w w.heap.size (.slice none 0 0) [] := OwnG.nil
 have hb0 := Below.refl w.heap.size w
 have HST := Lib.hid hsteps; have HO0 := Lib.hid own0; have HB0 := Lib.hid hb0; have HN := Lib.hid hN
 clear hsteps own0 hb0 hs h ep hps hN
 go_enter Try.func26, Try.ntmps26
 go_wp2_with fail
 go_loopg [4, 12] N (fun G s4 s12 wr => ∃ (q : Option Addr) (c : Nat) (L : List (Option Addr × Nat × Nat)), s12 = .int .i64 L.length ∧ s4 = .slice q L.length c ∧ L.length ≤ N ∧ G = N - L.length ∧ OwnG 3 stEnc 55 wr w.heap.size (.slice q L.length c) L ∧ Below w.heap.size w wr ∧ ∀ (i : Nat) (x : Option Addr × Nat × Nat), L[i]? = some x → ∃ l, s.proof[i]? = some l ∧ x.2.1 = l.length ∧ SI wr x.1 x.2.2 l ∧ ∀ a, x.1 = some a → (w.heap.size ≤ a.block ∧ a.block < wr.heap.size) ∧ ∀ a', q = some a' → a'.block ≠ a.block)
 case atStart => exact ⟨none, 0, [], rfl, rfl, by simp, rfl, HO0.out, HB0.out, fun i x hx => by simp at hx⟩
 case round =>
  obtain ⟨q, c, L, rfl, rfl, hLN, hG, hO, hB, hL⟩ := hrel
  clear HO0 HB0
  obtain ⟨j, hj⟩ : ∃ z, L.length = z := ⟨_, rfl⟩
  rw [hj] at hLN hG hO ⊢
  have HG := Lib.hid hG; have HO := Lib.hid hO; have HB := Lib.hid hB; have HL := Lib.hid hL; have HJ := Lib.hid hj
  clear hG hO hB hL hj
  by_cases hlt : j < N
  case neg =>
   obtain rfl : j = N := by omega
   obtain ⟨q2, c2, e2, h1, h2, h3, h4, h5⟩ := HO.out.val (by decide)
   simp only [Value.slice.injEq] at e2
   obtain ⟨rfl, -, rfl⟩ := e2
   have hpf : PfAt (fun g => w.heap.size ≤ g) wr q c s.proof := by
     refine ⟨by rw [HN.out, ← HJ.out]; exact h1, h2, h3, fun a ha => ⟨(h5 a ha).2, (h5 a ha).1⟩, fun i l hi => ?_⟩
     have hil : i < L.length := by rw [HJ.out, ← HN.out]; exact (List.getElem?_eq_some_iff.1 hi).1
     obtain ⟨x, hx⟩ : ∃ x, L[i]? = some x := ⟨_, List.getElem?_eq_getElem hil⟩
     obtain ⟨l', hl', e3, hsi, hge⟩ := HL.out i x hx
     rw [hi] at hl'; obtain rfl := Option.some.inj hl'
     rcases h4 with e | ⟨bq, off, hpq, hbq, hc⟩
     · rw [e] at hx; simp at hx
     · have c0 := hc i x hx 0 (by omega)
       have c1 := hc i x hx 1 (by omega)
       have c2 := hc i x hx 2 (by omega)
       exact ⟨bq, off, x.1, x.2.2, hpq, c0, by rw [← e3]; exact c1, c2, hsi, fun a ha => (hge a ha).1⟩
   have HPF := Lib.hid hpf
   clear hpf h1 h2 h3 h4 h5
   go_wp2_with fail
   go_ret
   exact ⟨q, c, rfl, HPF.out, HB.out⟩
  case pos =>
   obtain ⟨g, p, cl, l, rfl, hpj, x0, x1, x2, hsi, hll⟩ := HST.out j hlt
   have hjN : (j : Int) < (N : Int) := by omega
   have hB := HB.out
   replace x0 := oldcell hB x0 (World.block_lt_of_cell? _ _ x0); replace x1 := oldcell hB x1 (World.block_lt_of_cell? _ _ x1); replace x2 := oldcell hB x2 (World.block_lt_of_cell? _ _ x2)
   have hsi2 := hsi.up hB
   obtain ⟨ll, hlle⟩ : ∃ z, l.length = z := ⟨_, rfl⟩
   rw [hlle] at x1 hll
   have HSI := Lib.hid hsi2; have HPJ := Lib.hid hpj; have HLL := Lib.hid hlle
   clear hB hsi hsi2 hpj hlle
   go_upto_region 6 with fail
   obtain ⟨w5, hw5⟩ : ∃ z, z = wr.alloc (.cells #[.int .i64 1, .slice p ll cl, .int .i64 0] 55) := ⟨_, rfl⟩
   rw [← hw5]
   have n0 : w5.cell? ⟨wr.heap.size, 0, none⟩ = some (.int .i64 1) := by rw [hw5]; go_cell
   have n1 : w5.cell? ⟨wr.heap.size, 1, none⟩ = some (.slice p ll cl) := by rw [hw5]; go_cell
   have n2 : w5.cell? ⟨wr.heap.size, 2, none⟩ = some (.int .i64 0) := by rw [hw5]; go_cell
   have hb5 : Below wr.heap.size wr w5 := by
     rw [hw5]; go_grown
   have hcp := copied_any 1 0 (HSI.out.up hb5) (by rw [HLL.out]; exact hll)
   rw [HLL.out] at hcp
   have HCP := Lib.hid hcp; have HB5 := Lib.hid hb5
   clear hcp hb5 hw5 x0 x1 x2
   have hq := fun a (ha : q = some a) => (World.ownsRow.lt HO.out a.block (by rw [ha]; rfl)).2
   have HQ := Lib.hid hq; clear hq
   go_wp2_with (first | (go_at_call 47; refine HCP.out.mono ?_; rintro e w6 ⟨q2, cq2, rfl, how6, hb6⟩; have HOW6 := Lib.hid how6; have HB6 := Lib.hid hb6; clear how6 hb6) | (at_builtin; go_must (refine wpList_app2 (E := 3) (enc := stEnc) rfl _ _ _ rfl w.heap.size 55 i1 _ 40 Try.underlying49 hi1 hz3 hz4 hz5 rfl (by decide) _ L rfl (HO.out.up (btr (btr HB5.out HB6.out) (by go_grown))) (some ⟨w6.heap.size, 0, none⟩) [(q2, ll, cq2)] 1 rfl (by intro h; cases h) (SlAt.block rfl) stEnc_one (by rw [HJ.out]; simp only [maxLen, List.length_singleton]; omega) (by rw [HJ.out]; simp only [List.length_singleton]; omega) (by have h1 := HB.out.size; have h2 := HB5.out.size; have h3 := HB6.out.size; simp; omega) ?_; intro v7 w7 h1 h2 h3 h4; have HO7 := Lib.hid (show OwnG 3 stEnc 55 w7 w.heap.size v7 (L ++ [(q2, ll, cq2)]) from h1); have HG7 := Lib.hid h2; have HB7 := Lib.hid h3; have HK7 := Lib.hid h4; clear h1 h2 h3 h4)))
   obtain ⟨q7, c7, e7, -⟩ := HO7.out.val (by decide)
   subst e7
   have hq7 : ∀ a', q7 = some a' → a' = ⟨a'.block, 0, none⟩ ∧ ((Value.slice q j c).ownBlock = some a'.block ∨ a'.block = w6.heap.size + 1) := by
     intro a' ha
     subst ha
     have hk := HK7.out
     rcases (show OwnG 3 stEnc 55 w7 w.heap.size _ _ from HO7.out).2 with ⟨e, -⟩ | ⟨g', cap', cur, e, -⟩
     · cases e
     · simp only [Value.slice.injEq, Option.some.injEq] at e
       obtain ⟨rfl, -⟩ := e
       refine ⟨rfl, ?_⟩
       rcases hk with q | q
       · exact .inl (q.symm)
       · refine .inr ?_
         have := Option.some.inj q
         simpa using this
   have hqo : ∀ g', (Value.slice q j c).ownBlock = some g' → q = some ⟨g', 0, none⟩ := fun g' hg' => by
     obtain ⟨cap', cur, e, -⟩ := owns_blk HO.out hg'
     simp only [Value.slice.injEq] at e
     exact e.1
   have hba : Below wr.heap.size wr (w6.alloc (.cells #[.int .i64 1, .slice q2 ll cq2, .int .i64 0] 55)) := btr (btr HB5.out HB6.out) (by go_grown)
   have hs5 := HB5.out.size; have hs6 := HB6.out.size
   have hL7 : ∀ (i : Nat) (x : Option Addr × Nat × Nat), (L ++ [(q2, ll, cq2)])[i]? = some x → ∃ l, s.proof[i]? = some l ∧ x.2.1 = l.length ∧ SI w7 x.1 x.2.2 l ∧ ∀ a, x.1 = some a → (w.heap.size ≤ a.block ∧ a.block < w7.heap.size) ∧ ∀ a', q7 = some a' → a'.block ≠ a.block := by
     intro i x hx
     rcases getElem?_snoc.1 hx with hx | ⟨rfl, rfl⟩
     · obtain ⟨l', a1, a2, a3, a4⟩ := HL.out i x hx
       refine ⟨l', a1, a2, (a3.up hba).grown HG7.out fun a ha e => ?_, fun a ha => ⟨⟨(a4 a ha).1.1, by have h1 := (a4 a ha).1.2; have h2 := hba.size; have h3 := HG7.out.size; omega⟩, fun a' ha' e => ?_⟩⟩
       · exact (a4 a ha).2 _ (hqo _ e.symm) rfl
       · obtain ⟨-, k | k⟩ := hq7 a' ha'
         · exact (a4 a ha).2 _ (hqo _ k) e
         · have := (a4 a ha).1.2; omega
     · have how := HOW6.out
       have hl9 : ll = l.length := HLL.out.symm
       have hge : ∀ a, q2 = some a → w5.heap.size ≤ a.block ∧ a.block < w6.heap.size := by
         intro a ha
         subst ha
         rcases how.2 with ⟨e, -⟩ | ⟨g', cap', cur, e, h1, h2, -⟩
         · cases e
         · simp only [Value.slice.injEq, Option.some.injEq] at e
           obtain ⟨rfl, -⟩ := e
           exact ⟨h1, (Array.getElem?_eq_some_iff.1 h2).1⟩
       have hw0 := HB.out.size
       refine ⟨l, by rw [HJ.out]; exact HPJ.out, hl9, ?_, fun a ha => ⟨⟨by have := (hge a ha).1; omega, by have h1 := (hge a ha).2; have h3 := HG7.out.size; simp at h3; omega⟩, fun a' ha' e => ?_⟩⟩
       · rw [hl9] at how
         refine ((SI.of_owns how).up (by go_grown)).grown HG7.out fun a ha e => ?_
         have h1 := HQ.out _ (hqo _ e.symm)
         have h2 := (hge a ha).1
         have h3 : a.block < wr.heap.size := h1
         omega
       · have h2 := hge a ha
         obtain ⟨-, k | k⟩ := hq7 a' ha'
         · have h0 := HQ.out _ (hqo _ k)
           have h1 : a'.block < wr.heap.size := h0
           omega
         · omega
   have HL7 := Lib.hid hL7
   have HB8 := Lib.hid (HB.out.trans ((hba.mono HB.out.size).trans HB7.out))
   clear hL7 hq7 hqo hba hs5 hs6
   go_roundg (N - (j + 1))
   case measure => (have := HG.out; omega)
   case rel => exact ⟨q7, c7, L ++ [(q2, ll, cq2)], by rw [List.length_append, HJ.out]; rfl, rfl, by rw [List.length_append, HJ.out]; exact hlt, by rw [List.length_append, HJ.out]; rfl, HO7.out, HB8.out, HL7.out⟩
end Go.Proofs.Ytdibfjcmgbpnpaa
