/- Laws for the search: its rounds, one by one; how many marks; new rows in memory. -/
import Derived.Test.YtdibfjcmgbpnpaaKM
namespace Go.Proofs.Ytdibfjcmgbpnpaa
set_option linter.unusedSimpArgs false
set_option linter.unusedVariables false
open Go.RowKit

section
variable {l : List Int} {fuel : Int} {G : Nat} {s s2 : SS} {met : Nat} {c : Option Nat}
theorem srun_inl {s' : SS} {m' : Nat} (h : sround l fuel s met = .inl (s', m')) : srun l fuel (G + 1) s met = srun l fuel G s' m' := by
  show (match sround l fuel s met with | .inl (s', m') => srun l fuel G s' m' | .inr r => r) = _
  rw [h]
theorem srun_inr {r : SS × Int} (h : sround l fuel s met = .inr r) : srun l fuel (G + 1) s met = r := by
  show (match sround l fuel s met with | .inl (s', m') => srun l fuel G s' m' | .inr r => r) = _
  rw [h]
theorem round_full (h : 20000 ≤ s.proof.length) : sround l fuel s met = .inr (s.undo 0, 0) := by
  unfold sround; rw [if_pos h]
theorem round_unsat (h0 : ¬ 20000 ≤ s.proof.length) (hp : prop s.value.length s = (s2, c)) (h : s2.broken = true ∨ (c ≠ none ∧ s2.marks.length = 0)) : sround l fuel s met = .inr (SS.fin { s2 with broken := true } [], 2) := by
  unfold sround; rw [if_neg h0, hp]; dsimp only; rw [if_pos h]
theorem round_stop {k : Nat} (h0 : ¬ 20000 ≤ s.proof.length) (hp : prop s.value.length s = (s2, some k)) (h : ¬ (s2.broken = true ∨ (some k ≠ none ∧ s2.marks.length = 0))) (hf : fuel ≤ ((met + 1 : Nat) : Int)) : sround l fuel s met = .inr (((s2.undo (analyze s2 k).2).assert (analyze s2 k).1).undo 0, 0) := by
  unfold sround; rw [if_neg h0, hp]; dsimp only; rw [if_neg h, if_pos hf]
theorem round_conf {k : Nat} (h0 : ¬ 20000 ≤ s.proof.length) (hp : prop s.value.length s = (s2, some k)) (h : ¬ (s2.broken = true ∨ (some k ≠ none ∧ s2.marks.length = 0))) (hf : ¬ fuel ≤ ((met + 1 : Nat) : Int)) : sround l fuel s met = .inl ((s2.undo (analyze s2 k).2).assert (analyze s2 k).1, met + 1) := by
  unfold sround; rw [if_neg h0, hp]; dsimp only; rw [if_neg h, if_neg hf]
theorem round_no {x : Int} (h0 : ¬ 20000 ≤ s.proof.length) (hp : prop s.value.length s = (s2, none)) (h : ¬ s2.broken = true) (hm : s2.marks.length < l.length) (hx : l.getD s2.marks.length 0 = x) (hy : s2.of x = -1) : sround l fuel s met = .inr (SS.fin (s2.undo 0) (blame s2 x), 2) := by
  unfold sround; rw [if_neg h0, hp]; dsimp only; rw [if_neg (by rintro (q | q); exact h q; exact q.1 rfl), if_pos hm, hx, if_pos hy]
theorem round_dec0 {x : Int} (h0 : ¬ 20000 ≤ s.proof.length) (hp : prop s.value.length s = (s2, none)) (h : ¬ s2.broken = true) (hm : s2.marks.length < l.length) (hx : l.getD s2.marks.length 0 = x) (hy : s2.of x = 1) : sround l fuel s met = .inl (s2.decide 0, met) := by
  unfold sround; rw [if_neg h0, hp]; dsimp only; rw [if_neg (by rintro (q | q); exact h q; exact q.1 rfl), if_pos hm, hx, if_neg (by rw [hy]; decide), if_pos hy]
theorem round_decx {x : Int} (h0 : ¬ 20000 ≤ s.proof.length) (hp : prop s.value.length s = (s2, none)) (h : ¬ s2.broken = true) (hm : s2.marks.length < l.length) (hx : l.getD s2.marks.length 0 = x) (hy : s2.of x ≠ -1) (hy2 : s2.of x ≠ 1) : sround l fuel s met = .inl (s2.decide x, met) := by
  unfold sround; rw [if_neg h0, hp]; dsimp only; rw [if_neg (by rintro (q | q); exact h q; exact q.1 rfl), if_pos hm, hx, if_neg hy, if_neg hy2]
theorem round_sat (h0 : ¬ 20000 ≤ s.proof.length) (hp : prop s.value.length s = (s2, none)) (h : ¬ s2.broken = true) (hm : ¬ s2.marks.length < l.length) (hv : s2.free = 0) : sround l fuel s met = .inr (SS.undo { s2.advance with model := s2.value } 0, 1) := by
  unfold sround; rw [if_neg h0, hp]; dsimp only; rw [if_neg (by rintro (q | q); exact h q; exact q.1 rfl), if_neg hm, if_pos hv]
theorem round_decv (h0 : ¬ 20000 ≤ s.proof.length) (hp : prop s.value.length s = (s2, none)) (h : ¬ s2.broken = true) (hm : ¬ s2.marks.length < l.length) (hv : ¬ s2.free = 0) : sround l fuel s met = .inl (s2.advance.decide (-s2.free), met) := by
  unfold sround; rw [if_neg h0, hp]; dsimp only; rw [if_neg (by rintro (q | q); exact h q; exact q.1 rfl), if_neg hm, if_neg hv]
end
/-- how many marks there may be -/
def Mk (a : Nat) (s : SS) : Prop := s.marks.length ≤ a + s.lits.length ∧ ∀ k m : Nat, s.marks[k]? = some m → k ≤ a + m
theorem Mk.fr {a : Nat} {s s' : SS} (h : Mk a s) (hf : Fr s s') : Mk a s' := by
  obtain ⟨e, he⟩ := hf.ext
  refine ⟨?_, by rw [hf.marks]; exact h.2⟩
  rw [hf.marks, he, List.length_append]; have := h.1; omega
theorem Mk.undone {n a : Nat} {s : SS} (h : Mk a s) (ht : Tr n s) (k : Nat) : Mk a (s.undo k) := by
  have em := undo_marks s k
  have el : (s.undo k).lits = (s.back k).lits := rfl
  rw [back_lits] at el
  refine ⟨?_, ?_⟩
  · rw [em, el, List.length_take]
    split
    · have := h.1; omega
    · rename_i q
      have hm : s.marks[k]? = some (s.marks.getD k 0) := by rw [List.getD_eq_getElem?_getD, List.getElem?_eq_getElem (by omega)]; rfl
      have h1 := h.2 k _ hm
      have h2 := ht.ml _ (List.mem_of_getElem? hm)
      rw [List.length_take]; omega
  · intro j m hj
    rw [em, List.getElem?_take] at hj
    split at hj
    · exact h.2 j m hj
    · cases hj
theorem Mk.same {a : Nat} {s s' : SS} (h : Mk a s) (e1 : s'.marks = s.marks) (e2 : s.lits.length ≤ s'.lits.length) : Mk a s' := ⟨by rw [e1]; have := h.1; omega, by rw [e1]; exact h.2⟩
theorem Mk.decided {a : Nat} {s : SS} (h : Mk a s) (x : Int) (hx : x = 0 → s.marks.length < a) : Mk a (s.decide x) := by
  have h1 := h.1
  have hm : ∀ k m : Nat, (s.marks ++ [s.lits.length])[k]? = some m → k ≤ a + m := by
    intro k m hk
    rw [List.getElem?_append] at hk
    split at hk
    · exact h.2 k m hk
    · rename_i q
      obtain ⟨q1, q2⟩ := List.getElem?_eq_some_iff.1 hk
      simp at q1 q2
      omega
  unfold SS.decide
  split
  · refine ⟨?_, hm⟩
    show (s.marks ++ [s.lits.length]).length ≤ a + (s.lits ++ [x]).length
    simp; omega
  · rename_i q
    have h2 := hx (by omega)
    refine ⟨?_, hm⟩
    show (s.marks ++ [s.lits.length]).length ≤ a + s.lits.length
    simp; omega
theorem assert_frame (s : SS) (l : List Int) : (s.assert l).marks = s.marks ∧ s.lits.length ≤ (s.assert l).lits.length ∧ (s.assert l).proof.length = s.proof.length + 1 ∧ (s.assert l).clauses.length ≤ s.clauses.length + 1 := by
  unfold SS.assert
  split
  · exact ⟨rfl, by show _ ≤ (s.lits ++ [_]).length; simp, by show (s.proof ++ [l]).length = _; simp, by show s.clauses.length ≤ _; omega⟩
  · exact ⟨rfl, by show _ ≤ (s.lits ++ [_]).length; simp, by show (s.proof ++ [l]).length = _; simp, by show (s.clauses ++ [_]).length ≤ _; simp⟩
theorem decide_frame (s : SS) (x : Int) : (s.decide x).clauses = s.clauses ∧ (s.decide x).proof = s.proof := by
  unfold SS.decide; split <;> exact ⟨rfl, rfl⟩
theorem In.rows {n : Nat} {U : Int → Prop} {s : SS} (h : In n U s) : ∀ k, 2 ≤ k → (s.watches.getD k []).length ≤ s.clauses.length := by
  intro k hk
  rcases Nat.lt_or_ge k s.watches.length with q | q
  · rw [h.wa.wl] at q
    obtain ⟨x, hx, e⟩ : ∃ x : Int, LOk n x ∧ idx x = k := by
      obtain ⟨m, e⟩ : ∃ m, k = 2 * m ∨ k = 2 * m + 1 := ⟨k / 2, by omega⟩
      rcases e with e | e
      · exact ⟨m, ⟨by omega, by omega⟩, by unfold idx; rw [if_neg (by omega)]; omega⟩
      · exact ⟨-m, ⟨by omega, by omega⟩, by unfold idx; rw [if_pos (by omega)]; omega⟩
    rw [← e]; exact h.wa.short hx
  · rw [List.getD_eq_getElem?_getD, List.getElem?_eq_none q]; exact Nat.zero_le _
theorem Learned.lok {n : Nat} {D : List (List Int)} {s : SS} {C : List Int} {lv : Nat} (h : Learned D s C lv) (ht : Tr n s) : (∀ x ∈ C, LOk n x) ∧ 1 ≤ C.length ∧ C.length ≤ 2 * n + 2 := by
  obtain ⟨q, O, rfl, ⟨i, hi, -⟩, hO, -⟩ := h.shape
  have hok : ∀ x ∈ -q :: O, LOk n x := by
    intro x hx
    rcases List.mem_cons.1 hx with e | hx
    · rw [e]; exact (ht.ok q (List.mem_of_getElem? hi)).neg
    · obtain ⟨j, hj, -⟩ := hO x hx
      have := (ht.ok _ (List.mem_of_getElem? hj)).neg
      rwa [Int.neg_neg] at this
  refine ⟨hok, by simp, lits_len ?_ hok⟩
  have h2 := h.nd
  unfold List.Nodup at h2 ⊢
  exact List.Pairwise.of_map _ (fun a b q e => q (by rw [e])) h2
section
variable {w : World} {o : Nat → Option Role} {b : Nat} {s : SS} {oc : Int} {hd : Role → Value}
theorem Sl.proof_sl (h : Sl w o b s oc hd) : ∃ p c, hd .proof = .slice p s.proof.length c := by
  obtain ⟨p, n, c, e, h1, -⟩ := h.mem.form .proof
  have h2 : (E s oc hd .proof).length = 3 * s.proof.length := by
    show ((List.range s.proof.length).flatMap _).length = _
    rw [flat3_len, List.length_range]
  rw [h2] at h1
  change _ = n * 3 at h1
  obtain rfl : n = s.proof.length := by omega
  exact ⟨p, c, e⟩
theorem tag_nil (o : Nat → Option Role) (r : Role) : tagNew o (.slice none 0 0) r = o := by
  funext g; unfold tagNew; rw [if_neg (by intro q; cases q)]
/-- a row of ints is replaced by another one -/
theorem Sl.renew (h : Sl w o b s oc hd) {r : Role} (hr : r = .core ∨ r = .model) {v : Value} {n : Nat} {l : List Int} (hv : w.ownsRow 0 3 1 v n (iV l)) (ho : ∀ g, v.ownBlock = some g → o g = none) :
    (∃ hd', Sl (w.setCell ⟨b, if r = .core then 14 else 13, none⟩ v) (tagNew o v r) b (if r = .core then { s with core := l } else { s with model := l }) oc hd') ∧ Ext (fun g => v.ownBlock = some g) w o (w.setCell ⟨b, if r = .core then 14 else 13, none⟩ v) (tagNew o v r) := by
  rcases hr with rfl | rfl
  · obtain ⟨h1, hx1⟩ := h.mm.new .core (by intro q; cases q) (v := v) (n := n) hv ho
    obtain ⟨h2, hx2⟩ := h1.setc (q := .self) (by rw [upd_ne _ _ (by intro q; cases q)]; exact h.hb) 14 v
    rw [if_pos rfl, if_pos rfl]
    exact ⟨⟨_, h2.sl (E_core s oc hd l v)⟩, hx1.trans hx2 fun _ _ q => q.elim⟩
  · obtain ⟨h1, hx1⟩ := h.mm.new .model (by intro q; cases q) (v := v) (n := n) hv ho
    obtain ⟨h2, hx2⟩ := h1.setc (q := .self) (by rw [upd_ne _ _ (by intro q; cases q)]; exact h.hb) 13 v
    rw [if_neg (by decide), if_neg (by decide)]
    exact ⟨⟨_, h2.sl (E_model s oc hd l v)⟩, hx1.trans hx2 fun _ _ q => q.elim⟩
/-- core and model are forgotten -/
theorem Sl.fresh (h : Sl w o b s oc hd) : ∃ hd', Sl ((w.setCell ⟨b, 14, none⟩ (.slice none 0 0)).setCell ⟨b, 13, none⟩ (.slice none 0 0)) o b { s with core := [], model := [] } oc hd' ∧ Ext NoX w o ((w.setCell ⟨b, 14, none⟩ (.slice none 0 0)).setCell ⟨b, 13, none⟩ (.slice none 0 0)) o := by
  obtain ⟨⟨hd1, h1⟩, hx1⟩ := h.renew (r := .core) (.inl rfl) (v := .slice none 0 0) (n := 0) (l := []) (World.ownsRow_nil _ _ _ _) (fun g q => by cases q)
  rw [tag_nil, if_pos rfl] at hx1
  rw [tag_nil, if_pos rfl, if_pos rfl] at h1
  obtain ⟨⟨hd2, h2⟩, hx2⟩ := h1.renew (r := .model) (.inr rfl) (v := .slice none 0 0) (n := 0) (l := []) (World.ownsRow_nil _ _ _ _) (fun g q => by cases q)
  rw [tag_nil, if_neg (by decide)] at hx2
  rw [tag_nil, if_neg (by decide), if_neg (by decide)] at h2
  exact ⟨hd2, h2, (hx1.wide (Y := NoX) fun g q => by cases q).trans hx2 fun _ _ q => by cases q⟩
end
end Go.Proofs.Ytdibfjcmgbpnpaa
