/- A solver's sizes behind operations; two solvers in one memory. -/
import Derived.Test.YtdibfjcmgbpnpaaKQ
namespace Go.Proofs.Ytdibfjcmgbpnpaa
set_option linter.unusedSimpArgs false
set_option linter.unusedVariables false
open Go.RowKit

structure Sb (n K : Nat) (s : SS) : Prop where
  pl : ∀ l ∈ s.proof, l.length ≤ 2 * n + 2
  pn : s.proof.length ≤ 20000
  cl : s.clauses.length ≤ s.proof.length + K
theorem Sb.same {n K : Nat} {s s' : SS} (h : Sb n K s) (e1 : s'.proof = s.proof) (e2 : s'.clauses.length = s.clauses.length) : Sb n K s' := ⟨by rw [e1]; exact h.pl, by rw [e1]; exact h.pn, by rw [e1, e2]; exact h.cl⟩
theorem Sb.undone {n K : Nat} {s : SS} (h : Sb n K s) (k : Nat) : Sb n K (s.undo k) := by
  obtain ⟨f1, f2, f3, f4, f5, f6, f7, f8, f9⟩ := undo_frame s k
  exact h.same f7 (by rw [f3])
theorem Sb.decided {n K : Nat} {s : SS} (h : Sb n K s) (x : Int) : Sb n K (s.decide x) := h.same (decide_frame s x).2 (by rw [(decide_frame s x).1])
theorem assert_proof (s : SS) (l : List Int) : (s.assert l).proof = s.proof ++ [l] := by unfold SS.assert; split <;> rfl
theorem Sb.asserted {n K : Nat} {s : SS} (h : Sb n K s) (hp : s.proof.length < 20000) {l : List Int} (hl : l.length ≤ 2 * n + 2) : Sb n K (s.assert l) := by
  obtain ⟨a1, a2, a3, a4⟩ := assert_frame s l
  refine ⟨fun c hc => ?_, by omega, by have := h.cl; omega⟩
  rw [assert_proof] at hc
  rcases List.mem_append.1 hc with q | q
  · exact h.pl c q
  · rw [List.mem_singleton.1 q]; exact hl
theorem Sb.fin {n K : Nat} {s : SS} (h : Sb n K s) (hp : s.proof.length < 20000) {l : List Int} (hl : l.length ≤ 2 * n + 2) : Sb n K (s.fin l) := by
  have e : (s.fin l).proof = s.proof ++ [l.map fun y => -y] := rfl
  refine ⟨fun c hc => ?_, by rw [e, List.length_append]; simp; omega, ?_⟩
  · rw [e] at hc
    rcases List.mem_append.1 hc with q | q
    · exact h.pl c q
    · rw [List.mem_singleton.1 q, List.length_map]; exact hl
  · rw [e, List.length_append]
    show s.clauses.length ≤ _
    have := h.cl; simp; omega
theorem sround_sb {n K : Nat} {A : List (List Int)} {assume : List Int} {fuel : Int} {s : SS} {met : Nat} (h : Se n A assume s) (hv : ∀ x ∈ assume, LOk n x) (hb : Sb n K s) : match sround assume fuel s met with | .inl (s', _) => Sb n K s' | .inr r => Sb n K r.1 := by
  have hvl := h.sv.inv.tr.vl
  unfold sround
  by_cases c1 : 20000 ≤ s.proof.length
  · rw [if_pos c1]; exact hb.undone 0
  rw [if_neg c1]
  obtain ⟨h1, hfr, hcd⟩ := h.prop (f := s.value.length) (by omega)
  obtain ⟨-, -, hnone, hsome⟩ := prop_ok (f := s.value.length) h.sv.inv (by omega)
  generalize prop s.value.length s = r at *
  obtain ⟨s1, conf⟩ := r
  dsimp only at h1 hfr hnone hsome ⊢
  have hb1 : Sb n K s1 := hb.same hfr.proof hfr.cp.1
  have hp1 : s1.proof.length < 20000 := by rw [hfr.proof]; omega
  by_cases c2 : s1.broken = true ∨ (conf ≠ none ∧ s1.marks.length = 0)
  · rw [if_pos c2]
    exact Sb.fin (s := { s1 with broken := true }) (hb1.same rfl rfl) hp1 (by simp)
  rw [if_neg c2]
  cases conf with
  | some k =>
    dsimp only
    have hL : 0 < s1.marks.length := by
      rcases Nat.eq_zero_or_pos s1.marks.length with q | q
      · exact absurd (.inr ⟨by simp, q⟩) c2
      · exact q
    obtain ⟨cl, g, i, a1, a2, a3, a4, a5⟩ := hsome k rfl
    have hln := analyze_ok h1.sv.inv h1.sv.cg hL a1 a2 a3 a4 (by rw [hfr.marks]; exact a5)
    obtain ⟨-, -, hC⟩ := hln.lok h1.sv.inv.tr
    have hpu : (s1.undo (analyze s1 k).2).proof.length < 20000 := by
      obtain ⟨f1, f2, f3, f4, f5, f6, f7, f8, f9⟩ := undo_frame s1 (analyze s1 k).2
      rw [f7]; exact hp1
    have hba := (hb1.undone (analyze s1 k).2).asserted hpu hC
    split
    · rename_i heq
      split at heq
      · cases heq
      · cases heq; exact hba
    · rename_i heq
      split at heq
      · cases heq; exact hba.undone 0
      · cases heq
  | none =>
    dsimp only
    split
    · rename_i heq
      split at heq
      · split at heq
        · cases heq
        · split at heq
          · cases heq; exact hb1.decided _
          · cases heq; exact hb1.decided _
      · split at heq
        · cases heq
        · cases heq; exact (hb1.same (s' := s1.advance) rfl rfl).decided _
    · rename_i heq
      split at heq
      · rename_i hma
        split at heq
        · rename_i hof
          cases heq
          have hxo : LOk n (assume.getD s1.marks.length 0) := hv _ (by rw [List.getD_eq_getElem?_getD, List.getElem?_eq_getElem hma]; exact List.getElem_mem _)
          have hneg := (h1.sv.inv.tr.neg hxo).1 (by omega)
          obtain ⟨O, hO1, hO2, hO3, -⟩ := blame_ok h1.sv.inv.tr h1.sv.inv.rs h1.sv.cg hneg
          have hKl : (blame s1 (assume.getD s1.marks.length 0)).length ≤ 2 * n + 2 := by
            rw [hO1]
            refine lits_len hO3 fun y hy => ?_
            rcases List.mem_cons.1 hy with e | hy
            · rw [e]; exact hxo
            · obtain ⟨j, hj, -⟩ := hO2 y hy
              exact h1.sv.inv.tr.ok y (List.mem_of_getElem? hj)
          have hpu : (s1.undo 0).proof.length < 20000 := by
            obtain ⟨f1, f2, f3, f4, f5, f6, f7, f8, f9⟩ := undo_frame s1 0
            rw [f7]; exact hp1
          exact (hb1.undone 0).fin hpu hKl
        · split at heq
          · cases heq
          · cases heq
      · split at heq
        · cases heq; exact (hb1.same (s' := { s1.advance with model := s1.value }) rfl rfl).undone 0
        · cases heq
theorem srun_sb {n K : Nat} {A : List (List Int)} {assume : List Int} {fuel : Int} {p : List (List Int)} (hv : ∀ x ∈ assume, LOk n x) : ∀ (f : Nat) {s : SS} {met : Nat}, smeas n assume s < f → Se n A assume s → met ≤ s.cod n → (∃ more, s.proof = p ++ more ∧ more.length = met) → Sb n K s → Sb n K (srun assume fuel f s met).1
  | 0, s, met, h, _, _, _, _ => by omega
  | f + 1, s, met, h, hs, hm, hp, hb => by
    have hr := sround_ok (fuel := fuel) hs hv hm hp
    have ha := sround_sb (fuel := fuel) (met := met) hs hv hb
    unfold srun
    match he : sround assume fuel s met with
    | .inl (s', met') =>
      rw [he] at hr ha
      obtain ⟨h1, h2, h3, h4⟩ := hr
      exact srun_sb hv f (by omega) h1 h2 h3 ha
    | .inr r => rw [he] at ha; exact ha
theorem solve_sb {n K : Nat} {A : List (List Int)} {assume : List Int} {fuel : Int} {s : SS} (h : Sv n A s) (hk : s.marks = []) (hb : Sb n K s) : Sb n K (solve s assume fuel).1 := by
  have hvl := h.inv.tr.vl
  by_cases hc : s.validl assume = true ∧ 0 < fuel
  · have hv := (validl_iff hvl).1 hc.1
    unfold solve
    rw [if_pos hc, hvl, Nat.add_sub_cancel]
    have h0 : Sv n A { s with core := [], model := [] } := h.same rfl rfl rfl rfl rfl rfl rfl rfl rfl rfl rfl
    obtain ⟨f1, f2, f3, f4, f5, f6, f7, f8, f9⟩ := undo_frame { s with core := [], model := [] } 0
    have hm : (SS.undo { s with core := [], model := [] } 0).marks = [] := by rw [undo_marks]; rfl
    refine srun_sb (p := s.proof) (fuel := fuel) hv _ (Nat.lt_succ_self _) ⟨h0.undone 0, by rw [f9], by rw [f8], fun _ => hm, ?_, ?_⟩ (Nat.zero_le _) ⟨[], by rw [f7]; simp, rfl⟩ ((hb.same (s' := { s with core := [], model := [] }) rfl rfl).undone 0)
    · intro d x _ hl; rw [hm] at hl; simp at hl
    · intro i z _ hi; rw [hm] at hi; simp at hi
  · unfold solve; rw [if_neg hc]; exact hb.same rfl rfl
theorem Sb.added {n K : Nat} {s : SS} (h : Sb n K s) (l : List Int) : Sb n (K + 1) (s.add l) := by
  have h0 : Sb n (K + 1) s := ⟨h.pl, h.pn, by have := h.cl; omega⟩
  unfold SS.add
  split
  · exact h0.same rfl rfl
  · exact h0.same rfl rfl
  · exact h0.same rfl rfl
  · refine ⟨h.pl, h.pn, ?_⟩
    show (s.clauses ++ [_]).length ≤ s.proof.length + (K + 1)
    have := h.cl; simp; omega
theorem Sb.new (n : Nat) : Sb n 0 (snew n) := ⟨(fun l hl => by cases hl), by simp [snew], by simp [snew]⟩
theorem Sb.more {n K K' : Nat} {s : SS} (h : Sb n K s) (hk : K ≤ K') : Sb n K' s := ⟨h.pl, h.pn, by have := h.cl; omega⟩

/-- a solver of the law's own: its blocks lie at or above B -/
structure So (B : Nat) (w : World) (o : Nat → Option Role) (b n : Nat) (A : List (List Int)) (s : SS) : Prop where
  sol : SolAt w o b s
  tag : ∀ g, o g ≠ none → B ≤ g
  gd : Gd n A s
  sb : Sb n A.length s
theorem SolAt.lt3 {w : World} {o : Nat → Option Role} {b : Nat} {s : SS} (h : SolAt w o b s) : ∀ g, o g ≠ none → g < w.heap.size := h.lt
theorem Ext.low {w w' : World} {o o' : Nat → Option Role} (h : Ext NoX w o w' o') {B : Nat} (ht : ∀ g, o g ≠ none → B ≤ g) (hB : B ≤ w.heap.size) : Below B w w' ∧ ∀ g, o' g ≠ none → B ≤ g := by
  refine ⟨⟨h.os, h.tape, h.output, h.size, fun g hg => h.block g (by omega) ?_ (fun q => q)⟩, fun g hg => ?_⟩
  · cases ho : o g with
    | none => rfl
    | some r => have := ht g (by rw [ho]; intro q; cases q); omega
  · rcases Nat.lt_or_ge g w.heap.size with q | q
    · rw [h.tag g q (fun q => q)] at hg; exact ht g hg
    · omega
/-- another solver, whose blocks are other ones, is left alone -/
theorem SolAt.other {w w' : World} {o o' o2 : Nat → Option Role} {b : Nat} {s : SS} (h : SolAt w o2 b s) (hx : Ext NoX w o w' o') (hd : ∀ g, o2 g ≠ none → o g = none) : SolAt w' o2 b s ∧ ∀ g, o2 g ≠ none → o' g = none := by
  obtain ⟨⟨oc, hd2, ct, hb, hm, he⟩, lt⟩ := h
  refine ⟨⟨⟨oc, hd2, ct, hb, fun r => (hm r).keep (fun g hg => ?_) (fun _ _ => rfl), he⟩, fun g hg => Nat.lt_of_lt_of_le (lt g hg) hx.size⟩, fun g hg => ?_⟩
  · have ht := (hm r).tag g hg
    have hne : o2 g ≠ none := by rw [ht]; intro q; cases q
    exact hx.block g (lt g hne) (hd g hne) (fun q => q)
  · rw [hx.tag g (lt g hg) (fun q => q)]; exact hd g hg
end Go.Proofs.Ytdibfjcmgbpnpaa
