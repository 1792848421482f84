/- The solver, plainly: a search ends, and what it tells is right. -/
import Derived.Test.YtdibfjcmgbpnpaaS7
namespace Go.Proofs.Ytdibfjcmgbpnpaa
set_option linter.unusedSimpArgs false
set_option linter.unusedVariables false

theorem Se.advanced {n : Nat} {A : List (List Int)} {assume : List Int} {s : SS} (h : Se n A assume s) : Se n A assume s.advance := by
  have ha := h.sv.inv.tr.advanced
  have hi := h.sv.inv
  exact ⟨⟨⟨ha, hi.rs, ⟨hi.wa.wl, hi.wa.cl, hi.wa.wn, hi.wa.wm⟩, hi.wi, hi.hd, hi.hm⟩, h.sv.cg, h.sv.cov, h.sv.pf, h.sv.bk, h.sv.ok⟩, h.core, h.model, h.nb, h.asm, h.dec⟩

theorem Sv.done0 {n : Nat} {A : List (List Int)} {assume : List Int} {s : SS} {p : List (List Int)} (h : Sv n A s) (hc : s.core = []) (hm : s.model = []) (hp : ∃ more, s.proof = p ++ more) : Done n A assume p (s.undo 0, 0) := by
  obtain ⟨f1, f2, f3, f4, f5, f6, f7, f8, f9⟩ := undo_frame s 0
  obtain ⟨more, e⟩ := hp
  refine ⟨h.undone 0, ?_, ⟨more, by show (s.undo 0).proof = _; rw [f7, e], fun q => by cases q⟩, .inl rfl, fun _ => ⟨by show (s.undo 0).core = []; rw [f9, hc], by show (s.undo 0).model = []; rw [f8, hm]⟩, (fun q => by cases q), (fun q => by cases q)⟩
  show (s.undo 0).marks = []; rw [undo_marks]; rfl
/-- the end of a search without a model -/
theorem Sv.done2 {n : Nat} {A : List (List Int)} {assume core : List Int} {s : SS} {p : List (List Int)} (h : Sv n A s) (hk : s.marks = []) (hm : s.model = []) (hp : ∃ more, s.proof = p ++ more) (hr : Rup (A ++ s.proof) (core.map fun y => -y)) (hn : core.Nodup) (ha : ∀ x ∈ core, x ∈ assume) (hv : ∀ x ∈ assume, LOk n x) : Done n A assume p (s.fin core, 2) := by
  have h1 : Sv n A { s with core := core } := h.same rfl rfl rfl rfl rfl rfl rfl rfl rfl rfl rfl
  have h2 := h1.learned (l := core.map fun y => -y) hr (fun x hx => by obtain ⟨y, hy, rfl⟩ := List.mem_map.1 hx; exact (hv y (ha y hy)).neg)
  obtain ⟨more, e⟩ := hp
  refine ⟨h2, hk, ⟨more ++ [core.map fun y => -y], ?_, fun _ => ?_⟩, .inr (.inr rfl), (fun q => by cases q), (fun q => by cases q), fun _ => ⟨hm, hn, ha⟩⟩
  · show s.proof ++ [core.map fun y => -y] = _; rw [e, List.append_assoc]
  · rw [List.getLast?_append]; rfl

theorem val_of {n : Nat} {s : SS} (ht : Tr n s) (hall : ∀ v : Nat, 1 ≤ v → v ≤ n → (v : Int) ∈ s.lits ∨ -(v : Int) ∈ s.lits) : (∀ v : Nat, 1 ≤ v → v ≤ n → (0 < s.value.getD v 0 ↔ (v : Int) ∈ s.lits)) ∧ ∀ x, LOk n x → (tru (fun v => Decidable.decide (0 < s.value.getD v 0)) x ↔ x ∈ s.lits) := by
  have h1 : ∀ v : Nat, 1 ≤ v → v ≤ n → (0 < s.value.getD v 0 ↔ (v : Int) ∈ s.lits) := by
    intro v a b
    have := ht.pos (x := (v : Int)) ⟨by omega, by omega⟩
    have e : s.of (v : Int) = s.value.getD v 0 := by unfold SS.of; rw [if_neg (by omega)]; rfl
    rw [e] at this; exact this
  refine ⟨h1, fun x hx => ?_⟩
  have hx0 := hx.1; have hx1 := hx.2
  have h2 := h1 x.natAbs (by omega) hx1
  unfold tru
  by_cases hs : x < 0
  · rw [if_pos hs, decide_eq_false_iff_not, h2]
    have e : ((x.natAbs : Nat) : Int) = -x := by omega
    rw [e]
    constructor
    · intro q
      rcases hall x.natAbs (by omega) hx1 with w | w
      · rw [e] at w; exact absurd w q
      · rw [e, Int.neg_neg] at w; exact w
    · intro q w; exact ht.anti q w
  · rw [if_neg hs, decide_eq_true_iff, h2]
    have e : ((x.natAbs : Nat) : Int) = x := by omega
    rw [e]
/-- all variables assigned, all propagated: the values are the best -/
theorem Se.best {n : Nat} {A : List (List Int)} {assume : List Int} {s : SS} (h : Se n A assume s) (hb : s.broken ≠ true) (hh : s.head = s.lits.length) (hv : ∀ x ∈ assume, LOk n x) (hal : assume.length ≤ s.marks.length) (hall : ∀ v : Nat, 1 ≤ v → v ≤ n → (v : Int) ∈ s.lits ∨ -(v : Int) ∈ s.lits) : Best n A assume s.value := by
  have ht := h.sv.inv.tr
  obtain ⟨v1, v2⟩ := val_of ht hall
  refine ⟨ht.vl, ?_, ?_, ?_⟩
  · intro d hd
    rcases (h.sv.cov d hd).resolve_left hb with ⟨x, a1, a2⟩ | ⟨y, a1, a2, -⟩ | ⟨c, a1, a2⟩
    · have hx := h.sv.ok d hd x a1
      by_cases hs : tru (fun v => Decidable.decide (0 < s.value.getD v 0)) x
      · exact ⟨x, a1, hs⟩
      · exact ⟨-x, a2, (tru_neg hx.1).2 hs⟩
    · exact ⟨y, a1, (v2 y (h.sv.ok d hd y a1)).2 a2⟩
    · obtain ⟨k, hk⟩ := List.mem_iff_getElem?.1 a1
      obtain ⟨b1, -, b3⟩ := h.sv.inv.wa.cl k c hk
      obtain ⟨a, b, t, rfl⟩ : ∃ a b t, c = a :: b :: t := by
        match c, b1 with
        | a :: b :: t, _ => exact ⟨a, b, t, rfl⟩
      by_cases ha : a ∈ s.lits
      · exact ⟨a, a2 a (by simp), (v2 a (b3 a (by simp))).2 ha⟩
      · have hna : -a ∈ s.lits := by
          have hao := b3 a (by simp)
          have h0 := hao.1; have h1 := hao.2
          rcases hall a.natAbs (by omega) h1 with w | w
          · rcases Int.natAbs_eq a with e | e
            · rw [← e] at w; exact absurd w ha
            · rw [show ((a.natAbs : Nat) : Int) = -a by omega] at w; exact w
          · rcases Int.natAbs_eq a with e | e
            · rw [← e] at w; exact w
            · rw [← e] at w; exact absurd w ha
        obtain ⟨i, hi⟩ := List.mem_iff_getElem?.1 hna
        obtain ⟨j, hj, -⟩ := h.sv.inv.wi k _ a b i hk (wp_cons.2 (.inl ⟨rfl, rfl⟩)) (by show i < s.head; rw [hh]; exact (List.getElem?_eq_some_iff.1 hi).1) hi
        exact ⟨b, a2 b (by simp), (v2 b (b3 b (by simp))).2 (List.mem_of_getElem? hj)⟩
  · intro x hx
    obtain ⟨d, hd⟩ := List.mem_iff_getElem?.1 hx
    obtain ⟨i, hi, -⟩ := h.asm d x hd (by have := (List.getElem?_eq_some_iff.1 hd).1; omega)
    exact (v2 x (hv x hx)).2 (List.mem_of_getElem? hi)
  · intro W hA ha v w1 w2 w3 w4
    have hD := h.sv.all hA
    have hnz : ∀ c ∈ A ++ s.proof, ∀ x ∈ c, x ≠ 0 := fun c hc x hx => (h.sv.nz c hc x hx).1
    have hvl := (v1 v w1 w2).1 w3
    obtain ⟨iv, hiv⟩ := List.mem_iff_getElem?.1 hvl
    have key : ∀ i z, s.lits[i]? = some z → cnt s.marks i ≤ cnt s.marks iv → tru W z := by
      intro i
      induction i using Nat.strongRecOn with
      | _ i ih =>
        intro z hz hc
        have hzo := ht.ok z (List.mem_of_getElem? hz)
        rcases h.sv.inv.rs i z hz with ⟨-, ⟨-, q⟩ | q⟩ | ⟨k, c, c1, c2, c3, c4, c5⟩
        · exact UP.sound hD hnz (fun x => False.elim) q
        · rcases h.dec i z hz q with ⟨d, -, d2⟩ | ⟨d1, d2, d3⟩
          · exact ha z (List.mem_of_getElem? d2)
          · -- a negative decision
            have hlt : z.natAbs < v := by
              rcases Nat.lt_trichotomy z.natAbs v with w | w | w
              · exact w
              · exfalso
                have e : z = -(v : Int) := by omega
                exact ht.anti hvl (by rw [← e]; exact List.mem_of_getElem? hz)
              · exfalso
                obtain ⟨j, e1, e2⟩ := d3 v w1 w
                have hj : j = iv := by
                  rcases e2 with e2 | e2
                  · exact ht.pos_uniq e2 hiv
                  · exact absurd (List.mem_of_getElem? e2) (ht.anti hvl)
                subst hj
                -- i is a mark behind iv
                have hm1 : cnt s.marks j < cnt s.marks i := by
                  obtain ⟨pp, hpp⟩ := List.mem_iff_getElem?.1 q
                  have a1 := (cnt_lt (i := i) ht.srt hpp).2 (Nat.le_refl _)
                  have a2 : ¬ pp < cnt s.marks j := fun w => by have := (cnt_lt (i := j) ht.srt hpp).1 w; omega
                  omega
                omega
            have h0 := hzo.1
            have hWz := w4 z.natAbs (by omega) hlt
            have hnl : ¬ 0 < s.value.getD z.natAbs 0 := by
              intro w
              have := (v1 z.natAbs (by omega) hzo.2).1 w
              rw [show ((z.natAbs : Nat) : Int) = -z by omega] at this
              exact ht.anti (List.mem_of_getElem? hz) this
            unfold tru
            rw [if_pos d2, hWz, decide_eq_false hnl]
        · obtain ⟨d, e1, e2, e3⟩ := h.sv.cg c (List.mem_of_getElem? c2)
          obtain ⟨y, hy, hty⟩ := hD d e1
          rcases e2 y hy with w | w
          · by_cases e : y = z
            · rw [← e]; exact hty
            · obtain ⟨j, hj, hjy⟩ := c4 y w e
              have hj2 := ih j hj (-y) hjy (Nat.le_trans (cnt_mono _ (Nat.le_of_lt hj)) hc)
              exact absurd hty ((tru_neg (hnz d e1 y hy)).1 hj2)
          · have hj2 : tru W (-y) := UP.sound hD hnz (fun x => False.elim) w
            exact absurd hty ((tru_neg (hnz d e1 y hy)).1 hj2)
    have := key iv _ hiv (Nat.le_refl _)
    unfold tru at this
    rw [if_neg (by omega)] at this
    exact this

/-- the round's outcome -/
def Rnd (n : Nat) (A : List (List Int)) (assume : List Int) (fuel : Int) (p : List (List Int)) (s : SS) : (SS × Nat) ⊕ (SS × Int) → Prop
  | .inl (s', met') => Se n A assume s' ∧ met' ≤ s'.cod n ∧ (∃ more, s'.proof = p ++ more ∧ more.length = met') ∧ smeas n assume s' < smeas n assume s
  | .inr r => Done n A assume p r ∧ (r.2 = 0 → 20000 < p.length + 3 ^ n ∨ fuel < ((3 ^ n : Nat) : Int))

theorem smeas_lt {n : Nat} {assume : List Int} {s s' : SS} (h : s.cod n < s'.cod n) : smeas n assume s' < smeas n assume s := by
  have h1 := cod_top n s'
  unfold smeas
  have e : 3 ^ n - s.cod n = (3 ^ n - s'.cod n) + (s'.cod n - s.cod n - 1) + 1 := by omega
  rw [e, Nat.succ_mul, Nat.add_mul]
  have := Nat.zero_le ((s'.cod n - s.cod n - 1) * (assume.length + n + 1))
  omega
theorem smeas_le {n : Nat} {assume : List Int} {s s' : SS} (h : s.cod n ≤ s'.cod n) (h2 : (assume.length - s'.marks.length) + (n - s'.lits.length) < (assume.length - s.marks.length) + (n - s.lits.length)) : smeas n assume s' < smeas n assume s := by
  unfold smeas
  have := Nat.mul_le_mul_right (assume.length + n + 1) (Nat.sub_le_sub_left h (3 ^ n))
  omega

theorem sround_ok {n : Nat} {A : List (List Int)} {assume : List Int} {fuel : Int} {p : List (List Int)} {s : SS} {met : Nat} (h : Se n A assume s) (hv : ∀ x ∈ assume, LOk n x) (hm : met ≤ s.cod n) (hp : ∃ more, s.proof = p ++ more ∧ more.length = met) : Rnd n A assume fuel p s (sround assume fuel s met) := by
  have hvl := h.sv.inv.tr.vl
  have hct := cod_top n s
  obtain ⟨more, hpe, hpl⟩ := hp
  unfold sround
  by_cases c1 : 20000 ≤ s.proof.length
  · rw [if_pos c1]
    refine ⟨h.sv.done0 h.core h.model ⟨more, hpe⟩, fun _ => .inl ?_⟩
    rw [hpe, List.length_append] at c1; omega
  rw [if_neg c1]
  obtain ⟨h1, hfr, hcd⟩ := h.prop (f := s.value.length) (by omega)
  obtain ⟨-, -, hnone, hsome⟩ := prop_ok (f := s.value.length) h.sv.inv (by omega)
  generalize prop s.value.length s = r at *
  obtain ⟨s1, conf⟩ := r
  dsimp only at h1 hfr hcd hnone hsome ⊢
  have hpe1 : s1.proof = p ++ more := by rw [hfr.proof]; exact hpe
  have ht1 := h1.sv.inv.tr
  by_cases c2 : s1.broken = true ∨ (conf ≠ none ∧ s1.marks.length = 0)
  · rw [if_pos c2]
    have hmk : s1.marks = [] := by
      rcases c2 with q | ⟨-, q⟩
      · exact h1.nb q
      · exact List.eq_nil_of_length_eq_zero q
    have hcf : Cf (A ++ s1.proof) fun _ => False := by
      rcases c2 with q | ⟨q, -⟩
      · exact h1.sv.bk q
      · cases conf with
        | none => exact absurd rfl q
        | some k =>
          obtain ⟨cl, g, i, a1, a2, -, -, -⟩ := hsome k rfl
          refine (h1.sv.cg cl (List.mem_of_getElem? a1)).cf fun y hy => ?_
          obtain ⟨j, hj⟩ := List.mem_iff_getElem?.1 (a2 y hy)
          exact h1.sv.up0 hj (by rw [hmk]; rfl)
    have hs : Sv n A { s1 with broken := true } := by
      have hi := h1.sv.inv
      exact ⟨⟨⟨ht1.1, ht1.2, ht1.3, ht1.4, ht1.5, ht1.6, ht1.7, ht1.8, ht1.9, ht1.10, ht1.11, ht1.12⟩, hi.rs, ⟨hi.wa.wl, hi.wa.cl, hi.wa.wn, hi.wa.wm⟩, hi.wi, hi.hd, hi.hm⟩, h1.sv.cg, fun d hd => .inl rfl, h1.sv.pf, fun _ => hcf, h1.sv.ok⟩
    exact ⟨hs.done2 (assume := assume) (core := []) hmk h1.model ⟨more, hpe1⟩ (.inr (hcf.mono (fun _ => id) fun x => False.elim)) (by simp) (fun x hx => by simp at hx) hv, fun q => by cases q⟩
  rw [if_neg c2]
  have hb : s1.broken ≠ true := fun q => c2 (.inl q)
  cases conf with
  | some k =>
    dsimp only
    have hL : 0 < s1.marks.length := by
      rcases Nat.eq_zero_or_pos s1.marks.length with q | q
      · exact absurd (.inr ⟨by simp, q⟩) c2
      · exact q
    obtain ⟨cl, g, i, a1, a2, a3, a4, a5⟩ := hsome k rfl
    have hln := analyze_ok h1.sv.inv h1.sv.cg hL a1 a2 a3 a4 (by rw [hfr.marks]; exact a5)
    obtain ⟨e1, e2, e3⟩ := h1.conflict hb hln
    generalize (s1.undo (analyze s1 k).2).assert (analyze s1 k).1 = s2 at *
    have hpe2 : s2.proof = p ++ (more ++ [(analyze s1 k).1]) := by rw [e2, hpe1, List.append_assoc]
    have hc2 := cod_top n s2
    by_cases c3 : fuel ≤ ((met + 1 : Nat) : Int)
    · rw [if_pos c3]
      refine ⟨e1.sv.done0 e1.core e1.model ⟨_, hpe2⟩, fun _ => .inr ?_⟩
      have : met + 1 < 3 ^ n := by omega
      have := Int.ofNat_lt.2 this
      omega
    · rw [if_neg c3]
      exact ⟨e1, by omega, ⟨_, hpe2, by simp [hpl]⟩, smeas_lt (by omega)⟩
  | none =>
    dsimp only
    have hh := hnone rfl
    have hl1 : s.lits.length ≤ s1.lits.length := by obtain ⟨e, he⟩ := hfr.ext; rw [he, List.length_append]; omega
    have hm1 : s1.marks.length = s.marks.length := by rw [hfr.marks]
    by_cases c3 : s1.marks.length < assume.length
    · rw [if_pos c3]
      have hx : assume[s1.marks.length]? = some (assume.getD s1.marks.length 0) := by rw [List.getD_eq_getElem?_getD, List.getElem?_eq_getElem c3]; rfl
      generalize assume.getD s1.marks.length 0 = x at *
      have hxm := List.mem_of_getElem? hx
      have hxo := hv x hxm
      have hal : ∀ y ∈ assume, y ≠ 0 := fun y hy => (hv y hy).1
      by_cases c4 : s1.of x = -1
      · rw [if_pos c4]
        have hxn : -x ∈ s1.lits := (ht1.neg hxo).1 (by omega)
        obtain ⟨O, b1, b2, b3, b4⟩ := blame_ok ht1 h1.sv.inv.rs h1.sv.cg hxn
        obtain ⟨f1, f2, f3, f4, f5, f6, f7, f8, f9⟩ := undo_frame s1 0
        rw [b1]
        refine ⟨(h1.sv.undone 0).done2 (by rw [undo_marks]; rfl) (by rw [f8]; exact h1.model) ⟨more, by rw [f7]; exact hpe1⟩ (by rw [f7]; exact b4) b3 ?_ hv, fun q => by cases q⟩
        intro y hy
        rcases List.mem_cons.1 hy with q | q
        · rw [q]; exact hxm
        · obtain ⟨j, d1, d2, d3⟩ := b2 y q
          have hjm : j ∈ s1.marks := by
            rcases h1.sv.inv.rs j y d1 with ⟨-, ⟨w, -⟩ | w⟩ | ⟨k, c, w, -⟩
            · rw [ht1.lev j y d1] at w; omega
            · exact w
            · rw [d2] at w; omega
          rcases h1.dec j y d1 hjm with ⟨d, -, w⟩ | ⟨w, -, -⟩
          · exact List.mem_of_getElem? w
          · rw [ht1.lev j y d1] at w
            have := cnt_le s1.marks j
            omega
      rw [if_neg c4]
      by_cases c5 : s1.of x = 1
      · rw [if_pos c5]
        obtain ⟨g1, g2, g3, g4, g5⟩ := h1.decided hb hh (x := 0) (.inl rfl) (fun y hy => .inr (by rw [hx] at hy; rw [← Option.some.inj hy]; exact (ht1.pos hxo).1 (by omega))) (fun q => absurd rfl q) hal
        exact ⟨g1, by omega, ⟨more, by rw [g2]; exact hpe1, hpl⟩, smeas_le (by omega) (by rw [g4]; omega)⟩
      · rw [if_neg c5]
        have hz : s1.of x = 0 := by
          rcases ht1.tri hxo with q | q | q
          · exact absurd q c5
          · exact q
          · exact absurd q c4
        obtain ⟨z1, z2⟩ := (ht1.zero hxo).1 hz
        obtain ⟨g1, g2, g3, g4, g5⟩ := h1.decided hb hh (x := x) (.inr ⟨hxo, z1, z2⟩) (fun y hy => .inl (by rw [hx] at hy; exact (Option.some.inj hy).symm)) (fun _ => .inl hx) hal
        exact ⟨g1, by omega, ⟨more, by rw [g2]; exact hpe1, hpl⟩, smeas_le (by omega) (by rw [g4]; omega)⟩
    · rw [if_neg c3]
      rcases ht1.free_spec with ⟨hf, hall⟩ | ⟨v, hf, w1, w2, w3, w4, w5⟩
      · rw [if_pos hf]
        have hbest := h1.best hb hh hv (by omega) hall
        have hadv := h1.advanced
        have hsv : Sv n A { s1.advance with model := s1.value } := hadv.sv.same rfl rfl rfl rfl rfl rfl rfl rfl rfl rfl rfl
        obtain ⟨f1, f2, f3, f4, f5, f6, f7, f8, f9⟩ := undo_frame { s1.advance with model := s1.value } 0
        refine ⟨⟨hsv.undone 0, by rw [undo_marks]; rfl, ⟨more, by rw [f7]; exact hpe1, fun q => by cases q⟩, .inr (.inl rfl), (fun q => by cases q), fun _ => ⟨by rw [f9]; exact h1.core, ?_⟩, (fun q => by cases q)⟩, fun q => by cases q⟩
        rw [f8]; exact hbest
      · have hf0 : s1.free ≠ 0 := by rw [hf]; omega
        rw [if_neg hf0, hf]
        have hadv := h1.advanced
        obtain ⟨g1, g2, g3, g4, g5⟩ := hadv.decided hb hh (x := -(v : Int)) (.inr ⟨⟨by omega, by omega⟩, w4, by rw [Int.neg_neg]; exact w3⟩) (fun y hy => by have := (List.getElem?_eq_some_iff.1 hy).1; exact absurd this c3)
          (fun _ => .inr ⟨by show assume.length ≤ s1.marks.length; omega, by omega, fun u u1 u2 => w5 u u1 (by omega)⟩) (fun y hy => (hv y hy).1)
        have hlen := g1.sv.inv.tr.len
        rw [if_pos (by omega)] at g5
        have e1 : s1.advance.lits = s1.lits := rfl
        have e2 : s1.advance.marks = s1.marks := rfl
        have e3 : s1.advance.cod n = s1.cod n := rfl
        rw [e1] at g5; rw [e2] at g4; rw [e3] at g3
        exact ⟨g1, by omega, ⟨more, by rw [g2]; exact hpe1, hpl⟩, smeas_le (by omega) (by rw [g4, g5]; rw [g5] at hlen; omega)⟩

theorem srun_ok {n : Nat} {A : List (List Int)} {assume : List Int} {fuel : Int} {p : List (List Int)} (hv : ∀ x ∈ assume, LOk n x) : ∀ (f : Nat) {s : SS} {met : Nat}, smeas n assume s < f → Se n A assume s → met ≤ s.cod n → (∃ more, s.proof = p ++ more ∧ more.length = met) →
    Done n A assume p (srun assume fuel f s met) ∧ ((srun assume fuel f s met).2 = 0 → 20000 < p.length + 3 ^ n ∨ fuel < ((3 ^ n : Nat) : Int))
  | 0, s, met, h, _, _, _ => by omega
  | f + 1, s, met, h, hs, hm, hp => by
    have hr := sround_ok (fuel := fuel) hs hv hm hp
    unfold srun
    match he : sround assume fuel s met with
    | .inl (s', met') =>
      rw [he] at hr
      obtain ⟨h1, h2, h3, h4⟩ := hr
      exact srun_ok hv f (by omega) h1 h2 h3
    | .inr r =>
      rw [he] at hr
      exact hr
/-- more fuel changes nothing -/
theorem srun_more {n : Nat} {A : List (List Int)} {assume : List Int} {fuel : Int} {p : List (List Int)} (hv : ∀ x ∈ assume, LOk n x) : ∀ (f g : Nat) {s : SS} {met : Nat}, smeas n assume s < f → smeas n assume s < g → Se n A assume s → met ≤ s.cod n → (∃ more, s.proof = p ++ more ∧ more.length = met) →
    srun assume fuel f s met = srun assume fuel g s met
  | 0, _, s, met, h, _, _, _, _ => by omega
  | _ + 1, 0, s, met, _, h, _, _, _ => by omega
  | f + 1, g + 1, s, met, h, h', hs, hm, hp => by
    have hr := sround_ok (fuel := fuel) hs hv hm hp
    unfold srun
    match he : sround assume fuel s met with
    | .inl (s', met') =>
      rw [he] at hr
      obtain ⟨h1, h2, h3, h4⟩ := hr
      exact srun_more hv f g (by omega) (by omega) h1 h2 h3
    | .inr r => rfl
theorem validl_iff {s : SS} {l : List Int} {n : Nat} (hl : s.value.length = n + 1) : s.validl l = true ↔ ∀ x ∈ l, LOk n x := by
  unfold SS.validl LOk
  rw [List.all_eq_true, hl]
  constructor
  · intro h x hx
    have := h x hx
    simp at this
    obtain ⟨⟨a, b⟩, c⟩ := this
    exact ⟨a, by omega⟩
  · intro h x hx
    obtain ⟨a, b⟩ := h x hx
    simp
    exact ⟨⟨a, by omega⟩, by omega⟩
/-- WHAT A SEARCH TELLS -/
theorem solve_ok {n : Nat} {A : List (List Int)} {assume : List Int} {fuel : Int} {s : SS} (h : Sv n A s) (hk : s.marks = []) (hv : ∀ x ∈ assume, LOk n x) (hf : 0 < fuel) :
    Done n A assume s.proof (solve s assume fuel) ∧ ((solve s assume fuel).2 = 0 → 20000 < s.proof.length + 3 ^ n ∨ fuel < ((3 ^ n : Nat) : Int)) := by
  have hvl := h.inv.tr.vl
  unfold solve
  rw [if_pos ⟨(validl_iff hvl).2 hv, hf⟩, hvl, Nat.add_sub_cancel]
  have h0 : Sv n A { s with core := [], model := [] } := h.same rfl rfl rfl rfl rfl rfl rfl rfl rfl rfl rfl
  obtain ⟨f1, f2, f3, f4, f5, f6, f7, f8, f9⟩ := undo_frame { s with core := [], model := [] } 0
  have hm : (SS.undo { s with core := [], model := [] } 0).marks = [] := by rw [undo_marks]; rfl
  refine srun_ok hv _ (Nat.lt_succ_self _) ⟨h0.undone 0, by rw [f9], by rw [f8], fun _ => hm, ?_, ?_⟩ (Nat.zero_le _) ⟨[], by rw [f7]; simp, rfl⟩
  · intro d x _ hl; rw [hm] at hl; simp at hl
  · intro i z _ hi; rw [hm] at hi; simp at hi
theorem solve_bad {n : Nat} {A : List (List Int)} {assume : List Int} {fuel : Int} {s : SS} (h : Sv n A s) (hk : s.marks = []) (hn : ¬ ((∀ x ∈ assume, LOk n x) ∧ 0 < fuel)) : Done n A assume s.proof (solve s assume fuel) ∧ (solve s assume fuel).2 = 0 ∧ (solve s assume fuel).1.proof = s.proof := by
  have hvl := h.inv.tr.vl
  unfold solve
  rw [if_neg (fun q => hn ⟨(validl_iff hvl).1 q.1, q.2⟩)]
  exact ⟨⟨h.same rfl rfl rfl rfl rfl rfl rfl rfl rfl rfl rfl, hk, ⟨[], by simp, fun q => by cases q⟩, .inl rfl, fun _ => ⟨rfl, rfl⟩, (fun q => by cases q), (fun q => by cases q)⟩, rfl, rfl⟩
end Go.Proofs.Ytdibfjcmgbpnpaa
