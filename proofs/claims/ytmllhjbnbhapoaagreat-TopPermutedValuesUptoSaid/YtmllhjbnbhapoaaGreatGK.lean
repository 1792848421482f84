/- Texts WA5, WA6, WA7, WA8, WA9, WB1, PQ, W4, E7, PR, PS, PT, PU, PV, AbY. Conditions: none. -/
import Derived.Test.YtmllhjbnbhapoaaGreatGJ
import Derived.Test.YtmllhjbnbhapoaaGreatGG
import Derived.Test.YtmllhjbnbhapoaaGreatGF
import Derived.Test.YtmllhjbnbhapoaaGreatGI
import Derived.Test.YtmllhjbnbhapoaaGreatGE
set_option linter.unusedSimpArgs false
set_option linter.unusedVariables false
namespace Go.Ab
open Go Go.Proofs
set_option maxRecDepth 10000
abbrev Dgs := List (Int × Int)
def dg2 (x : Int × Int) : AV := Dg x.1 x.2
theorem dg_snoc (l : Dgs) (e p : Int) : (l ++ [(e, p)]).map dg2 = l.map dg2 ++ [Dg e p] := by simp [dg2]
theorem dg_len (l : Dgs) (e p : Int) : (l ++ [(e, p)]).length = (l.map dg2 ++ [Dg e p]).length := by simp
set_option maxHeartbeats 1000000 in
theorem declared04 (s : Spc) (hs : s.Fit) : ∃ es, (∃ l : Dgs, es = l.map dg2 ∧ l.length ≤ 20) ∧ AFunO Tryz.prog 102 [s.ex] 2 es := by
 refine AFunOE.intro hT Tryz.func102 rfl rfl (by simp) ⟨_, [], rfl, by simp⟩ (AD.run hT hmix ?_)
 have hl1 : (s.sorts.map Srt.av).length = s.sorts.length := List.length_map _
 have hl2 : (s.fields.map Fld.av).length = s.fields.length := List.length_map _
 have n1 := hs.n1
 have n2 := hs.n2
 refine AD.loopI (fun x : Nat × Dgs => x.1 ≤ s.sorts.length ∧ x.2.length ≤ x.1) (fun x => s.sorts.length - x.1) (fun x => [(1, .loc 1 0), (3, .own 2 (x.2.map dg2) 42), (4, eint .i64 x.1)]) (fun x => [(1, .box 27 (s.cx.map .p)), (42, .tail x.2.length)]) (0, []) ⟨Nat.zero_le _, Nat.le_refl _⟩ .of fun ⟨i, l⟩ ⟨hi, hll⟩ => AD.run hT hmix ?_
 dsimp only at hi hll ⊢
 have hlm : (l.map dg2).length = l.length := List.length_map _
 intro _
 refine bgo_split (fun hb => ?_) (fun hb => ?_)
 · replace hb := of_decide_eq_true hb
   have hlt : i < s.sorts.length := by omega
   refine AD.loopI (fun x : Nat × Bool => x.1 ≤ i) (fun x => i - x.1) (fun x => [(1, .loc 1 0), (3, .own 2 (l.map dg2) 42), (4, eint .i64 i), (5, .p (eB x.2)), (6, eint .i64 x.1)]) (fun x => [(1, .box 27 (s.cx.map .p)), (42, .tail l.length)]) (0, false) (Nat.zero_le _) .of fun ⟨k, b⟩ hk => AD.run hT hmix ?_
   dsimp only at hk ⊢
   refine bgo_split (fun hc => ?_) (fun hc => ?_)
   · replace hc := of_decide_eq_true hc
     have hkt : k < s.sorts.length := by omega
     refine bgo_split (fun hd => ?_) (fun hd => ?_)
     · exact ⟨by kernel_rfl, ngo_in (by omega) (by omega) ⟨(k + 1, true), by dsimp only; omega, by dsimp only; omega, .of⟩⟩
     · refine igo_map k rfl hkt (igo_map i rfl hlt ⟨by kernel_rfl, ngo_in (by omega) (by omega) ⟨(k + 1, _), by dsimp only; omega, by dsimp only; omega, .of⟩⟩)
   · refine bgo_split (fun hd => ?_) (fun hd => ?_)
     · refine ⟨hlm.symm, ⟨by simp; omega, by simp; omega⟩, ngo_in (by omega) (by omega) ⟨(i + 1, l ++ [(41, 0)]), ⟨by dsimp only; omega, by simp; omega⟩, by dsimp only; omega, ?_⟩⟩
       dsimp only
       rw [dg_snoc, dg_len]
       exact .of
     · exact ngo_in (by omega) (by omega) ⟨(i + 1, l), ⟨by dsimp only; omega, by dsimp only; omega⟩, by dsimp only; omega, .of⟩
 · clear hb
   refine AD.loopI (fun x : Nat × Dgs => x.1 ≤ s.fields.length ∧ x.2.length ≤ 4 + x.1) (fun x => s.fields.length - x.1) (fun x => [(1, .loc 1 0), (3, .own 2 (x.2.map dg2) 42), (7, eint .i64 x.1)]) (fun x => [(1, .box 27 (s.cx.map .p)), (42, .tail x.2.length)]) (0, l) ⟨Nat.zero_le _, by dsimp only; omega⟩ .of fun ⟨i, l⟩ ⟨hi, hll⟩ => AD.run hT hmix ?_
   dsimp only at hi hll ⊢
   have hlm : (l.map dg2).length = l.length := List.length_map _
   intro _
   refine bgo_split (fun hb => ?_) (fun hb => ?_)
   · replace hb := of_decide_eq_true hb
     have hlt : i < s.fields.length := by omega
     refine AD.loopI (fun x : Nat × Bool => x.1 ≤ i) (fun x => i - x.1) (fun x => [(1, .loc 1 0), (3, .own 2 (l.map dg2) 42), (7, eint .i64 i), (8, .p (eB x.2)), (9, eint .i64 x.1)]) (fun x => [(1, .box 27 (s.cx.map .p)), (42, .tail l.length)]) (0, false) (Nat.zero_le _) .of fun ⟨k, b⟩ hk => AD.run hT hmix ?_
     dsimp only at hk ⊢
     refine bgo_split (fun hc => ?_) (fun hc => ?_)
     · replace hc := of_decide_eq_true hc
       have hkt : k < s.fields.length := by omega
       refine bgo_split (fun hd => ?_) (fun hd => ?_)
       · exact ⟨by kernel_rfl, ngo_in (by omega) (by omega) ⟨(k + 1, true), by dsimp only; omega, by dsimp only; omega, .of⟩⟩
       · refine igo_map k rfl hkt (igo_map i rfl hlt ?_)
         refine bgo_split (fun he => ?_) (fun he => ?_)
         · refine igo_map k rfl hkt (igo_map i rfl hlt ?_)
           refine .pure [ints s.fields[k].sorts, ints s.fields[i].sorts] _ rfl (sameInts04 _ _) ⟨by kernel_rfl, ngo_in (by omega) (by omega) ⟨(k + 1, _), by dsimp only; omega, by dsimp only; omega, .of⟩⟩
         · exact ⟨by kernel_rfl, ngo_in (by omega) (by omega) ⟨(k + 1, false), by dsimp only; omega, by dsimp only; omega, .of⟩⟩
     · refine bgo_split (fun hd => ?_) (fun hd => ?_)
       · refine ⟨hlm.symm, ⟨by simp; omega, by simp; omega⟩, ngo_in (by omega) (by omega) ⟨(i + 1, l ++ [(41, 0)]), ⟨by dsimp only; omega, by simp; omega⟩, by dsimp only; omega, ?_⟩⟩
         dsimp only
         rw [dg_snoc, dg_len]
         exact .of
       · exact ngo_in (by omega) (by omega) ⟨(i + 1, l), ⟨by dsimp only; omega, by dsimp only; omega⟩, by dsimp only; omega, .of⟩
   · exact ⟨by decide, _, _, rfl, .inr ⟨42, rfl, by rw [hlm]; rfl⟩, l, rfl, by omega⟩
set_option maxHeartbeats 1000000 in
theorem defined04 (s : Spc) (hs : s.Fit) (hnm : ∀ x ∈ s.sorts, x.name.size ≤ 1048576) (i : Nat) (hi : i < s.preds.length) (hsz : s.preds[i].body.sz ≤ 1048576) : ∃ l : Dgs, (l.length ≤ 20 ∧ (l = [] → 30 ≤ s.preds[i].body.op ∧ ∃ a, Ex s false (parE s.preds[i].params) s.preds[i].body a)) ∧ AFun Tryz.prog 103 [s.ex, eI i] (.p (.slice 2 (l.map dg2))) := by
 suffices hh : ∃ y, (∃ l : Dgs, y = .p (.slice 2 (l.map dg2)) ∧ l.length ≤ 20 ∧ (l = [] → 30 ≤ s.preds[i].body.op ∧ ∃ a, Ex s false (parE s.preds[i].params) s.preds[i].body a)) ∧ AFun Tryz.prog 103 [s.ex, eI i] y by
  obtain ⟨y, ⟨l, rfl, h⟩, hf⟩ := hh
  exact ⟨l, h, hf⟩
 have hpr := hs.prd _ (List.getElem_mem hi)
 refine AFunE.intro hT Tryz.func103 rfl rfl (by simp) ⟨_, [(1, 1)], rfl, by simp⟩ (AD.cut hT hmix 4 (fun l : Dgs => l.length ≤ 1) (fun l => [(1, eint .i64 i), (2, .loc 2 0), (5, .own 2 (l.map dg2) 24)]) (fun l => [(2, .box 27 (s.cx.map .p)), (24, .tail l.length)]) ?_ fun l hl0 => AD.run hT hmix ?_)
 · obtain ⟨p, hp, hpf⟩ := pred04 s i s.preds[i].name
   refine igo_map i rfl hi (.pure [s.ex, eI i, eS s.preds[i].name] _ rfl hpf ⟨by kernel_rfl, ?_⟩)
   refine bgo_split (fun hb => ?_) (fun hb => ?_)
   · exact ⟨⟨by simp, by simp⟩, [(41, 0)], by simp, .of⟩
   · exact ⟨[], by simp, .of⟩
 · have hpp : (s.preds[i].params.map Param.av).length = s.preds[i].params.length := List.length_map _
   refine igo_map i rfl hi ?_
   refine AD.loopI (fun x : Nat × Dgs => x.1 ≤ s.preds[i].params.length ∧ x.2.length ≤ 1 + x.1) (fun x => s.preds[i].params.length - x.1) (fun x => [(1, eint .i64 i), (2, .loc 2 0), (5, .own 2 (x.2.map dg2) 24), (6, .p (.slice 2 (s.preds[i].params.map Param.av))), (7, eint .i64 x.1)]) (fun x => [(2, .box 27 (s.cx.map .p)), (24, .tail x.2.length)]) (0, l) ⟨Nat.zero_le _, hl0⟩ .of fun ⟨j, l⟩ ⟨hj, hll⟩ => AD.run hT hmix ?_
   dsimp only at hj hll ⊢
   have h8 := hpr.1.1
   have hlm : (l.map dg2).length = l.length := List.length_map _
   intro _
   refine bgo_split (fun hb => ?_) (fun hb => ?_)
   · replace hb := of_decide_eq_true hb
     have hlt : j < s.preds[i].params.length := by omega
     refine AD.loopI (fun x : Nat × Bool => x.1 ≤ j) (fun x => j - x.1) (fun x => [(1, eint .i64 i), (2, .loc 2 0), (5, .own 2 (l.map dg2) 24), (6, .p (.slice 2 (s.preds[i].params.map Param.av))), (7, eint .i64 j), (8, .p (eB x.2)), (9, eint .i64 x.1)]) (fun x => [(2, .box 27 (s.cx.map .p)), (24, .tail l.length)]) (0, false) (Nat.zero_le _) .of fun ⟨k, b⟩ hk => AD.run hT hmix ?_
     dsimp only at hk ⊢
     refine bgo_split (fun hc => ?_) (fun hc => ?_)
     · replace hc := of_decide_eq_true hc
       have hkt : k < s.preds[i].params.length := by omega
       refine bgo_split (fun hd => ?_) (fun hd => ?_)
       · exact ⟨by kernel_rfl, ngo_in (by omega) (by omega) ⟨(k + 1, true), by dsimp only; omega, by dsimp only; omega, .of⟩⟩
       · exact igo_map k rfl hkt (igo_map j rfl hlt ⟨by kernel_rfl, ngo_in (by omega) (by omega) ⟨(k + 1, _), by dsimp only; omega, by dsimp only; omega, .of⟩⟩)
     · refine bgo_split (fun hd => ?_) (fun hd => ?_)
       · refine ⟨hlm.symm, ⟨by simp; omega, by simp; omega⟩, ngo_in (by omega) (by omega) ⟨(j + 1, l ++ [(41, 0)]), ⟨by dsimp only; omega, by simp; omega⟩, by dsimp only; omega, ?_⟩⟩
         dsimp only
         rw [dg_snoc, dg_len]
         exact .of
       · exact ngo_in (by omega) (by omega) ⟨(j + 1, l), ⟨by dsimp only; omega, by dsimp only; omega⟩, by dsimp only; omega, .of⟩
   · obtain ⟨e, p, he, hf⟩ := check04 s hs hnm i s.preds[i].params hpr.1 s.preds[i].body hpr.2 hsz
     refine igo_map i rfl hi (.pure [s.ex, eI i, .slice 2 (s.preds[i].params.map Param.av), s.preds[i].body.ex] _ rfl hf ⟨by kernel_rfl, ?_⟩)
     refine bgo_split (fun hc => ?_) (fun hc => ?_)
     · refine ⟨hlm.symm, ⟨by simp; omega, by simp; omega⟩, _, _, rfl, rfl, l ++ [(e, p)], by rw [dg_snoc]; rfl, by simp; omega, by simp⟩
     · exact ⟨_, _, rfl, rfl, l, rfl, by omega, fun _ => he (by simpa using hc)⟩
structure Spc.Acc (s : Spc) : Prop where
 prd : ∀ p ∈ s.preds, 30 ≤ p.body.op ∧ ∃ a, Ex s false (parE p.params) p.body a
 fct : ∀ f ∈ s.facts, 30 ≤ f.body.op ∧ ∃ a, Ex s false [] f.body a
structure Spc.Few (s : Spc) : Prop where
 nm : ∀ x ∈ s.sorts, x.name.size ≤ 1048576
 prd : ∀ p ∈ s.preds, p.body.sz ≤ 1048576
 fct : ∀ f ∈ s.facts, f.body.sz ≤ 1048576
set_option maxHeartbeats 1000000 in
theorem checkSpec04 (s : Spc) (hs : s.Fit) (hfw : s.Few) : ∃ l : Dgs, (l = [] → s.Acc) ∧ AFun Tryz.prog 52 [s.ex] (.p (.slice 2 (l.map dg2))) := by
 suffices hh : ∃ y, (∃ l : Dgs, y = .p (.slice 2 (l.map dg2)) ∧ (l = [] → s.Acc)) ∧ AFun Tryz.prog 52 [s.ex] y by
  obtain ⟨y, ⟨l, rfl, h⟩, hf⟩ := hh
  exact ⟨l, h, hf⟩
 obtain ⟨hnm, hps, hfs⟩ := hfw
 refine AFunE.intro hT Tryz.func52 rfl rfl (by simp) ⟨_, [(1, 1)], rfl, by simp⟩ (AD.run hT hmix ?_)
 have hl1 : (s.preds.map Prd.ex).length = s.preds.length := List.length_map _
 have hl2 : (s.facts.map Fct.ex).length = s.facts.length := List.length_map _
 have n3 := hs.n3
 have n4 := hs.n4
 obtain ⟨_, ⟨l0, rfl, hl0⟩, hd⟩ := declared04 s hs
 refine .own [s.ex] 2 _ 10 rfl hd rfl rfl ?_
 refine AD.loopI (fun x : Nat × Dgs => x.1 ≤ s.preds.length ∧ x.2.length ≤ 20 + 20 * x.1 ∧ (x.2 = [] → ∀ p ∈ s.preds.take x.1, 30 ≤ p.body.op ∧ ∃ a, Ex s false (parE p.params) p.body a)) (fun x => s.preds.length - x.1) (fun x => [(1, .loc 1 0), (3, .own 2 (x.2.map dg2) 10), (4, eint .i64 x.1)]) (fun x => [(1, .box 27 (s.cx.map .p)), (10, .tail (x.2.map dg2).length)]) (0, l0) ⟨Nat.zero_le _, hl0, by simp⟩ .of fun ⟨i, l⟩ ⟨hi, hll, hac⟩ => AD.run hT hmix ?_
 dsimp only at hi hll hac ⊢
 have hlm : (l.map dg2).length = l.length := List.length_map _
 intro _
 refine bgo_split (fun hb => ?_) (fun hb => ?_)
 · replace hb := of_decide_eq_true hb
   have hlt : i < s.preds.length := by omega
   obtain ⟨l2, ⟨h20, hex⟩, hdf⟩ := defined04 s hs hnm i hlt (hps _ (List.getElem_mem hlt))
   have hl2m : (l2.map dg2).length = l2.length := List.length_map _
   refine .pure [s.ex, eI i] _ rfl hdf ⟨rfl, ⟨by rw [hl2m, hlm]; show (l.length + l2.length) * 16 ≤ 140737488355328; omega, by rw [hl2m]; omega⟩, ngo_in (by omega) (by omega) ⟨(i + 1, l ++ l2), ⟨by dsimp only; omega, by simp; omega, fun h => ?_⟩, by dsimp only; omega, ?_⟩⟩
   · obtain ⟨rfl, rfl⟩ := List.append_eq_nil_iff.1 h
     exact take_step hlt (hac rfl) (hex rfl)
   · dsimp only
     rw [List.map_append]
     exact .of
 replace hb := of_decide_eq_false hb
 obtain rfl : i = s.preds.length := by omega
 rw [List.take_length] at hac
 refine AD.loopI (fun x : Nat × Dgs => x.1 ≤ s.facts.length ∧ x.2.length ≤ 200 + 2 * x.1 ∧ (x.2 = [] → (∀ p ∈ s.preds, 30 ≤ p.body.op ∧ ∃ a, Ex s false (parE p.params) p.body a) ∧ ∀ f ∈ s.facts.take x.1, 30 ≤ f.body.op ∧ ∃ a, Ex s false [] f.body a)) (fun x => s.facts.length - x.1) (fun x => [(1, .loc 1 0), (3, .own 2 (x.2.map dg2) 10), (5, eint .i64 x.1)]) (fun x => [(1, .box 27 (s.cx.map .p)), (10, .tail (x.2.map dg2).length)]) (0, l) ⟨Nat.zero_le _, by dsimp only; omega, fun h => ⟨hac h, by simp⟩⟩ .of fun ⟨i, l⟩ ⟨hi, hll, hac⟩ => AD.run hT hmix ?_
 dsimp only at hi hll hac ⊢
 have hlm : (l.map dg2).length = l.length := List.length_map _
 intro _
 refine bgo_split (fun hb => ?_) (fun hb => ?_)
 · replace hb := of_decide_eq_true hb
   have hlt : i < s.facts.length := by omega
   refine AD.loopI (fun x : Nat × Bool => x.1 ≤ i) (fun x => i - x.1) (fun x => [(1, .loc 1 0), (3, .own 2 (l.map dg2) 10), (5, eint .i64 i), (6, .p (eB x.2)), (7, eint .i64 x.1)]) (fun x => [(1, .box 27 (s.cx.map .p)), (10, .tail (l.map dg2).length)]) (0, false) (Nat.zero_le _) .of fun ⟨k, b⟩ hk => AD.run hT hmix ?_
   dsimp only at hk ⊢
   refine bgo_split (fun hc => ?_) (fun hc => ?_)
   · replace hc := of_decide_eq_true hc
     have hkt : k < s.facts.length := by omega
     refine bgo_split (fun hd => ?_) (fun hd => ?_)
     · exact ⟨by kernel_rfl, ngo_in (by omega) (by omega) ⟨(k + 1, true), by dsimp only; omega, by dsimp only; omega, .of⟩⟩
     · exact igo_map k rfl hkt (igo_map i rfl hlt ⟨by kernel_rfl, ngo_in (by omega) (by omega) ⟨(k + 1, _), by dsimp only; omega, by dsimp only; omega, .of⟩⟩)
   · refine bgo_split (fun hd => ?_) (fun hd => ?_)
     · refine ⟨rfl, ⟨by simp; omega, by simp; omega⟩, ?_⟩
       obtain ⟨e, p, he, hf⟩ := checkFormula04 s hs hnm [] ⟨by simp, nofun⟩ s.facts[i].body (hs.fct _ (List.getElem_mem hlt)) (hfs _ (List.getElem_mem hlt))
       refine igo_map i rfl hlt (.pure [s.ex, .slice 2 [], s.facts[i].body.ex] _ rfl hf ⟨by kernel_rfl, ?_⟩)
       refine bgo_split (fun hc2 => ?_) (fun hc2 => ?_)
       · refine ⟨(by simp), ⟨by simp; omega, by simp; omega⟩, ngo_in (by omega) (by omega) ⟨(i + 1, (l ++ [(41, 0)]) ++ [(e, p)]), ⟨by dsimp only; omega, by simp; omega, fun h => absurd h (by simp)⟩, by dsimp only; omega, ?_⟩⟩
         dsimp only
         rw [dg_snoc, dg_snoc]
         exact .of
       · refine ngo_in (by omega) (by omega) ⟨(i + 1, (l ++ [(41, 0)])), ⟨by dsimp only; omega, by simp; omega, fun h => ?_⟩, by dsimp only; omega, (by dsimp only; rw [dg_snoc]; exact .of)⟩
         simp at h
     · skip
       obtain ⟨e, p, he, hf⟩ := checkFormula04 s hs hnm [] ⟨by simp, nofun⟩ s.facts[i].body (hs.fct _ (List.getElem_mem hlt)) (hfs _ (List.getElem_mem hlt))
       refine igo_map i rfl hlt (.pure [s.ex, .slice 2 [], s.facts[i].body.ex] _ rfl hf ⟨by kernel_rfl, ?_⟩)
       refine bgo_split (fun hc2 => ?_) (fun hc2 => ?_)
       · refine ⟨(by simp), ⟨by simp; omega, by simp; omega⟩, ngo_in (by omega) (by omega) ⟨(i + 1, l ++ [(e, p)]), ⟨by dsimp only; omega, by simp; omega, fun h => absurd h (by simp)⟩, by dsimp only; omega, ?_⟩⟩
         dsimp only
         rw [dg_snoc]
         exact .of
       · refine ngo_in (by omega) (by omega) ⟨(i + 1, l), ⟨by dsimp only; omega, by simp; omega, fun h => ?_⟩, by dsimp only; omega, .of⟩
         exact ⟨(hac h).1, take_step hlt (hac h).2 (he (by simpa using hc2))⟩
 replace hb := of_decide_eq_false hb
 obtain rfl : i = s.facts.length := by omega
 rw [List.take_length] at hac
 exact ⟨_, _, rfl, rfl, l, rfl, fun h => ⟨(hac h).1, (hac h).2⟩⟩
theorem digits04 : ∀ (k : Nat) (n : Int), k ≤ 18 → n < 10 ^ (k + 1) → ∃ b : ByteArray, b.size ≤ k + 1 ∧ AFun Tryz.prog 246 [eI n] (.p (eS b)) := by
 intro k
 induction k with
 | zero =>
  intro n _ hn
  have hn : n < 10 := by simpa using hn
  suffices hh : ∃ y, (∃ b : ByteArray, y = .p (eS b) ∧ b.size ≤ 0 + 1) ∧ AFun Tryz.prog 246 [eI n] y by
   obtain ⟨y, ⟨b, rfl, h⟩, hf⟩ := hh
   exact ⟨b, h, hf⟩
  refine AFunE.intro hT Tryz.func246 rfl rfl (by simp) ⟨_, ⟨#[]⟩, rfl, by decide⟩ (AD.run hT hmix ?_)
  exact bgo_true (decide_eq_true hn) ⟨_, rfl, _, rfl, _, _, rfl, rfl, _, rfl, by rw [strOfNums_size]; simp⟩
 | succ k ih =>
  intro n hk hn
  suffices hh : ∃ y, (∃ b : ByteArray, y = .p (eS b) ∧ b.size ≤ k + 1 + 1) ∧ AFun Tryz.prog 246 [eI n] y by
   obtain ⟨y, ⟨b, rfl, h⟩, hf⟩ := hh
   exact ⟨b, h, hf⟩
  refine AFunE.intro hT Tryz.func246 rfl rfl (by simp) ⟨_, ⟨#[]⟩, rfl, by simp [ByteArray.size]⟩ (AD.run hT hmix ?_)
  refine bgo_split (fun hb => ⟨_, rfl, _, rfl, _, _, rfl, rfl, _, rfl, by rw [strOfNums_size]; simp⟩) (fun hb => ?_)
  replace hb := of_decide_eq_false hb
  obtain ⟨m, rfl⟩ := Int.eq_ofNat_of_zero_le (show 0 ≤ n by omega)
  have e10 : (10 : Int) ^ (k + 1 + 1) = ((10 ^ (k + 1) * 10 : Nat) : Int) := by rw [Int.pow_succ]; simp
  have e11 : (10 : Int) ^ (k + 1) = ((10 ^ (k + 1) : Nat) : Int) := by simp
  rw [e10] at hn
  have hm : m < 10 ^ (k + 1) * 10 := by omega
  have hm2 : m / 10 < 10 ^ (k + 1) := Nat.div_lt_of_lt_mul (by omega)
  have hbig : 10 ^ (k + 1) ≤ 10 ^ 18 := Nat.pow_le_pow_right (by omega) (by omega)
  obtain ⟨b, hbs, hf⟩ := ih ((m / 10 : Nat) : Int) (by omega) (by rw [e11]; omega)
  refine ⟨by decide, _, (show IntKind.i64.wrap ((m : Int).tdiv 10) = ((m / 10 : Nat) : Int) from wrap64_in (n := ((m / 10 : Nat) : Int)) (by omega) (by omega)), ?_⟩
  refine .pure [eI ((m / 10 : Nat) : Int)] _ rfl hf ?_
  refine ⟨by decide, _, rfl, _, rfl, _, rfl, ?_⟩
  refine ⟨by rw [strOfNums_size]; simp; omega, by kernel_rfl, _, _, rfl, rfl, _, rfl, ?_⟩
  rw [ByteArray.size_append, strOfNums_size]
  simp; omega
theorem has04 (l : List ByteArray) (nm : ByteArray) : ∃ b : Bool, AFun Tryz.prog 247 [.slice 1 (l.map eS), eS nm] (.p (eB b)) := by
 suffices hh : ∃ y, (∃ b : Bool, y = .p (eB b)) ∧ AFun Tryz.prog 247 [.slice 1 (l.map eS), eS nm] y by
  obtain ⟨y, ⟨b, rfl⟩, hf⟩ := hh
  exact ⟨b, hf⟩
 have hl : (l.map eS).length = l.length := List.length_map _
 refine AFunE.intro hT Tryz.func247 rfl rfl (by simp) ⟨_, true, rfl⟩ (AD.run hT hmix ?_)
 refine AD.loopI (fun i : Nat => i ≤ l.length) (fun i => l.length - i) (fun i => [(0, .p (.slice 1 (l.map eS))), (1, .p (eS nm)), (5, eint .i64 i)]) (fun _ => []) 0 (Nat.zero_le _) .of fun i hi => AD.run hT hmix ?_
 intro _
 refine bgo_split (fun hb => ?_) (fun hb => ⟨_, _, rfl, rfl, _, rfl⟩)
 replace hb := of_decide_eq_true hb
 have hlt : i < l.length := by omega
 refine igo_map i rfl hlt ?_
 exact bgo_split (fun hc => ⟨_, _, rfl, rfl, _, rfl⟩) (fun hc => ngo_in (by omega) (by omega) ⟨i + 1, by omega, by omega, .of⟩)
theorem depth04 (n : Nd) : ∃ r : Int, AFun Tryz.prog 173 [n.ex] (.p (eI r)) := by
 induction n using Nd.ind with
 | h n ih =>
  suffices hh : ∃ y, (∃ r : Int, y = .p (eI r)) ∧ AFun Tryz.prog 173 [n.ex] y by
   obtain ⟨y, ⟨r, rfl⟩, hf⟩ := hh
   exact ⟨r, hf⟩
  have hl : (n.kids.map Nd.av).length = n.kids.length := List.length_map _
  refine AFunE.intro hT Tryz.func173 rfl rfl (by simp) ⟨_, 1, rfl⟩ (AD.run hT hmix ?_)
  refine AD.loopI (fun x : Nat × Int => x.1 ≤ n.kids.length) (fun x => n.kids.length - x.1) (fun x => [(1, .loc 1 0), (3, .p (eI x.2)), (4, eint .i64 x.1)]) (fun _ => [(1, .box 35 ([eI n.op, eS n.name, eI n.n, .slice 5 (n.kids.map Nd.av), eI n.at_].map .p))]) (0, 0) (Nat.zero_le _) .of fun ⟨i, d⟩ hi => AD.run hT hmix ?_
  dsimp only at hi ⊢
  intro _
  refine bgo_split (fun hb => ?_) (fun hb => ⟨_, rfl, _, _, rfl, rfl, _, rfl⟩)
  replace hb := of_decide_eq_true hb
  have hlt : i < n.kids.length := by omega
  obtain ⟨r, hf⟩ := ih _ (List.getElem_mem hlt)
  rw [← Nd.av_ex] at hf
  exact igo_map i rfl hlt (.pure _ _ rfl hf (ngo_in (by omega) (by omega) ⟨(i + 1, _), by dsimp only; omega, by dsimp only; omega, .of⟩))
theorem szs_take : ∀ (l : List Nd) {i : Nat} (h : i < l.length), Nd.szs (l.take (i + 1)) = Nd.szs (l.take i) + l[i].sz
 | x :: r, 0, h => by simp [Nd.szs]
 | x :: r, i + 1, h => by
  have := szs_take r (i := i) (by simpa using h)
  simp only [List.take_succ_cons, Nd.szs, List.getElem_cons_succ, this]; omega
theorem szs_le (n : Nd) (i : Nat) : 1 + Nd.szs (n.kids.take i) ≤ n.sz := by
 cases n with
 | mk op name num kids a =>
  show 1 + Nd.szs (kids.take i) ≤ _
  rw [Nd.sz]
  have : ∀ (l : List Nd) (i : Nat), Nd.szs (l.take i) ≤ Nd.szs l := by
   intro l
   induction l with
   | nil => intro i; simp
   | cons x r ih => intro i; cases i with
    | zero => simp [Nd.szs]
    | succ i => simp only [List.take_succ_cons, Nd.szs]; have := ih i; omega
  have := this kids i
  omega
theorem names04 (n : Nd) : ∀ (l : List ByteArray), l.length + n.sz ≤ 100000000 → ∃ l' : List ByteArray, l'.length ≤ l.length + n.sz ∧ EFun Tryz.prog 226 [.own 1 (l.map eS) 9000, .p n.ex] [(9000, .tail (l.map eS).length)] (.own 1 (l'.map eS) 9000) [(9000, .tail (l'.map eS).length)] := by
 induction n using Nd.ind with
 | h n ih =>
  intro l hl
  have hll : (l.map eS).length = l.length := List.length_map _
  suffices hh : ∃ y h1, (∃ l' : List ByteArray, y = .own 1 (l'.map eS) 9000 ∧ h1 = [(9000, .tail (l'.map eS).length)] ∧ l'.length ≤ l.length + n.sz) ∧ EFun Tryz.prog 226 [.own 1 (l.map eS) 9000, .p n.ex] [(9000, .tail (l.map eS).length)] y h1 by
   obtain ⟨y, h1, ⟨l', rfl, rfl, hb⟩, hf⟩ := hh
   exact ⟨l', hb, hf⟩
  have hkl : (n.kids.map Nd.av).length = n.kids.length := List.length_map _
  have hsz1 : 1 ≤ n.sz := by cases n; rw [Nd.sz]; omega
  refine EFunE.intro hT Tryz.func226 rfl rfl (by simp) rfl ⟨_, _, [], rfl, rfl, by simp⟩ (AD.cut hT hmix 3 (fun l1 : List ByteArray => l1.length ≤ l.length + 1) (fun l1 => [(0, .own 1 (l1.map eS) 9000), (3, .loc 3 0)]) (fun l1 => [(3, .box 35 ([eI n.op, eS n.name, eI n.n, .slice 5 (n.kids.map Nd.av), eI n.at_].map .p)), (9000, .tail (l1.map eS).length)]) ?_ fun l1 hl1 => AD.run hT hmix ?_)
  · refine bgo_split (fun hb => ?_) (fun hb => ?_)
    · refine ⟨rfl, ⟨by simp; omega, by simp; omega⟩, l ++ [n.name], by simp, ?_⟩
      dsimp only
      rw [List.map_append]
      exact .of
    · exact ⟨l, by omega, .of⟩
  · refine AD.loopI (fun x : Nat × List ByteArray => x.1 ≤ n.kids.length ∧ x.2.length ≤ l.length + 1 + Nd.szs (n.kids.take x.1)) (fun x => n.kids.length - x.1) (fun x => [(0, .own 1 (x.2.map eS) 9000), (3, .loc 3 0), (5, eint .i64 x.1)]) (fun x => [(3, .box 35 ([eI n.op, eS n.name, eI n.n, .slice 5 (n.kids.map Nd.av), eI n.at_].map .p)), (9000, .tail (x.2.map eS).length)]) (0, l1) ⟨Nat.zero_le _, by simpa [Nd.szs] using hl1⟩ .of fun ⟨i, l2⟩ ⟨hi, hl2⟩ => AD.run hT hmix ?_
    dsimp only at hi hl2 ⊢
    intro _
    refine bgo_split (fun hb => ?_) (fun hb => ?_)
    · replace hb := of_decide_eq_true hb
      have hlt : i < n.kids.length := by omega
      have hz := szs_take n.kids hlt
      have hz2 := szs_le n (i + 1)
      obtain ⟨l3, hl3, hf⟩ := ih _ (List.getElem_mem hlt) l2 (by omega)
      rw [← Nd.av_ex] at hf
      refine igo_map i rfl hlt (.eff [(9000, .tail (l2.map eS).length)] [(9000, .tail (l3.map eS).length)] _ hf ⟨rfl, trivial⟩ rfl rfl rfl rfl ?_)
      exact ngo_in (by omega) (by omega) ⟨(i + 1, l3), ⟨by dsimp only; omega, by dsimp only; omega⟩, by dsimp only; omega, .of⟩
    · replace hb := of_decide_eq_false hb
      obtain rfl : i = n.kids.length := by omega
      have hz2 := szs_le n n.kids.length
      exact ⟨_, [.own 1 (l2.map eS) 9000], [(9000, .tail (l2.map eS).length)], rfl, .of, rfl, l2, rfl, rfl, by omega⟩
theorem names04n (n : Nd) (hn : n.sz ≤ 10000000) : ∃ l' : List ByteArray, l'.length ≤ ([] : List ByteArray).length + n.sz ∧ EFun Tryz.prog 226 [.full 1 [], .p n.ex] [] (.own 1 (l'.map eS) 9000) [(9000, .tail (l'.map eS).length)] := by
 suffices hh : ∃ y h1, (∃ l' : List ByteArray, y = .own 1 (l'.map eS) 9000 ∧ h1 = [(9000, .tail (l'.map eS).length)] ∧ l'.length ≤ ([] : List ByteArray).length + n.sz) ∧ EFun Tryz.prog 226 [.full 1 [], .p n.ex] [] y h1 by
  obtain ⟨y, h1, ⟨l', rfl, rfl, hb⟩, hf⟩ := hh
  exact ⟨l', hb, hf⟩
 have hkl : (n.kids.map Nd.av).length = n.kids.length := List.length_map _
 have hsz1 : 1 ≤ n.sz := by cases n; rw [Nd.sz]; omega
 refine EFunE.intro hT Tryz.func226 rfl rfl (by simp) rfl ⟨_, _, [], rfl, rfl, by simp⟩ (AD.cut hT hmix 3 (fun l1 : List ByteArray => l1.length ≤ ([] : List ByteArray).length + 1) (fun l1 => [(0, .own 1 (l1.map eS) 9000), (3, .loc 3 0)]) (fun l1 => [(3, .box 35 ([eI n.op, eS n.name, eI n.n, .slice 5 (n.kids.map Nd.av), eI n.at_].map .p)), (9000, .tail (l1.map eS).length)]) ?_ fun l1 hl1 => AD.run hT hmix ?_)
 · refine bgo_split (fun hb => ?_) (fun hb => ?_)
   · exact ⟨⟨by simp, by simp⟩, [n.name], by simp, .trans (.ren 13 9000) .of⟩
   · exact ⟨[], by simp, .of⟩
 · refine AD.loopI (fun x : Nat × List ByteArray => x.1 ≤ n.kids.length ∧ x.2.length ≤ ([] : List ByteArray).length + 1 + Nd.szs (n.kids.take x.1)) (fun x => n.kids.length - x.1) (fun x => [(0, .own 1 (x.2.map eS) 9000), (3, .loc 3 0), (5, eint .i64 x.1)]) (fun x => [(3, .box 35 ([eI n.op, eS n.name, eI n.n, .slice 5 (n.kids.map Nd.av), eI n.at_].map .p)), (9000, .tail (x.2.map eS).length)]) (0, l1) ⟨Nat.zero_le _, by simpa [Nd.szs] using hl1⟩ .of fun ⟨i, l2⟩ ⟨hi, hl2⟩ => AD.run hT hmix ?_
   dsimp only at hi hl2 ⊢
   intro _
   refine bgo_split (fun hb => ?_) (fun hb => ?_)
   · replace hb := of_decide_eq_true hb
     have hlt : i < n.kids.length := by omega
     have hz := szs_take n.kids hlt
     have hz2 := szs_le n (i + 1)
     obtain ⟨l3, hl3, hf⟩ := names04 n.kids[i] l2 (by simp at hl2; omega)
     rw [← Nd.av_ex] at hf
     refine igo_map i rfl hlt (.eff [(9000, .tail (l2.map eS).length)] [(9000, .tail (l3.map eS).length)] _ hf ⟨rfl, trivial⟩ rfl rfl rfl rfl ?_)
     exact ngo_in (by omega) (by omega) ⟨(i + 1, l3), ⟨by dsimp only; omega, by dsimp only; omega⟩, by dsimp only; omega, .of⟩
   · replace hb := of_decide_eq_false hb
     obtain rfl : i = n.kids.length := by omega
     have hz2 := szs_le n n.kids.length
     exact ⟨_, [.own 1 (l2.map eS) 9000], [(9000, .tail (l2.map eS).length)], rfl, .of, rfl, l2, rfl, rfl, by omega⟩
theorem taken04 (s : Spc) (hs : s.Fit) (hf : s.Few) (n : Nd) (hn : n.sz ≤ 1048576) : ∃ l : List ByteArray, l.length ≤ 10000000 ∧ AFun Tryz.prog 172 [s.ex, n.ex] (.p (.slice 1 (l.map eS))) := by
 suffices hh : ∃ y, (∃ l : List ByteArray, y = .p (.slice 1 (l.map eS)) ∧ l.length ≤ 10000000) ∧ AFun Tryz.prog 172 [s.ex, n.ex] y by
  obtain ⟨y, ⟨l, rfl, h⟩, hf⟩ := hh
  exact ⟨l, h, hf⟩
 have hl1 : (s.preds.map Prd.ex).length = s.preds.length := List.length_map _
 have n3 := hs.n3
 refine AFunE.intro hT Tryz.func172 rfl rfl (by simp) ⟨_, [], rfl, by simp⟩ (AD.run hT hmix ?_)
 obtain ⟨l0, hl0, hf0⟩ := names04n n (by omega)
 simp only [List.length_nil, Nat.zero_add] at hl0
 refine .eff [] [(9000, .tail (l0.map eS).length)] _ (hf0.le ⟨.inl rfl, .inr ⟨_, rfl, rfl⟩, trivial⟩) ⟨rfl, trivial⟩ rfl rfl rfl rfl ?_
 refine AD.loopI (fun x : Nat × List ByteArray => x.1 ≤ s.preds.length ∧ x.2.length ≤ 1048576 + 1048576 * x.1) (fun x => s.preds.length - x.1) (fun x => [(2, .loc 2 0), (5, .own 1 (x.2.map eS) 9000), (6, eint .i64 x.1)]) (fun x => [(2, .box 27 (s.cx.map .p)), (9000, .tail (x.2.map eS).length)]) (0, l0) ⟨Nat.zero_le _, by dsimp only; omega⟩ .of fun ⟨i, l2⟩ ⟨hi, hl2⟩ => AD.run hT hmix ?_
 dsimp only at hi hl2 ⊢
 intro _
 refine bgo_split (fun hb => ?_) (fun hb => ?_)
 · replace hb := of_decide_eq_true hb
   have hlt : i < s.preds.length := by omega
   have hp := hf.prd _ (List.getElem_mem hlt)
   obtain ⟨l3, hl3, hf3⟩ := names04 s.preds[i].body l2 (by omega)
   refine igo_map i rfl hlt (.eff [(9000, .tail (l2.map eS).length)] [(9000, .tail (l3.map eS).length)] _ hf3 ⟨rfl, trivial⟩ rfl rfl rfl rfl ?_)
   exact ngo_in (by omega) (by omega) ⟨(i + 1, l3), ⟨by dsimp only; omega, by dsimp only; omega⟩, by dsimp only; omega, .of⟩
 · exact ⟨_, _, rfl, rfl, l2, rfl, by omega⟩
structure Wk where
 sp : Spc
 taken : List ByteArray
 last : Int
 cost : Int
def Wk.cs (w : Wk) : List AV := w.sp.cx ++ [.slice 1 (w.taken.map eS), eI w.last, eI w.cost]
def Wk.av (w : Wk) : AV := .agg w.cs
structure Rp where
 name : ByteArray
 to : ByteArray
 param : Bool
 arg : Nd
 size : Int
def Rp.av (x : Rp) : AV := .agg [eS x.name, eS x.to, eB x.param, eI x.arg.op, eS x.arg.name, eI x.arg.n, .slice 5 (x.arg.kids.map Nd.av), eI x.arg.at_, eI x.size]
theorem wrap64_rng (n : Int) : -9223372036854775808 ≤ IntKind.i64.wrap n ∧ IntKind.i64.wrap n ≤ 9223372036854775807 := by
 rw [IntKind.wrap_i64]; omega
set_option maxHeartbeats 1000000 in
theorem fresh04 (w : Wk) (hfit : w.sp.Fit) (hfew : w.sp.Few) (ht : w.taken.length ≤ 10000000) : ∃ (l : Int) (s : ByteArray), s.size ≤ 100 ∧ AFun Tryz.prog 225 [w.av] (.tup [.p (Wk.av { w with last := l }), .p (eS s)]) := by
 suffices hh : ∃ y, (∃ (l : Int) (s : ByteArray), y = .tup [.p (Wk.av { w with last := l }), .p (eS s)] ∧ s.size ≤ 100) ∧ AFun Tryz.prog 225 [w.av] y by
  obtain ⟨y, ⟨l, s, rfl, h⟩, hf⟩ := hh
  exact ⟨l, s, h, hf⟩
 have htl : (w.taken.map eS).length = w.taken.length := List.length_map _
 refine AFunE.intro hT Tryz.func225 rfl rfl (by simp) ⟨_, 0, ⟨#[]⟩, rfl, by decide⟩ (AD.run hT hmix ?_)
 refine AD.loopI (fun x : Nat × Int => x.1 ≤ w.taken.length + 41) (fun x => w.taken.length + 41 - x.1) (fun x => [(1, .loc 1 0), (2, .loc 2 0), (3, .p (eS ⟨#[]⟩)), (4, eint .i64 x.1)]) (fun x => [(1, .box 250 ((Wk.cs { w with last := x.2 }).map .p)), (2, .box 250 [.full 2 [], .full 3 [], .full 7 [], .full 6 [], .full 1 [], .p (eI 0), .p (eI 0)])]) (0, w.last) (Nat.zero_le _) .of fun ⟨i, l⟩ hi => AD.run hT hmix ?_
 dsimp only at hi ⊢
 have htl2 : (List.map eS ({ w with last := l } : Wk).taken).length = w.taken.length := List.length_map _
 intro _
 refine ngo_in (by omega) (by omega) ?_
 refine bgo_split (fun hb => ?_) (fun hb => ⟨_, _, rfl, rfl, l, ⟨#[]⟩, rfl, by decide⟩)
 replace hb := of_decide_eq_true hb
 refine ⟨_, rfl, ?_⟩
 have hr := wrap64_rng (l + 1)
 obtain ⟨b, hbs, hdf⟩ := digits04 18 (IntKind.i64.wrap (l + 1)) (by omega) (by
  have : (10 : Int) ^ (18 + 1) = 10000000000000000000 := by decide
  rw [this]; omega)
 refine .pure [eI (IntKind.i64.wrap (l + 1))] _ rfl hdf ?_
 refine ⟨by have : (⟨#[118]⟩ : ByteArray).size = 1 := rfl; omega, ?_⟩
 obtain ⟨y, ⟨a, f, k, rfl, hf, _⟩, hn⟩ := named04 w.sp hfit.n1 (by have := hfit.n2; omega) hfit.fld hfew.nm (⟨#[118]⟩ ++ b)
 refine .pure [w.sp.ex, eS (⟨#[118]⟩ ++ b)] _ rfl hn ?_
 refine bgo_true (by rw [Bool.and_eq_true, Bool.and_eq_true]; exact ⟨len_beq hf, rfl, rfl⟩) ?_
 generalize hy : setSeg _ _ ((setav a f).cells.map EV.p) = y
 clear hy
 have hsz : (⟨#[118]⟩ ++ b : ByteArray).size ≤ 100 := by
  rw [ByteArray.size_append]
  have : (⟨#[118]⟩ : ByteArray).size = 1 := rfl
  omega
 refine bgo_split (fun hc => ?_) (fun hc => ?_)
 · obtain ⟨b2, hhf⟩ := has04 w.taken (⟨#[118]⟩ ++ b)
   refine .pure [.slice 1 (w.taken.map eS), eS (⟨#[118]⟩ ++ b)] _ rfl hhf ?_
   refine bgo_split (fun hd => ?_) (fun hd => ?_)
   · exact ⟨_, _, rfl, rfl, IntKind.i64.wrap (l + 1), _, rfl, hsz⟩
   · exact ngo_in (by omega) (by omega) ⟨(i + 1, IntKind.i64.wrap (l + 1)), by dsimp only; omega, by dsimp only; omega, .of⟩
 · exact ngo_in (by omega) (by omega) ⟨(i + 1, IntKind.i64.wrap (l + 1)), by dsimp only; omega, by dsimp only; omega, .of⟩
def scOk (sc : List Rp) : Prop := ∀ x ∈ sc, 0 ≤ x.size ∧ x.size ≤ 4000
def LeafR (w : Wk) (y : EV) : Prop := ∃ (l c : Int) (n' : Nd) (sz : Int), y = .tup [.p (Wk.av { w with last := l, cost := c }), .p n'.ex, .p (eI sz)] ∧ w.cost ≤ c ∧ c ≤ 8001 ∧ 0 ≤ sz ∧ sz ≤ c - w.cost + 1
set_option maxHeartbeats 1000000 in
theorem leaf04 (w : Wk) (sc : List Rp) (hsc : scOk sc) (n : Nd) (hc : 0 ≤ w.cost ∧ w.cost ≤ 4000) : ∃ y, LeafR w y ∧ AFun Tryz.prog 222 [w.av, .slice 9 (sc.map Rp.av), n.ex] y := by
 have hsl : (sc.map Rp.av).length = sc.length := List.length_map _
 refine AFunE.intro hT Tryz.func222 rfl rfl (by simp) ⟨_, 0, w.cost, n, 0, rfl, by omega, by omega, by omega, by omega⟩ (AD.run hT hmix ?_)
 intro _
 refine ngo_in (by omega) (by omega) ?_
 rw [hsl]
 refine AD.loopI (fun i : Nat => i ≤ sc.length) (fun i => i) (fun i => [(1, .p (.slice 9 (sc.map Rp.av))), (3, .loc 3 0), (5, .loc 5 0), (6, .loc 6 0), (7, .loc 7 0), (9, .p (eI ((i : Int) - 1)))]) (fun _ => [(3, .box 250 (w.cs.map .p)), (5, .box 35 ([eI n.op, eS n.name, eI n.n, .slice 5 (n.kids.map Nd.av), eI n.at_].map .p)), (6, .box 250 [.full 2 [], .full 3 [], .full 7 [], .full 6 [], .full 1 [], .p (eI 0), .p (eI 0)]), (7, .box 35 [.p (eI 0), .p (eS ⟨#[]⟩), .p (eI 0), .full 5 [], .p (eI 0)])]) sc.length (Nat.le_refl _) .of fun i hi => AD.run hT hmix ?_
 refine bgo_split (fun hb => ?_) (fun hb => ?_)
 · replace hb := of_decide_eq_true hb
   have hlt : i - 1 < sc.length := by omega
   have hz := hsc _ (List.getElem_mem hlt)
   refine igo_map (i - 1) (by omega) hlt ⟨by kernel_rfl, ?_⟩
   refine bgo_split (fun hd => ?_) (fun hd => ?_)
   · refine ngo_in (by omega) (by omega) ⟨i - 1, by omega, by omega, ?_⟩
     rw [show ((i - 1 : Nat) : Int) = (i : Int) - 1 by omega]
     exact .of
   · refine igo_map (i - 1) (by omega) hlt ?_
     refine bgo_split (fun he => ?_) (fun he => ?_)
     · refine igo_map (i - 1) (by omega) hlt (ngo_in (by omega) (by omega) ⟨by kernel_rfl, ?_⟩)
       refine igo_map (i - 1) (by omega) hlt (igo_map (i - 1) (by omega) hlt ⟨by kernel_rfl, ?_⟩)
       exact ⟨_, _, rfl, rfl, w.last, w.cost + sc[i - 1].size, sc[i - 1].arg, sc[i - 1].size, rfl, by omega, by omega, by omega, by omega⟩
     · refine igo_map (i - 1) (by omega) hlt ⟨by kernel_rfl, ?_⟩
       exact ⟨_, _, rfl, rfl, w.last, w.cost, .mk n.op sc[i - 1].to n.n n.kids n.at_, 1, rfl, by omega, by omega, by omega, by omega⟩
 · exact ⟨by kernel_rfl, _, _, rfl, rfl, w.last, w.cost, n, 1, rfl, by omega, by omega, by omega, by omega⟩
def ExpR (w : Wk) (y : EV) : Prop := ∃ (l c : Int) (n' : Nd) (sz : Int), y = .tup [.p (Wk.av { w with last := l, cost := c }), .p n'.ex, .p (eI sz)] ∧ w.cost + 1 ≤ c ∧ c ≤ 8001 ∧ 0 ≤ sz ∧ sz ≤ c - w.cost
def nd0 : Nd := .mk 0 ⟨#[]⟩ 0 [] 0
set_option maxHeartbeats 1000000 in
theorem replace04 (w : Wk) (sc : List Rp) (hsc : scOk sc) (n : Nd) (body : Bool) (hc : 0 ≤ w.cost ∧ w.cost ≤ 4000) (hscl : sc.length + 2 * (4000 - w.cost) ≤ 20000) (IH : ∀ (w2 : Wk) (sc2 : List Rp) (n2 : Nd) (b2 : Bool), w2.sp = w.sp → w2.taken = w.taken → w.cost ≤ w2.cost → w2.cost ≤ 4000 → scOk sc2 → sc2.length + 2 * (4000 - w2.cost) ≤ 20000 → ∃ y, ExpR w2 y ∧ AFun Tryz.prog 171 [w2.av, .slice 9 (sc2.map Rp.av), n2.ex, eB b2] y) : ∃ y, LeafR w y ∧ AFun Tryz.prog 223 [w.av, .slice 9 (sc.map Rp.av), n.ex, eB body] y := by
 have hkl : (n.kids.map Nd.av).length = n.kids.length := List.length_map _
 have hpl : (w.sp.preds.map Prd.ex).length = w.sp.preds.length := List.length_map _
 obtain ⟨p, hp, hpf⟩ := pred04 w.sp (w.sp.preds.map Prd.ex).length n.name
 refine AFunE.intro hT Tryz.func223 rfl rfl (by simp) ⟨_, 0, w.cost, n, 0, rfl, by omega, by omega, by omega, by omega⟩ (AD.cut hT hmix 14 (fun x : Int × Int × List Rp => 0 ≤ p ∧ w.cost ≤ x.2.1 ∧ x.2.1 ≤ 4000 ∧ scOk x.2.2 ∧ x.2.2.length ≤ 4000) (fun x => [(3, .p (eB body)), (4, .loc 4 0), (6, .loc 6 0), (8, .loc 8 0), (9, .loc 9 0), (12, .p (eI p)), (13, .p (.slice 9 (x.2.2.map Rp.av)))]) (fun x => [(4, .box 250 ((Wk.cs { w with last := x.1, cost := x.2.1 }).map .p)), (6, .box 35 ([eI n.op, eS n.name, eI n.n, .slice 5 (n.kids.map Nd.av), eI n.at_].map .p)), (8, .box 250 [.full 2 [], .full 3 [], .full 7 [], .full 6 [], .full 1 [], .p (eI 0), .p (eI 0)]), (9, .box 35 [.p (eI 0), .p (eS ⟨#[]⟩), .p (eI 0), .full 5 [], .p (eI 0)])]) ?_ fun ⟨l, c, own⟩ ⟨hp0, h1, h2, hok, hol⟩ => AD.run hT hmix ?_)
 · intro _
   refine .pure [w.sp.ex, eI (w.sp.preds.map Prd.ex).length, eS n.name] _ rfl hpf ?_
   refine bgo_split (fun hb => ⟨by kernel_rfl, _, _, rfl, rfl, w.last, w.cost, n, 1, rfl, by omega, by omega, by omega, by omega⟩) (fun hb => ?_)
   replace hb := of_decide_eq_false hb
   obtain ⟨j, rfl⟩ := Int.eq_ofNat_of_zero_le (show 0 ≤ p by omega)
   have hj : j < w.sp.preds.length := by omega
   have hpp : (w.sp.preds[j].params.map Param.av).length = w.sp.preds[j].params.length := List.length_map _
   refine AD.loopI (fun x : Nat × Int × Int × List Rp => x.1 ≤ n.kids.length ∧ w.cost + x.1 ≤ x.2.2.1 ∧ x.2.2.1 ≤ 4000 ∧ scOk x.2.2.2 ∧ x.2.2.2.length = x.1) (fun x => n.kids.length - x.1) (fun x => [(1, .p (.slice 9 (sc.map Rp.av))), (3, .p (eB body)), (4, .loc 4 0), (6, .loc 6 0), (8, .loc 8 0), (9, .loc 9 0), (12, .p (eI j)), (13, .own 9 (x.2.2.2.map Rp.av) 86), (14, eint .i64 x.1)]) (fun x => [(4, .box 250 ((Wk.cs { w with last := x.2.1, cost := x.2.2.1 }).map .p)), (6, .box 35 ([eI n.op, eS n.name, eI n.n, .slice 5 (n.kids.map Nd.av), eI n.at_].map .p)), (8, .box 250 [.full 2 [], .full 3 [], .full 7 [], .full 6 [], .full 1 [], .p (eI 0), .p (eI 0)]), (9, .box 35 [.p (eI 0), .p (eS ⟨#[]⟩), .p (eI 0), .full 5 [], .p (eI 0)]), (86, .tail (x.2.2.2.map Rp.av).length)]) (0, w.last, w.cost, []) ⟨Nat.zero_le _, by dsimp only; omega, by dsimp only; omega, nofun, rfl⟩ .of fun ⟨i, l, c, own⟩ ⟨hi, h1, h2, hok, hol⟩ => AD.run hT hmix ?_
   dsimp only at hi h1 h2 hok hol ⊢
   have hpp2 : (List.map Param.av ({ w with last := l, cost := c } : Wk).sp.preds[j].params).length = w.sp.preds[j].params.length := List.length_map _
   have hom : (own.map Rp.av).length = own.length := List.length_map _
   intro _
   refine bgo_split (fun hb1 => ?_) (fun hb1 => ⟨(l, c, own), ⟨by omega, by dsimp only; omega, by dsimp only; omega, hok, by dsimp only; omega⟩, .of⟩)
   replace hb1 := of_decide_eq_true hb1
   have hlt : i < n.kids.length := by omega
   refine igo_map j rfl hj ?_
   intro _
   refine bgo_split (fun hb2 => ?_) (fun hb2 => ⟨(l, c, own), ⟨by omega, by dsimp only; omega, by dsimp only; omega, hok, by dsimp only; omega⟩, .of⟩)
   replace hb2 := of_decide_eq_true hb2
   have hlt2 : i < w.sp.preds[j].params.length := by omega
   obtain ⟨y, ⟨l', c', n', sz, rfl, q1, q2, q3, q4⟩, hx⟩ := IH { w with last := l, cost := c } sc n.kids[i] body rfl rfl (by dsimp only; omega) h2 hsc (by dsimp only; omega)
   dsimp only at q1 q4
   rw [← show n.kids[i].av = n.kids[i].ex from congrFun Nd.av_ex _] at hx
   refine igo_map i rfl hlt (.pure [Wk.av { w with last := l, cost := c }, .slice 9 (sc.map Rp.av), n.kids[i].av, eB body] _ rfl hx ⟨by kernel_rfl, ?_⟩)
   refine bgo_split (fun hd => ?_) (fun hd => ?_)
   · exact ⟨_, _, rfl, rfl, l', c', nd0, 0, rfl, by omega, by omega, by omega, by omega⟩
   · have hd : ¬ c' > 4000 := of_decide_eq_false hd
     refine igo_map j rfl hj (igo_map i rfl hlt2 ?_)
     refine ⟨rfl, ⟨by simp; omega, by simp; omega⟩, by kernel_rfl, ngo_in (by omega) (by omega) ⟨(i + 1, l', c', own ++ [⟨w.sp.preds[j].params[i].name, ⟨#[]⟩, true, n', sz⟩]), ⟨by dsimp only; omega, by dsimp only; omega, by dsimp only; omega, fun x hx => ?_, by simp; omega⟩, by dsimp only; omega, ?_⟩⟩
     · rcases List.mem_append.1 hx with hx | hx
       · exact hok x hx
       · obtain rfl := List.mem_singleton.1 hx
         exact ⟨q3, by dsimp only; omega⟩
     · dsimp only
       rw [List.map_append]
       exact .of
 · obtain ⟨j, rfl⟩ := Int.eq_ofNat_of_zero_le hp0
   have hj : j < w.sp.preds.length := by omega
   dsimp only at h1 h2 hok hol ⊢
   obtain ⟨y, ⟨l', c', n', sz, rfl, q1, q2, q3, q4⟩, hx⟩ := IH { w with last := l, cost := c } own w.sp.preds[j].body true rfl rfl (by dsimp only; omega) h2 hok (by dsimp only; omega)
   dsimp only at q1 q4
   refine igo_map j rfl hj (.pure [Wk.av { w with last := l, cost := c }, .slice 9 (own.map Rp.av), w.sp.preds[j].body.ex, eB true] _ rfl hx ⟨by kernel_rfl, ?_⟩)
   exact ⟨_, _, rfl, rfl, l', c', n', sz, rfl, by omega, by omega, by omega, by omega⟩
set_option maxHeartbeats 4000000 in
theorem expand04 (s : Spc) (hfit : s.Fit) (hfew : s.Few) : ∀ (k : Nat) (w : Wk) (sc : List Rp) (n : Nd) (body : Bool), w.sp = s → w.taken.length ≤ 10000000 → 0 ≤ w.cost → w.cost ≤ 4000 → 4000 - w.cost < k → scOk sc → sc.length + 2 * (4000 - w.cost) ≤ 20000 → ∃ y, ExpR w y ∧ AFun Tryz.prog 171 [w.av, .slice 9 (sc.map Rp.av), n.ex, eB body] y := by
 intro k
 induction k with
 | zero => intro w sc n body _ _ _ _ h; omega
 | succ k ih =>
  intro w sc n body hsp htk hc0 hc4 hk hsc hscl
  have hkl : (n.kids.map Nd.av).length = n.kids.length := List.length_map _
  refine AFunE.intro hT Tryz.func171 rfl rfl (by simp) ⟨_, 0, w.cost + 1, n, 0, rfl, by omega, by omega, by omega, by omega⟩ (AD.run hT hmix ?_)
  refine ngo_in (by omega) (by omega) ?_
  refine bgo_split (fun hb => ⟨_, _, rfl, rfl, w.last, w.cost + 1, nd0, 0, rfl, by omega, by omega, by omega, by omega⟩) (fun hb => ?_)
  replace hb := of_decide_eq_false hb
  refine bgo_split (fun h1 => ?_) (fun h1 => ?_)
  · obtain ⟨y, ⟨l', c', n', sz, rfl, q1, q2, q3, q4⟩, hx⟩ := leaf04 { w with last := w.last, cost := w.cost + 1 } sc hsc n ⟨by dsimp only; omega, by dsimp only; omega⟩
    dsimp only at q1 q4
    refine .pure [Wk.av { w with last := w.last, cost := w.cost + 1 }, .slice 9 (sc.map Rp.av), n.ex] _ rfl hx ?_
    exact ⟨_, _, rfl, rfl, l', c', n', sz, rfl, by omega, by omega, by omega, by omega⟩
  refine bgo_split (fun h2 => ?_) (fun h2 => ?_)
  · obtain ⟨y, ⟨l', c', n', sz, rfl, q1, q2, q3, q4⟩, hx⟩ := replace04 { w with last := w.last, cost := w.cost + 1 } sc hsc n body ⟨by dsimp only; omega, by dsimp only; omega⟩ (by dsimp only; omega) (fun w2 sc2 n2 b2 e1 e2 e3 e4 e5 e6 => ih w2 sc2 n2 b2 (e1.trans hsp) (by rw [e2]; exact htk) (by dsimp only at e3; omega) e4 (by dsimp only at e3; omega) e5 e6)
    dsimp only at q1 q4
    refine .pure [Wk.av { w with last := w.last, cost := w.cost + 1 }, .slice 9 (sc.map Rp.av), n.ex, eB body] _ rfl hx ?_
    exact ⟨_, _, rfl, rfl, l', c', n', sz, rfl, by omega, by omega, by omega, by omega⟩
  refine AD.loopI (fun x : Nat × Int × Int × List Rp × ByteArray × List Nd × Int => x.1 ≤ n.kids.length ∧ w.cost + 1 + x.1 ≤ x.2.2.1 ∧ x.2.2.1 ≤ 4000 ∧ scOk x.2.2.2.1 ∧ (x.1 ≤ 1 → x.2.2.2.1.length = sc.length) ∧ x.2.2.2.1.length ≤ sc.length + 1 ∧ x.2.2.2.2.2.1.length = x.1 ∧ 1 ≤ x.2.2.2.2.2.2 ∧ x.2.2.2.2.2.2 ≤ x.2.2.1 - w.cost) (fun x => n.kids.length - x.1) (fun x => [(1, .p (.slice 9 (x.2.2.2.1.map Rp.av))), (3, .p (eB body)), (4, .loc 4 0), (6, .loc 6 0), (8, .loc 8 0), (9, .loc 9 0), (11, .loc 11 0), (12, .p (eI x.2.2.2.2.2.2)), (13, eint .i64 x.1)]) (fun x => [(4, .box 250 ((Wk.cs { w with last := x.2.1, cost := x.2.2.1 }).map .p)), (6, .box 35 ([eI n.op, eS n.name, eI n.n, .slice 5 (n.kids.map Nd.av), eI n.at_].map .p)), (8, .box 250 [.full 2 [], .full 3 [], .full 7 [], .full 6 [], .full 1 [], .p (eI 0), .p (eI 0)]), (9, .box 35 [.p (eI 0), .p (eS ⟨#[]⟩), .p (eI 0), .full 5 [], .p (eI 0)]), (11, .box 35 [.p (eI n.op), .p (eS x.2.2.2.2.1), .p (eI n.n), .own 5 (x.2.2.2.2.2.1.map Nd.ex) 130, .p (eI n.at_)]), (130, .tail (x.2.2.2.2.2.1.map Nd.ex).length)]) (0, w.last, w.cost + 1, sc, n.name, [], 1) ⟨Nat.zero_le _, by dsimp only; omega, by dsimp only; omega, hsc, fun _ => rfl, by dsimp only; omega, rfl, Int.le_refl _, by dsimp only; omega⟩ .of fun ⟨i, l, c, sc1, nm, ks, size⟩ ⟨hi, c1, c2, hok, hse, hsl, hks, z1, z2⟩ => AD.cut hT hmix 21 (fun x : Int × ByteArray × List Rp => i < n.kids.length ∧ scOk x.2.2 ∧ (i = 0 → x.2.2.length = sc.length) ∧ x.2.2.length ≤ sc.length + 1) (fun x => [(1, .p (.slice 9 (x.2.2.map Rp.av))), (3, .p (eB body)), (4, .loc 4 0), (6, .loc 6 0), (8, .loc 8 0), (9, .loc 9 0), (11, .loc 11 0), (12, .p (eI size)), (13, eint .i64 i)]) (fun x => [(4, .box 250 ((Wk.cs { w with last := x.1, cost := c }).map .p)), (6, .box 35 ([eI n.op, eS n.name, eI n.n, .slice 5 (n.kids.map Nd.av), eI n.at_].map .p)), (8, .box 250 [.full 2 [], .full 3 [], .full 7 [], .full 6 [], .full 1 [], .p (eI 0), .p (eI 0)]), (9, .box 35 [.p (eI 0), .p (eS ⟨#[]⟩), .p (eI 0), .full 5 [], .p (eI 0)]), (11, .box 35 [.p (eI n.op), .p (eS x.2.1), .p (eI n.n), .own 5 (ks.map Nd.ex) 130, .p (eI n.at_)]), (130, .tail (ks.map Nd.ex).length)]) ?_ fun ⟨l, nm, sc1⟩ ⟨hlt, hok, hse, hsl⟩ => AD.run hT hmix ?_
  · dsimp only at hi c1 c2 hok hse hsl hks z1 z2 ⊢
    intro _
    refine bgo_split (fun hb2 => ?_) (fun hb2 => ?_)
    · replace hb2 := of_decide_eq_true hb2
      have hlt : i < n.kids.length := by omega
      refine bgo_split (fun hi1 => ?_) (fun hi1 => ⟨(l, nm, sc1), ⟨hlt, hok, fun h => hse (by omega), hsl⟩, .of⟩)
      have hi1 : i = 1 := by have := beq_iff_eq.1 hi1; omega
      refine bgo_split (fun ho => ?_) (fun ho => ?_)
      · skip
        obtain ⟨y, ⟨a, f, kk, rfl, hf, _⟩, hn⟩ := named04 w.sp (by rw [hsp]; exact hfit.n1) (by rw [hsp]; have := hfit.n2; omega) (by rw [hsp]; exact hfit.fld) (by rw [hsp]; exact hfew.nm) n.name
        refine .pure [w.sp.ex, eS n.name] _ rfl hn ?_
        refine bgo_true (by rw [Bool.and_eq_true, Bool.and_eq_true]; exact ⟨len_beq hf, rfl, rfl⟩) ?_
        generalize hy : setSeg _ _ ((setav a f).cells.map EV.p) = y
        clear hy
        refine bgo_split (fun hd => ?_) (fun hd => ?_)
        · skip
          obtain ⟨l2, s2, hs2, hff⟩ := fresh04 { w with last := l, cost := c } (by rw [hsp]; exact hfit) (by rw [hsp]; exact hfew) htk
          refine .pure [Wk.av { w with last := l, cost := c }] _ rfl hff ?_
          refine ⟨⟨by simp; omega, by simp; omega⟩, by simp, ⟨by simp; omega, by simp; omega⟩, by kernel_rfl, (l2, s2, sc1 ++ [⟨n.name, s2, false, nd0, 0⟩]), ⟨hlt, fun x hx => ?_, fun h => (by omega), by have := hse (by omega); simp; omega⟩, ?_⟩
          · rcases List.mem_append.1 hx with hx | hx
            · exact hok x hx
            · obtain rfl := List.mem_singleton.1 hx
              exact ⟨Int.le_refl _, by show (0 : Int) ≤ 4000; decide⟩
          · dsimp only
            rw [List.map_append]
            exact .of
        refine bgo_split (fun he => ?_) (fun he => ?_)
        · skip
          obtain ⟨l2, s2, hs2, hff⟩ := fresh04 { w with last := l, cost := c } (by rw [hsp]; exact hfit) (by rw [hsp]; exact hfew) htk
          refine .pure [Wk.av { w with last := l, cost := c }] _ rfl hff ?_
          refine ⟨⟨by simp; omega, by simp; omega⟩, by simp, ⟨by simp; omega, by simp; omega⟩, by kernel_rfl, (l2, s2, sc1 ++ [⟨n.name, s2, false, nd0, 0⟩]), ⟨hlt, fun x hx => ?_, fun h => (by omega), by have := hse (by omega); simp; omega⟩, ?_⟩
          · rcases List.mem_append.1 hx with hx | hx
            · exact hok x hx
            · obtain rfl := List.mem_singleton.1 hx
              exact ⟨Int.le_refl _, by show (0 : Int) ≤ 4000; decide⟩
          · dsimp only
            rw [List.map_append]
            exact .of
        exact ⟨(l, nm, sc1), ⟨hlt, hok, fun h => hse (by omega), hsl⟩, .of⟩
      refine bgo_split (fun ho => ?_) (fun ho => ?_)
      · skip
        obtain ⟨y, ⟨a, f, kk, rfl, hf, _⟩, hn⟩ := named04 w.sp (by rw [hsp]; exact hfit.n1) (by rw [hsp]; have := hfit.n2; omega) (by rw [hsp]; exact hfit.fld) (by rw [hsp]; exact hfew.nm) n.name
        refine .pure [w.sp.ex, eS n.name] _ rfl hn ?_
        refine bgo_true (by rw [Bool.and_eq_true, Bool.and_eq_true]; exact ⟨len_beq hf, rfl, rfl⟩) ?_
        generalize hy : setSeg _ _ ((setav a f).cells.map EV.p) = y
        clear hy
        refine bgo_split (fun hd => ?_) (fun hd => ?_)
        · skip
          obtain ⟨l2, s2, hs2, hff⟩ := fresh04 { w with last := l, cost := c } (by rw [hsp]; exact hfit) (by rw [hsp]; exact hfew) htk
          refine .pure [Wk.av { w with last := l, cost := c }] _ rfl hff ?_
          refine ⟨⟨by simp; omega, by simp; omega⟩, by simp, ⟨by simp; omega, by simp; omega⟩, by kernel_rfl, (l2, s2, sc1 ++ [⟨n.name, s2, false, nd0, 0⟩]), ⟨hlt, fun x hx => ?_, fun h => (by omega), by have := hse (by omega); simp; omega⟩, ?_⟩
          · rcases List.mem_append.1 hx with hx | hx
            · exact hok x hx
            · obtain rfl := List.mem_singleton.1 hx
              exact ⟨Int.le_refl _, by show (0 : Int) ≤ 4000; decide⟩
          · dsimp only
            rw [List.map_append]
            exact .of
        refine bgo_split (fun he => ?_) (fun he => ?_)
        · skip
          obtain ⟨l2, s2, hs2, hff⟩ := fresh04 { w with last := l, cost := c } (by rw [hsp]; exact hfit) (by rw [hsp]; exact hfew) htk
          refine .pure [Wk.av { w with last := l, cost := c }] _ rfl hff ?_
          refine ⟨⟨by simp; omega, by simp; omega⟩, by simp, ⟨by simp; omega, by simp; omega⟩, by kernel_rfl, (l2, s2, sc1 ++ [⟨n.name, s2, false, nd0, 0⟩]), ⟨hlt, fun x hx => ?_, fun h => (by omega), by have := hse (by omega); simp; omega⟩, ?_⟩
          · rcases List.mem_append.1 hx with hx | hx
            · exact hok x hx
            · obtain rfl := List.mem_singleton.1 hx
              exact ⟨Int.le_refl _, by show (0 : Int) ≤ 4000; decide⟩
          · dsimp only
            rw [List.map_append]
            exact .of
        exact ⟨(l, nm, sc1), ⟨hlt, hok, fun h => hse (by omega), hsl⟩, .of⟩
      refine bgo_split (fun ho => ?_) (fun ho => ⟨(l, nm, sc1), ⟨hlt, hok, fun h => hse (by omega), hsl⟩, .of⟩)
      · skip
        obtain ⟨y, ⟨a, f, kk, rfl, hf, _⟩, hn⟩ := named04 w.sp (by rw [hsp]; exact hfit.n1) (by rw [hsp]; have := hfit.n2; omega) (by rw [hsp]; exact hfit.fld) (by rw [hsp]; exact hfew.nm) n.name
        refine .pure [w.sp.ex, eS n.name] _ rfl hn ?_
        refine bgo_true (by rw [Bool.and_eq_true, Bool.and_eq_true]; exact ⟨len_beq hf, rfl, rfl⟩) ?_
        generalize hy : setSeg _ _ ((setav a f).cells.map EV.p) = y
        clear hy
        refine bgo_split (fun hd => ?_) (fun hd => ?_)
        · skip
          obtain ⟨l2, s2, hs2, hff⟩ := fresh04 { w with last := l, cost := c } (by rw [hsp]; exact hfit) (by rw [hsp]; exact hfew) htk
          refine .pure [Wk.av { w with last := l, cost := c }] _ rfl hff ?_
          refine ⟨⟨by simp; omega, by simp; omega⟩, by simp, ⟨by simp; omega, by simp; omega⟩, by kernel_rfl, (l2, s2, sc1 ++ [⟨n.name, s2, false, nd0, 0⟩]), ⟨hlt, fun x hx => ?_, fun h => (by omega), by have := hse (by omega); simp; omega⟩, ?_⟩
          · rcases List.mem_append.1 hx with hx | hx
            · exact hok x hx
            · obtain rfl := List.mem_singleton.1 hx
              exact ⟨Int.le_refl _, by show (0 : Int) ≤ 4000; decide⟩
          · dsimp only
            rw [List.map_append]
            exact .of
        refine bgo_split (fun he => ?_) (fun he => ?_)
        · skip
          obtain ⟨l2, s2, hs2, hff⟩ := fresh04 { w with last := l, cost := c } (by rw [hsp]; exact hfit) (by rw [hsp]; exact hfew) htk
          refine .pure [Wk.av { w with last := l, cost := c }] _ rfl hff ?_
          refine ⟨⟨by simp; omega, by simp; omega⟩, by simp, ⟨by simp; omega, by simp; omega⟩, by kernel_rfl, (l2, s2, sc1 ++ [⟨n.name, s2, false, nd0, 0⟩]), ⟨hlt, fun x hx => ?_, fun h => (by omega), by have := hse (by omega); simp; omega⟩, ?_⟩
          · rcases List.mem_append.1 hx with hx | hx
            · exact hok x hx
            · obtain rfl := List.mem_singleton.1 hx
              exact ⟨Int.le_refl _, by show (0 : Int) ≤ 4000; decide⟩
          · dsimp only
            rw [List.map_append]
            exact .of
        exact ⟨(l, nm, sc1), ⟨hlt, hok, fun h => hse (by omega), hsl⟩, .of⟩
    · have hz : (Nd.mk n.op nm n.n ks n.at_).ex = .agg [eI n.op, eS nm, eI n.n, .slice 5 (ks.map Nd.ex), eI n.at_] := by
       show AV.agg [eI n.op, eS nm, eI n.n, .slice 5 (ks.map Nd.av), eI n.at_] = _
       rw [Nd.av_ex]
      exact ⟨by kernel_rfl, _, _, rfl, rfl, l, c, .mk n.op nm n.n ks n.at_, size, by rw [hz]; rfl, by omega, by omega, by omega, by omega⟩
  · dsimp only at hlt hok hse hsl hks c1 c2 z1 z2 ⊢
    have hkm : (ks.map Nd.ex).length = ks.length := List.length_map _
    obtain ⟨y, ⟨l', c', n', sz, rfl, q1, q2, q3, q4⟩, hx⟩ := ih { w with last := l, cost := c } sc1 n.kids[i] body hsp htk (by dsimp only; omega) c2 (by dsimp only; omega) hok (by dsimp only; omega)
    dsimp only at q1 q4
    rw [← show n.kids[i].av = n.kids[i].ex from congrFun Nd.av_ex _] at hx
    refine igo_map i rfl hlt (.pure [Wk.av { w with last := l, cost := c }, .slice 9 (sc1.map Rp.av), n.kids[i].av, eB body] _ rfl hx ⟨by kernel_rfl, ?_⟩)
    refine bgo_split (fun hd => ?_) (fun hd => ?_)
    · exact ⟨_, _, rfl, rfl, l', c', nd0, 0, rfl, by omega, by omega, by omega, by omega⟩
    · have hd : ¬ c' > 4000 := of_decide_eq_false hd
      refine ⟨rfl, ⟨by simp; omega, by simp; omega⟩, ngo_in (by omega) (by omega) (AD.run hT hmix (ngo_in (by omega) (by omega) ⟨(i + 1, l', c', sc1, nm, ks ++ [n'], size + sz), ⟨by dsimp only; omega, by dsimp only; omega, by dsimp only; omega, hok, fun h => hse (by omega), hsl, by simp; omega, by dsimp only; omega, by dsimp only; omega⟩, by dsimp only; omega, ?_⟩))⟩
      dsimp only
      rw [List.map_append]
      exact .of
def InlR (y : EV) : Prop := ∃ (n' : Nd) (e : Int), y = .tup [.p n'.ex, .p (eI e)]
set_option maxHeartbeats 1000000 in
theorem inline04 (s : Spc) (hfit : s.Fit) (hfew : s.Few) (n : Nd) (hw : n.WF) (hsz : n.sz ≤ 1048576) : ∃ y, InlR y ∧ AFun Tryz.prog 105 [s.ex, n.ex] y := by
 refine AFunE.intro hT Tryz.func105 rfl rfl (by simp) ⟨_, nd0, 0, rfl⟩ (AD.run hT hmix ?_)
 obtain ⟨e, p, he, hf⟩ := checkFormula04 s hfit hfew.nm [] ⟨by simp, nofun⟩ n hw hsz
 refine .pure [s.ex, .slice 2 [], n.ex] _ rfl hf ?_
 refine bgo_split (fun hb => ⟨by kernel_rfl, _, _, rfl, rfl, nd0, e, rfl⟩) (fun hb => ?_)
 have hc := hasCall04 n
 rw [Nd.av_ex] at hc
 refine .pure [n.ex] _ rfl hc ?_
 refine bgo_split (fun hb2 => ⟨_, _, rfl, rfl, n, 0, rfl⟩) (fun hb2 => ?_)
 obtain ⟨tl, htl, htf⟩ := taken04 s hfit hfew n hsz
 refine .pure [s.ex, n.ex] _ rfl htf ?_
 obtain ⟨y, ⟨l', c', n', sz, rfl, _⟩, hx⟩ := expand04 s hfit hfew 4001 ⟨s, tl, 0, 0⟩ [] n false rfl htl (Int.le_refl _) (by show (0 : Int) ≤ 4000; decide) (by show (4000 : Int) - 0 < _; decide) nofun (by show (0 : Int) + 2 * (4000 - 0) ≤ 20000; decide)
 refine .pure [Wk.av ⟨s, tl, 0, 0⟩, .slice 9 [], n.ex, eB false] _ rfl hx ⟨by kernel_rfl, ?_⟩
 refine bgo_split (fun h1 => ⟨_, _, rfl, rfl, nd0, 2, rfl⟩) (fun h1 => ?_)
 refine bgo_split (fun h2 => ⟨_, _, rfl, rfl, nd0, 2, rfl⟩) (fun h2 => ?_)
 obtain ⟨d, hd⟩ := depth04 n'
 refine .pure [n'.ex] _ rfl hd ?_
 exact bgo_split (fun h3 => ⟨_, _, rfl, rfl, nd0, 2, rfl⟩) (fun h3 => ⟨_, _, rfl, rfl, n', 0, rfl⟩)
theorem light08 (s : Spc) (hfit : s.Fit) (hfew : s.Few) (at_ st : Int) (ha : 0 ≤ at_ ∧ at_ ≤ 12) (hst : 0 ≤ st ∧ st ≤ 4) (n : Nd) (hw : n.WF) (hsz : n.sz ≤ 1048576) : ∃ b : Bool, AFun Tryz.prog 54 [s.ex, eI at_, eI st, n.ex] (.p (eB b)) := by
 suffices hh : ∃ y, (∃ b : Bool, y = .p (eB b)) ∧ AFun Tryz.prog 54 [s.ex, eI at_, eI st, n.ex] y by
  obtain ⟨y, ⟨b, rfl⟩, hf⟩ := hh
  exact ⟨b, hf⟩
 have hfl : (s.facts.map Fct.ex).length = s.facts.length := List.length_map _
 have n4 := hfit.n4
 refine AFunE.intro hT Tryz.func54 rfl rfl (by simp) ⟨_, true, rfl⟩ (AD.run hT hmix ?_)
 refine AD.loopI (fun i : Nat => i ≤ s.facts.length + 1) (fun i => s.facts.length + 1 - i) (fun i => [(1, .p (eI at_)), (2, .p (eI st)), (4, .loc 4 0), (7, .loc 7 0), (9, eint .i64 i)]) (fun _ => [(4, .box 27 (s.cx.map .p)), (7, .box 35 ([eI n.op, eS n.name, eI n.n, .slice 5 (n.kids.map Nd.av), eI n.at_].map .p))]) 0 (Nat.zero_le _) .of fun i hi => AD.run hT hmix ?_
 intro _
 refine bgo_split (fun hb => ?_) (fun hb => ⟨_, _, rfl, rfl, _, rfl⟩)
 replace hb := of_decide_eq_true hb
 intro _
 refine bgo_split (fun hc => ?_) (fun hc => ?_)
 · replace hc := of_decide_eq_true hc
   have hlt : i < s.facts.length := by omega
   refine igo_map i rfl hlt ?_
   obtain ⟨y, ⟨n', e, rfl⟩, hx⟩ := inline04 s hfit hfew s.facts[i].body (hfit.fct _ (List.getElem_mem hlt)) (hfew.fct _ (List.getElem_mem hlt))
   refine .pure [s.ex, (s.facts[i].body).ex] _ rfl hx ?_
   refine bgo_split (fun h1 => ?_) (fun h1 => ?_)
   · obtain ⟨r, hr, hwf⟩ := work08 n' at_ st ha hst
     refine .pure [n'.ex, eI at_, eI st] _ rfl hwf ?_
     refine bgo_split (fun h2 => ⟨_, _, rfl, rfl, _, rfl⟩) (fun h2 => ?_)
     exact ngo_in (by omega) (by omega) ⟨i + 1, by omega, by omega, .of⟩
   · exact ngo_in (by omega) (by omega) ⟨i + 1, by omega, by omega, .of⟩
 · skip
   obtain ⟨y, ⟨n', e, rfl⟩, hx⟩ := inline04 s hfit hfew n hw hsz
   refine .pure [s.ex, (n).ex] _ rfl hx ?_
   refine bgo_split (fun h1 => ?_) (fun h1 => ?_)
   · obtain ⟨r, hr, hwf⟩ := work08 n' at_ st ha hst
     refine .pure [n'.ex, eI at_, eI st] _ rfl hwf ?_
     refine bgo_split (fun h2 => ⟨_, _, rfl, rfl, _, rfl⟩) (fun h2 => ?_)
     exact ngo_in (by omega) (by omega) ⟨i + 1, by omega, by omega, .of⟩
   · exact ngo_in (by omega) (by omega) ⟨i + 1, by omega, by omega, .of⟩
structure Cse where
 sp : Spc
 sc : Scope
 raw : List (List Int)
 n : Nd
 picks : List (List Bool)
 loop : Int
def Nd.ecs (n : Nd) : List AV := [eI n.op, eS n.name, eI n.n, .slice 5 (n.kids.map Nd.av), eI n.at_]
def Cse.cs (x : Cse) : List AV := x.sp.cx ++ x.sc.cs ++ [rawav x.raw] ++ x.n.ecs ++ [pick2 x.picks, eU8 x.loop]
def Cse.av (x : Cse) : AV := .agg x.cs
def mdl0 : Mdl := ⟨⟨[], 0⟩, [], 0⟩
structure AnyM (x : Cse) (m : Mdl) : Prop where
 scope : m.scope = x.sc
 len : (m.states.length : Int) = x.sc.steps
 loop : 0 ≤ m.loop ∧ m.loop < x.sc.steps
 st : ∀ st ∈ m.states, StateIn (dflt x.sc (sumI x.sc.atoms).toNat x.sp.fields) st
structure Usable (x : Cse) (m : Mdl) : Prop where
 fit : x.sp.Fit
 fit9 : x.sp.Fit9 x.sc
 five : sumI x.sc.atoms ≤ 5
 wf : x.n.WF
 acc : x.sp.Acc
 form : 30 ≤ x.n.op ∧ ∃ a, Ex x.sp false [] x.n a
 any : AnyM x m
def MadeR (x : Cse) (y : EV) : Prop := ∃ (bs : List Bnd) (m : Mdl) (b : Bool), y = .tup [.p (.slice 4 (bs.map Bnd.av)), .p (Mdl.av m), .p (eB b)] ∧ (b = true → Usable x m)
theorem MadeR.no (x : Cse) : MadeR x (.tup [.p (.slice 4 []), .p mdl0.av, .p (eB false)]) := ⟨[], mdl0, false, rfl, fun h => by cases h⟩
theorem scopeOk {s : Spc} {sc : Scope} (h : s.Fit9 sc) : ScopeOk sc (sumI sc.atoms).toNat := by
 have hsm := h.sz.small
 have h0 : 1 ≤ sumI sc.atoms := by
  have hs1 := h.s1
  have hl := h.len
  obtain ⟨a, r, hq⟩ : ∃ a r, sc.atoms = a :: r := by
   cases hq : sc.atoms with
   | nil => rw [hq] at hl; rw [hl] at hs1; exact absurd hs1 (by simp)
   | cons a r => exact ⟨a, r, rfl⟩
  have hp := h.sz.pos
  rw [hq] at hp ⊢
  rw [sumI_cons]
  have h2 := hp a (List.mem_cons_self ..)
  have h3 : 0 ≤ sumI r := sumI_nn fun k hk => hp k (List.mem_cons_of_mem _ hk)
  omega
 exact ⟨hsm, by omega, by omega, by have := h.sz.sum; omega⟩
theorem fieldsOk {s : Spc} {sc : Scope} (h : s.Fit9 sc) (hf : s.Fit) : FieldsOk s sc := ⟨hf.n2, fun f hfm => ⟨(hf.fld f hfm).1, fun x hx => by have := (hf.fld f hfm).2 x hx; rw [h.len] at this; exact this⟩⟩
theorem dflt_low {sc : Scope} {N : Nat} {l : List Fld} : ∀ b ∈ dflt sc N l, b.lower.tuples = [] := fun b hb => by
 obtain ⟨f, _, rfl⟩ := List.mem_map.1 hb; rfl
theorem dflt_up {s : Spc} {sc : Scope} {N : Nat} (h : ScopeOk sc N) (hf : s.Fit) : ∀ b ∈ dflt sc N s.fields, b.upper.tuples.length ≤ 1728 := fun b hb => by
 obtain ⟨f, hfm, rfl⟩ := List.mem_map.1 hb
 exact fullR_le sc N h f (hf.fld f hfm).1.2
theorem anyM (x : Cse) (hfit : x.sp.Fit) (hfit9 : x.sp.Fit9 x.sc) (hlp : 0 ≤ x.loop ∧ x.loop < 256) : ∃ m, AnyM x m ∧ AFun Tryz.prog 22 [x.sp.ex, x.sc.av, .slice 4 ((dflt x.sc (sumI x.sc.atoms).toNat x.sp.fields).map Bnd.av), pick2 x.picks, .imm (.int .u8 x.loop)] (.p (Mdl.av m)) := by
 have hl : (dflt x.sc (sumI x.sc.atoms).toNat x.sp.fields).length = x.sp.fields.length := List.length_map _
 obtain ⟨m, ⟨h1, h2, h3, h4⟩, hf⟩ := any25 x.sp x.sc (dflt x.sc (sumI x.sc.atoms).toNat x.sp.fields) (by rw [hl]; exact hfit.n2) (by rw [hl]; exact Nat.le_refl _) dflt_low (dflt_up (scopeOk hfit9) hfit) x.picks x.loop hlp hfit9.sz.steps
 exact ⟨m, ⟨h1, h2, h3, h4⟩, hf⟩
theorem made25 (x : Cse) (hfew : x.sp.Few) (hsz : x.n.sz ≤ 1048576) (hlp : 0 ≤ x.loop ∧ x.loop < 256) : ∃ y, MadeR x y ∧ AFun Tryz.prog 21 [x.av] y := by
 refine AFunE.intro hT Tryz.func21 rfl rfl (by simp) ⟨_, MadeR.no x⟩ (AD.run hT hmix ?_)
 obtain ⟨b1, g1, c1⟩ := fits04 x.sp
 refine .pure [x.sp.ex] _ rfl c1 ?_
 cases b1 with
 | false => exact ⟨by kernel_rfl, _, _, rfl, rfl, MadeR.no x⟩
 | true =>
 obtain ⟨b2, g2, c2⟩ := fits09 x.sp x.sc
 refine .pure [x.sp.ex, x.sc.av] _ rfl c2 ?_
 cases b2 with
 | false => exact ⟨by kernel_rfl, _, _, rfl, rfl, MadeR.no x⟩
 | true =>
 have hfit := g1 rfl
 have hfit9 := g2 rfl
 have hsm := hfit9.sz.small
 refine .pure [x.sc.av] _ rfl (atoms07 x.sc hsm) ?_
 refine bgo_split (fun h5 => ⟨by kernel_rfl, _, _, rfl, rfl, MadeR.no x⟩) (fun h5 => ?_)
 replace h5 := of_decide_eq_false h5
 obtain ⟨b3, g3, c3⟩ := validNode02 x.n
 refine .pure [x.n.ex] _ rfl c3 ?_
 cases b3 with
 | false => exact ⟨by kernel_rfl, _, _, rfl, rfl, MadeR.no x⟩
 | true =>
 have hwf := g3 rfl
 obtain ⟨ld, g4, c4⟩ := checkSpec04 x.sp hfit hfew
 refine .pure [x.sp.ex] _ rfl c4 ?_
 intro hln
 refine bgo_split (fun h6 => ⟨by kernel_rfl, _, _, rfl, rfl, MadeR.no x⟩) (fun h6 => ?_)
 replace h6 := of_decide_eq_false h6
 have hacc : x.sp.Acc := g4 (by
  rw [List.length_map] at h6
  exact List.eq_nil_of_length_eq_zero (by omega))
 obtain ⟨e, p, g5, c5⟩ := checkFormula04 x.sp hfit hfew.nm [] ⟨by simp, by simp⟩ x.n hwf hsz
 refine .pure [x.sp.ex, .slice 2 [], x.n.ex] _ rfl c5 ?_
 refine ⟨⟨by kernel_rfl, by kernel_rfl⟩, bgo_split (fun h7 => ⟨by kernel_rfl, _, _, rfl, rfl, MadeR.no x⟩) (fun h7 => ?_)⟩
 have he : e = 0 := by
  simp only [keyB.keyL, Bool.not_eq_false', Bool.and_eq_true] at h7
  exact of_decide_eq_true h7.1
 refine .pure [x.sc.av] _ rfl (atoms07 x.sc hsm) ?_
 have h0 : 0 ≤ sumI x.sc.atoms := by have := hsm.sum x.sc.atoms.length (Nat.le_refl _); rw [List.take_length] at this; exact this.1
 obtain ⟨b6, c6⟩ := light08 x.sp hfit hfew (sumI x.sc.atoms) x.sc.steps ⟨h0, by omega⟩ ⟨by have := hfit9.sz.steps; omega, hfit9.sz.steps.2⟩ x.n hwf hsz
 refine .pure [x.sp.ex, eI (sumI x.sc.atoms), eI x.sc.steps, x.n.ex] _ rfl c6 ?_
 cases b6 with
 | false => exact ⟨by kernel_rfl, _, _, rfl, rfl, MadeR.no x⟩
 | true =>
 refine ⟨by kernel_rfl, ?_⟩
 have hso := scopeOk hfit9
 have hfo := fieldsOk hfit9 hfit
 obtain ⟨bs, ⟨hb1, hb2⟩, c7⟩ := made09 x.sp x.sc _ hso hfo x.raw
 have hn6 := hfit.n2
 obtain ⟨es, c8⟩ := choices25 x.sp x.sc bs (by omega) (by omega) hb2
 have c9 := default09 x.sp x.sc _ hso hfo
 rw [Spc.av_ex] at c9
 obtain ⟨m, hany, c10⟩ := anyM x hfit hfit9 hlp
 refine .pure [x.sp.ex, x.sc.av, rawav x.raw] _ rfl c7 (.pure [x.sp.ex, x.sc.av, .slice 4 (bs.map Bnd.av)] _ rfl c8 ?_)
 intro _
 refine bgo_split (fun h8 => ⟨_, _, rfl, rfl, MadeR.no x⟩) (fun h8 => ?_)
 refine .pure [x.sp.ex, x.sc.av] _ rfl c9 (.pure [x.sp.ex, x.sc.av, .slice 4 ((dflt x.sc (sumI x.sc.atoms).toNat x.sp.fields).map Bnd.av), pick2 x.picks, .imm (.int .u8 x.loop)] _ rfl c10 ⟨by kernel_rfl, _, _, rfl, rfl, bs, m, true, rfl, fun _ => ⟨hfit, hfit9, by omega, hwf, hacc, g5 he, hany⟩⟩)
def someN (n : Nd) : Nd := if n.op < 20 then .mk 34 ⟨#[]⟩ 0 [n] 0 else n
theorem someN_R {n : Nd} (h : n.op < 20) : (someN n).ecs = [eI 34, eS ⟨#[]⟩, eI 0, .slice 5 [n.ex], eI 0] := by
 rw [someN, if_pos h, Nd.ecs, Nd.av_ex]; rfl
theorem someN_F {n : Nd} (h : ¬ n.op < 20) : (someN n).ecs = [eI n.op, eS n.name, eI n.n, .slice 5 (n.kids.map Nd.av), eI n.at_] := by
 rw [someN, if_neg h]; rfl
theorem someN_sz (n : Nd) : (someN n).sz ≤ n.sz + 1 := by
 unfold someN
 split
 · simp [Nd.sz, Nd.szs]; omega
 · omega
def Cse.wn (x : Cse) (n : Nd) : Cse := { x with n := n }
def MadeR14 (x : Cse) (n : Nd) (y : EV) : Prop := ∃ (m : Mdl) (b : Bool), y = .tup [.p m.av, .p (eB b)] ∧ (b = true → n.hasCall = false ∧ Usable (x.wn (someN n)) m)
theorem MadeR14.no (x : Cse) (n : Nd) : MadeR14 x n (.tup [.p mdl0.av, .p (eB false)]) := ⟨mdl0, false, rfl, fun h => by cases h⟩
set_option maxHeartbeats 2000000 in
theorem madeR14P (x : Cse) (n : Nd) (hfew : x.sp.Few) (hsz : n.sz + 1 ≤ 1048576) (hlp : 0 ≤ x.loop ∧ x.loop < 256) : ∃ y, MadeR14 x n y ∧ AFun Tryz.prog 6 [x.av, n.ex] y := by
 refine AFunE.intro hT Tryz.func6 rfl rfl (by simp) ⟨_, MadeR14.no x n⟩ ?_
 refine AD.cut hT hmix 4 (fun cs : List AV => cs = (someN n).ecs) (fun cs => [(2, .loc 2 0), (3, .loc 3 0), (4, .loc 4 0), (5, .p (eB false)), (6, .loc 6 0)])
  (fun cs => [(2, .box 38 (x.cs.map .p)), (3, .box 35 (n.ecs.map .p)), (4, .box 43 (mdl0.cs.map .p)), (6, .box 35 (cs.map .p))]) ?_ fun cs hcs => ?_
 · refine bgo_split (fun hb => ?_) (fun hb => ?_)
   · exact ⟨[eI 34, eS ⟨#[]⟩, eI 0, .slice 5 [n.ex], eI 0], (someN_R (of_decide_eq_true hb)).symm, .of⟩
   · exact ⟨[eI n.op, eS n.name, eI n.n, .slice 5 (n.kids.map Nd.av), eI n.at_], (someN_F (of_decide_eq_false hb)).symm, .of⟩
 · subst hcs
   have c1 := hasCall04 n
   rw [Nd.av_ex] at c1
   have hs2 := someN_sz n
   obtain ⟨y, ⟨bs, m0, b, rfl, hb⟩, c2⟩ := made25 (x.wn (someN n)) hfew (by show (someN n).sz ≤ _; omega) hlp
   refine AD.run hT hmix (.pure [n.ex] _ rfl c1 ?_)
   refine bgo_split (fun hc => ⟨_, _, rfl, rfl, MadeR14.no x n⟩) (fun hc => ?_)
   refine .pure [(x.wn (someN n)).av] _ rfl c2 ?_
   cases b with
   | false => exact ⟨_, _, rfl, rfl, MadeR14.no x n⟩
   | true =>
   have hu := hb rfl
   have c9 := default09 x.sp x.sc _ (scopeOk hu.fit9) (fieldsOk hu.fit9 hu.fit)
   rw [Spc.av_ex] at c9
   obtain ⟨m, hany, c10⟩ := anyM (x.wn (someN n)) hu.fit hu.fit9 hlp
   refine .pure [x.sp.ex, x.sc.av] _ rfl c9 ?_
   refine .pure [x.sp.ex, x.sc.av, .slice 4 ((dflt x.sc (sumI x.sc.atoms).toNat x.sp.fields).map Bnd.av), pick2 x.picks, .imm (.int .u8 x.loop)] _ rfl c10 ?_
   refine ⟨by kernel_rfl, ?_⟩
   exact ⟨_, _, rfl, rfl, m, true, rfl, fun _ => ⟨hc, ⟨hu.fit, hu.fit9, hu.five, hu.wf, hu.acc, hu.form, hany⟩⟩⟩
def FixAt (sp : Spc) (s : Scope) (p : List Int) (i : Nat) : Prop := ∃ (q : Nat) (hq : q < sp.sorts.length), sortGo 0 s.atoms i = q ∧ (sp.sorts[q].ordered = true → p[i]? = some (i : Int))
theorem fixed14 (sp : Spc) (s : Scope) (p : List Int) : Gate 8 [sp.av, s.av, ints p] (Perm11 s p ∧ ∀ i < p.length, FixAt sp s p i) := by
 refine Gate.of Tryz.func8 rfl rfl (by simp) (AD.run hT hmix ?_)
 obtain ⟨b, hF, hU⟩ := valid11 s p
 refine .pure _ _ rfl hU ?_
 cases b with
 | false => exact ⟨_, _, rfl, rfl, false, rfl, by simp⟩
 | true =>
  have hp := hF rfl
  have h12 := hp.most
  have hlen := hp.len
  have hl : (p.map eI).length = p.length := List.length_map _
  have hls : (sp.sorts.map Srt.av).length = sp.sorts.length := List.length_map _
  refine AD.loopI (fun i : Nat => i ≤ p.length ∧ ∀ j < i, FixAt sp s p j) (fun i => p.length - i)
   (fun i => [(2, .p (ints p)), (3, .loc 3 0), (4, .loc 4 0), (7, eint .i64 i)]) (fun _ => [(3, .box 27 (sp.cs.map .p)), (4, .box 30 (s.cs.map .p))]) 0 ⟨Nat.zero_le _, fun _ h => by omega⟩ .of fun i ⟨hi, hg⟩ => AD.run hT hmix ?_
  intro _
  refine bgo_split (fun hb => ?_) (fun hb => ?_)
  · replace hb := of_decide_eq_true hb
    have hlt : i < p.length := by omega
    refine .pure _ _ rfl (sort07 s hp.small i (by omega)) (bgo_split (fun hc => ⟨_, _, rfl, rfl, false, rfl, by simp⟩) (fun hc => ?_))
    replace hc := of_decide_eq_false hc
    intro _
    refine bgo_split (fun hd => ⟨_, _, rfl, rfl, false, rfl, by simp⟩) (fun hd => ?_)
    replace hd := of_decide_eq_false hd
    obtain ⟨q, hq⟩ : ∃ q : Nat, sortGo 0 s.atoms i = q := ⟨(sortGo 0 s.atoms i).toNat, by omega⟩
    have hql : q < sp.sorts.length := by omega
    refine igo_map q hq hql (bgo_split (fun he => ?_) (fun he => ?_))
    · refine igo_map i rfl hlt (bgo_split (fun hf => ⟨_, _, rfl, rfl, false, rfl, by simp⟩) (fun hf => ngo_in (by omega) (by omega) ?_))
      replace hf : p[i] = i := by simpa using hf
      refine ⟨i + 1, ⟨by omega, fun j hj => ?_⟩, by omega, .of⟩
      by_cases hji : j = i
      · subst hji; exact ⟨q, hql, hq, fun _ => by rw [List.getElem?_eq_getElem hlt, hf]⟩
      · exact hg j (by omega)
    · refine ngo_in (by omega) (by omega) ⟨i + 1, ⟨by omega, fun j hj => ?_⟩, by omega, .of⟩
      by_cases hji : j = i
      · subst hji; exact ⟨q, hql, hq, fun h => by rw [h] at he; cases he⟩
      · exact hg j (by omega)
  · replace hb := of_decide_eq_false hb
    obtain rfl : i = p.length := by omega
    exact ⟨_, _, rfl, rfl, true, rfl, fun _ => ⟨hp, hg⟩⟩
end Go.Ab
namespace Go.Ab
open Go Go.Proofs
structure Same (n : Int) (π : Int → Int) (k : Nd) (v w : Val) : Prop where
 r : k.isR → w.r = imgR n π v.r
 i : k.isI → w.i = v.i
 b : k.isF → w.b = v.b
theorem list_all_congr {f g : Int → Bool} {l : List Int} (h : ∀ x ∈ l, f x = g x) : l.all f = l.all g := by
 induction l with
 | nil => rfl
 | cons x r ih => rw [List.all_cons, List.all_cons, h x (List.mem_cons_self ..), ih fun y hy => h y (List.mem_cons_of_mem _ hy)]
theorem list_any_congr {f g : Int → Bool} {l : List Int} (h : ∀ x ∈ l, f x = g x) : l.any f = l.any g := by
 induction l with
 | nil => rfl
 | cons x r ih => rw [List.any_cons, List.any_cons, h x (List.mem_cons_self ..), ih fun y hy => h y (List.mem_cons_of_mem _ hy)]
section
theorem imgE_ok {s : Spc} {m : Mdl} (hm : MOk s m) {π : Int → Int} (hs : Sym s m π) {env : List (ByteArray × Int)} (he : ∀ x ∈ env, 0 ≤ x.2 ∧ x.2 < m.n) {nm : ByteArray} {a : Int} (ha : 0 ≤ a ∧ a < m.n) : ∀ x ∈ env ++ [(nm, a)], 0 ≤ x.2 ∧ x.2 < m.n := fun x hx => by
 rcases List.mem_append.1 hx with hx | hx
 · exact he x hx
 · obtain rfl := List.mem_singleton.1 hx; exact ha
theorem ev_img {s : Spc} {m : Mdl} (hm : MOk s m) {π : Int → Int} (hs : Sym s m π) (n : Nd) : n.WF → n.hasCall = false → ∀ (env : List (ByteArray × Int)) (st a : Int), Ty s (tyE env) n a → 0 ≤ st → st < m.states.length → (∀ x ∈ env, 0 ≤ x.2 ∧ x.2 < m.n) → Same m.n π n (ev s m n st env) (ev s (imgM π m) n st (imgE π env)) := by
 induction n using Nd.ind with
 | h n ih =>
  intro hw hc env st a ht s0 s1 he
  have hno := nc_op hc
  have K : ∀ {k}, k ∈ n.kids → k.WF → ∀ env (st a : Int), Ty s (tyE env) k a → 0 ≤ st → st < m.states.length → (∀ x ∈ env, 0 ≤ x.2 ∧ x.2 < m.n) → Same m.n π k (ev s m k st env) (ev s (imgM π m) k st (imgE π env)) := fun {k} hk w env st a t u0 u1 he => ih k hk w (nc_kid hc hk) env st a t u0 u1 he
  have O : ∀ {k}, k ∈ n.kids → k.WF → k.isR → ∀ {a}, Ty s (tyE env) k a → (ev s m k st env).r.Ok m.n ∧ (ev s m k st env).r.arity = a := fun {k} hk w r {a} t => ev_ok hm k w (nc_kid hc hk) env st a t s0 s1 he r
  have e1 : (imgM π m).n = m.n := rfl
  obtain ⟨n0, n1⟩ := nextSt_ok hm s0 s1
  have hP := pathOf_ok hm s0 s1
  have P : ∀ {k}, k ∈ n.kids → k.WF → k.isF → ∀ {a}, Ty s (tyE env) k a → ∀ t ∈ pathOf m st, (ev s (imgM π m) k t (imgE π env)).b = (ev s m k t env).b := fun {k} hk w f {a} t u hu => (K hk w env u a t (hP u hu).1 (hP u hu).2 he).b f
  have Q : ∀ {k0 k1 b}, n.kids = [k0, k1] → k0.WF → k0.isR → k1.WF → k1.isF → Ty s (tyE env) k0 1 → Ty s (tyE env ++ [(n.name, 1)]) k1 b → ∀ x ∈ (ev s m k0 st env).r.tuples, (ev s (imgM π m) k1 st (imgE π env ++ [(n.name, π x)])).b = (ev s m k1 st (env ++ [(n.name, x)])).b := fun {k0 k1 b} hk w0 r0 w1 f1 t0 t1 x hx => by
   obtain ⟨o, oa⟩ := O (by rw [hk]; simp) w0 r0 t0
   have hr := o.rng x hx
   rw [oa] at hr
   have h2 : x < m.n ^ 1 := hr.2
   rw [Int.pow_succ, Int.pow_zero] at h2
   rw [← imgE_snoc]
   exact (K (by rw [hk]; simp) w1 (env ++ [(n.name, x)]) st b (by rw [tyE_snoc]; exact t1) s0 s1 (imgE_ok hm hs he ⟨hr.1, by omega⟩)).b f1
  have hop := WF_op hw
  have hcase : n.op = 1 ∨ n.op = 2 ∨ n.op = 3 ∨ n.op = 4 ∨ n.op = 5 ∨ n.op = 6 ∨ n.op = 7 ∨ n.op = 8 ∨ n.op = 9 ∨ n.op = 10 ∨ n.op = 11 ∨ n.op = 12 ∨ n.op = 13 ∨ n.op = 14 ∨ n.op = 15 ∨ n.op = 20 ∨ n.op = 21 ∨ n.op = 22 ∨ n.op = 23 ∨ n.op = 30 ∨ n.op = 31 ∨ n.op = 32 ∨ n.op = 33 ∨ n.op = 34 ∨ n.op = 35 ∨ n.op = 36 ∨ n.op = 37 ∨ n.op = 38 ∨ n.op = 39 ∨ n.op = 40 ∨ n.op = 41 ∨ n.op = 42 ∨ n.op = 43 ∨ n.op = 44 ∨ n.op = 45 ∨ n.op = 46 ∨ n.op = 48 ∨ n.op = 49 ∨ n.op = 50 ∨ n.op = 51 := by
   unfold Nd.isR Nd.isI Nd.isF at hop
   obtain ⟨⟨⟨s', h1, _, _⟩, _⟩, _⟩ := (Nd.WF_iff n).1 hw
   unfold shapeOf at h1
   simp only [List.mem_cons, List.not_mem_nil, or_false] at h1
   repeat' split at h1
   all_goals first | omega | cases h1
  rcases hcase with h | h | h | h | h | h | h | h | h | h | h | h | h | h | h | h | h | h | h | h | h | h | h | h | h | h | h | h | h | h | h | h | h | h | h | h | h | h | h | h
  · have hn := ht.inv_name h
    rw [ev_1 h, ev_1 h]
    exact ⟨fun _ => nameVal_img hm hs s0 s1 he hn, fun h => by unfold Nd.isI at h; omega, fun h => by unfold Nd.isF at h; omega⟩
  · obtain ⟨al, _, _, ha⟩ := ht.inv_app (by omega)
    have hnum := ((Nd.WF_iff n).1 hw).1.2.1 h
    rw [ev_2 h, ev_2 h]
    exact ⟨fun _ => img_of hs.prm hm.n12 (empty_ok hm hnum) (empty_ok hm hnum) rfl fun t _ _ => ⟨fun h => (by cases h), fun h => (by cases h)⟩, fun h => by unfold Nd.isI at h; omega, fun h => by unfold Nd.isF at h; omega⟩
  · rw [ev_3 h, ev_3 h]
    exact ⟨fun _ => rUniv_img hs.prm hm.n12, fun h => by unfold Nd.isI at h; omega, fun h => by unfold Nd.isF at h; omega⟩
  · rw [ev_4 h, ev_4 h]
    exact ⟨fun _ => rIden_img hs.prm hm.n12, fun h => by unfold Nd.isI at h; omega, fun h => by unfold Nd.isF at h; omega⟩
  · obtain ⟨k0, hk, w0, r0⟩ := wf_e hw (by omega)
    obtain ⟨a0, t0, ha⟩ := ht.inv_1 (by omega) hk
    have m0 : k0 ∈ n.kids := by rw [hk]; simp
    rw [ev_5 h hk, ev_5 h hk, nextSt_img hm hs]
    exact ⟨fun _ => (K m0 w0 env _ a0 t0 n0 n1 he).r r0, fun h => by unfold Nd.isI at h; omega, fun h => by unfold Nd.isF at h; omega⟩
  · obtain ⟨k0, k1, hk, ⟨w0, r0⟩, w1, r1⟩ := wf_ee hw (by omega)
    obtain ⟨a0, a1, t0, t1, ha⟩ := ht.inv_2 (by omega) hk
    have m0 : k0 ∈ n.kids := by rw [hk]; simp
    have m1 : k1 ∈ n.kids := by rw [hk]; simp
    obtain ⟨o0, e0⟩ := O m0 w0 r0 t0
    obtain ⟨o1, e1'⟩ := O m1 w1 r1 t1
    have s0' := (K m0 w0 env st a0 t0 s0 s1 he).r r0
    have s1' := (K m1 w1 env st a1 t1 s0 s1 he).r r1
    have e := ha.2.2.2.2.1 (by omega)
    simp only [List.cons.injEq, and_true] at e
    rw [ev_6 h hk, ev_6 h hk, s0', s1']
    exact ⟨fun _ => rUnion_img hs.prm hm.n12 o0 o1 (by omega), fun h => by unfold Nd.isI at h; omega, fun h => by unfold Nd.isF at h; omega⟩
  · obtain ⟨k0, k1, hk, ⟨w0, r0⟩, w1, r1⟩ := wf_ee hw (by omega)
    obtain ⟨a0, a1, t0, t1, ha⟩ := ht.inv_2 (by omega) hk
    have m0 : k0 ∈ n.kids := by rw [hk]; simp
    have m1 : k1 ∈ n.kids := by rw [hk]; simp
    obtain ⟨o0, e0⟩ := O m0 w0 r0 t0
    obtain ⟨o1, e1'⟩ := O m1 w1 r1 t1
    have s0' := (K m0 w0 env st a0 t0 s0 s1 he).r r0
    have s1' := (K m1 w1 env st a1 t1 s0 s1 he).r r1
    have e := ha.2.2.2.2.1 (by omega)
    simp only [List.cons.injEq, and_true] at e
    rw [ev_7 h hk, ev_7 h hk, s0', s1']
    exact ⟨fun _ => rInter_img hs.prm hm.n12 o0 o1 (by omega), fun h => by unfold Nd.isI at h; omega, fun h => by unfold Nd.isF at h; omega⟩
  · obtain ⟨k0, k1, hk, ⟨w0, r0⟩, w1, r1⟩ := wf_ee hw (by omega)
    obtain ⟨a0, a1, t0, t1, ha⟩ := ht.inv_2 (by omega) hk
    have m0 : k0 ∈ n.kids := by rw [hk]; simp
    have m1 : k1 ∈ n.kids := by rw [hk]; simp
    obtain ⟨o0, e0⟩ := O m0 w0 r0 t0
    obtain ⟨o1, e1'⟩ := O m1 w1 r1 t1
    have s0' := (K m0 w0 env st a0 t0 s0 s1 he).r r0
    have s1' := (K m1 w1 env st a1 t1 s0 s1 he).r r1
    have e := ha.2.2.2.2.1 (by omega)
    simp only [List.cons.injEq, and_true] at e
    rw [ev_8 h hk, ev_8 h hk, s0', s1']
    exact ⟨fun _ => rDiff_img hs.prm hm.n12 o0 o1 (by omega), fun h => by unfold Nd.isI at h; omega, fun h => by unfold Nd.isF at h; omega⟩
  · obtain ⟨k0, k1, hk, ⟨w0, r0⟩, w1, r1⟩ := wf_ee hw (by omega)
    obtain ⟨a0, a1, t0, t1, ha⟩ := ht.inv_2 (by omega) hk
    have m0 : k0 ∈ n.kids := by rw [hk]; simp
    have m1 : k1 ∈ n.kids := by rw [hk]; simp
    obtain ⟨o0, e0⟩ := O m0 w0 r0 t0
    obtain ⟨o1, e1'⟩ := O m1 w1 r1 t1
    have s0' := (K m0 w0 env st a0 t0 s0 s1 he).r r0
    have s1' := (K m1 w1 env st a1 t1 s0 s1 he).r r1
    obtain ⟨b, c, e, e2, e3, e4⟩ := ha.2.2.2.2.2.2.1 (by omega)
    simp only [List.cons.injEq, and_true] at e
    rw [ev_9 h hk, ev_9 h hk, s0', s1', e1]
    exact ⟨fun _ => rJoin_img hs.prm hm.n12 o0 o1 (by omega) (by omega), fun h => by unfold Nd.isI at h; omega, fun h => by unfold Nd.isF at h; omega⟩
  · obtain ⟨k0, k1, hk, ⟨w0, r0⟩, w1, r1⟩ := wf_ee hw (by omega)
    obtain ⟨a0, a1, t0, t1, ha⟩ := ht.inv_2 (by omega) hk
    have m0 : k0 ∈ n.kids := by rw [hk]; simp
    have m1 : k1 ∈ n.kids := by rw [hk]; simp
    obtain ⟨o0, e0⟩ := O m0 w0 r0 t0
    obtain ⟨o1, e1'⟩ := O m1 w1 r1 t1
    have s0' := (K m0 w0 env st a0 t0 s0 s1 he).r r0
    have s1' := (K m1 w1 env st a1 t1 s0 s1 he).r r1
    obtain ⟨b, c, e, e2, e3⟩ := ha.2.2.2.2.2.2.2.1 (by omega)
    simp only [List.cons.injEq, and_true] at e
    rw [ev_10 h hk, ev_10 h hk, s0', s1', e1]
    exact ⟨fun _ => rProduct_img hs.prm hm.n12 o0 o1 (by omega), fun h => by unfold Nd.isI at h; omega, fun h => by unfold Nd.isF at h; omega⟩
  · obtain ⟨k0, hk, w0, r0⟩ := wf_e hw (by omega)
    obtain ⟨a0, t0, ha⟩ := ht.inv_1 (by omega) hk
    have m0 : k0 ∈ n.kids := by rw [hk]; simp
    obtain ⟨o0, e0⟩ := O m0 w0 r0 t0
    have s0' := (K m0 w0 env st a0 t0 s0 s1 he).r r0
    obtain ⟨e, _⟩ := ha.2.2.2.2.2.2.2.2 (by omega)
    simp only [List.cons.injEq, and_true] at e
    rw [ev_11 h hk, ev_11 h hk, s0', e1]
    exact ⟨fun _ => rTrans_img hs.prm hm.n12 o0 (by omega), fun h => by unfold Nd.isI at h; omega, fun h => by unfold Nd.isF at h; omega⟩
  · obtain ⟨k0, hk, w0, r0⟩ := wf_e hw (by omega)
    obtain ⟨a0, t0, ha⟩ := ht.inv_1 (by omega) hk
    have m0 : k0 ∈ n.kids := by rw [hk]; simp
    obtain ⟨o0, e0⟩ := O m0 w0 r0 t0
    have s0' := (K m0 w0 env st a0 t0 s0 s1 he).r r0
    obtain ⟨e, _⟩ := ha.2.2.2.2.2.2.2.2 (by omega)
    simp only [List.cons.injEq, and_true] at e
    rw [ev_12 h hk, ev_12 h hk, s0', e1]
    exact ⟨fun _ => rClos_img hs.prm hm.n12 o0 (by omega), fun h => by unfold Nd.isI at h; omega, fun h => by unfold Nd.isF at h; omega⟩
  · obtain ⟨k0, hk, w0, r0⟩ := wf_e hw (by omega)
    obtain ⟨a0, t0, ha⟩ := ht.inv_1 (by omega) hk
    have m0 : k0 ∈ n.kids := by rw [hk]; simp
    obtain ⟨o0, e0⟩ := O m0 w0 r0 t0
    have s0' := (K m0 w0 env st a0 t0 s0 s1 he).r r0
    obtain ⟨e, _⟩ := ha.2.2.2.2.2.2.2.2 (by omega)
    simp only [List.cons.injEq, and_true] at e
    rw [ev_13 h hk, ev_13 h hk, s0', e1]
    exact ⟨fun _ => (by show rUnion (rClos m.n (imgR m.n π _)) (rIden m.n) = imgR m.n π (rUnion _ _); rw [rClos_img hs.prm hm.n12 o0 (by omega), ← rUnion_img hs.prm hm.n12 (rClos_ok hm.pos hm.n12) (rIden_ok hm.pos hm.n12) rfl, ← rIden_img hs.prm hm.n12]), fun h => by unfold Nd.isI at h; omega, fun h => by unfold Nd.isF at h; omega⟩
  · obtain ⟨k0, k1, hk, ⟨w0, r0⟩, w1, r1⟩ := wf_ee hw (by omega)
    obtain ⟨a0, a1, t0, t1, ha⟩ := ht.inv_2 (by omega) hk
    have m0 : k0 ∈ n.kids := by rw [hk]; simp
    have m1 : k1 ∈ n.kids := by rw [hk]; simp
    obtain ⟨o0, e0⟩ := O m0 w0 r0 t0
    obtain ⟨o1, e1'⟩ := O m1 w1 r1 t1
    have s0' := (K m0 w0 env st a0 t0 s0 s1 he).r r0
    have s1' := (K m1 w1 env st a1 t1 s0 s1 he).r r1
    have e := ha.2.2.2.2.1 (by omega)
    simp only [List.cons.injEq, and_true] at e
    rw [ev_14 h hk, ev_14 h hk, s0', s1', e1]
    exact ⟨fun _ => rOver_img hs.prm hm.n12 o0 o1 (by omega), fun h => by unfold Nd.isI at h; omega, fun h => by unfold Nd.isF at h; omega⟩
  · obtain ⟨k0, k1, hk, ⟨w0, r0⟩, w1, r1⟩ := wf_ef hw (by omega)
    obtain ⟨_, t0, b, t1⟩ := ht.inv_bind (by omega) hk
    have m0 : k0 ∈ n.kids := by rw [hk]; simp
    have q := Q hk w0 r0 w1 r1 t0 t1
    obtain ⟨o0, e0⟩ := O m0 w0 r0 t0
    have s0' := (K m0 w0 env st 1 t0 s0 s1 he).r r0
    rw [ev_15 h hk, ev_15 h hk, s0']
    exact ⟨fun _ => compr_img hs.prm hm.n12 o0 e0 q, fun h => by unfold Nd.isI at h; omega, fun h => by unfold Nd.isF at h; omega⟩
  · rw [ev_20 h, ev_20 h]
    exact ⟨fun h => by unfold Nd.isR at h; omega, fun _ => rfl, fun h => by unfold Nd.isF at h; omega⟩
  · obtain ⟨k0, hk, w0, r0⟩ := wf_e hw (by omega)
    obtain ⟨a0, t0, ha⟩ := ht.inv_1 (by omega) hk
    have m0 : k0 ∈ n.kids := by rw [hk]; simp
    obtain ⟨o0, e0⟩ := O m0 w0 r0 t0
    have s0' := (K m0 w0 env st a0 t0 s0 s1 he).r r0
    have hl := img_len hs.prm hm.n12 o0
    rw [ev_21 h hk, ev_21 h hk, s0', hl]
    exact ⟨fun h => by unfold Nd.isR at h; omega, fun _ => rfl, fun h => by unfold Nd.isF at h; omega⟩
  · obtain ⟨k0, k1, hk, ⟨w0, r0⟩, w1, r1⟩ := wf_ii hw (by omega)
    obtain ⟨a0, a1, t0, t1, ha⟩ := ht.inv_2 (by omega) hk
    have m0 : k0 ∈ n.kids := by rw [hk]; simp
    have m1 : k1 ∈ n.kids := by rw [hk]; simp
    have s0' := (K m0 w0 env st a0 t0 s0 s1 he).i r0
    have s1' := (K m1 w1 env st a1 t1 s0 s1 he).i r1
    rw [ev_22 h hk, ev_22 h hk, s0', s1']
    exact ⟨fun h => by unfold Nd.isR at h; omega, fun _ => rfl, fun h => by unfold Nd.isF at h; omega⟩
  · obtain ⟨k0, k1, hk, ⟨w0, r0⟩, w1, r1⟩ := wf_ii hw (by omega)
    obtain ⟨a0, a1, t0, t1, ha⟩ := ht.inv_2 (by omega) hk
    have m0 : k0 ∈ n.kids := by rw [hk]; simp
    have m1 : k1 ∈ n.kids := by rw [hk]; simp
    have s0' := (K m0 w0 env st a0 t0 s0 s1 he).i r0
    have s1' := (K m1 w1 env st a1 t1 s0 s1 he).i r1
    rw [ev_23 h hk, ev_23 h hk, s0', s1']
    exact ⟨fun h => by unfold Nd.isR at h; omega, fun _ => rfl, fun h => by unfold Nd.isF at h; omega⟩
  · rw [ev_30 h, ev_30 h]
    exact ⟨fun h => by unfold Nd.isR at h; omega, fun h => by unfold Nd.isI at h; omega, fun _ => rfl⟩
  · rw [ev_31 h, ev_31 h]
    exact ⟨fun h => by unfold Nd.isR at h; omega, fun h => by unfold Nd.isI at h; omega, fun _ => rfl⟩
  · obtain ⟨k0, k1, hk, ⟨w0, r0⟩, w1, r1⟩ := wf_ee hw (by omega)
    obtain ⟨a0, a1, t0, t1, ha⟩ := ht.inv_2 (by omega) hk
    have m0 : k0 ∈ n.kids := by rw [hk]; simp
    have m1 : k1 ∈ n.kids := by rw [hk]; simp
    obtain ⟨o0, e0⟩ := O m0 w0 r0 t0
    obtain ⟨o1, e1'⟩ := O m1 w1 r1 t1
    have s0' := (K m0 w0 env st a0 t0 s0 s1 he).r r0
    have s1' := (K m1 w1 env st a1 t1 s0 s1 he).r r1
    obtain ⟨b, e⟩ := ha.2.2.2.2.2.1 (by omega)
    simp only [List.cons.injEq, and_true] at e
    rw [ev_32 h hk, ev_32 h hk, s0', s1']
    exact ⟨fun h => by unfold Nd.isR at h; omega, fun h => by unfold Nd.isI at h; omega, fun _ => (by show decide _ = decide _; rw [decide_eq_decide]; exact in_img hm hs o0 o1 (by omega))⟩
  · obtain ⟨k0, k1, hk, ⟨w0, r0⟩, w1, r1⟩ := wf_ee hw (by omega)
    obtain ⟨a0, a1, t0, t1, ha⟩ := ht.inv_2 (by omega) hk
    have m0 : k0 ∈ n.kids := by rw [hk]; simp
    have m1 : k1 ∈ n.kids := by rw [hk]; simp
    obtain ⟨o0, e0⟩ := O m0 w0 r0 t0
    obtain ⟨o1, e1'⟩ := O m1 w1 r1 t1
    have s0' := (K m0 w0 env st a0 t0 s0 s1 he).r r0
    have s1' := (K m1 w1 env st a1 t1 s0 s1 he).r r1
    obtain ⟨b, e⟩ := ha.2.2.2.2.2.1 (by omega)
    simp only [List.cons.injEq, and_true] at e
    rw [ev_33 h hk, ev_33 h hk, s0', s1']
    exact ⟨fun h => by unfold Nd.isR at h; omega, fun h => by unfold Nd.isI at h; omega, fun _ => (by show decide _ = decide _; rw [decide_eq_decide]; exact eq_img hm hs o0 o1 (by omega))⟩
  · obtain ⟨k0, hk, w0, r0⟩ := wf_e hw (by omega)
    obtain ⟨a0, t0, ha⟩ := ht.inv_1 (by omega) hk
    have m0 : k0 ∈ n.kids := by rw [hk]; simp
    obtain ⟨o0, e0⟩ := O m0 w0 r0 t0
    have s0' := (K m0 w0 env st a0 t0 s0 s1 he).r r0
    have hl := img_len hs.prm hm.n12 o0
    rw [ev_34 h hk, ev_34 h hk, s0', hl]
    exact ⟨fun h => by unfold Nd.isR at h; omega, fun h => by unfold Nd.isI at h; omega, fun _ => rfl⟩
  · obtain ⟨k0, hk, w0, r0⟩ := wf_e hw (by omega)
    obtain ⟨a0, t0, ha⟩ := ht.inv_1 (by omega) hk
    have m0 : k0 ∈ n.kids := by rw [hk]; simp
    obtain ⟨o0, e0⟩ := O m0 w0 r0 t0
    have s0' := (K m0 w0 env st a0 t0 s0 s1 he).r r0
    have hl := img_len hs.prm hm.n12 o0
    rw [ev_35 h hk, ev_35 h hk, s0', hl]
    exact ⟨fun h => by unfold Nd.isR at h; omega, fun h => by unfold Nd.isI at h; omega, fun _ => rfl⟩
  · obtain ⟨k0, hk, w0, r0⟩ := wf_e hw (by omega)
    obtain ⟨a0, t0, ha⟩ := ht.inv_1 (by omega) hk
    have m0 : k0 ∈ n.kids := by rw [hk]; simp
    obtain ⟨o0, e0⟩ := O m0 w0 r0 t0
    have s0' := (K m0 w0 env st a0 t0 s0 s1 he).r r0
    have hl := img_len hs.prm hm.n12 o0
    rw [ev_36 h hk, ev_36 h hk, s0', hl]
    exact ⟨fun h => by unfold Nd.isR at h; omega, fun h => by unfold Nd.isI at h; omega, fun _ => rfl⟩
  · obtain ⟨k0, hk, w0, r0⟩ := wf_e hw (by omega)
    obtain ⟨a0, t0, ha⟩ := ht.inv_1 (by omega) hk
    have m0 : k0 ∈ n.kids := by rw [hk]; simp
    obtain ⟨o0, e0⟩ := O m0 w0 r0 t0
    have s0' := (K m0 w0 env st a0 t0 s0 s1 he).r r0
    have hl := img_len hs.prm hm.n12 o0
    rw [ev_37 h hk, ev_37 h hk, s0', hl]
    exact ⟨fun h => by unfold Nd.isR at h; omega, fun h => by unfold Nd.isI at h; omega, fun _ => rfl⟩
  · obtain ⟨k0, k1, hk, ⟨w0, r0⟩, w1, r1⟩ := wf_ii hw (by omega)
    obtain ⟨a0, a1, t0, t1, ha⟩ := ht.inv_2 (by omega) hk
    have m0 : k0 ∈ n.kids := by rw [hk]; simp
    have m1 : k1 ∈ n.kids := by rw [hk]; simp
    have s0' := (K m0 w0 env st a0 t0 s0 s1 he).i r0
    have s1' := (K m1 w1 env st a1 t1 s0 s1 he).i r1
    rw [ev_38 h hk, ev_38 h hk, s0', s1']
    exact ⟨fun h => by unfold Nd.isR at h; omega, fun h => by unfold Nd.isI at h; omega, fun _ => rfl⟩
  · obtain ⟨k0, k1, hk, ⟨w0, r0⟩, w1, r1⟩ := wf_ii hw (by omega)
    obtain ⟨a0, a1, t0, t1, ha⟩ := ht.inv_2 (by omega) hk
    have m0 : k0 ∈ n.kids := by rw [hk]; simp
    have m1 : k1 ∈ n.kids := by rw [hk]; simp
    have s0' := (K m0 w0 env st a0 t0 s0 s1 he).i r0
    have s1' := (K m1 w1 env st a1 t1 s0 s1 he).i r1
    rw [ev_39 h hk, ev_39 h hk, s0', s1']
    exact ⟨fun h => by unfold Nd.isR at h; omega, fun h => by unfold Nd.isI at h; omega, fun _ => rfl⟩
  · obtain ⟨k0, hk, w0, r0⟩ := wf_f hw (by omega)
    obtain ⟨a0, t0, ha⟩ := ht.inv_1 (by omega) hk
    have m0 : k0 ∈ n.kids := by rw [hk]; simp
    have s0' := (K m0 w0 env st a0 t0 s0 s1 he).b r0
    rw [ev_40 h hk, ev_40 h hk, s0']
    exact ⟨fun h => by unfold Nd.isR at h; omega, fun h => by unfold Nd.isI at h; omega, fun _ => rfl⟩
  · obtain ⟨k0, k1, hk, ⟨w0, r0⟩, w1, r1⟩ := wf_ff hw (by omega)
    obtain ⟨a0, a1, t0, t1, ha⟩ := ht.inv_2 (by omega) hk
    have m0 : k0 ∈ n.kids := by rw [hk]; simp
    have m1 : k1 ∈ n.kids := by rw [hk]; simp
    have s0' := (K m0 w0 env st a0 t0 s0 s1 he).b r0
    have s1' := (K m1 w1 env st a1 t1 s0 s1 he).b r1
    rw [ev_41 h hk, ev_41 h hk, s0', s1']
    exact ⟨fun h => by unfold Nd.isR at h; omega, fun h => by unfold Nd.isI at h; omega, fun _ => rfl⟩
  · obtain ⟨k0, k1, hk, ⟨w0, r0⟩, w1, r1⟩ := wf_ff hw (by omega)
    obtain ⟨a0, a1, t0, t1, ha⟩ := ht.inv_2 (by omega) hk
    have m0 : k0 ∈ n.kids := by rw [hk]; simp
    have m1 : k1 ∈ n.kids := by rw [hk]; simp
    have s0' := (K m0 w0 env st a0 t0 s0 s1 he).b r0
    have s1' := (K m1 w1 env st a1 t1 s0 s1 he).b r1
    rw [ev_42 h hk, ev_42 h hk, s0', s1']
    exact ⟨fun h => by unfold Nd.isR at h; omega, fun h => by unfold Nd.isI at h; omega, fun _ => rfl⟩
  · obtain ⟨k0, k1, hk, ⟨w0, r0⟩, w1, r1⟩ := wf_ff hw (by omega)
    obtain ⟨a0, a1, t0, t1, ha⟩ := ht.inv_2 (by omega) hk
    have m0 : k0 ∈ n.kids := by rw [hk]; simp
    have m1 : k1 ∈ n.kids := by rw [hk]; simp
    have s0' := (K m0 w0 env st a0 t0 s0 s1 he).b r0
    have s1' := (K m1 w1 env st a1 t1 s0 s1 he).b r1
    rw [ev_43 h hk, ev_43 h hk, s0', s1']
    exact ⟨fun h => by unfold Nd.isR at h; omega, fun h => by unfold Nd.isI at h; omega, fun _ => rfl⟩
  · obtain ⟨k0, k1, hk, ⟨w0, r0⟩, w1, r1⟩ := wf_ff hw (by omega)
    obtain ⟨a0, a1, t0, t1, ha⟩ := ht.inv_2 (by omega) hk
    have m0 : k0 ∈ n.kids := by rw [hk]; simp
    have m1 : k1 ∈ n.kids := by rw [hk]; simp
    have s0' := (K m0 w0 env st a0 t0 s0 s1 he).b r0
    have s1' := (K m1 w1 env st a1 t1 s0 s1 he).b r1
    rw [ev_44 h hk, ev_44 h hk, s0', s1']
    exact ⟨fun h => by unfold Nd.isR at h; omega, fun h => by unfold Nd.isI at h; omega, fun _ => rfl⟩
  · obtain ⟨k0, k1, hk, ⟨w0, r0⟩, w1, r1⟩ := wf_ef hw (by omega)
    obtain ⟨_, t0, b, t1⟩ := ht.inv_bind (by omega) hk
    have m0 : k0 ∈ n.kids := by rw [hk]; simp
    have q := Q hk w0 r0 w1 r1 t0 t1
    obtain ⟨o0, e0⟩ := O m0 w0 r0 t0
    have s0' := (K m0 w0 env st 1 t0 s0 s1 he).r r0
    rw [ev_45 h hk, ev_45 h hk, s0']
    exact ⟨fun h => by unfold Nd.isR at h; omega, fun h => by unfold Nd.isI at h; omega, fun _ => (all_img hm hs o0 e0 q).1⟩
  · obtain ⟨k0, k1, hk, ⟨w0, r0⟩, w1, r1⟩ := wf_ef hw (by omega)
    obtain ⟨_, t0, b, t1⟩ := ht.inv_bind (by omega) hk
    have m0 : k0 ∈ n.kids := by rw [hk]; simp
    have q := Q hk w0 r0 w1 r1 t0 t1
    obtain ⟨o0, e0⟩ := O m0 w0 r0 t0
    have s0' := (K m0 w0 env st 1 t0 s0 s1 he).r r0
    rw [ev_46 h hk, ev_46 h hk, s0']
    exact ⟨fun h => by unfold Nd.isR at h; omega, fun h => by unfold Nd.isI at h; omega, fun _ => (all_img hm hs o0 e0 q).2⟩
  · obtain ⟨k0, hk, w0, r0⟩ := wf_f hw (by omega)
    obtain ⟨a0, t0, ha⟩ := ht.inv_1 (by omega) hk
    have m0 : k0 ∈ n.kids := by rw [hk]; simp
    have p := P m0 w0 r0 t0
    rw [ev_48 h hk, ev_48 h hk, pathOf_img hm hs]
    exact ⟨fun h => by unfold Nd.isR at h; omega, fun h => by unfold Nd.isI at h; omega, fun _ => list_all_congr p⟩
  · obtain ⟨k0, hk, w0, r0⟩ := wf_f hw (by omega)
    obtain ⟨a0, t0, ha⟩ := ht.inv_1 (by omega) hk
    have m0 : k0 ∈ n.kids := by rw [hk]; simp
    have p := P m0 w0 r0 t0
    rw [ev_49 h hk, ev_49 h hk, pathOf_img hm hs]
    exact ⟨fun h => by unfold Nd.isR at h; omega, fun h => by unfold Nd.isI at h; omega, fun _ => list_any_congr p⟩
  · obtain ⟨k0, hk, w0, r0⟩ := wf_f hw (by omega)
    obtain ⟨a0, t0, ha⟩ := ht.inv_1 (by omega) hk
    have m0 : k0 ∈ n.kids := by rw [hk]; simp
    rw [ev_50 h hk, ev_50 h hk, nextSt_img hm hs]
    exact ⟨fun h => by unfold Nd.isR at h; omega, fun h => by unfold Nd.isI at h; omega, fun _ => (K m0 w0 env _ a0 t0 n0 n1 he).b r0⟩
  · obtain ⟨k0, k1, hk, ⟨w0, r0⟩, w1, r1⟩ := wf_ff hw (by omega)
    obtain ⟨a0, a1, t0, t1, ha⟩ := ht.inv_2 (by omega) hk
    have m0 : k0 ∈ n.kids := by rw [hk]; simp
    have m1 : k1 ∈ n.kids := by rw [hk]; simp
    have p := P m0 w0 r0 t0
    have p1 := P m1 w1 r1 t1
    rw [ev_51 h hk, ev_51 h hk, pathOf_img hm hs]
    exact ⟨fun h => by unfold Nd.isR at h; omega, fun h => by unfold Nd.isI at h; omega, fun _ => until_congr _ _ _ fun t ht => ⟨p t ht, p1 t ht⟩⟩
end
end Go.Ab
namespace Go.Ab
open Go Go.Proofs
set_option maxRecDepth 10000
theorem fullT_up (atoms : List Int) (N : Nat) (sorts : List Int) (m : Nat) : Up (fullT atoms N sorts m) := by
 unfold fullT
 refine List.pairwise_map.2 ?_
 refine List.Pairwise.filter _ ?_
 exact List.pairwise_lt_range.imp fun h => by omega
theorem fullT_rng {atoms : List Int} {N : Nat} {sorts : List Int} {m : Nat} {x : Int} (h : x ∈ fullT atoms N sorts m) : 0 ≤ x ∧ x < m := by
 unfold fullT at h
 obtain ⟨r, hr, rfl⟩ := List.mem_map.1 h
 have := List.mem_range.1 (List.mem_filter.1 hr).1
 omega
theorem mok_of {x : Cse} {m : Mdl} (hf : x.sp.Fit) (hf9 : x.sp.Fit9 x.sc) (hm : AnyM x m) : MOk x.sp m ∧ small m.scope.atoms ∧ m.states.length ≤ 4 := by
 obtain ⟨h1, h2, h3, h4⟩ := hm
 have hso := scopeOk hf9
 have hst := hf9.sz.steps
 have hn : m.n = sumI x.sc.atoms := by rw [Mdl.n, h1]
 have hN := hso.sum
 refine ⟨⟨by rw [hn]; have := hso.pos; omega, by rw [hn]; have := hso.most; omega, by rw [h1]; exact hf9.sz.pos, by rw [h1]; exact hf9.len.symm, hf.fld, fun st hs => ?_, by omega, by omega⟩, by rw [h1]; exact hso.small, by omega⟩
 obtain ⟨e1, e2⟩ := h4 st hs
 have hdl : (dflt x.sc (sumI x.sc.atoms).toNat x.sp.fields).length = x.sp.fields.length := List.length_map _
 refine ⟨by rw [e1, hdl], fun f h h' => ?_⟩
 obtain ⟨e3, e4⟩ := e2 f (by rw [hdl]; exact h') h
 have hd : (dflt x.sc (sumI x.sc.atoms).toNat x.sp.fields)[f]'(by rw [hdl]; exact h') = ⟨⟨x.sp.fields[f].sorts.length, []⟩, fullR x.sc (sumI x.sc.atoms).toNat x.sp.fields[f]⟩ := by simp [dflt]
 rw [hd] at e3 e4
 have ha : st[f].arity = x.sp.fields[f].sorts.length := e3
 have hs := (hf.fld _ (List.getElem_mem h')).1
 refine ⟨⟨by rw [ha]; omega, (fullT_up _ _ _ _).sublist e4, fun t ht => ?_⟩, ha⟩
 have hr := fullT_rng (e4.subset ht)
 rw [ha, Int.toNat_natCast, hn, hN]
 simpa using hr
theorem sym_of {x : Cse} {m : Mdl} (hm : MOk x.sp m) (hs : m.scope = x.sc) {p : List Int} (hp : Perm11 x.sc p) (hfx : ∀ i < p.length, FixAt x.sp x.sc p i) : Sym x.sp m (lmap p) ∧ (p.length : Int) = m.n ∧ ∀ y ∈ p, 0 ≤ y ∧ y < p.length := by
 have hn : (p.length : Int) = m.n := by rw [hp.len, Mdl.n, hs]
 have hlm : ∀ (i : Nat) (h : i < p.length), lmap p i = p[i] := fun i h => by
  rw [lmap, Int.toNat_natCast, List.getD_eq_getElem?_getD, List.getElem?_eq_getElem h]; rfl
 have hrg : ∀ y ∈ p, 0 ≤ y ∧ y < p.length := fun y hy => by
  obtain ⟨i, hi, rfl⟩ := List.mem_iff_getElem.1 hy
  exact hp.rng i hi
 have hnd : p.Nodup := by
  rw [List.Nodup, List.pairwise_iff_getElem]
  intro i j hi hj hij
  exact hp.inj j i hj hij
 have key : ∀ x : Int, 0 ≤ x → x < m.n → ∃ i : Nat, x = i ∧ i < p.length := fun x h0 h1 => ⟨x.toNat, by omega, by omega⟩
 refine ⟨⟨⟨hm.pos, fun x h0 h1 => ?_, fun x y h0 h1 h2 h3 e => ?_, fun y h0 h1 => ?_⟩, fun x h0 h1 => ?_, fun q hq ho x h0 h1 e => ?_⟩, hn, hrg⟩
 · obtain ⟨i, rfl, hi⟩ := key x h0 h1
   rw [hlm i hi, ← hn]
   exact hp.rng i hi
 · obtain ⟨i, rfl, hi⟩ := key x h0 h1
   obtain ⟨j, rfl, hj⟩ := key y h2 h3
   rw [hlm i hi, hlm j hj] at e
   rcases Nat.lt_trichotomy i j with h | h | h
   · exact absurd e (hp.inj j i hj h)
   · rw [h]
   · exact absurd e.symm (hp.inj i j hi h)
 · have hy : y ∈ p := Classical.byContradiction fun hno => by
    have := nodup_len p.length (y :: p) (List.nodup_cons.2 ⟨hno, hnd⟩) fun z hz => by
     rcases List.mem_cons.1 hz with rfl | hz
     · exact ⟨h0, by omega⟩
     · exact hrg z hz
    rw [List.length_cons] at this; omega
   obtain ⟨i, hi, rfl⟩ := List.mem_iff_getElem.1 hy
   exact ⟨i, by omega, hlm i hi⟩
 · obtain ⟨i, rfl, hi⟩ := key x h0 h1
   rw [hlm i hi, hs]
   exact hp.sort i hi
 · obtain ⟨i, rfl, hi⟩ := key x h0 h1
   obtain ⟨q2, hq2, e2, e3⟩ := hfx i hi
   rw [hs] at e
   have : q2 = q := by omega
   subst this
   have := e3 ho
   rw [List.getElem?_eq_getElem hi] at this
   rw [hlm i hi]
   exact Option.some.inj this
theorem tree_of {x : Cse} {n : Nd} {m : Mdl} (h : Usable (x.wn (someN n)) m) : n.WF ∧ (n.op < 20 ∨ 30 ≤ n.op) ∧ ∃ a, Ty x.sp [] n a := by
 obtain ⟨h30, a, ⟨hty, _, _⟩⟩ := h.form
 have hw := h.wf
 change 30 ≤ (someN n).op at h30
 change Ty x.sp [] (someN n) a at hty
 change (someN n).WF at hw
 by_cases hn : n.op < 20
 · rw [someN, if_pos hn] at hty hw
   refine ⟨((Nd.WF_iff _).1 hw).2 n (by simp [Nd.kids]), .inl hn, ?_⟩
   obtain ⟨a0, h0, _⟩ := hty.inv_1 (k0 := n) (by simp [Nd.op]) rfl
   exact ⟨a0, h0⟩
 · rw [someN, if_neg hn] at hty hw h30
   exact ⟨hw, .inr h30, a, hty⟩
theorem wf_low {n : Nd} (h : n.WF) (hn : n.op < 20) : n.isR := by
 rcases WF_op h with h | h | h
 · exact h
 · unfold Nd.isI at h; omega
 · unfold Nd.isF at h; omega
theorem wf_high {n : Nd} (h : n.WF) (hn : 30 ≤ n.op) : n.isF := by
 rcases WF_op h with h | h | h
 · unfold Nd.isR at h; omega
 · unfold Nd.isI at h; omega
 · exact h
theorem permuted_any (x : Cse) (n : Nd) (state raw : Int) (hfew : x.sp.Few) (hsz : n.sz + 1 ≤ 1048576) (hlp : 0 ≤ x.loop ∧ x.loop < 256) (hstt : 0 ≤ state ∧ state < 256) (hraw : 0 ≤ raw ∧ raw < 4294967296) (hHead : AFun Tryz.prog 5 [] (.p (eB true))) :
 AFun Tryz.prog 3 [x.av, n.ex, eU8 state, .imm (.int .u32 raw)] (.p (eB true)) := by
 obtain ⟨y, ⟨m, b, rfl, hb⟩, c1⟩ := madeR14P x n hfew hsz hlp
 refine AFun.of hT Tryz.func3 rfl rfl (by simp) (AD.run hT hmix (.pure [] _ rfl hHead (.pure [x.av, n.ex] _ rfl c1 ?_)))
 cases b with
 | false => exact ⟨_, _, rfl, rfl, rfl⟩
 | true =>
 obtain ⟨hcall, hu⟩ := hb rfl
 have hfit : x.sp.Fit := hu.fit
 have hfit9 : x.sp.Fit9 x.sc := hu.fit9
 obtain ⟨hm, hsm, hl4⟩ := mok_of (x := x) hfit hfit9 ⟨hu.any.scope, hu.any.len, hu.any.loop, hu.any.st⟩
 have hscope : m.scope = x.sc := hu.any.scope
 obtain ⟨hw, hop, a, hty⟩ := tree_of hu
 obtain ⟨l, c2⟩ := nth11 x.sc hfit9.sz.small raw hraw
 refine .pure [x.sc.av, .imm (.int .u32 raw)] _ rfl c2 ?_
 obtain ⟨b2, g2, c3⟩ := fixed14 x.sp x.sc l
 rw [Spc.av_ex] at c3
 refine .pure [x.sp.ex, x.sc.av, ints l] _ rfl c3 ?_
 cases b2 with
 | false => exact ⟨_, _, rfl, rfl, rfl⟩
 | true =>
 obtain ⟨hp, hfx⟩ := g2 rfl
 obtain ⟨hsym, hlen, hlr⟩ := sym_of hm hscope hp hfx
 obtain ⟨N, hN⟩ : ∃ N, l.length = N := ⟨_, rfl⟩
 rw [hN] at hlen hlr
 have hmn : m.n = N := hlen.symm
 have hn6 := hfit.n2
 have hmp := modelP hm (by omega) (by omega) hN hmn (hmn ▸ hsym.prm) hlr
 have hnm : ∀ x_1 ∈ x.sp.sorts, x_1.name.size ≤ 1048576 := hfew.nm
 have hJ : JP m.n := joinP hm.pos hm.n12
 have hm' := img_mok hm hsym.prm
 have hl' : (imgM (lmap l) m).states.length = m.states.length := by rw [imgM, List.length_map]
 obtain ⟨st, hst⟩ : ∃ st : Nat, state.tmod (m.states.length : Nat) = st ∧ st < m.states.length := rem_nat hstt.1 hm.ne
 have hE := eval_ev hm (by omega) hJ (nameNP hm hsm (by omega) hnm) n hw hcall [] st a hty (by omega) (by omega) (by simp) (by simp; omega)
 have hE' := eval_ev hm' (by omega) (show JP m.n from hJ) (nameNP hm' hsm (by omega) hnm) n hw hcall [] st a hty (by omega) (by omega) (by simp) (by simp; omega)
 have hS := ev_img hm hsym n hw hcall [] st a hty (by omega) (by omega) (by simp)
 rw [show imgE (lmap l) [] = [] from rfl] at hS
 have hsl : (m.states.map fun l => AV.slice 2 (l.map Rl.av)).length = m.states.length := List.length_map _
 rcases hop with hop | hop
 · have hR := wf_low hw hop
   have hO := ev_ok hm n hw hcall [] st a hty (by omega) (by omega) (by simp) hR
   have hR1 := hE.r hR
   have hR2 := hE'.r hR
   rw [hS.r hR] at hR2
   obtain ⟨r, hr⟩ : ∃ r, (ev x.sp m n st []).r = r := ⟨_, rfl⟩
   rw [hr] at hR1 hR2 hO
   rw [hmn] at hR2 hO
   have hrp := relP x.sc l N hN (by have := hm.pos; omega) (by have := hm.n12; omega) (hmn ▸ hsym.prm) hlr r hO.1
   have heq := equalR (imgR N (lmap l) r) (imgR N (lmap l) r)
   rw [decide_eq_true rfl, decide_eq_true rfl] at heq
   refine bgo_false (decide_eq_false (by omega)) (.pure [ints l, m.av] _ rfl hmp (ngo_in (by omega) (by omega) ?_))
   intro _
   rw [hsl]
   refine ⟨by omega, (st : Int), hst.1, bgo_true (decide_eq_true hop) ?_⟩
   refine .pure [x.sp.ex, m.av, eI st, .slice 2 [], n.ex] _ rfl (exprP hsm hR1) ?_
   refine .pure [x.sp.ex, (imgM (lmap l) m).av, eI st, .slice 2 [], n.ex] _ rfl (exprP (m := imgM (lmap l) m) hsm hR2) ?_
   refine .pure [x.sc.av, ints l, r.av] _ rfl hrp (.pure [(imgR N (lmap l) r).av, (imgR N (lmap l) r).av] _ rfl heq ⟨by kernel_rfl, _, _, rfl, rfl, rfl⟩)
 · refine bgo_true (decide_eq_true (by omega)) (bgo_false (decide_eq_false (by omega)) ?_)
   have hF := wf_high hw hop
   have hF1 := hE.b hF
   have hF2 := hE'.b hF
   rw [hS.b hF] at hF2
   generalize (ev x.sp m n st []).b = v at hF1 hF2
   refine .pure [ints l, m.av] _ rfl hmp (ngo_in (by omega) (by omega) ?_)
   intro _
   rw [hsl]
   refine ⟨by omega, (st : Int), hst.1, bgo_false (decide_eq_false (by omega)) ?_⟩
   refine .pure [x.sp.ex, m.av, eI st, .slice 2 [], n.ex] _ rfl (formulaP hsm hF1) ?_
   refine .pure [x.sp.ex, (imgM (lmap l) m).av, eI st, .slice 2 [], n.ex] _ rfl (formulaP (m := imgM (lmap l) m) hsm hF2) ?_
   cases v <;> exact ⟨_, _, rfl, rfl, rfl⟩
abbrev K3 : KP := .ints [.i8, .i8, .i8]
abbrev e8 (n : Int) : AV := .imm (.int .i8 n)
abbrev t8 (a b c : Int) : AV := .agg [e8 a, e8 b, e8 c]
abbrev kd (n : Int) (t : AV) : AV := .agg [eI n, .mp K3 [(t, eB true)]]
def ofc (l : List Int) (i : Nat) : List EV := [.p (e8 (if 0 < i then l.getD 0 0 else 0)), .p (e8 (if 1 < i then l.getD 1 0 else 0)), .p (e8 (if 2 < i then l.getD 2 0 else 0))]
theorem of1 (a : Int) (h : 0 ≤ a ∧ a < 100) : AFun Tryz.prog 94 [ints [a]] (.p (kd 1 (t8 a 0 0))) := by
 refine AFun.of hT Tryz.func94 rfl rfl (by simp) (AD.finSub (AD.run hT hmix ?_))
 intro _
 refine AD.loopI (fun i : Nat => i ≤ 1) (fun i => 1 - i) (fun i => [(0, .p (ints [a])), (2, .loc 2 0), (3, .loc 3 0), (6, .p (ints [a])), (7, eint .i64 1), (8, eint .i64 i)]) (fun i => [(3, .box 112 (ofc [a] i)), (2, .box 101 [eint .i64 0, .p (.imm (.map none))])]) 0 (Nat.zero_le _) .of fun i hi => ?_
 match i, hi with
 | 0, _ => exact AD.run hT hmix (igo_map 0 rfl (by simp) ⟨a, IntWalk.i8_in _ (show -128 ≤ a ∧ a ≤ 127 by omega), ⟨0, rfl, by decide, ngo_in (by omega) (by omega) ⟨1, by omega, by omega, .of⟩⟩⟩)
 | 1, _ =>
  refine AD.run hT hmix ?_
  intro _
  exact ⟨[(2, .loc 2 0)], [(2, .box 101 [.p (eI 1), .p (.mp K3 [(t8 a 0 0, eB true)])])], .mseal 20, _, _, rfl, rfl, rfl⟩
theorem of2 (a b : Int) (h : 0 ≤ a ∧ a < 100) (h' : 0 ≤ b ∧ b < 100) : AFun Tryz.prog 94 [ints [a, b]] (.p (kd 2 (t8 a b 0))) := by
 refine AFun.of hT Tryz.func94 rfl rfl (by simp) (AD.finSub (AD.run hT hmix ?_))
 intro _
 refine AD.loopI (fun i : Nat => i ≤ 2) (fun i => 2 - i) (fun i => [(0, .p (ints [a, b])), (2, .loc 2 0), (3, .loc 3 0), (6, .p (ints [a, b])), (7, eint .i64 2), (8, eint .i64 i)]) (fun i => [(3, .box 112 (ofc [a, b] i)), (2, .box 101 [eint .i64 0, .p (.imm (.map none))])]) 0 (Nat.zero_le _) .of fun i hi => ?_
 match i, hi with
 | 0, _ => exact AD.run hT hmix (igo_map 0 rfl (by simp) ⟨a, IntWalk.i8_in _ (show -128 ≤ a ∧ a ≤ 127 by omega), ⟨0, rfl, by decide, ngo_in (by omega) (by omega) ⟨1, by omega, by omega, .of⟩⟩⟩)
 | 1, _ => exact AD.run hT hmix (igo_map 1 rfl (by simp) ⟨b, IntWalk.i8_in _ (show -128 ≤ b ∧ b ≤ 127 by omega), ⟨1, rfl, by decide, ngo_in (by omega) (by omega) ⟨2, by omega, by omega, .of⟩⟩⟩)
 | 2, _ =>
  refine AD.run hT hmix ?_
  intro _
  exact ⟨[(2, .loc 2 0)], [(2, .box 101 [.p (eI 2), .p (.mp K3 [(t8 a b 0, eB true)])])], .mseal 20, _, _, rfl, rfl, rfl⟩
theorem emptyP (n : Int) : EFun Tryz.prog 148 [.p (eI n)] [] (.agg [.p (eI n), .mtok 9002]) [(9002, .map K3 [])] := by
 refine EFun.of hT Tryz.func148 rfl rfl (by simp) rfl (AD.run hT hmix ?_)
 exact ⟨_, [.agg [.p (eI n), .mtok 9002]], _, rfl, (SubAll.ren 9002 4).trans .of, rfl, rfl, rfl⟩
theorem clone8 (x : AV) (r : List AV) (hl : r.length ≤ 1000) : AFunO Tryz.prog 236 [.slice 1 (x :: r)] 1 (x :: r) := by
 suffices hh : ∃ rs, rs = x :: r ∧ AFunO Tryz.prog 236 [.slice 1 (x :: r)] 1 rs by
  obtain ⟨rs, rfl, h⟩ := hh
  exact h
 refine AFunOE.intro hT Tryz.func236 rfl rfl (by simp) ⟨_, rfl⟩ (AD.run hT hmix ?_)
 have hl2 : (x :: r).length ≤ 1001 := by simp; omega
 refine ⟨⟨by simp; omega, by simp; omega⟩, ?_⟩
 exact ⟨by decide, _, x :: r, rfl, .inr ⟨7, rfl, by rw [List.length_nil, Nat.zero_add]; rfl⟩, rfl⟩
theorem concat211 : AFun Tryz.prog 205 [t8 0 1 0, eI 2, t8 1 0 0, eI 1, eI 1] (.p (t8 0 0 0)) := by
 refine AFun.of hT Tryz.func205 rfl rfl (by simp) ?_
 refine AD.cut hT hmix 2 (fun _ : Unit => True) (fun _ => [(1, .p (eI 2)), (3, .p (eI 1)), (4, .p (eI 1)), (5, .p (.ref [e8 0, e8 1, e8 0])), (7, .p (.ref [e8 1, e8 0, e8 0])), (10, .loc 10 0), (11, .loc 11 0)])
  (fun _ => [(10, .box 112 [.p (e8 0), .p (e8 0), .p (e8 0)]), (11, .box 112 [.p (e8 0), .p (e8 0), .p (e8 0)])]) ?_ fun _ _ => ?_
 · exact ⟨(), trivial, (SubAll.sealB (env' := [(1, .p (eI 2)), (3, .p (eI 1)), (4, .p (eI 1)), (5, .p (.ref [e8 0, e8 1, e8 0])), (7, .loc 7 0), (10, .loc 10 0), (11, .loc 11 0)]) (h' := [(7, .box 112 [.p (e8 1), .p (e8 0), .p (e8 0)]), (10, .box 112 [.p (e8 0), .p (e8 0), .p (e8 0)]), (11, .box 112 [.p (e8 0), .p (e8 0), .p (e8 0)])]) 5).trans (.sealB 7)⟩
 refine AD.run hT hmix ?_
 refine ⟨rfl, 0, 3, rfl, rfl, by decide, by decide, by decide, by decide, by decide, ?_⟩
 refine ngo_in (by decide) (by decide) ⟨rfl, 0, 1, rfl, rfl, by decide, by decide, by decide, by decide, by decide, ?_⟩
 refine .own [.slice 1 [e8 0]] 1 [e8 0] 17 rfl (clone8 _ [] (by decide)) rfl rfl ?_
 refine ⟨rfl, 1, 1, rfl, rfl, by decide, by decide, by decide, by decide, by decide, ?_⟩
 refine ⟨rfl, ⟨by decide, by decide⟩, ?_⟩
 refine ⟨by decide, by decide, ?_⟩
 exact ⟨by kernel_rfl, _, _, rfl, rfl, rfl⟩
abbrev jb (es : List (AV × AV)) : AHp := [(9003, .box 101 [.p (eI 1), .mtok 9002]), (9002, .map K3 es)]
abbrev jcaps : List EV := [.p (.ref [eI 2, .mp K3 [(t8 0 1 0, eB true)]]), .loc 9003 0, .p (.ref [eI 1, .mp K3 [(t8 1 0 0, eB true)]])]
theorem join1 : EFun Tryz.prog 204 (.p (t8 0 1 0) :: .p (t8 1 0 0) :: jcaps) (jb []) (.tup []) (jb [(t8 0 0 0, eB true)]) := by
 refine EFun.of hT Tryz.func204 rfl rfl (by simp) rfl (AD.run hT hmix ?_)
 refine ⟨1, rfl, 1, rfl, by decide, ⟨0, rfl, by decide, ⟨by kernel_rfl, ?_⟩⟩⟩
 refine .pure [t8 0 1 0, eI 2, t8 1 0 0, eI 1, eI 1] _ rfl concat211 ⟨by kernel_rfl, ?_⟩
 exact ⟨_, [], _, rfl, .of, rfl, rfl, rfl⟩
abbrev jfn : EV := .fn (.func 204) [] jcaps
abbrev k010 : AV × AV := (t8 0 1 0, eB true)
abbrev k100 : AV × AV := (t8 1 0 0, eB true)
abbrev k000 : AV × AV := (t8 0 0 0, eB true)
abbrev ejb : List (AV × AV) → AHp
 | [] => jb []
 | _ => jb [k000]
theorem one_perm {x : AV × AV} {l : List (AV × AV)} (h : l.Perm [x]) : l = [x] := List.perm_singleton.1 h
theorem one_step {x y : AV × AV} {d r : List (AV × AV)} (h : (y :: d ++ r).Perm [x]) : d = [] ∧ r = [] ∧ y = x := by
 have hl := h.length_eq
 simp only [List.length_append, List.length_cons, List.length_nil] at hl
 have h1 : d.length = 0 ∧ r.length = 0 := by omega
 obtain rfl : d = [] := List.length_eq_zero_iff.1 h1.1
 obtain rfl : r = [] := List.length_eq_zero_iff.1 h1.2
 refine ⟨rfl, rfl, ?_⟩
 have := one_perm h
 simpa using this
theorem eachJ : EFun Tryz.prog 203 [.p (kd 2 (t8 0 1 0)), .p (kd 1 (t8 1 0 0)), jfn] (jb []) (.tup []) (jb [k000]) := by
 refine EFun.of hT Tryz.func203 rfl rfl (by simp) rfl (AD.run hT hmix ?_)
 refine AD.mapLoop (T := T) (it := 10) (tn := 11) (k := 10) (kp := K3) (tot := [k010]) (fun _ => [(2, jfn), (4, .loc 4 0), (10, .mtok 10)]) (fun done => (10, .map .iter ((.mp K3 [k010], tt) :: done)) :: (4, .box 101 [.p (eI 1), .p (.mp K3 [k100])]) :: ejb done)
  [] (jb [k000]) .of (fun done hd => ?_) ?_ (fun done x rest hp => ?_)
 · obtain rfl := one_perm hd
   exact .of
 · exact ⟨_, [], _, rfl, .of, rfl, rfl, rfl⟩
 · obtain ⟨rfl, rfl, rfl⟩ := one_step hp
   refine AD.run hT hmix ?_
   refine AD.mapLoop (T := T) (it := 17) (tn := 18) (k := 17) (kp := K3) (tot := [k100]) (fun _ => [(2, jfn), (4, .loc 4 0), (6, .loc 6 0), (10, .mtok 10), (17, .mtok 17)])
    (fun done => (17, .map .iter ((.mp K3 [k100], tt) :: done)) :: (6, .box 112 [.p (e8 0), .p (e8 1), .p (e8 0)]) :: (10, .map .iter [(.mp K3 [k010], tt), k010]) :: (4, .box 101 [.p (eI 1), .p (.mp K3 [k100])]) :: ejb done)
    [(2, jfn), (4, .loc 4 0), (10, .mtok 10)] ((10, .map .iter [(.mp K3 [k010], tt), k010]) :: (4, .box 101 [.p (eI 1), .p (.mp K3 [k100])]) :: jb [k000]) .of (fun done hd => ?_) ?_ (fun done x rest hp => ?_)
   · obtain rfl := one_perm hd
     exact .of
   · exact .of
   · obtain ⟨rfl, rfl, rfl⟩ := one_step hp
     refine AD.run hT hmix ?_
     refine .eff (jb []) (jb [k000]) _ (join1.le (args' := .agg [.p (e8 0), .p (e8 1), .p (e8 0)] :: .agg [.p (e8 1), .p (e8 0), .p (e8 0)] :: jcaps) ⟨.inr ⟨_, rfl, rfl⟩, .inr ⟨_, rfl, rfl⟩, .inl rfl, .inl rfl, .inl rfl, trivial⟩) ⟨rfl, rfl, trivial⟩ rfl rfl rfl rfl ?_
     exact .of
abbrev kJ : AV := kd 1 (t8 0 0 0)
theorem joinT : AFun Tryz.prog 151 [kd 2 (t8 0 1 0), kd 1 (t8 1 0 0)] (.p kJ) := by
 refine AFun.of hT Tryz.func151 rfl rfl (by simp) (AD.finSub ?_)
 refine AD.cut hT hmix 2 (fun _ : Unit => True) (fun _ => [(2, .p (.ref [eI 2, .mp K3 [k010]])), (3, .p (.ref [eI 1, .mp K3 [k100]])), (4, .loc 4 0), (5, .loc 9003 0)])
  (fun _ => [(4, .box 101 [eint .i64 0, .p (.imm (.map none))]), (9003, .box 101 [.p (eI 1), .mtok 9002]), (9002, .map K3 [])]) ?_ fun _ _ => ?_
 · refine ngo_in (by decide) (by decide) (ngo_in (by decide) (by decide) ?_)
   refine .eff [] [(9002, .map K3 [])] _ (emptyP 1) ⟨rfl, trivial⟩ rfl rfl rfl rfl ?_
   refine ⟨(), trivial, (SubAll.sealB (env' := [(2, .p (.ref [eI 2, .mp K3 [k010]])), (3, .loc 3 0), (4, .loc 4 0), (5, .loc 5 0)])
    (h' := [(3, .box 101 [.p (eI 1), .p (.mp K3 [k100])]), (4, .box 101 [eint .i64 0, .p (.imm (.map none))]), (5, .box 101 [.p (eI 1), .mtok 9002]), (9002, .map K3 [])]) 2).trans ((SubAll.sealB (env' := [(2, .p (.ref [eI 2, .mp K3 [k010]])), (3, .p (.ref [eI 1, .mp K3 [k100]])), (4, .loc 4 0), (5, .loc 5 0)])
    (h' := [(4, .box 101 [eint .i64 0, .p (.imm (.map none))]), (5, .box 101 [.p (eI 1), .mtok 9002]), (9002, .map K3 [])]) 3).trans ((SubAll.ren 9003 5).trans .of))⟩
 · refine AD.run hT hmix ?_
   refine .eff (jb []) (jb [k000]) _ eachJ ⟨rfl, rfl, trivial⟩ rfl rfl rfl rfl ?_
   exact ⟨[(4, .loc 4 0)], [(4, .box 101 [.p (eI 1), .p (.mp K3 [k000])])], .mseal 9002, _, _, rfl, rfl, rfl⟩
def sS : Spc := ⟨[⟨⟨#[65]⟩, false⟩, ⟨⟨#[66]⟩, true⟩], [⟨⟨#[102]⟩, [0, 1], true⟩], [], []⟩
def sSc : Scope := ⟨[2, 1], 1⟩
abbrev nmF : ByteArray := ⟨#[102]⟩
abbrev nmB : ByteArray := ⟨#[66]⟩
def nF : Nd := .mk 1 nmF 0 [] 0
def nB : Nd := .mk 1 nmB 0 [] 0
def nJ : Nd := .mk 9 ⟨#[]⟩ 0 [nF, nB] 0
theorem smallP : AFun Tryz.prog 18 [] (.tup [.p sS.ex, .p sSc.av]) :=
 AFun.of hT Tryz.func18 rfl rfl (by simp) (AD.run hT hmix ⟨_, _, rfl, rfl, rfl⟩)
theorem useF : AFun Tryz.prog 19 [eS nmF] (.p nF.ex) :=
 AFun.of hT Tryz.func19 rfl rfl (by simp) (AD.run hT hmix ⟨_, _, rfl, rfl, rfl⟩)
theorem useB : AFun Tryz.prog 19 [eS nmB] (.p nB.ex) :=
 AFun.of hT Tryz.func19 rfl rfl (by simp) (AD.run hT hmix ⟨_, _, rfl, rfl, rfl⟩)
theorem sortOfP : AFun Tryz.prog 16 [sSc.av, eI 2] (.p (eI 1)) := by
 refine AFun.of hT Tryz.func16 rfl rfl (by simp) (AD.run hT hmix ?_)
 intro _
 refine AD.loopI (fun i : Nat => i ≤ 1) (fun i => 2 - i) (fun i => [(1, .p (eI (2 - 2 * i))), (4, .p (eI 0)), (10, .p (ints [2, 1])), (11, eint .i64 2), (12, eint .i64 i)]) (fun _ => []) 0 (by decide) .of fun i hi => ?_
 match i, hi with
 | 0, _ =>
  refine AD.run hT hmix (igo_map 0 rfl (by simp) (ngo_in (by decide) (by decide) (ngo_in (by decide) (by decide) ⟨1, by decide, by decide, .of⟩)))
 | 1, _ => exact AD.run hT hmix (igo_map 1 rfl (by simp) ⟨_, _, rfl, rfl, rfl⟩)
abbrev nilP : AV := .imm (.pointer none)
theorem findP (nm : ByteArray) : AFun Tryz.prog 144 [nilP, eS nm] (.p nilP) := by
 refine AFun.of hT Tryz.func144 rfl rfl (by simp) (AD.run hT hmix ?_)
 refine AD.loopI (fun _ : Unit => True) (fun _ => 0) (fun _ => [(0, .p nilP), (1, .p (eS nm))]) (fun _ => []) () trivial .of fun _ _ => AD.run hT hmix ?_
 exact ⟨_, _, rfl, rfl, rfl⟩
theorem needP (e : Int) (n : AV) (c : List AV) (hn : n = .agg c) (hc : c.length = 5) : AFun Tryz.prog 89 [eB true, eI e, n] (.tup []) := by
 match c, hc with
 | [c0, c1, c2, c3, c4], _ =>
  subst hn
  exact AFun.of hT Tryz.func89 rfl rfl (by simp) (AD.run hT hmix ⟨_, _, rfl, rfl, rfl⟩)
abbrev kF : AV := kd 2 (t8 0 1 0)
abbrev kB : AV := kd 1 (t8 1 0 0)
abbrev sfl : List AV := [.agg [eS nmF, ints [0, 1], eB true]]
abbrev ssr : List AV := [.agg [eS ⟨#[65]⟩, eB false], .agg [eS nmB, eB true]]
abbrev sbx : AHp := [(2, .box 27 (sS.cx.map .p))]
theorem meanF : AFun Tryz.prog 145 [sS.ex, eS nmF] (.p (.slice 2 [kF])) := by
 refine AFun.of hT Tryz.func145 rfl rfl (by simp) (AD.run hT hmix ?_)
 intro _
 refine AD.loopI (fun i : Nat => i ≤ 1) (fun i => 2 - i) (fun i => [(1, .p (eS nmF)), (2, .loc 2 0), (5, if i = 0 then .full 2 [] else .p (.slice 2 [kF])), (11, .p (.slice 3 sfl)), (12, eint .i64 1), (13, eint .i64 i)]) (fun _ => sbx) 0 (by decide) .of fun i hi => ?_
 match i, hi with
 | 0, _ =>
  refine AD.run hT hmix ?_
  refine ⟨0, _, rfl, rfl, ?_⟩
  refine bgo_true (by kernel_rfl) ?_
  refine .pure [ints [0, 1]] _ rfl (of2 0 1 (by decide) (by decide)) ?_
  refine ⟨⟨by decide, by decide⟩, ngo_in (by decide) (by decide) ⟨1, by decide, by decide, .of⟩⟩
 | 1, _ =>
  refine AD.run hT hmix ?_
  intro _
  refine AD.loopI (fun i : Nat => i ≤ 2) (fun i => 2 - i) (fun i => [(1, .p (eS nmF)), (2, .loc 2 0), (5, .p (.slice 2 [kF])), (29, .p (.slice 2 ssr)), (30, eint .i64 2), (31, eint .i64 i)]) (fun _ => sbx) 0 (by decide) .of fun i hi => ?_
  match i, hi with
  | 0, _ =>
   refine AD.run hT hmix ?_
   refine ⟨0, _, rfl, rfl, ?_⟩
   exact bgo_false (by kernel_rfl) (ngo_in (by decide) (by decide) ⟨1, by decide, by decide, .of⟩)
  | 1, _ =>
   refine AD.run hT hmix ?_
   refine ⟨1, _, rfl, rfl, ?_⟩
   refine bgo_false (by kernel_rfl) ?_
   refine ⟨by decide, bgo_false (by kernel_rfl) ?_⟩
   refine ⟨by decide, bgo_false (by kernel_rfl) ?_⟩
   exact ngo_in (by decide) (by decide) ⟨2, by decide, by decide, .of⟩
  | 2, _ => exact AD.run hT hmix ⟨_, _, rfl, rfl, rfl⟩
theorem meanB : AFun Tryz.prog 145 [sS.ex, eS nmB] (.p (.slice 2 [kB])) := by
 refine AFun.of hT Tryz.func145 rfl rfl (by simp) (AD.run hT hmix ?_)
 intro _
 refine AD.loopI (fun i : Nat => i ≤ 1) (fun i => 2 - i) (fun i => [(1, .p (eS nmB)), (2, .loc 2 0), (5, .full 2 []), (11, .p (.slice 3 sfl)), (12, eint .i64 1), (13, eint .i64 i)]) (fun _ => sbx) 0 (by decide) .of fun i hi => ?_
 match i, hi with
 | 0, _ =>
  refine AD.run hT hmix ?_
  refine ⟨0, _, rfl, rfl, ?_⟩
  exact bgo_false (by kernel_rfl) (ngo_in (by decide) (by decide) ⟨1, by decide, by decide, .of⟩)
 | 1, _ =>
  refine AD.run hT hmix ?_
  intro _
  refine AD.loopI (fun i : Nat => i ≤ 2) (fun i => 2 - i) (fun i => [(1, .p (eS nmB)), (2, .loc 2 0), (5, if i < 2 then .full 2 [] else .p (.slice 2 [kB])), (29, .p (.slice 2 ssr)), (30, eint .i64 2), (31, eint .i64 i)]) (fun _ => sbx) 0 (by decide) .of fun i hi => ?_
  match i, hi with
  | 0, _ =>
   refine AD.run hT hmix ?_
   refine ⟨0, _, rfl, rfl, ?_⟩
   exact bgo_false (by kernel_rfl) (ngo_in (by decide) (by decide) ⟨1, by decide, by decide, .of⟩)
  | 1, _ =>
   refine AD.run hT hmix ?_
   refine ⟨1, _, rfl, rfl, ?_⟩
   refine bgo_true (by kernel_rfl) ?_
   refine .pure [ints [1]] _ rfl (of1 1 (by decide)) ?_
   refine ⟨⟨by decide, by decide⟩, ?_⟩
   refine ⟨by decide, bgo_false (by kernel_rfl) ?_⟩
   refine ⟨by decide, bgo_false (by kernel_rfl) ?_⟩
   exact ngo_in (by decide) (by decide) ⟨2, by decide, by decide, .of⟩
  | 2, _ => exact AD.run hT hmix ⟨_, _, rfl, rfl, rfl⟩
abbrev ckP : AV := .ref (sS.cx ++ [eI 0, .slice 1 []])
theorem nameP (n : AV) (nm : ByteArray) (k : AV) (hn : n = .agg [eI 1, eS nm, eI 0, .slice 5 [], eI 0]) (hm : AFun Tryz.prog 145 [sS.ex, eS nm] (.p (.slice 2 [k]))) (hk : ∃ a t, k = kd a t) :
 AFun Tryz.prog 91 [ckP, nilP, n] (.p k) := by
 obtain ⟨a, t, rfl⟩ := hk
 subst hn
 refine AFun.of hT Tryz.func91 rfl rfl (by simp) (AD.run hT hmix ?_)
 refine .pure [nilP, eS nm] _ rfl (findP nm) ?_
 refine .pure [sS.ex, eS nm] _ rfl hm ⟨by kernel_rfl, ?_⟩
 intro _
 refine .pure [eB true, eI 40, .agg [eI 1, eS nm, eI 0, .slice 5 [], eI 0]] _ rfl (needP _ _ _ rfl rfl) ?_
 intro _
 refine .pure [eB true, eI 44, .agg [eI 1, eS nm, eI 0, .slice 5 [], eI 0]] _ rfl (needP _ _ _ rfl rfl) ?_
 exact ⟨0, _, rfl, rfl, _, _, rfl, rfl, rfl⟩
theorem examineL (n : AV) (nm : ByteArray) (k : AV) (hn : n = .agg [eI 1, eS nm, eI 0, .slice 5 [], eI 0]) (hm : AFun Tryz.prog 145 [sS.ex, eS nm] (.p (.slice 2 [k]))) (hk : ∃ a t, k = kd a t) :
 AFun Tryz.prog 41 [ckP, nilP, n, eB false] (.p k) := by
 have h := nameP n nm k hn hm hk
 obtain ⟨a, t, rfl⟩ := hk
 subst hn
 refine AFun.of hT Tryz.func41 rfl rfl (by simp) (AD.run hT hmix ?_)
 refine .pure [eB true, eI 46, .agg [eI 1, eS nm, eI 0, .slice 5 [], eI 0]] _ rfl (needP _ _ _ rfl rfl) ⟨by kernel_rfl, ?_⟩
 refine .pure [ckP, nilP, .agg [eI 1, eS nm, eI 0, .slice 5 [], eI 0]] _ rfl h ?_
 exact ⟨_, _, rfl, rfl, rfl⟩
theorem applyJ : AFun Tryz.prog 93 [ckP, nJ.ex, .slice 2 [kF, kB]] (.p kJ) := by
 refine AFun.of hT Tryz.func93 rfl rfl (by simp) (AD.run hT hmix ?_)
 refine ⟨0, _, rfl, rfl, 1, _, rfl, rfl, ngo_in (by decide) (by decide) (ngo_in (by decide) (by decide) ⟨by kernel_rfl, ?_⟩)⟩
 refine .pure [eB true, eI 42, nJ.ex] _ rfl (needP _ _ _ rfl rfl) ?_
 refine ⟨0, _, rfl, rfl, 1, _, rfl, rfl, ?_⟩
 refine .pure [kF, kB] _ rfl joinT ⟨by kernel_rfl, ?_⟩
 exact ⟨_, _, rfl, rfl, rfl⟩
theorem examineJ : AFun Tryz.prog 41 [ckP, nilP, nJ.ex, eB false] (.p kJ) := by
 have hF := examineL nF.ex nmF kF rfl meanF ⟨_, _, rfl⟩
 have hB := examineL nB.ex nmB kB rfl meanB ⟨_, _, rfl⟩
 refine AFun.of hT Tryz.func41 rfl rfl (by simp) (AD.run hT hmix ?_)
 refine .pure [eB true, eI 46, nJ.ex] _ rfl (needP _ _ _ rfl rfl) ⟨by kernel_rfl, ?_⟩
 intro _
 refine AD.loopI (fun i : Nat => i ≤ 2) (fun i => 2 - i) (fun i => [(0, .p ckP), (1, .p nilP), (3, .p (eB false)), (6, .loc 6 0), (8, .loc 8 0), (10, if i = 0 then .full 2 [] else .own 2 ([kF, kB].take i) 92), (79, .p (.slice 5 [nF.ex, nB.ex])), (80, eint .i64 2), (81, eint .i64 i)])
  (fun i => (6, .box 35 (nJ.ecs.map .p)) :: (8, .box 101 [eint .i64 0, .p (.imm (.map none))]) :: if i = 0 then [] else [(92, .tail i)]) 0 (by decide) .of fun i hi => ?_
 match i, hi with
 | 0, _ =>
  refine AD.run hT hmix ?_
  refine ⟨0, _, rfl, rfl, ?_⟩
  refine .pure [ckP, nilP, nF.ex, eB false] _ rfl hF ?_
  exact ⟨⟨by decide, by decide⟩, ngo_in (by decide) (by decide) ⟨1, by decide, by decide, .of⟩⟩
 | 1, _ =>
  refine AD.run hT hmix ?_
  refine ⟨1, _, rfl, rfl, ?_⟩
  refine .pure [ckP, nilP, nB.ex, eB false] _ rfl hB ?_
  exact ⟨rfl, ⟨by decide, by decide⟩, ngo_in (by decide) (by decide) ⟨2, by decide, by decide, .of⟩⟩
 | 2, _ =>
  refine AD.run hT hmix ?_
  refine .pure [ckP, nJ.ex, .slice 2 [kF, kB]] _ rfl applyJ ?_
  exact ⟨_, _, rfl, rfl, rfl⟩
theorem newCheckerP : AFun Tryz.prog 40 [sS.ex, eI 0] (.p ckP) := by
 refine AFun.of hT Tryz.func40 rfl rfl (by simp) (AD.finSub (AD.run hT hmix ?_))
 refine AD.loopI (fun _ : Unit => True) (fun _ => 0) (fun _ => [(1, .p (eI 0)), (5, .loc 9 0)]) (fun _ => [(9, .box 158 ((sS.cx ++ [eI 0, .slice 1 []]).map .p))]) () trivial .of fun _ _ => AD.run hT hmix ?_
 exact ⟨[(4, .p ckP)], [], .sealB 9, _, _, rfl, rfl, rfl⟩
theorem bindP : AFun Tryz.prog 42 [.slice 2 []] (.p nilP) := by
 refine AFun.of hT Tryz.func42 rfl rfl (by simp) (AD.run hT hmix ?_)
 intro _
 refine AD.loopI (fun _ : Unit => True) (fun _ => 0) (fun _ => [(3, .p nilP), (6, .p (.slice 2 [])), (7, eint .i64 0), (8, eint .i64 0)]) (fun _ => []) () trivial .of fun _ _ => AD.run hT hmix ?_
 exact ⟨_, _, rfl, rfl, rfl⟩
abbrev tcaps : List EV := [.p (.ref sS.cx), .p (.ref [.slice 2 []]), .p (.ref nJ.ecs), .loc 9003 0]
abbrev tb0 : AHp := [(9003, .box 101 [.p (eI 0), .p (.imm (.map none))])]
abbrev tb1 : AHp := [(9003, .box 101 [.p (eI 1), .p (.mp K3 [k000])])]
theorem type1 : EFun Tryz.prog 39 tcaps tb0 (.tup []) tb1 := by
 refine EFun.of hT Tryz.func39 rfl rfl (by simp) rfl (AD.run hT hmix ?_)
 intro _
 refine .pure [sS.ex, eI 0] _ rfl newCheckerP ?_
 refine .pure [.slice 2 []] _ rfl bindP ?_
 refine .pure [ckP, nilP, nJ.ex, eB false] _ rfl examineJ ⟨by kernel_rfl, ?_⟩
 exact ⟨_, [], _, rfl, .of, rfl, rfl, rfl⟩
end Go.Ab
namespace Go.Ab
open Go Go.RowKit
theorem leaves_quietC {P : Program} {fn : Func} {tmps : Array Value} {R : Ending → World → Prop} {f : FuncId} {args cap : Array Value} (hq : DQuiet P f (args ++ cap).size) {w : World} (h : ∃ v, (results fn tmps).run P w = .ok v w ∧ R (.returned v) w) :
 LeavesInM Fence.wide 0 P fn tmps R [{ target := .fn (.func f) cap, args }] .returning w := by
 refine ⟨nofun, .inr ⟨fun e => by simp [Fence.wide] at e, _, _, f, args ++ cap, rfl, ?_, fun _ _ => trivial, ?_⟩⟩
 · simp only [invoke]
   rw [run_callFunc hq.1]
 · obtain ⟨h1, h2⟩ := hq.2 (args ++ cap) w rfl
   refine ⟨h1, fun c cs hc hr => ?_⟩
   obtain ⟨e, u', w', fr, ⟨⟨v, rfl⟩, rfl, rfl⟩, h4, h5⟩ := h2 c cs hc hr
   exact ⟨.returned v, .returning, w', fr, h, h4, h5⟩
theorem tr_textT {P : Program} {N : Nat} {Γ : Ctx} (hN : Γ.ntmps = N) {D : List Deferred} {ops : Array Oper} {l : List Oper} {E : Nat → EV} {H : Hp} {steps E' H'} (ht : Tr P N ops.toList l E H steps E' H') (tl : List Oper) : ∀ (i : Nat) (g : Gh) (a : Act) (w : World), ops.toList.drop i = l ++ tl → SR Γ g E H a w → a.defers = D →
 ∀ (n : Nat) (Q : Exit → Act → World → Prop), (∀ g' a' w', SR Γ g' E' H' a' w' → a'.defers = D → wpOpsIn Γ.F n P ops Q (List.range' (i + l.length) tl.length) a' w') → wpOpsIn Γ.F n P ops Q (List.range' i (l.length + tl.length)) a w := by
 have put : ∀ (a : Act) (d : Option Tmp) (v : Value), (a.put d v).defers = a.defers := fun a d v => by cases d <;> rfl
 have at0 : ∀ {i : Nat} {o : Oper} {r : List Oper}, ops.toList.drop i = o :: r → ops[i]? = some o ∧ ops.toList.drop (i + 1) = r := fun {i o r} hl => by
  refine ⟨?_, by rw [← List.drop_drop, hl]; rfl⟩
  have : (ops.toList.drop i)[0]? = some o := by rw [hl]; rfl
  rw [List.getElem?_drop] at this
  simpa using this
 induction ht with
 | nil E H =>
  intro i g a w _ hs hd n Q hQ
  have := hQ g a w hs hd
  simpa using this
 | @run o l' _ _ _ _ _ _ _ _ _ hd hg ho _ ih =>
  intro i g a w hl hs hdd n Q hQ
  obtain ⟨hoi, hr⟩ := at0 hl
  rw [List.length_cons, Nat.add_right_comm, List.range'_succ, wpOpsIn_cons]
  unfold wpOpIn
  rw [hoi]
  dsimp only
  rw [if_pos (GTake.wanted hg hs.tmps)]
  refine ho.2.2 Γ.rd g a w _ _ (fun _ _ => rfl) (fun _ _ => rfl) hs.tmps hs.inv n _ _ fun v g' w' hle hi hf hx => ?_
  have e := ovr_self ho.1
  rw [e] at hle hi hf hx
  refine ih (i + 1) g' _ w' hr (hs.put (hN ▸ hd) hle hi hf hx) ((put ..).trans hdd) n Q fun g2 a2 w2 h1 h2 => ?_
  have := hQ g2 a2 w2 h1 h2
  rw [List.length_cons] at this
  rw [show i + 1 + l'.length = i + (l'.length + 1) by omega]
  exact this
 | @pass o l' _ _ _ _ _ hd hg _ ih =>
  intro i g a w hl hs hdd n Q hQ
  obtain ⟨hoi, hr⟩ := at0 hl
  rw [List.length_cons, Nat.add_right_comm, List.range'_succ, wpOpsIn_cons]
  unfold wpOpIn
  rw [hoi]
  dsimp only
  rw [GPass.wanted hg hs.tmps]
  simp only [Bool.false_eq_true, if_false]
  refine ⟨fun _ _ => trivial, ih (i + 1) g _ w hr (hs.pass (hN ▸ hd)) ((put ..).trans hdd) n Q fun g2 a2 w2 h1 h2 => ?_⟩
  have := hQ g2 a2 w2 h1 h2
  rw [List.length_cons] at this
  rw [show i + 1 + l'.length = i + (l'.length + 1) by omega]
  exact this
theorem EFun.introC {P : Program} {T : Tab} (hT : TabOk P T) {f : FuncId} {fn : Func} {id0 id1 : Nat} {ops0 : Array Oper} {om od : Oper} {rest : Code} {args : List EV} {h0 : AHp} {y : EV} {h1 : AHp} (hf : P.funcs[f]? = some fn) (hb : fn.body = some (.seq (.region id0 ops0 false) (.seq (.region id1 #[om, od] false) rest)))
 (hname : (fn.name == "runtime.NumGoroutine") = false) (hn : args.length ≤ fn.ntmps) (hbm : onlyBM h0 = true) {t3 : Tmp} {c : Call} {fq : FuncId} (hod : od.op = .defer c) (hgd : od.guard = none) (hdst : od.dst = none) (hc : c.callee = .value (.tmp t3)) (hca : c.args = #[]) (hq : DQuiet P fq 1)
 (hh : aops P T fn.ntmps ops0.toList ops0.toList (mkE 0 args) h0 [] (fun env h _ => aops P T fn.ntmps [om, od] [om] env h [] (fun env h _ => (∃ x, lk env t3 = .fn (.func fq) [] [x]) ∧ AD P fn.ntmps (hp h0) false rest (FinE T fn.results.toList h0 (fun y' h' => y' = y ∧ h' = h1)) env h))) : EFun P f args h0 y h1 := by
 refine ⟨⟨fn, hf, hname, by rw [hb]; rfl⟩, fun g w vs hi hl hr => ?_⟩
 refine (callsIn_wide (n := 0)).1 (callsIn_of_wp_marks hf hb trivial ?_)
 have hs0 := start_E hi hl hr hn
 obtain ⟨steps, env1, hp1, htr, hA2, g1, a1, w1, hs1⟩ := aops_tr hT (N := fn.ntmps) (Γ := ⟨w, g, hp h0, fn.ntmps, [], none⟩) rfl _ _ _ _ _ hh _ _ w hs0
 obtain ⟨steps2, env2, hp2, htr2, ⟨⟨xc, hxc⟩, hAD⟩, g2, a2, w2, hs2⟩ := aops_tr hT (N := fn.ntmps) (Γ := ⟨w, g, hp h0, fn.ntmps, [], none⟩) rfl _ _ _ _ _ hA2 _ _ _ hs1
 obtain ⟨ae, env', h', hqq, _, hg⟩ := AD.out hAD ⟨_, g2, a2, w2, ⟨⟨rfl, rfl⟩, fun _ => rfl⟩, hs2⟩
 refine wpIn_seq ?_
 refine wpIn_region ?_
 rw [List.range_eq_range']
 have hl0 : ops0.size = ops0.toList.length := by simp
 rw [hl0]
 refine tr_textD (Γ := ⟨w, g, hp h0, fn.ntmps, [], none⟩) rfl (D := []) htr 0 _ _ w (by simp) hs0 rfl _ (fun g3 a3 w3 hs3 hd3 => ?_) 0
 show Code.wpIn _ _ _ (.seq _ _) _ _ _
 refine wpIn_seq (wpIn_region ?_)
 rw [List.range_eq_range']
 show wpOpsIn _ _ _ _ _ (List.range' 0 ([om].length + [od].length)) _ _
 refine tr_textT (Γ := ⟨w, g, hp h0, fn.ntmps, [], none⟩) (ops := #[om, od]) rfl (D := []) htr2 [od] 0 g3 a3 w3 rfl hs3 hd3 0 _ fun g4 a4 w4 hs4 hd4 => ?_
 show wpOpsIn _ _ _ _ _ [1] _ _
 obtain ⟨vc, hvc⟩ : ∃ vc, a4.eval (.tmp t3) = .func (.func fq) #[] #[vc] := by
  have h3 := hs4.tmps t3
  rw [hxc] at h3
  generalize hv : a4.tmps.getD t3 undef = v at h3
  cases h3 with
  | fn _ vf vc first caps hl1 hl2 h1 h2 =>
   obtain rfl : vf = [] := List.length_eq_zero_iff.1 hl1
   match vc, hl2 with
   | [x], _ => exact ⟨x, hv⟩
 obtain ⟨dq, hdq⟩ : ∃ dq : Deferred, dq = { target := .fn (.func fq) #[vc], args := #[] } := ⟨_, rfl⟩
 have hres : (execOp a4.eval od).run P w4 = .ok (.defer dq) w4 := by
  simp only [execOp, hod, resolve, hc, hca, hvc, Deferred.ofValue]
  rw [hdq]
  simp
 refine wpOps_one (o := od) rfl hgd ⟨fun _ _ => trivial, ?_⟩
 show od.uponIn _ _ _ _ _ _ ((execOp a4.eval od).run P w4)
 rw [hres, Oper.uponIn_defer, hdst]
 show Code.wpIn _ _ _ rest _ { a4 with defers := dq :: a4.defers } w4
 have hs5 : SR ⟨w, g, hp h0, fn.ntmps, [dq], none⟩ g4 (lk env2) (hp hp2) { a4 with defers := dq :: a4.defers } w4 :=
  ⟨hs4.size, DfOk.start (by rw [hd4]), hs4.tmps, hs4.inv, ⟨hs4.fr.kept, hs4.fr.fz, hs4.fr.low, hs4.fr.own, hs4.fr.box, hs4.fr.map, hs4.fr.tail⟩⟩
 have hw := (hg ⟨w, g, hp h0, fn.ntmps, [dq], none⟩ ⟨⟨rfl, rfl⟩, fun _ => rfl⟩ (fun e en hh => e = ae ∧ en = env' ∧ hh = h') ⟨rfl, rfl, rfl⟩).out g4 _ w4 hs5 0
 refine wpIn_mono hw ?_
 rintro e a6 w6 ⟨ae6, en6, hh6, g6, he6, ⟨rfl, rfl, rfl⟩, hs6⟩
 obtain ⟨ds, d1, d2, d3⟩ := hs6.dfr
 have key : (∃ es ys h2, resAll T en6 hh6 fn.results.toList = some es ∧ SubAll es.length (hp h0) (mkE 0 es) hh6 (mkE 0 ys) h2 ∧ Nat.beq ys.length es.length = true ∧ retE ys = y ∧ h2 = h1) →
  LeavesInM Fence.wide 0 P fn a6.tmps (fun e w' => ∃ v g', e = .returned v ∧ GLe g (hp h0) g' (hp h1) ∧ WInv g' (hp h1) w' ∧ Fr ⟨w, g, hp h0, 0, [], none⟩ g' (hp h1) w' ∧ ERep g' (hp h1) v y) a6.defers .returning w6 := by
  rintro ⟨es, ys, h2, q1, q2, q3, rfl, rfl⟩
  have q3 := Nat.eq_of_beq_eq_true q3
  rw [d1]
  refine leaves_marksT ds w6 d2 (fun d hd => (d3 d hd).1) fun w7 hk => ?_
  have hs := hs6.other hk fun b hb => ⟨(d3 b hb).2.1, (d3 b hb).2.2, _, (d3 b hb).1⟩
  rw [show ([dq] : List Deferred) = [{ target := .fn (.func fq) #[vc], args := #[] }] from by rw [hdq]]
  refine leaves_quietC (by simpa using hq) ?_
  obtain ⟨us, r1, r2, r3⟩ := results_run hT (fn := fn) hs.tmps hs.inv q1
  have hsr : SR ⟨w, g, hp h0, es.length, [], none⟩ g6 (lk (mkE 0 es)) (hp hh6) { tmps := us.toArray ++ Array.replicate 0 undef, defers := [] } w7 :=
   ⟨by simp [r2], DfOk.start rfl, fun t => mkE_reps r2 r3 0 t, hs.inv, ⟨hs.fr.kept, hs.fr.fz, hs.fr.low, hs.fr.own, hs.fr.box, hs.fr.map, hs.fr.tail⟩⟩
  obtain ⟨g8, hs8⟩ := q2 _ ⟨rfl, rfl⟩ g6 _ w7 hsr
  refine ⟨_, r1, _, g8, rfl, ?_, hs8.inv, ⟨hs8.fr.kept, hs8.fr.fz, hs8.fr.low, hs8.fr.own, hs8.fr.box, hs8.fr.map, hs8.fr.tail⟩, ret_rep (by rw [r2, q3]) fun i v x hv hx => ?_⟩
  · refine ⟨hs8.fr.fz, fun k t cs hk => ?_, fun k hk => ?_, fun k m hk => ?_, fun k kp es hk => ?_⟩
    · rcases hs8.fr.box k t cs hk with h | ⟨cs', a1, a2, a3, a4⟩
      · exact .inl h
      · exact .inr ⟨a3, a4, cs', a1, a2⟩
    · rcases onlyBM_at hbm k with h | ⟨_, _, h⟩ | ⟨_, _, h⟩ | ⟨_, h⟩ | ⟨_, h⟩ <;> rw [h] at hk <;> cases hk
    · exact hs8.fr.tail k m hk
    · rcases hs8.fr.map k kp es hk with h | ⟨cs', a1, a2⟩
      · exact .inl h
      · exact .inr ⟨a2, cs', a1⟩
  · have := hs8.tmps i
    rw [lk_mkE] at this
    simp only [Nat.not_lt_zero, if_false, Nat.sub_zero, hx] at this
    have hlt : i < us.length := (List.getElem?_eq_some_iff.1 hv).1
    have e : (us.toArray ++ Array.replicate 0 undef).getD i undef = v := by
     have := (List.getElem?_eq_some_iff.1 hv).2
     simp [hlt, this]
    rw [e] at this
    exact this
 cases ae6 with
 | normal => cases e <;> first | exact he6.elim | exact key hqq
 | exit i => exact hqq.elim
 | ret => cases e <;> first | exact he6.elim | exact key hqq
end Go.Ab
