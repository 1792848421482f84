/- Texts PB, PC, PD, PJ2, PN, PE, PF, PG, PH, PK, PN2, PN3, PI, PL, PM, WA4. Conditions: none. -/
import Derived.Test.YtmllhjbnbhapoaaGreatGI
import Derived.Test.YtmllhjbnbhapoaaGreatGE
import Derived.Test.YtmllhjbnbhapoaaGreatGF
import Derived.Test.YtmllhjbnbhapoaaGreatGH
set_option linter.unusedSimpArgs false
set_option linter.unusedVariables false
namespace Go.Ab
open Go Go.Proofs
set_option maxRecDepth 10000
theorem indexI (l : List Int) (v : Int) : ∃ r : Int, (0 ≤ r ↔ v ∈ l) ∧ AFun Tryz.prog 197 [ints l, eI v] (.p (eI r)) := by
 suffices hh : ∃ y, (∃ r : Int, (0 ≤ r ↔ v ∈ l) ∧ y = .p (eI r)) ∧ AFun Tryz.prog 197 [ints l, eI v] y by
  obtain ⟨y, ⟨r, h, rfl⟩, hf⟩ := hh
  exact ⟨r, h, hf⟩
 have ha : (l.map eI).length = l.length := List.length_map _
 refine AFunE.intro hT Tryz.func197 rfl rfl (by simp) ⟨_, if v ∈ l then 0 else -1, by split <;> simp [*], rfl⟩ (AD.run hT hmix ?_)
 intro h1
 refine AD.loopI (fun i : Nat => i ≤ l.length ∧ v ∉ l.take i) (fun i => l.length - i) (fun i => [(0, .p (ints l)), (1, .p (eI v)), (7, eint .i64 (l.map eI).length), (8, eint .i64 i)]) (fun _ => []) 0 ⟨Nat.zero_le _, by simp⟩ .of fun i ⟨g1, g2⟩ => AD.run hT hmix ?_
 refine bgo_split (fun h2 => ?_) (fun h2 => ?_)
 · replace h2 := of_decide_eq_true h2
   have hlt : i < l.length := by omega
   refine igo_map i rfl hlt ?_
   refine bgo_split (fun h3 => ?_) (fun h3 => ?_)
   · have h3 : v = l[i] := by simpa using h3
     exact ⟨_, _, rfl, rfl, (i : Int), ⟨fun _ => h3 ▸ List.getElem_mem hlt, fun _ => by omega⟩, rfl⟩
   · have h3 : v ≠ l[i] := by simpa using h3
     refine ngo_in (by omega) (by omega) ⟨i + 1, ⟨by omega, ?_⟩, by omega, .of⟩
     rw [List.take_succ_eq_append_getElem hlt, List.mem_append, List.mem_singleton]
     exact fun h => h.elim g2 h3
 · replace h2 := of_decide_eq_false h2
   obtain rfl : i = l.length := by omega
   rw [List.take_length] at g2
   exact ⟨_, _, rfl, rfl, -1, ⟨fun h => by omega, fun h => absurd h g2⟩, rfl⟩
theorem containsI (l : List Int) (v : Int) : AFun Tryz.prog 140 [ints l, eI v] (.p (eB (decide (v ∈ l)))) := by
 obtain ⟨r, hr, hf⟩ := indexI l v
 refine AFun.of hT Tryz.func140 rfl rfl (by simp) (AD.run hT hmix (.pure [ints l, eI v] _ rfl hf ⟨_, _, rfl, rfl, ?_⟩))
 rw [show decide (v ∈ l) = decide (r ≥ 0) from by rw [decide_eq_decide]; exact hr.symm]; rfl
abbrev bools (l : List Bool) : AV := .slice 1 (l.map eB)
theorem indexB (l : List Bool) (v : Bool) : ∃ r : Int, (0 ≤ r ↔ v ∈ l) ∧ AFun Tryz.prog 139 [bools l, eB v] (.p (eI r)) := by
 suffices hh : ∃ y, (∃ r : Int, (0 ≤ r ↔ v ∈ l) ∧ y = .p (eI r)) ∧ AFun Tryz.prog 139 [bools l, eB v] y by
  obtain ⟨y, ⟨r, h, rfl⟩, hf⟩ := hh
  exact ⟨r, h, hf⟩
 have ha : (l.map eB).length = l.length := List.length_map _
 refine AFunE.intro hT Tryz.func139 rfl rfl (by simp) ⟨_, if v ∈ l then 0 else -1, by split <;> simp [*], rfl⟩ (AD.run hT hmix ?_)
 intro h1
 refine AD.loopI (fun i : Nat => i ≤ l.length ∧ v ∉ l.take i) (fun i => l.length - i) (fun i => [(0, .p (bools l)), (1, .p (eB v)), (7, eint .i64 (l.map eB).length), (8, eint .i64 i)]) (fun _ => []) 0 ⟨Nat.zero_le _, by simp⟩ .of fun i ⟨g1, g2⟩ => AD.run hT hmix ?_
 refine bgo_split (fun h2 => ?_) (fun h2 => ?_)
 · replace h2 := of_decide_eq_true h2
   have hlt : i < l.length := by omega
   refine igo_map i rfl hlt ?_
   refine bgo_split (fun h3 => ?_) (fun h3 => ?_)
   · have h3 : v = l[i] := by simpa using h3
     exact ⟨_, _, rfl, rfl, (i : Int), ⟨fun _ => h3 ▸ List.getElem_mem hlt, fun _ => by omega⟩, rfl⟩
   · have h3 : v ≠ l[i] := by simpa using h3
     refine ngo_in (by omega) (by omega) ⟨i + 1, ⟨by omega, ?_⟩, by omega, .of⟩
     rw [List.take_succ_eq_append_getElem hlt, List.mem_append, List.mem_singleton]
     exact fun h => h.elim g2 h3
 · replace h2 := of_decide_eq_false h2
   obtain rfl : i = l.length := by omega
   rw [List.take_length] at g2
   exact ⟨_, _, rfl, rfl, -1, ⟨fun h => by omega, fun h => absurd h g2⟩, rfl⟩
theorem containsB (l : List Bool) (v : Bool) : AFun Tryz.prog 82 [bools l, eB v] (.p (eB (decide (v ∈ l)))) := by
 obtain ⟨r, hr, hf⟩ := indexB l v
 refine AFun.of hT Tryz.func82 rfl rfl (by simp) (AD.run hT hmix (.pure [bools l, eB v] _ rfl hf ⟨_, _, rfl, rfl, ?_⟩))
 rw [show decide (v ∈ l) = decide (r ≥ 0) from by rw [decide_eq_decide]; exact hr.symm]; rfl
theorem numLit {s : Spc} {m : Mdl} {n : Nd} (ho : n.op = 20) (st : Int) (env : List (ByteArray × Int)) : CN s m n st env n.n := by
 refine AFun.of hT Tryz.func80 rfl rfl (by simp) ?_
 rw [show n.ex = .agg [eI 20, eS n.name, eI n.n, .slice 5 (n.kids.map Nd.av), eI n.at_] by rw [Nd.ex, ho]]
 exact AD.run hT hmix ⟨_, _, rfl, rfl, rfl⟩
theorem numCard {s : Spc} {m : Mdl} {n k0 : Nd} (ho : n.op = 21) (hk : n.kids = [k0]) {st : Int} {env : List (ByteArray × Int)} {r0 : Rl} (h0 : CX s m k0 st env r0) : CN s m n st env r0.tuples.length := by
 have hkm : n.kids.map Nd.av = [k0.ex] := by rw [hk, Nd.av_ex]; rfl
 refine AFun.of hT Tryz.func80 rfl rfl (by simp) ?_
 rw [show n.ex = .agg [eI 21, eS n.name, eI n.n, .slice 5 [k0.ex], eI n.at_] by rw [Nd.ex, ho, hkm]]
 refine AD.run hT hmix ?_
 refine ⟨0, _, rfl, rfl, .pure [mch s m, plc st env, k0.ex] _ rfl h0 ?_⟩
 intro _
 exact ⟨by kernel_rfl, _, _, rfl, rfl, (by rw [show r0.tuples.length = (r0.tuples.map eI).length from (List.length_map _).symm]; rfl)⟩
theorem numAdd {s : Spc} {m : Mdl} {n k0 k1 : Nd} (ho : n.op = 22) (hk : n.kids = [k0, k1]) {st : Int} {env : List (ByteArray × Int)} {i0 i1 : Int} (h0 : CN s m k0 st env i0) (h1 : CN s m k1 st env i1) : CN s m n st env (IntKind.i64.wrap (i0 + i1)) := by
 have hkm : n.kids.map Nd.av = [k0.ex, k1.ex] := by rw [hk, Nd.av_ex]; rfl
 refine AFun.of hT Tryz.func80 rfl rfl (by simp) ?_
 rw [show n.ex = .agg [eI 22, eS n.name, eI n.n, .slice 5 [k0.ex, k1.ex], eI n.at_] by rw [Nd.ex, ho, hkm]]
 refine AD.run hT hmix ?_
 exact ⟨0, _, rfl, rfl, .pure [mch s m, plc st env, k0.ex] _ rfl h0 ⟨1, _, rfl, rfl, .pure [mch s m, plc st env, k1.ex] _ rfl h1 ⟨_, rfl, ⟨by kernel_rfl, _, _, rfl, rfl, rfl⟩⟩⟩⟩
theorem numSub {s : Spc} {m : Mdl} {n k0 k1 : Nd} (ho : n.op = 23) (hk : n.kids = [k0, k1]) {st : Int} {env : List (ByteArray × Int)} {i0 i1 : Int} (h0 : CN s m k0 st env i0) (h1 : CN s m k1 st env i1) : CN s m n st env (IntKind.i64.wrap (i0 - i1)) := by
 have hkm : n.kids.map Nd.av = [k0.ex, k1.ex] := by rw [hk, Nd.av_ex]; rfl
 refine AFun.of hT Tryz.func80 rfl rfl (by simp) ?_
 rw [show n.ex = .agg [eI 23, eS n.name, eI n.n, .slice 5 [k0.ex, k1.ex], eI n.at_] by rw [Nd.ex, ho, hkm]]
 refine AD.run hT hmix ?_
 exact ⟨0, _, rfl, rfl, .pure [mch s m, plc st env, k0.ex] _ rfl h0 ⟨1, _, rfl, rfl, .pure [mch s m, plc st env, k1.ex] _ rfl h1 ⟨_, rfl, ⟨by kernel_rfl, _, _, rfl, rfl, rfl⟩⟩⟩⟩
theorem nodup_len : ∀ (n : Nat) (l : List Int), l.Nodup → (∀ x ∈ l, 0 ≤ x ∧ x < n) → l.length ≤ n
 | 0, l, _, h => by
  cases l with
  | nil => exact Nat.zero_le _
  | cons x l => have := h x (List.mem_cons_self ..); omega
 | n + 1, l, hn, h => by
  by_cases hm : (n : Int) ∈ l
  · have := nodup_len n (l.erase n) (hn.erase _) fun x hx => by
     have h1 := (hn.mem_erase_iff).1 hx
     have h2 := h x h1.2
     omega
    rw [List.length_erase_of_mem hm] at this
    omega
  · have := nodup_len n l hn fun x hx => by
     have h2 := h x hx
     have : x ≠ n := fun e => hm (e ▸ hx)
     omega
    omega
theorem pathP {s : Spc} {m : Mdl} (hm : MOk s m) (hl : m.states.length ≤ 100) {st : Int} (hst : 0 ≤ st ∧ st < m.states.length) : AFun Tryz.prog 84 [mch s m, eI st] (.p (ints (pathOf m st))) := by
 refine AFun.of hT Tryz.func84 rfl rfl (by simp) (AD.run hT hmix ?_)
 refine AD.loopI (fun x : Nat × Int × List Int => (0 ≤ x.2.1 ∧ x.2.1 < m.states.length) ∧ x.2.2.Nodup ∧ (∀ y ∈ x.2.2, 0 ≤ y ∧ y < m.states.length) ∧ x.1 + x.2.2.length = m.states.length + 2 ∧ pathGo m x.1 x.2.1 x.2.2 = pathOf m st) (fun x => x.1) (fun x => [(0, .p (mch s m)), (5, .own 1 (x.2.2.map eI) 5), (6, .p (eI x.2.1))]) (fun x => [(5, .tail (x.2.2.map eI).length)]) (m.states.length + 2, st, []) ⟨hst, List.nodup_nil, by simp, by simp, rfl⟩ .of fun ⟨k, t, out⟩ ⟨g1, g2, g3, g4, g5⟩ => AD.run hT hmix ?_
 dsimp only at g1 g2 g3 g4 g5 ⊢
 have hlen := nodup_len _ _ g2 g3
 refine .pure [ints out, eI t] _ rfl (containsI out t) ?_
 obtain ⟨k, rfl⟩ : ∃ k', k = k' + 1 := ⟨k - 1, by omega⟩
 rw [pathGo] at g5
 refine bgo_split (fun h => ?_) (fun h => ?_)
 · have h : t ∉ out := by simpa using h
   rw [if_neg h] at g5
   refine ⟨rfl, ⟨by simp; omega, by simp; omega⟩, .pure [m.av, eI t] _ rfl (nextP m t ⟨g1.1, by omega⟩) ⟨(k, nextSt m t, out ++ [t]), ⟨nextSt_ok hm g1.1 g1.2, ?_, ?_, by dsimp only; simp; omega, g5⟩, by dsimp only; omega, ?_⟩⟩
   · exact List.pairwise_append.2 ⟨g2, List.pairwise_singleton _ _, fun x hx y hy => by rw [List.mem_singleton.1 hy]; rintro rfl; exact h hx⟩
   · intro y hy
     rcases List.mem_append.1 hy with hy | hy
     · exact g3 y hy
     · rw [List.mem_singleton.1 hy]; exact g1
   · dsimp only
     rw [List.map_append]
     exact .of
 · have h : t ∈ out := by simpa using h
   rw [if_pos h] at g5
   exact ⟨_, _, rfl, rfl, by rw [← g5]; rfl⟩
theorem alongP {s : Spc} {m : Mdl} {k0 : Nd} {env : List (ByteArray × Int)} (l : List Int) (hl : l.length ≤ 1000) (b : Int → Bool) (st : Int) (h0 : ∀ t ∈ l, CF s m k0 t env (b t)) : AFun Tryz.prog 83 [mch s m, ints l, plc st env, k0.ex] (.p (bools (l.map b))) := by
 have ha : (l.map eI).length = l.length := List.length_map _
 refine AFun.of hT Tryz.func83 rfl rfl (by simp) (AD.run hT hmix ?_)
 intro h1
 refine AD.loopI (fun x : Nat × List AV => x.1 ≤ l.length ∧ x.2 = ((l.take x.1).map b).map eB) (fun x => l.length - x.1) (fun x => [(0, .p (mch s m)), (6, .loc 6 0), (7, .loc 7 0), (9, .own 1 x.2 9), (12, .p (ints l)), (13, eint .i64 (l.map eI).length), (14, eint .i64 x.1)]) (fun x => [(6, .box 90 ([eI st, .slice 2 (env.map bdA)].map .p)), (7, .box 35 ([eI k0.op, eS k0.name, eI k0.n, .slice 5 (k0.kids.map Nd.av), eI k0.at_].map .p)), (9, .tail x.2.length)]) (0, []) ⟨Nat.zero_le _, rfl⟩ .of fun ⟨i, es⟩ ⟨g1, g2⟩ => AD.run hT hmix ?_
 dsimp only at g1 g2 ⊢
 have hes : es.length = i := by rw [g2]; simp; omega
 refine bgo_split (fun h2 => ?_) (fun h2 => ?_)
 · replace h2 := of_decide_eq_true h2
   have hlt : i < l.length := by omega
   refine igo_map i rfl hlt (.pure [mch s m, plc l[i] env, k0.ex] _ rfl (h0 _ (List.getElem_mem hlt)) ⟨rfl, ⟨by simp; omega, by simp; omega⟩, ngo_in (by omega) (by omega) ⟨(i + 1, es ++ [eB (b l[i])]), ⟨by dsimp only; omega, ?_⟩, by dsimp only; omega, .of⟩⟩)
   dsimp only
   rw [List.take_succ_eq_append_getElem hlt, List.map_append, List.map_append, g2]; rfl
 · replace h2 := of_decide_eq_false h2
   obtain rfl : i = l.length := by omega
   rw [List.take_length] at g2
   exact ⟨_, _, rfl, rfl, by rw [g2]; rfl⟩
theorem untilGo_cons (f g : Int → Bool) (t : Int) (r : List Int) (d e : Bool) : untilGo f g (t :: r) d e = untilGo f g r (d || (g t && !e)) (e || !f t) := rfl
theorem untilP {s : Spc} {m : Mdl} (hm : MOk s m) (hl : m.states.length ≤ 100) {n k0 k1 : Nd} (hk : n.kids = [k0, k1]) {st : Int} (hst : 0 ≤ st ∧ st < m.states.length) {env : List (ByteArray × Int)} (f g : Int → Bool) (h0 : ∀ t : Int, 0 ≤ t ∧ t < (m.states.length : Int) → CF s m k0 t env (f t)) (h1 : ∀ t : Int, 0 ≤ t ∧ t < (m.states.length : Int) → CF s m k1 t env (g t)) :
 AFun Tryz.prog 86 [mch s m, plc st env, n.ex] (.p (eB (untilGo f g (pathOf m st) false false))) := by
 have hkm : n.kids.map Nd.av = [k0.ex, k1.ex] := by rw [hk, Nd.av_ex]; rfl
 have hpr := pathOf_ok hm hst.1 hst.2
 have hpp := pathP hm hl hst
 obtain ⟨l, hll⟩ : ∃ l, pathOf m st = l := ⟨_, rfl⟩
 rw [hll] at hpr hpp ⊢
 have ha : (l.map eI).length = l.length := List.length_map _
 refine AFun.of hT Tryz.func86 rfl rfl (by simp) ?_
 rw [show n.ex = .agg [eI n.op, eS n.name, eI n.n, .slice 5 [k0.ex, k1.ex], eI n.at_] by rw [Nd.ex, hkm]]
 refine AD.run hT hmix (.pure [mch s m, eI st] _ rfl hpp ?_)
 intro h2
 refine AD.loopI (fun x : Nat × Bool × Bool => x.1 ≤ l.length ∧ untilGo f g (l.drop x.1) x.2.1 x.2.2 = untilGo f g l false false) (fun x => l.length - x.1) (fun x => [(0, .p (mch s m)), (4, .loc 4 0), (5, .loc 5 0), (7, .p (eB x.2.1)), (8, .p (eB x.2.2)), (17, .p (ints l)), (18, eint .i64 (l.map eI).length), (19, eint .i64 x.1)]) (fun _ => [(4, .box 90 ([eI st, .slice 2 (env.map bdA)].map .p)), (5, .box 35 ([eI n.op, eS n.name, eI n.n, .slice 5 [k0.ex, k1.ex], eI n.at_].map .p))]) (0, false, false) ⟨Nat.zero_le _, rfl⟩ .of fun ⟨i, d, e⟩ ⟨g1, g2⟩ => AD.run hT hmix ?_
 dsimp only at g1 g2 ⊢
 refine bgo_split (fun h3 => ?_) (fun h3 => ?_)
 · replace h3 := of_decide_eq_true h3
   have hlt : i < l.length := by omega
   have hr := hpr _ (List.getElem_mem hlt)
   rw [List.drop_eq_getElem_cons hlt, untilGo_cons] at g2
   refine igo_map i rfl hlt ?_
   refine ⟨0, _, rfl, rfl, .pure [mch s m, plc l[i] env, k0.ex] _ rfl (h0 _ hr) ⟨1, _, rfl, rfl, .pure [mch s m, plc l[i] env, k1.ex] _ rfl (h1 _ hr) ⟨by kernel_rfl, ?_⟩⟩⟩
   generalize f l[i] = x at g2 ⊢
   generalize g l[i] = y at g2 ⊢
   cases d <;> cases e <;> cases x <;> cases y <;> exact ngo_in (by omega) (by omega) ⟨(i + 1, _, _), ⟨by dsimp only; omega, g2⟩, by dsimp only; omega, .of⟩
 · replace h3 := of_decide_eq_false h3
   obtain rfl : i = l.length := by omega
   rw [List.drop_length] at g2
   exact ⟨_, _, rfl, rfl, by rw [← g2]; rfl⟩
theorem clipO (es : List AV) (hl : es.length ≤ 10000000) : AFunO Tryz.prog 137 [.slice 2 es] 2 es := by
 suffices hh : ∃ rs, rs = es ∧ AFunO Tryz.prog 137 [.slice 2 es] 2 rs by
  obtain ⟨rs, rfl, h⟩ := hh
  exact h
 refine AFunOE.intro hT Tryz.func137 rfl rfl (by simp) ⟨_, rfl⟩ (AD.run hT hmix ?_)
 intro h1 h2
 refine ⟨0, es.length, rfl, rfl, Nat.zero_le _, Nat.le_refl _, rfl, by decide, _, _, rfl, .inl rfl, ?_⟩
 rw [List.drop_zero, Nat.sub_zero, List.take_length]
def insts (l : List Int) (q : Int → Bool) : List (List AV) := l.map fun x => [eI x, eB (q x)]
theorem insts_at (l : List Int) (q : Int → Bool) {i : Nat} (hi : i < l.length) : (insts l q)[i]? = some [eI l[i], eB (q l[i])] := by simp [insts, hi]
theorem instIter (a : Int) (l : List Int) (q : Int → Bool) (hm : l.length ≤ 1000000) : IterP Tryz.prog 138 [] [.ref [eI a, ints l], .ref [bools (l.map q)]] (insts l q) := by
 have hl : (l.map eI).length = l.length := List.length_map _
 have hl2 : ((l.map q).map eB).length = l.length := by simp
 have hil : (insts l q).length = l.length := by simp [insts]
 refine IterP.of hT Tryz.func138 rfl rfl (by simp) fun p J stop fin h1 h2 h3 hy => AD.run hT hmix ?_
 rw [hil] at h1 h2
 intro _
 refine AD.loopI (fun i : Nat => i ≤ stop ∧ (fin = false → i < stop)) (fun i => l.length - i) (fun i => [(0, .p (yv p)), (2, .p (.ref [bools (l.map q)])), (7, .p (ints l)), (8, eint .i64 (l.map eI).length), (9, eint .i64 i)]) (fun i => [(xk, .ext (J i))]) 0 ⟨Nat.zero_le _, h3⟩ .of fun i ⟨g1, g2⟩ => AD.run hT hmix ?_
 refine bgo_split (fun hb => ?_) (fun hb => ?_)
 · replace hb := of_decide_eq_true hb
   have hi : i < l.length := by omega
   have his : i < stop := by
    cases fin with
    | true => have := h2 rfl; omega
    | false => exact g2 rfl
   have hyi := hy i _ his (insts_at l q hi)
   refine igo_map i rfl hi ⟨i, eB (q l[i]), rfl, by simp [hi], .mk xk (J i) (J (i + 1)) _ _ rfl rfl hyi ?_⟩
   cases hB : fin || Nat.blt (i + 1) stop with
   | true =>
    refine ngo_in (by omega) (by omega) ⟨i + 1, ⟨by omega, fun hf => ?_⟩, by omega, .of⟩
    rw [hf] at hB
    exact Nat.le_of_ble_eq_true hB
   | false =>
    rw [Bool.or_eq_false_iff] at hB
    have : ¬ (i + 1 < stop) := fun h => by rw [show Nat.blt (i + 1) stop = true from Nat.ble_eq_true_of_le h] at hB; cases hB.2
    obtain rfl : i + 1 = stop := by omega
    exact ⟨[], [], _, rfl, .of, rfl, rfl, rfl⟩
 · replace hb := of_decide_eq_false hb
   have hi : i = l.length := by omega
   have : fin = true := by
    cases fin with
    | true => rfl
    | false => have := g2 rfl; omega
   have := h2 this
   obtain rfl : i = stop := by omega
   exact ⟨[], [], _, rfl, .of, rfl, rfl, rfl⟩
theorem instP {s : Spc} {m : Mdl} {n k0 k1 : Nd} (hk : n.kids = [k0, k1]) {st : Int} {env : List (ByteArray × Int)} (henv : env.length ≤ 5000000) {r0 : Rl} (hlen : r0.tuples.length ≤ 2000) (h0 : CX s m k0 st env r0) (a1 : r0.arity = 1) (q : Int → Bool) (h1 : ∀ x ∈ r0.tuples, CF s m k1 st (env ++ [(n.name, x)]) (q x)) :
 AFun Tryz.prog 81 [mch s m, plc st env, n.ex] (.p (.fn (.func 138) [] [.ref r0.cs, .ref [bools (r0.tuples.map q)]])) := by
 have hkm : n.kids.map Nd.av = [k0.ex, k1.ex] := by rw [hk, Nd.av_ex]; rfl
 have hl : (r0.tuples.map eI).length = r0.tuples.length := List.length_map _
 have hel : (env.map bdA).length = env.length := List.length_map _
 have hcl := clipO (env.map bdA) (by omega)
 refine AFun.of hT Tryz.func81 rfl rfl (by simp) ?_
 rw [show n.ex = .agg [eI n.op, eS n.name, eI n.n, .slice 5 [k0.ex, k1.ex], eI n.at_] by rw [Nd.ex, hkm]]
 refine AD.cut hT hmix 11 (fun _ : Unit => True) (fun _ => [(7, .p (.ref r0.cs)), (8, .p (.ref [bools (r0.tuples.map q)]))]) (fun _ => []) ?_ fun _ _ => AD.run hT hmix ⟨_, _, rfl, rfl, rfl⟩
 refine ⟨0, _, rfl, rfl, .pure [mch s m, plc st env, k0.ex] _ rfl h0 ⟨by kernel_rfl, bgo_false (by simp [a1]) ?_⟩⟩
 intro h2
 refine AD.loopI (fun x : Nat × List AV => x.1 ≤ r0.tuples.length ∧ x.2 = ((r0.tuples.take x.1).map q).map eB) (fun x => r0.tuples.length - x.1)
  (fun x => [(0, .p (mch s m)), (4, .loc 4 0), (5, .loc 5 0), (7, .loc 7 0), (8, .loc 8 0), (24, .p (ints r0.tuples)), (25, eint .i64 (r0.tuples.map eI).length), (26, eint .i64 x.1)])
  (fun x => [(4, .box 90 ([eI st, .slice 2 (env.map bdA)].map .p)), (5, .box 35 ([eI n.op, eS n.name, eI n.n, .slice 5 [k0.ex, k1.ex], eI n.at_].map .p)), (7, .box 50 (r0.cs.map .p)), (8, .box 129 [.own 1 x.2 51]), (51, .tail x.2.length)]) (0, []) ⟨Nat.zero_le _, rfl⟩ .of fun ⟨i, es⟩ ⟨g1, g2⟩ => AD.run hT hmix ?_
 dsimp only at g1 g2 ⊢
 have hes : es.length = i := by rw [g2]; simp; omega
 refine bgo_split (fun h3 => ?_) (fun h3 => ?_)
 · replace h3 := of_decide_eq_true h3
   have hlt : i < r0.tuples.length := by omega
   have hf := h1 _ (List.getElem_mem hlt)
   rw [CF, plc, List.map_append] at hf
   refine igo_map i rfl hlt (.own [.slice 2 (env.map bdA)] 2 (env.map bdA) 32 rfl hcl rfl rfl ⟨rfl, ⟨by simp; omega, by simp; omega⟩, ⟨by kernel_rfl, ?_⟩⟩)
   refine ⟨1, _, rfl, rfl, .pure [mch s m, .agg [eI st, .slice 2 (env.map bdA ++ [bdA (n.name, r0.tuples[i])])], k1.ex] _ rfl hf ⟨rfl, ⟨by simp; omega, by simp; omega⟩, ⟨by kernel_rfl, ngo_in (by omega) (by omega) ⟨(i + 1, es ++ [eB (q r0.tuples[i])]), ⟨by dsimp only; omega, ?_⟩, by dsimp only; omega, .of⟩⟩⟩⟩
   dsimp only
   rw [List.take_succ_eq_append_getElem hlt, List.map_append, List.map_append, g2]; rfl
 · replace h3 := of_decide_eq_false h3
   obtain rfl : i = r0.tuples.length := by omega
   rw [List.take_length] at g2
   subst g2
   exact ⟨(), trivial, (SubAll.sealB (env' := [(7, .p (.ref r0.cs)), (8, .loc 8 0)]) (h' := [(8, .box 129 [.own 1 ((r0.tuples.map q).map eB) 51]), (51, .tail ((r0.tuples.map q).map eB).length)]) 7).trans (.sealB 8)⟩
theorem jumpNone (b : Bool) : JumpOk (bif b then none else none) .normal := by cases b <;> trivial
theorem comprP {s : Spc} {m : Mdl} {n k0 k1 : Nd} (hk : n.kids = [k0, k1]) {st : Int} {env : List (ByteArray × Int)} (henv : env.length ≤ 5000000) {r0 : Rl} (hlen : r0.tuples.length ≤ 2000) (h0 : CX s m k0 st env r0) (a1 : r0.arity = 1) (q : Int → Bool) (h1 : ∀ x ∈ r0.tuples, CF s m k1 st (env ++ [(n.name, x)]) (q x)) :
 MC 72 s m st env n ⟨1, r0.tuples.filter q⟩ := by
 have hi := instP hk henv hlen h0 a1 q h1
 obtain ⟨l, hl⟩ : ∃ l, r0.tuples = l := ⟨_, rfl⟩
 have hit := instIter r0.arity l q (by rw [← hl]; omega)
 have hil : (insts l q).length = l.length := by simp [insts]
 rw [show r0.cs = [eI r0.arity, ints l] by rw [← hl]; rfl] at hi
 rw [hl] at hi hlen ⊢
 refine AFun.of hT Tryz.func72 rfl rfl (by simp) (AD.run hT hmix ?_)
 refine .pure [mch s m, plc st env, n.ex] _ rfl hi ?_
 refine AD.rangeFunc (T := T) hit [(6, .loc 6 0), (7, .loc 7 0), (14, .p (.fn (.func 138) [] [.ref [eI r0.arity, ints l], .ref [bools (l.map q)]]))]
  (fun i => [(6, .box 50 [.p (eI 0), .full 1 []]), (7, .box 50 [.p (eI 1), .own 1 (((l.take i).filter q).map eI) 22]), (22, .tail (((l.take i).filter q).map eI).length)]) l.length none .of rfl (by rw [hil]; exact Nat.le_refl _) (fun _ => hil.symm) (fun h => absurd rfl h) ?_ ?_ ?_
 · intro i xs hi hx
   rw [insts_at l q hi] at hx
   cases hx
   have hfl : ((l.take i).filter q).length ≤ i := Nat.le_trans (List.length_filter_le ..) (by rw [List.length_take]; omega)
   have hsn : (l.take (i + 1)).filter q = (l.take i).filter q ++ [l[i]].filter q := by rw [List.take_succ_eq_append_getElem hi, List.filter_append]
   refine AD.run hT hmix (AD.run hT hmix ?_)
   refine bgo_split (fun hb => ?_) (fun hb => ?_)
   · refine ⟨rfl, ⟨by simp; omega, by simp; omega⟩, jumpNone _, ?_⟩
     dsimp only
     rw [hsn, show [l[i]].filter q = [l[i]] by simp [hb], List.map_append]
     exact .of
   · refine ⟨jumpNone _, ?_⟩
     dsimp only
     rw [hsn, show [l[i]].filter q = [] by simp [hb], List.append_nil]
     exact .of
 · intro xs hx
   obtain ⟨x, _, rfl⟩ := List.mem_map.1 hx
   exact ⟨rfl, rfl⟩
 · rw [List.take_length]
   exact ⟨_, _, rfl, rfl, rfl⟩
end Go.Ab
namespace Go.Ab
open Go Go.Proofs
open Go.Proofs.YtmllhjbnbhapoaaGreat (rowsOf keysOf addK)
set_option maxRecDepth 10000
theorem joinL (n p : Nat) (a b : Rl) (hn0 : 0 < n) (hn : n ≤ 12) (hra : ∀ x ∈ a.tuples, 0 ≤ x ∧ x < 2000) (hrb : ∀ x ∈ b.tuples, 0 ≤ x ∧ x < 2000) (hla : a.tuples.length ≤ 2000) (hlb : b.tuples.length ≤ 2000) (k : Nat) (hk : k ≤ 3) (hb : b.arity = k + 1) (ha : 1 ≤ a.arity ∧ a.arity ≤ 3) (h1 : 1 ≤ a.arity + b.arity - 2) (h3 : a.arity + b.arity - 2 ≤ 3) (hp : n ^ k = p) :
 AFun Tryz.prog 117 [eI n, a.av, b.av] (.tup [.p (Rl.av ⟨a.arity + b.arity - 2, srt (jits n p a.tuples b.tuples)⟩), .p (eI 0)]) := by
 have hp0 : 0 < p := by rw [← hp]; exact Nat.pow_pos hn0
 have hp1 : p ≤ 1728 := by rw [← hp]; exact Nat.le_trans (Nat.pow_le_pow_left hn k) (Nat.le_trans (Nat.pow_le_pow_right (by decide) hk) (by decide))
 have hpc : ((n : Int) ^ k) = (p : Int) := by rw [← hp]; simp
 have hpw := powerP n k ⟨by omega, by omega⟩ hk
 rw [hpc] at hpw
 have hM := matchesP n p a b (by omega) (fun x hx => by have := hrb x hx; omega) hp0 hp1
 have hI := matchIter n p a b.tuples hn0 hp0 hp1 (by omega) (by omega) hra hrb
 obtain ⟨l, hl⟩ : ∃ l, jits n p a.tuples b.tuples = l := ⟨_, rfl⟩
 have hll : l.length ≤ 4000000 := by rw [← hl]; exact Nat.le_trans (jits_most ..) (Nat.le_trans (Nat.mul_le_mul hla hlb) (by decide))
 rw [hl] at hI ⊢
 have hil : (its l).length = l.length := by simp [its]
 obtain ⟨rm, hrm⟩ : ∃ rm, AV.mp (.int .i64) (rowsM p b.tuples) = rm := ⟨_, rfl⟩
 rw [hrm] at hI hM
 obtain ⟨c, hc⟩ : ∃ c, a.arity + b.arity - 2 = c := ⟨_, rfl⟩
 rw [hc] at h1 h3 ⊢
 refine AFun.of hT Tryz.func117 rfl rfl (by simp) (AD.finSub (AD.run hT hmix ?_))
 refine ngo_in (by omega) (by omega) (ngo_in (by omega) (by omega) ?_)
 rw [hc]
 refine bgo_false (decide_eq_false (by omega)) (bgo_false (decide_eq_false (by omega)) (bgo_false (decide_eq_false (by omega)) ?_))
 refine ngo_in (by omega) (by omega) ?_
 rw [show b.arity - 1 = (k : Int) by omega]
 refine .pure [eI n, eI k] _ rfl hpw (.pure [eI n, eI p, a.av, b.av] _ rfl hM ⟨by kernel_rfl, ?_⟩)
 refine AD.rangeFuncT (T := T) hI [(6, .loc 6 0), (8, .p (eI c)), (9, .loc 9 0), (36, .p (.fn (.func 231) [] [.ref a.cs, .ref [rm], .ref [eI n], .ref [eI p]]))]
  (fun i => [(6, .box 50 [.p (eI 0), .full 1 []]), (9, .box 28 [.arr 1 200 0 i]), (200, .box 3 (((l.take i).map eI).map .p))])
  (fun i => [(6, .box 50 [.p (eI 0), .full 1 []]), (9, .box 28 [.arr 1 41 0 (i + 1)]), (41, .box 3 (((l.take (i + 1)).map eI).map .p)), (200, .lost)]) l.length none ?_ ?_ rfl (by rw [hil]; exact Nat.le_refl _) (fun _ => hil.symm) (fun h => absurd rfl h) ?_ ?_ ?_
 · refine (SubAll.vec (h' := [(6, .box 50 [.p (eI 0), .full 1 []]), (9, .box 28 [.arr 1 200 0 0]), (200, .box 3 [])]) 200 (h2 := ⟨⟨rfl, .inl ⟨⟨.inl rfl, rfl⟩, ⟨.inl rfl, rfl⟩, trivial⟩⟩, ⟨rfl, .inl ⟨⟨.inr (.inr (.inr (.inr (.inl ⟨_, _, _, rfl, rfl, rfl, rfl⟩)))), rfl⟩, trivial⟩⟩, rfl, trivial⟩))
 · intro i hi
   exact (SubAllT.ren 41 200).trans .of
 · intro i xs hi hx
   have hlt : i < l.length := hi
   rw [its_at (List.getElem?_eq_getElem hlt)] at hx
   cases hx
   have htk : (l.take i).length = i := by rw [List.length_take]; omega
   refine AD.run hT hmix (AD.run hT hmix ?_)
   refine ⟨by rw [List.length_map, List.length_map, htk, Nat.mul_one], ⟨by simp; omega, by simp; omega⟩, jumpNone _, ?_⟩
   rw [List.take_succ_eq_append_getElem hlt, List.map_append, List.map_append]
   exact .of
 · intro xs hx
   obtain ⟨x, _, rfl⟩ := List.mem_map.1 hx
   exact ⟨rfl, rfl⟩
 · rw [List.take_length]
   refine .eff [(200, .box 3 ((l.map eI).map .p))] [(200, .box 3 (((srtC l).map eI).map .p))] _ (sortedK 200 c l (by omega)) ⟨rfl, trivial⟩ rfl rfl (okH_one _ _ _ _) rfl ?_
   refine ⟨[(6, .loc 6 0), (7, .p (eI 0))], [(6, .box 50 [.p (eI c), .p (ints (srt l))])], .sealB 200 (hx := toPs_p _) (h1 := ⟨⟨.inl rfl, rfl⟩, ⟨.inl rfl, rfl⟩, trivial⟩) (h2 := ⟨⟨rfl, .inl ⟨⟨.inl rfl, rfl⟩, ⟨.inr (.inr (.inr (.inl ⟨_, _, rfl, seal_srt _ _⟩))), rfl⟩, trivial⟩⟩, trivial⟩), _, _, rfl, rfl, rfl⟩
theorem joinP {n : Int} (hn0 : 0 < n) (hn : n ≤ 12) : JP n := by
 intro a b ha hb h1 h3
 obtain ⟨N, rfl⟩ : ∃ N : Nat, n = N := ⟨n.toNat, by omega⟩
 have hla := ok_len hn0 hn ha
 have hlb := ok_len hn0 hn hb
 obtain ⟨k, hk⟩ : ∃ k : Nat, b.arity = k + 1 := ⟨(b.arity - 1).toNat, by have := hb.a; omega⟩
 have hj := joinL N (N ^ k) a b (by omega) (by omega) (fun x hx => ok_rng hn0 hn ha hx) (fun x hx => ok_rng hn0 hn hb hx) hla hlb k (by have := hb.a; omega) hk ha.a h1 h3 rfl
 have e : srt (jits N ((N ^ k : Nat) : Int) a.tuples b.tuples) = (rJoin N a b).tuples := by
  have hP : pw (N : Int) (b.arity - 1) = ((N ^ k : Nat) : Int) := by rw [pw, hk, show ((k : Int) + 1 - 1).toNat = k by omega]; simp
  refine srt_cl fun x => ?_
  rw [hP, mem_jits]
  refine ⟨fun h => ⟨?_, h⟩, fun h => h.2⟩
  obtain ⟨u, hu, v, hv, e1, rfl⟩ := h
  have hu2 := ha.rng u hu
  have hv2 := hb.rng v hv
  have ha1 := ha.a
  obtain ⟨j, hj⟩ : ∃ j : Nat, a.arity = j + 1 := ⟨(a.arity - 1).toNat, by omega⟩
  rw [hj, show ((j : Int) + 1).toNat = j + 1 by omega] at hu2
  obtain ⟨d0, d1⟩ := div_lt_pow hn0 hu2.1 hu2.2
  have hpc : ((N ^ k : Nat) : Int) = (N : Int) ^ k := by simp
  rw [hpc]
  have hpp := ipow_pos hn0 k
  obtain ⟨m0, m1⟩ := mod_rng hpp v
  have hc := comb_lt hpp d1 m1
  have hcn := comb_nn hpp d0 m0
  rw [← Int.pow_add] at hc
  have := pow_le_2000 hn0 hn (k := j + k) (by omega)
  omega
 rw [e] at hj
 exact hj
end Go.Ab
namespace Go.Ab
open Go Go.Proofs
set_option maxRecDepth 10000
theorem backP (bs : List Bind) : AFun Tryz.prog 122 [binds bs] (.p (.fn (.func 190) [] [.ref [binds bs]])) := by
 refine AFun.of hT Tryz.func122 rfl rfl (by simp) ?_
 exact AD.cut hT hmix 1 (fun _ : Unit => True) (fun _ => [(1, .p (.ref [binds bs]))]) (fun _ => []) ⟨(), trivial, .sealB 1⟩ fun _ _ => AD.run hT hmix ⟨_, _, rfl, rfl, rfl⟩
theorem clipI (l : List Int) (hl : l.length ≤ 10000000) : AFun Tryz.prog 124 [ints l] (.p (ints l)) := by
 refine AFun.of hT Tryz.func124 rfl rfl (by simp) (AD.run hT hmix ?_)
 intro h1 h2
 refine ⟨0, (l.map eI).length, rfl, rfl, Nat.zero_le _, Nat.le_refl _, rfl, _, _, rfl, rfl, ?_⟩
 rw [List.drop_zero, Nat.sub_zero, List.take_length]; rfl
def rnk (n : Int) (l : List Int) : Int := l.foldl (fun r a => r * n + a) 0
theorem rnk_snoc (n : Int) (l : List Int) {i : Nat} (hi : i < l.length) : rnk n (l.take (i + 1)) = rnk n (l.take i) * n + l[i] := by
 rw [List.take_succ_eq_append_getElem hi, rnk, List.foldl_append]; rfl
theorem rankU (s : Scope) (h : small s.atoms) (N : Nat) (hN : sumI s.atoms = N) (h12 : N ≤ 12) (l : List Int) (hl : l.length ≤ 3) (hr : ∀ x ∈ l, 0 ≤ x ∧ x < N) :
 AFun Tryz.prog 125 [s.av, ints l] (.p (eI (rnk N l))) := by
 have hll : (l.map eI).length = l.length := List.length_map _
 have hat := atomsP s h
 rw [hN] at hat
 refine AFun.of hT Tryz.func125 rfl rfl (by simp) (AD.run hT hmix ?_)
 intro h1
 refine bgo_false (decide_eq_false (by omega)) (.pure [s.av] _ rfl hat ?_)
 intro h2
 refine AD.loopI (fun i : Nat => i ≤ l.length ∧ 0 ≤ rnk N (l.take i) ∧ rnk N (l.take i) < (N : Int) ^ i) (fun i => l.length - i) (fun i => [(5, .p (eI N)), (6, .p (eI (rnk N (l.take i)))), (14, .p (ints l)), (15, eint .i64 (l.map eI).length), (16, eint .i64 i)]) (fun _ => []) 0 ⟨Nat.zero_le _, by simp [rnk], by simp [rnk]⟩ .of fun i ⟨g1, g2, g3⟩ => AD.run hT hmix ?_
 refine bgo_split (fun hb => ?_) (fun hb => ?_)
 · replace hb := of_decide_eq_true hb
   have hlt : i < l.length := by omega
   have hx := hr _ (List.getElem_mem hlt)
   have hw := withinP l[i] 0 ((N : Int) - 1)
   rw [show (decide (0 ≤ l[i]) && decide (l[i] ≤ (N : Int) - 1)) = true by rw [decide_eq_true hx.1, decide_eq_true (show l[i] ≤ (N : Int) - 1 by omega)]; rfl] at hw
   have hc := comb_lt (show (0 : Int) < N by omega) g3 hx.2
   have hcn := comb_nn (show (0 : Int) < N by omega) g2 hx.1
   have hp : (N : Int) ^ i * N ≤ 2000 := by rw [← Int.pow_succ]; exact pow_le_2000 (by omega) (by omega) (by omega)
   have hm : 0 ≤ rnk N (l.take i) * N := Int.mul_nonneg g2 (by omega)
   refine igo_map i rfl hlt (ngo_in (by omega) (by omega) (.pure [eI l[i], eI 0, eI ((N : Int) - 1)] _ rfl hw (ngo_in (by omega) (by omega) (ngo_in (by omega) (by omega) (ngo_in (by omega) (by omega) ⟨i + 1, ⟨by omega, ?_, ?_⟩, by omega, ?_⟩)))))
   · rw [rnk_snoc _ _ hlt]; exact hcn
   · rw [rnk_snoc _ _ hlt, Int.pow_succ]; exact hc
   · rw [rnk_snoc _ _ hlt]; exact .of
 · replace hb := of_decide_eq_false hb
   obtain rfl : i = l.length := by omega
   exact ⟨_, _, rfl, rfl, by rw [List.take_length]; rfl⟩
abbrev tupF (s : Scope) (pre : Int) (l : List Int) : AV := .fn (.func 232) [] [.ref [ints l], .ref [eI pre], .ref s.cs]
theorem tuplesP (s : Scope) (pre : Int) (l : List Int) : AFun Tryz.prog 191 [s.av, eI pre, ints l] (.p (tupF s pre l)) := by
 refine AFun.of hT Tryz.func191 rfl rfl (by simp) ?_
 refine AD.cut hT hmix 1 (fun _ : Unit => True) (fun _ => [(5, .p (.ref [ints l])), (4, .p (.ref [eI pre])), (3, .p (.ref s.cs))]) (fun _ => []) ⟨(), trivial, ?_⟩ fun _ _ => AD.run hT hmix ⟨_, _, rfl, rfl, rfl⟩
 exact (SubAll.sealB (env' := [(5, .loc 5 0), (4, .loc 4 0), (3, .p (.ref s.cs))]) (h' := [(5, .box 28 [.p (ints l)]), (4, .box 3 [.p (eI pre)])]) 3 (hx := toPs_p s.cs)).trans ((SubAll.sealB (env' := [(5, .loc 5 0), (4, .p (.ref [eI pre])), (3, .p (.ref s.cs))]) (h' := [(5, .box 28 [.p (ints l)])]) 4).trans (.sealB 5))
theorem tup0 (s : Scope) (pre : Int) : IterP Tryz.prog 232 [] [.ref [ints []], .ref [eI pre], .ref s.cs] [[eI pre]] := by
 refine IterP.of hT Tryz.func232 rfl rfl (by simp) fun q J stop fin h1 h2 h3 hy => AD.run hT hmix ?_
 have h1 : stop ≤ 1 := h1
 have hs : stop = 1 := by
  cases fin with
  | true => exact h2 rfl
  | false => have := h3 rfl; omega
 subst hs
 have hyi := hy 0 _ (by omega) rfl
 intro _
 refine .mk xk (J 0) (J 1) _ _ rfl rfl hyi ?_
 exact ⟨[], [], _, rfl, .of, rfl, rfl, rfl⟩
def sortL (s : Scope) (i : Nat) : List Int := (List.range (atomsOf s i).toNat).map fun k : Nat => firstOf s i + k
theorem tup1 (s : Scope) (h : small s.atoms) (N : Nat) (hN : sumI s.atoms = N) (h12 : N ≤ 12) (i : Nat) (hi : i < s.atoms.length) : IterP Tryz.prog 232 [] [.ref [ints [(i : Int)]], .ref [eI 0], .ref s.cs] (its (sortL s i)) := by
 have hat := atomsP s h
 rw [hN] at hat
 have hfi := firstP s h i (by omega)
 have hsm := h.at hi
 have hao : atomsOf s i = s.atoms[i] := by rw [atomsOf, List.getElem?_eq_getElem hi]; rfl
 obtain ⟨m, hm⟩ : ∃ m : Nat, s.atoms[i] = m := ⟨s.atoms[i].toNat, by omega⟩
 have hf0 := h.sum i (by omega)
 have hl4 := h.1
 have hfo : firstOf s i = sumI (s.atoms.take i) := rfl
 have hil : (its (sortL s i)).length = m := by simp [its, sortL, hao, hm]
 have hat2 : ∀ k, k < m → (its (sortL s i))[k]? = some [eI (firstOf s i + k)] := fun k hk => its_at (by simp [sortL, hao, hm, hk])
 refine IterP.of hT Tryz.func232 rfl rfl (by simp) fun q J stop fin h1 h2 h3 hy => AD.run hT hmix ?_
 rw [hil] at h1 h2
 intro _
 refine ⟨0, eI i, rfl, rfl, .pure [s.av, eI i] _ rfl hfi ⟨by kernel_rfl, ?_⟩⟩
 refine AD.loopI (fun k : Nat => k ≤ stop ∧ (fin = false → k < stop)) (fun k => m - k) (fun k => [(1, .p (.ref [ints [(i : Int)]])), (2, .p (.ref [eI 0])), (3, .p (.ref s.cs)), (4, .loc 4 0), (5, .p (eI (firstOf s i))), (6, .p (eI (firstOf s i + k)))]) (fun k => [(4, .box 235 [.p (yv q)]), (xk, .ext (J k))]) 0 ⟨Nat.zero_le _, h3⟩ ?_ fun k ⟨g1, g2⟩ => AD.run hT hmix ?_
 · rw [show firstOf s i + ((0 : Nat) : Int) = firstOf s i by simp]; exact .of
 · refine ⟨0, eI i, rfl, rfl, igo_map i rfl hi ?_⟩
   rw [hm]
   refine ngo_in (by omega) (by omega) ⟨by kernel_rfl, bgo_split (fun hb => ?_) (fun hb => ?_)⟩
   · replace hb := of_decide_eq_true hb
     have hk : k < m := by omega
     have hks : k < stop := by
      cases fin with
      | true => have := h2 rfl; omega
      | false => exact g2 rfl
     have hyi := hy k _ hks (hat2 k hk)
     have ht := tuplesP s (0 * (N : Int) + (firstOf s i + k)) []
     have ht0 := tup0 s (0 * (N : Int) + (firstOf s i + k))
     refine .pure [s.av] _ rfl hat (ngo_in (by omega) (by omega) (ngo_in (by omega) (by omega) ⟨1, 1, rfl, rfl, Nat.le_refl _, Nat.le_refl _, .pure [s.av, eI (0 * (N : Int) + (firstOf s i + k)), ints []] _ rfl ht ⟨by kernel_rfl, ?_⟩⟩))
     rw [show 0 * (N : Int) + (firstOf s i + k) = firstOf s i + k by omega] at ht0 ⊢
     cases hB : fin || Nat.blt (k + 1) stop with
     | true =>
      rw [hB] at hyi
      refine AD.rangeFunc (T := T) ht0 [(1, .p (.ref [ints [(i : Int)]])), (2, .p (.ref [eI 0])), (3, .p (.ref s.cs)), (4, .loc 4 0), (5, .p (eI (firstOf s i))), (6, .p (eI (firstOf s i + k))), (42, .p (tupF s (firstOf s i + k) []))] (fun j => [(4, .box 235 [.p (yv q)]), (xk, .ext (J (k + j)))]) 1 none .of rfl (Nat.le_refl _) (fun _ => rfl) (fun h => absurd rfl h) ?_ ?_ ?_
      · intro j xs hj hx
        obtain rfl : j = 0 := by omega
        obtain rfl : [eI (firstOf s i + k)] = xs := Option.some.inj hx
        refine AD.run hT hmix (AD.run hT hmix ?_)
        exact .mk xk (J k) (J (k + 1)) _ _ rfl rfl hyi ⟨trivial, .of⟩
      · intro xs hx
        obtain rfl := List.mem_singleton.1 hx
        exact ⟨rfl, rfl⟩
      · refine ngo_in (by omega) (by omega) ⟨k + 1, ⟨by omega, fun hf => ?_⟩, by omega, ?_⟩
        · rw [hf] at hB
          exact Nat.le_of_ble_eq_true hB
        · rw [show firstOf s i + ((k + 1 : Nat) : Int) = firstOf s i + k + 1 by omega]; exact .of
     | false =>
      rw [hB] at hyi
      rw [Bool.or_eq_false_iff] at hB
      have : ¬ (k + 1 < stop) := fun h => by rw [show Nat.blt (k + 1) stop = true from Nat.ble_eq_true_of_le h] at hB; cases hB.2
      obtain rfl : k + 1 = stop := by omega
      refine AD.rangeFunc (T := T) ht0 [(42, .p (tupF s (firstOf s i + k) [])), (4, .loc 4 0)] (fun j => [(4, .box 235 [.p (yv q)]), (xk, .ext (J (k + j)))]) 1 (some .ret) .of rfl (Nat.le_refl _) (fun h => by cases h) (fun _ => Nat.one_pos) ?_ ?_ ?_
      · intro j xs hj hx
        obtain rfl : j = 0 := by omega
        obtain rfl : [eI (firstOf s i + k)] = xs := Option.some.inj hx
        refine AD.run hT hmix (AD.run hT hmix ?_)
        exact .mk xk (J k) (J (k + 1)) _ _ rfl rfl hyi ⟨trivial, .of⟩
      · intro xs hx
        obtain rfl := List.mem_singleton.1 hx
        exact ⟨rfl, rfl⟩
      · exact ⟨[], [], _, rfl, .of, rfl, rfl, rfl⟩
   · replace hb := of_decide_eq_false hb
     have hk : k = m := by omega
     have : fin = true := by
      cases fin with
      | true => rfl
      | false => have := g2 rfl; omega
     have := h2 this
     obtain rfl : k = stop := by omega
     exact ⟨[], [], _, rfl, .of, rfl, rfl, rfl⟩
theorem ex_6 {s : Spc} {m : Mdl} {n : Nd} (ho : n.op = 6) {st : Int} {env : List (ByteArray × Int)} {r : Rl} (h : MC 62 s m st env n r) : CX s m n st env r := by
 have he : n.ex = .agg [eI 6, eS n.name, eI n.n, .slice 5 (n.kids.map Nd.av), eI n.at_] := by rw [Nd.ex, ho]
 rw [MC, he] at h
 rw [CX, he]
 exact AFun.of hT Tryz.func32 rfl rfl (by simp) (AD.run hT hmix (.pure [mch s m, plc st env, .agg [eI 6, eS n.name, eI n.n, .slice 5 (n.kids.map Nd.av), eI n.at_]] _ rfl h ⟨_, _, rfl, rfl, rfl⟩))
theorem ex_7 {s : Spc} {m : Mdl} {n : Nd} (ho : n.op = 7) {st : Int} {env : List (ByteArray × Int)} {r : Rl} (h : MC 63 s m st env n r) : CX s m n st env r := by
 have he : n.ex = .agg [eI 7, eS n.name, eI n.n, .slice 5 (n.kids.map Nd.av), eI n.at_] := by rw [Nd.ex, ho]
 rw [MC, he] at h
 rw [CX, he]
 exact AFun.of hT Tryz.func32 rfl rfl (by simp) (AD.run hT hmix (.pure [mch s m, plc st env, .agg [eI 7, eS n.name, eI n.n, .slice 5 (n.kids.map Nd.av), eI n.at_]] _ rfl h ⟨_, _, rfl, rfl, rfl⟩))
theorem ex_8 {s : Spc} {m : Mdl} {n : Nd} (ho : n.op = 8) {st : Int} {env : List (ByteArray × Int)} {r : Rl} (h : MC 64 s m st env n r) : CX s m n st env r := by
 have he : n.ex = .agg [eI 8, eS n.name, eI n.n, .slice 5 (n.kids.map Nd.av), eI n.at_] := by rw [Nd.ex, ho]
 rw [MC, he] at h
 rw [CX, he]
 exact AFun.of hT Tryz.func32 rfl rfl (by simp) (AD.run hT hmix (.pure [mch s m, plc st env, .agg [eI 8, eS n.name, eI n.n, .slice 5 (n.kids.map Nd.av), eI n.at_]] _ rfl h ⟨_, _, rfl, rfl, rfl⟩))
theorem ex_14 {s : Spc} {m : Mdl} {n : Nd} (ho : n.op = 14) {st : Int} {env : List (ByteArray × Int)} {r : Rl} (h : MC 65 s m st env n r) : CX s m n st env r := by
 have he : n.ex = .agg [eI 14, eS n.name, eI n.n, .slice 5 (n.kids.map Nd.av), eI n.at_] := by rw [Nd.ex, ho]
 rw [MC, he] at h
 rw [CX, he]
 exact AFun.of hT Tryz.func32 rfl rfl (by simp) (AD.run hT hmix (.pure [mch s m, plc st env, .agg [eI 14, eS n.name, eI n.n, .slice 5 (n.kids.map Nd.av), eI n.at_]] _ rfl h ⟨_, _, rfl, rfl, rfl⟩))
theorem ex_9 {s : Spc} {m : Mdl} {n : Nd} (ho : n.op = 9) {st : Int} {env : List (ByteArray × Int)} {r : Rl} (h : MC 66 s m st env n r) : CX s m n st env r := by
 have he : n.ex = .agg [eI 9, eS n.name, eI n.n, .slice 5 (n.kids.map Nd.av), eI n.at_] := by rw [Nd.ex, ho]
 rw [MC, he] at h
 rw [CX, he]
 exact AFun.of hT Tryz.func32 rfl rfl (by simp) (AD.run hT hmix (.pure [mch s m, plc st env, .agg [eI 9, eS n.name, eI n.n, .slice 5 (n.kids.map Nd.av), eI n.at_]] _ rfl h ⟨_, _, rfl, rfl, rfl⟩))
theorem ex_10 {s : Spc} {m : Mdl} {n : Nd} (ho : n.op = 10) {st : Int} {env : List (ByteArray × Int)} {r : Rl} (h : MC 67 s m st env n r) : CX s m n st env r := by
 have he : n.ex = .agg [eI 10, eS n.name, eI n.n, .slice 5 (n.kids.map Nd.av), eI n.at_] := by rw [Nd.ex, ho]
 rw [MC, he] at h
 rw [CX, he]
 exact AFun.of hT Tryz.func32 rfl rfl (by simp) (AD.run hT hmix (.pure [mch s m, plc st env, .agg [eI 10, eS n.name, eI n.n, .slice 5 (n.kids.map Nd.av), eI n.at_]] _ rfl h ⟨_, _, rfl, rfl, rfl⟩))
theorem ex_11 {s : Spc} {m : Mdl} {n : Nd} (ho : n.op = 11) {st : Int} {env : List (ByteArray × Int)} {r : Rl} (h : MC 68 s m st env n r) : CX s m n st env r := by
 have he : n.ex = .agg [eI 11, eS n.name, eI n.n, .slice 5 (n.kids.map Nd.av), eI n.at_] := by rw [Nd.ex, ho]
 rw [MC, he] at h
 rw [CX, he]
 exact AFun.of hT Tryz.func32 rfl rfl (by simp) (AD.run hT hmix (.pure [mch s m, plc st env, .agg [eI 11, eS n.name, eI n.n, .slice 5 (n.kids.map Nd.av), eI n.at_]] _ rfl h ⟨_, _, rfl, rfl, rfl⟩))
theorem ex_12 {s : Spc} {m : Mdl} {n : Nd} (ho : n.op = 12) {st : Int} {env : List (ByteArray × Int)} {r : Rl} (h : MC 69 s m st env n r) : CX s m n st env r := by
 have he : n.ex = .agg [eI 12, eS n.name, eI n.n, .slice 5 (n.kids.map Nd.av), eI n.at_] := by rw [Nd.ex, ho]
 rw [MC, he] at h
 rw [CX, he]
 exact AFun.of hT Tryz.func32 rfl rfl (by simp) (AD.run hT hmix (.pure [mch s m, plc st env, .agg [eI 12, eS n.name, eI n.n, .slice 5 (n.kids.map Nd.av), eI n.at_]] _ rfl h ⟨_, _, rfl, rfl, rfl⟩))
theorem ex_13 {s : Spc} {m : Mdl} {n : Nd} (ho : n.op = 13) {st : Int} {env : List (ByteArray × Int)} {r : Rl} (h : MC 70 s m st env n r) : CX s m n st env r := by
 have he : n.ex = .agg [eI 13, eS n.name, eI n.n, .slice 5 (n.kids.map Nd.av), eI n.at_] := by rw [Nd.ex, ho]
 rw [MC, he] at h
 rw [CX, he]
 exact AFun.of hT Tryz.func32 rfl rfl (by simp) (AD.run hT hmix (.pure [mch s m, plc st env, .agg [eI 13, eS n.name, eI n.n, .slice 5 (n.kids.map Nd.av), eI n.at_]] _ rfl h ⟨_, _, rfl, rfl, rfl⟩))
theorem ex_5 {s : Spc} {m : Mdl} {n : Nd} (ho : n.op = 5) {st : Int} {env : List (ByteArray × Int)} {r : Rl} (h : MC 71 s m st env n r) : CX s m n st env r := by
 have he : n.ex = .agg [eI 5, eS n.name, eI n.n, .slice 5 (n.kids.map Nd.av), eI n.at_] := by rw [Nd.ex, ho]
 rw [MC, he] at h
 rw [CX, he]
 exact AFun.of hT Tryz.func32 rfl rfl (by simp) (AD.run hT hmix (.pure [mch s m, plc st env, .agg [eI 5, eS n.name, eI n.n, .slice 5 (n.kids.map Nd.av), eI n.at_]] _ rfl h ⟨_, _, rfl, rfl, rfl⟩))
theorem ex_15 {s : Spc} {m : Mdl} {n : Nd} (ho : n.op = 15) {st : Int} {env : List (ByteArray × Int)} {r : Rl} (h : MC 72 s m st env n r) : CX s m n st env r := by
 have he : n.ex = .agg [eI 15, eS n.name, eI n.n, .slice 5 (n.kids.map Nd.av), eI n.at_] := by rw [Nd.ex, ho]
 rw [MC, he] at h
 rw [CX, he]
 exact AFun.of hT Tryz.func32 rfl rfl (by simp) (AD.run hT hmix (.pure [mch s m, plc st env, .agg [eI 15, eS n.name, eI n.n, .slice 5 (n.kids.map Nd.av), eI n.at_]] _ rfl h ⟨_, _, rfl, rfl, rfl⟩))
theorem ex_2 {s : Spc} {m : Mdl} {n : Nd} (ho : n.op = 2) {st : Int} {env : List (ByteArray × Int)} : CX s m n st env ⟨n.n, []⟩ := by
 rw [CX, show n.ex = .agg [eI 2, eS n.name, eI n.n, .slice 5 (n.kids.map Nd.av), eI n.at_] by rw [Nd.ex, ho]]
 exact AFun.of hT Tryz.func32 rfl rfl (by simp) (AD.run hT hmix ⟨_, _, rfl, rfl, rfl⟩)
theorem ex_4 {s : Spc} {m : Mdl} (hn0 : 0 < m.n) (hn : m.n ≤ 12) {n : Nd} (ho : n.op = 4) {st : Int} {env : List (ByteArray × Int)} : CX s m n st env (rIden m.n) := by
 obtain ⟨N, hN⟩ : ∃ N : Nat, m.n = N := ⟨m.n.toNat, by omega⟩
 have hi := idenP N (by omega)
 rw [← hN] at hi
 rw [CX, show n.ex = .agg [eI 4, eS n.name, eI n.n, .slice 5 (n.kids.map Nd.av), eI n.at_] by rw [Nd.ex, ho]]
 exact AFun.of hT Tryz.func32 rfl rfl (by simp) (AD.run hT hmix (.pure [eI m.n] _ rfl hi ⟨_, _, rfl, rfl, rfl⟩))
theorem univ_eq (N : Nat) (hN : N ≤ 12) : (rUniv N).tuples = (List.range N).map fun i : Nat => (i : Int) := by
 refine (cl_eq (up_pairs (fun i j h => by omega) N) fun x => ?_).symm
 constructor
 · intro hx
   obtain ⟨i, hi, rfl⟩ := List.mem_map.1 hx
   have hi := List.mem_range.1 hi
   exact ⟨⟨by omega, by omega⟩, by omega, by omega⟩
 · rintro ⟨_, h0, h1⟩
   exact List.mem_map.2 ⟨x.toNat, List.mem_range.2 (by omega), Int.toNat_of_nonneg h0⟩
theorem ex_3 {s : Spc} {m : Mdl} (hn0 : 0 < m.n) (hn : m.n ≤ 12) {n : Nd} (ho : n.op = 3) {st : Int} {env : List (ByteArray × Int)} : CX s m n st env (rUniv m.n) := by
 obtain ⟨N, hN⟩ : ∃ N : Nat, m.n = N := ⟨m.n.toNat, by omega⟩
 have hu := univ_eq N (by omega)
 rw [CX, show n.ex = .agg [eI 3, eS n.name, eI n.n, .slice 5 (n.kids.map Nd.av), eI n.at_] by rw [Nd.ex, ho]]
 refine AFun.of hT Tryz.func32 rfl rfl (by simp) (AD.run hT hmix ?_)
 refine AD.loopI (fun x : Nat × List AV => x.1 ≤ N ∧ x.2 = ((List.range x.1).map fun i : Nat => (i : Int)).map eI) (fun x => N - x.1) (fun x => [(6, .loc 6 0), (10, .loc 10 0), (47, .p (eI m.n)), (48, eint .i64 x.1)]) (fun x => [(6, .box 50 [.p (eI 0), .full 1 []]), (10, .box 50 [.p (eI 1), .own 1 x.2 55]), (55, .tail x.2.length)]) (0, []) ⟨Nat.zero_le _, rfl⟩ .of fun ⟨i, es⟩ ⟨g1, g2⟩ => AD.run hT hmix ?_
 dsimp only at g1 g2 ⊢
 have hes : es.length = i := by rw [g2]; simp
 refine bgo_split (fun h2 => ?_) (fun h2 => ?_)
 · replace h2 := of_decide_eq_true h2
   refine ⟨rfl, ⟨by simp; omega, by simp; omega⟩, ngo_in (by omega) (by omega) ⟨(i + 1, es ++ [eI (i : Int)]), ⟨by dsimp only; omega, ?_⟩, by dsimp only; omega, .of⟩⟩
   dsimp only
   rw [List.range_succ, List.map_append, List.map_append, g2]; rfl
 · replace h2 := of_decide_eq_false h2
   obtain rfl : i = N := by omega
   exact ⟨_, _, rfl, rfl, by rw [g2, ← hu, ← hN]; rfl⟩
theorem pathGo_nodup {s : Spc} {m : Mdl} (hm : MOk s m) : ∀ (k : Nat) (st : Int) (out : List Int), out.Nodup → (pathGo m k st out).Nodup
 | 0, _, _, h => h
 | k + 1, st, out, h => by
  rw [pathGo]
  by_cases hs : st ∈ out
  · rw [if_pos hs]; exact h
  · rw [if_neg hs]
    exact pathGo_nodup hm k _ _ (List.pairwise_append.2 ⟨h, List.pairwise_singleton _ _, fun x hx y hy => by rw [List.mem_singleton.1 hy]; rintro rfl; exact hs hx⟩)
theorem pathOf_len {s : Spc} {m : Mdl} (hm : MOk s m) {st : Int} (hst : 0 ≤ st ∧ st < m.states.length) : (pathOf m st).length ≤ m.states.length := nodup_len _ _ (pathGo_nodup hm _ _ _ List.nodup_nil) (pathOf_ok hm hst.1 hst.2)
theorem fm_30 {s : Spc} {m : Mdl} {n : Nd} (ho : n.op = 30) {st : Int} {env : List (ByteArray × Int)}  : CF s m n st env true := by
 have he : n.ex = .agg [eI 30, eS n.name, eI n.n, .slice 5 (n.kids.map Nd.av), eI n.at_] := by rw [Nd.ex, ho]
 rw [CF, he]
 refine AFun.of hT Tryz.func37 rfl rfl (by simp) (AD.run hT hmix ?_)
 exact ⟨_, _, rfl, rfl, rfl⟩
theorem fm_31 {s : Spc} {m : Mdl} {n : Nd} (ho : n.op = 31) {st : Int} {env : List (ByteArray × Int)}  : CF s m n st env false := by
 have he : n.ex = .agg [eI 31, eS n.name, eI n.n, .slice 5 (n.kids.map Nd.av), eI n.at_] := by rw [Nd.ex, ho]
 rw [CF, he]
 refine AFun.of hT Tryz.func37 rfl rfl (by simp) (AD.run hT hmix ?_)
 exact ⟨_, _, rfl, rfl, rfl⟩
theorem fm_32 {s : Spc} {m : Mdl} {n k0 k1 : Nd} (ho : n.op = 32) (hk : n.kids = [k0, k1]) {st : Int} {env : List (ByteArray × Int)} {r0 r1 : Rl} (h0 : CX s m k0 st env r0) (h1 : CX s m k1 st env r1) (e : r0.arity = r1.arity) (hl : r0.tuples.length ≤ 1000000000) : CF s m n st env (decide (∀ x ∈ r0.tuples, x ∈ r1.tuples)) := by
 have hkm : n.kids.map Nd.av = [k0.ex, k1.ex] := by rw [hk, Nd.av_ex]; rfl
 have he : n.ex = .agg [eI 32, eS n.name, eI n.n, .slice 5 [k0.ex, k1.ex], eI n.at_] := by rw [Nd.ex, ho, hkm]
 have hp := pairP hk h0 h1 e
 rw [he] at hp
 rw [CF, he]
 refine AFun.of hT Tryz.func37 rfl rfl (by simp) (AD.run hT hmix ?_)
 exact .pure [mch s m, plc st env, .agg [eI 32, eS n.name, eI n.n, .slice 5 [k0.ex, k1.ex], eI n.at_]] _ rfl hp (.pure [r0.av, r1.av] _ rfl (inP r0 r1 hl) ⟨_, _, rfl, rfl, rfl⟩)
theorem fm_33 {s : Spc} {m : Mdl} {n k0 k1 : Nd} (ho : n.op = 33) (hk : n.kids = [k0, k1]) {st : Int} {env : List (ByteArray × Int)} {r0 r1 : Rl} (h0 : CX s m k0 st env r0) (h1 : CX s m k1 st env r1) (e : r0.arity = r1.arity) : CF s m n st env (decide (r0.tuples = r1.tuples)) := by
 have hkm : n.kids.map Nd.av = [k0.ex, k1.ex] := by rw [hk, Nd.av_ex]; rfl
 have he : n.ex = .agg [eI 33, eS n.name, eI n.n, .slice 5 [k0.ex, k1.ex], eI n.at_] := by rw [Nd.ex, ho, hkm]
 have hp := pairP hk h0 h1 e
 have hq := equalR r0 r1
 rw [decide_eq_true e, Bool.true_and] at hq
 rw [he] at hp
 rw [CF, he]
 refine AFun.of hT Tryz.func37 rfl rfl (by simp) (AD.run hT hmix ?_)
 exact .pure [mch s m, plc st env, .agg [eI 33, eS n.name, eI n.n, .slice 5 [k0.ex, k1.ex], eI n.at_]] _ rfl hp (.pure [r0.av, r1.av] _ rfl hq ⟨_, _, rfl, rfl, rfl⟩)
theorem fm_34 {s : Spc} {m : Mdl} {n k0 : Nd} (ho : n.op = 34) (hk : n.kids = [k0]) {st : Int} {env : List (ByteArray × Int)} {r0 : Rl} (h0 : CX s m k0 st env r0) : CF s m n st env (decide (0 < r0.tuples.length)) := by
 have hkm : n.kids.map Nd.av = [k0.ex] := by rw [hk, Nd.av_ex]; rfl
 have he : n.ex = .agg [eI 34, eS n.name, eI n.n, .slice 5 [k0.ex], eI n.at_] := by rw [Nd.ex, ho, hkm]
 rw [CF, he]
 refine AFun.of hT Tryz.func37 rfl rfl (by simp) (AD.run hT hmix ?_)
 have hlm : (r0.tuples.map eI).length = r0.tuples.length := List.length_map _
 refine ⟨0, _, rfl, rfl, .pure [mch s m, plc st env, k0.ex] _ rfl h0 ?_⟩
 intro h1
 rw [← hlm]
 generalize (r0.tuples.map eI).length = z at h1 ⊢
 match z, h1 with
 | 0, _ => exact ⟨by kernel_rfl, _, _, rfl, rfl, rfl⟩
 | 1, _ => exact ⟨by kernel_rfl, _, _, rfl, rfl, rfl⟩
 | z + 2, _ => exact ⟨by kernel_rfl, bgo_true (show decide (((z + 2 : Nat) : Int) > 0) = true from decide_eq_true (by omega)) ⟨_, _, rfl, rfl, rfl⟩⟩
theorem fm_35 {s : Spc} {m : Mdl} {n k0 : Nd} (ho : n.op = 35) (hk : n.kids = [k0]) {st : Int} {env : List (ByteArray × Int)} {r0 : Rl} (h0 : CX s m k0 st env r0) : CF s m n st env (decide (r0.tuples.length = 0)) := by
 have hkm : n.kids.map Nd.av = [k0.ex] := by rw [hk, Nd.av_ex]; rfl
 have he : n.ex = .agg [eI 35, eS n.name, eI n.n, .slice 5 [k0.ex], eI n.at_] := by rw [Nd.ex, ho, hkm]
 rw [CF, he]
 refine AFun.of hT Tryz.func37 rfl rfl (by simp) (AD.run hT hmix ?_)
 have hlm : (r0.tuples.map eI).length = r0.tuples.length := List.length_map _
 refine ⟨0, _, rfl, rfl, .pure [mch s m, plc st env, k0.ex] _ rfl h0 ?_⟩
 intro h1
 rw [← hlm]
 generalize (r0.tuples.map eI).length = z at h1 ⊢
 match z, h1 with
 | 0, _ => exact ⟨by kernel_rfl, _, _, rfl, rfl, rfl⟩
 | 1, _ => exact ⟨by kernel_rfl, _, _, rfl, rfl, rfl⟩
 | z + 2, _ => exact ⟨by kernel_rfl, _, _, rfl, rfl, rfl⟩
theorem fm_36 {s : Spc} {m : Mdl} {n k0 : Nd} (ho : n.op = 36) (hk : n.kids = [k0]) {st : Int} {env : List (ByteArray × Int)} {r0 : Rl} (h0 : CX s m k0 st env r0) : CF s m n st env (decide (r0.tuples.length = 1)) := by
 have hkm : n.kids.map Nd.av = [k0.ex] := by rw [hk, Nd.av_ex]; rfl
 have he : n.ex = .agg [eI 36, eS n.name, eI n.n, .slice 5 [k0.ex], eI n.at_] := by rw [Nd.ex, ho, hkm]
 rw [CF, he]
 refine AFun.of hT Tryz.func37 rfl rfl (by simp) (AD.run hT hmix ?_)
 have hlm : (r0.tuples.map eI).length = r0.tuples.length := List.length_map _
 refine ⟨0, _, rfl, rfl, .pure [mch s m, plc st env, k0.ex] _ rfl h0 ?_⟩
 intro h1
 rw [← hlm]
 generalize (r0.tuples.map eI).length = z at h1 ⊢
 match z, h1 with
 | 0, _ => exact ⟨by kernel_rfl, _, _, rfl, rfl, rfl⟩
 | 1, _ => exact ⟨by kernel_rfl, _, _, rfl, rfl, rfl⟩
 | z + 2, _ => exact ⟨by kernel_rfl, _, _, rfl, rfl, rfl⟩
theorem fm_37 {s : Spc} {m : Mdl} {n k0 : Nd} (ho : n.op = 37) (hk : n.kids = [k0]) {st : Int} {env : List (ByteArray × Int)} {r0 : Rl} (h0 : CX s m k0 st env r0) : CF s m n st env (decide (r0.tuples.length ≤ 1)) := by
 have hkm : n.kids.map Nd.av = [k0.ex] := by rw [hk, Nd.av_ex]; rfl
 have he : n.ex = .agg [eI 37, eS n.name, eI n.n, .slice 5 [k0.ex], eI n.at_] := by rw [Nd.ex, ho, hkm]
 rw [CF, he]
 refine AFun.of hT Tryz.func37 rfl rfl (by simp) (AD.run hT hmix ?_)
 have hlm : (r0.tuples.map eI).length = r0.tuples.length := List.length_map _
 refine ⟨0, _, rfl, rfl, .pure [mch s m, plc st env, k0.ex] _ rfl h0 ?_⟩
 intro h1
 rw [← hlm]
 generalize (r0.tuples.map eI).length = z at h1 ⊢
 match z, h1 with
 | 0, _ => exact ⟨by kernel_rfl, _, _, rfl, rfl, rfl⟩
 | 1, _ => exact ⟨by kernel_rfl, _, _, rfl, rfl, rfl⟩
 | z + 2, _ => exact ⟨by kernel_rfl, _, _, rfl, rfl, rfl⟩
theorem fm_38 {s : Spc} {m : Mdl} {n k0 k1 : Nd} (ho : n.op = 38) (hk : n.kids = [k0, k1]) {st : Int} {env : List (ByteArray × Int)} {i0 i1 : Int} (h0 : CN s m k0 st env i0) (h1 : CN s m k1 st env i1) : CF s m n st env (decide (i0 = i1)) := by
 have hkm : n.kids.map Nd.av = [k0.ex, k1.ex] := by rw [hk, Nd.av_ex]; rfl
 have he : n.ex = .agg [eI 38, eS n.name, eI n.n, .slice 5 [k0.ex, k1.ex], eI n.at_] := by rw [Nd.ex, ho, hkm]
 rw [CF, he]
 refine AFun.of hT Tryz.func37 rfl rfl (by simp) (AD.run hT hmix ?_)
 exact ⟨0, _, rfl, rfl, .pure [mch s m, plc st env, k0.ex] _ rfl h0 ⟨1, _, rfl, rfl, .pure [mch s m, plc st env, k1.ex] _ rfl h1 ⟨by kernel_rfl, _, _, rfl, rfl, rfl⟩⟩⟩
theorem fm_39 {s : Spc} {m : Mdl} {n k0 k1 : Nd} (ho : n.op = 39) (hk : n.kids = [k0, k1]) {st : Int} {env : List (ByteArray × Int)} {i0 i1 : Int} (h0 : CN s m k0 st env i0) (h1 : CN s m k1 st env i1) : CF s m n st env (decide (i0 < i1)) := by
 have hkm : n.kids.map Nd.av = [k0.ex, k1.ex] := by rw [hk, Nd.av_ex]; rfl
 have he : n.ex = .agg [eI 39, eS n.name, eI n.n, .slice 5 [k0.ex, k1.ex], eI n.at_] := by rw [Nd.ex, ho, hkm]
 rw [CF, he]
 refine AFun.of hT Tryz.func37 rfl rfl (by simp) (AD.run hT hmix ?_)
 exact ⟨0, _, rfl, rfl, .pure [mch s m, plc st env, k0.ex] _ rfl h0 ⟨1, _, rfl, rfl, .pure [mch s m, plc st env, k1.ex] _ rfl h1 ⟨by kernel_rfl, _, _, rfl, rfl, rfl⟩⟩⟩
theorem fm_40 {s : Spc} {m : Mdl} {n k0 : Nd} (ho : n.op = 40) (hk : n.kids = [k0]) {st : Int} {env : List (ByteArray × Int)} {b0 : Bool} (h0 : CF s m k0 st env b0) : CF s m n st env (!b0) := by
 have hkm : n.kids.map Nd.av = [k0.ex] := by rw [hk, Nd.av_ex]; rfl
 have he : n.ex = .agg [eI 40, eS n.name, eI n.n, .slice 5 [k0.ex], eI n.at_] := by rw [Nd.ex, ho, hkm]
 rw [CF, he]
 refine AFun.of hT Tryz.func37 rfl rfl (by simp) (AD.run hT hmix ?_)
 exact ⟨0, _, rfl, rfl, .pure [mch s m, plc st env, k0.ex] _ rfl h0 ⟨by kernel_rfl, _, _, rfl, rfl, rfl⟩⟩
theorem fm_41 {s : Spc} {m : Mdl} {n k0 k1 : Nd} (ho : n.op = 41) (hk : n.kids = [k0, k1]) {st : Int} {env : List (ByteArray × Int)} {b0 b1 : Bool} (h0 : CF s m k0 st env b0) (h1 : CF s m k1 st env b1) : CF s m n st env (b0 && b1) := by
 have hkm : n.kids.map Nd.av = [k0.ex, k1.ex] := by rw [hk, Nd.av_ex]; rfl
 have he : n.ex = .agg [eI 41, eS n.name, eI n.n, .slice 5 [k0.ex, k1.ex], eI n.at_] := by rw [Nd.ex, ho, hkm]
 rw [CF, he]
 refine AFun.of hT Tryz.func37 rfl rfl (by simp) (AD.run hT hmix ?_)
 cases b0 <;> cases b1 <;> exact ⟨0, _, rfl, rfl, .pure [mch s m, plc st env, k0.ex] _ rfl h0 ⟨1, _, rfl, rfl, .pure [mch s m, plc st env, k1.ex] _ rfl h1 ⟨by kernel_rfl, _, _, rfl, rfl, rfl⟩⟩⟩
theorem fm_42 {s : Spc} {m : Mdl} {n k0 k1 : Nd} (ho : n.op = 42) (hk : n.kids = [k0, k1]) {st : Int} {env : List (ByteArray × Int)} {b0 b1 : Bool} (h0 : CF s m k0 st env b0) (h1 : CF s m k1 st env b1) : CF s m n st env (b0 || b1) := by
 have hkm : n.kids.map Nd.av = [k0.ex, k1.ex] := by rw [hk, Nd.av_ex]; rfl
 have he : n.ex = .agg [eI 42, eS n.name, eI n.n, .slice 5 [k0.ex, k1.ex], eI n.at_] := by rw [Nd.ex, ho, hkm]
 rw [CF, he]
 refine AFun.of hT Tryz.func37 rfl rfl (by simp) (AD.run hT hmix ?_)
 cases b0 <;> cases b1 <;> exact ⟨0, _, rfl, rfl, .pure [mch s m, plc st env, k0.ex] _ rfl h0 ⟨1, _, rfl, rfl, .pure [mch s m, plc st env, k1.ex] _ rfl h1 ⟨by kernel_rfl, _, _, rfl, rfl, rfl⟩⟩⟩
theorem fm_43 {s : Spc} {m : Mdl} {n k0 k1 : Nd} (ho : n.op = 43) (hk : n.kids = [k0, k1]) {st : Int} {env : List (ByteArray × Int)} {b0 b1 : Bool} (h0 : CF s m k0 st env b0) (h1 : CF s m k1 st env b1) : CF s m n st env (!b0 || b1) := by
 have hkm : n.kids.map Nd.av = [k0.ex, k1.ex] := by rw [hk, Nd.av_ex]; rfl
 have he : n.ex = .agg [eI 43, eS n.name, eI n.n, .slice 5 [k0.ex, k1.ex], eI n.at_] := by rw [Nd.ex, ho, hkm]
 rw [CF, he]
 refine AFun.of hT Tryz.func37 rfl rfl (by simp) (AD.run hT hmix ?_)
 cases b0 <;> cases b1 <;> exact ⟨0, _, rfl, rfl, .pure [mch s m, plc st env, k0.ex] _ rfl h0 ⟨1, _, rfl, rfl, .pure [mch s m, plc st env, k1.ex] _ rfl h1 ⟨by kernel_rfl, _, _, rfl, rfl, rfl⟩⟩⟩
theorem fm_44 {s : Spc} {m : Mdl} {n k0 k1 : Nd} (ho : n.op = 44) (hk : n.kids = [k0, k1]) {st : Int} {env : List (ByteArray × Int)} {b0 b1 : Bool} (h0 : CF s m k0 st env b0) (h1 : CF s m k1 st env b1) : CF s m n st env (b0 == b1) := by
 have hkm : n.kids.map Nd.av = [k0.ex, k1.ex] := by rw [hk, Nd.av_ex]; rfl
 have he : n.ex = .agg [eI 44, eS n.name, eI n.n, .slice 5 [k0.ex, k1.ex], eI n.at_] := by rw [Nd.ex, ho, hkm]
 rw [CF, he]
 refine AFun.of hT Tryz.func37 rfl rfl (by simp) (AD.run hT hmix ?_)
 cases b0 <;> cases b1 <;> exact ⟨0, _, rfl, rfl, .pure [mch s m, plc st env, k0.ex] _ rfl h0 ⟨1, _, rfl, rfl, .pure [mch s m, plc st env, k1.ex] _ rfl h1 ⟨by kernel_rfl, _, _, rfl, rfl, rfl⟩⟩⟩
theorem fm_48 {s : Spc} {m : Mdl} {n k0 : Nd} (ho : n.op = 48) (hk : n.kids = [k0]) {st : Int} {env : List (ByteArray × Int)} (hm : MOk s m) (hl : m.states.length ≤ 100) (hst : 0 ≤ st ∧ st < m.states.length) (q : Int → Bool) (h0 : ∀ t : Int, 0 ≤ t ∧ t < (m.states.length : Int) → CF s m k0 t env (q t)) : CF s m n st env ((pathOf m st).all q) := by
 have hkm : n.kids.map Nd.av = [k0.ex] := by rw [hk, Nd.av_ex]; rfl
 have he : n.ex = .agg [eI 48, eS n.name, eI n.n, .slice 5 [k0.ex], eI n.at_] := by rw [Nd.ex, ho, hkm]
 have hpr := pathOf_ok hm hst.1 hst.2
 have hpp := pathP hm hl hst
 have hpl := pathOf_len hm hst
 have ha := alongP (pathOf m st) (by omega) q st fun t ht => h0 t (hpr t ht)
 have hc := containsB ((pathOf m st).map q) false
 rw [CF, he]
 refine AFun.of hT Tryz.func37 rfl rfl (by simp) (AD.run hT hmix ?_)
 refine .pure [mch s m, eI st] _ rfl hpp ⟨0, _, rfl, rfl, .pure [mch s m, ints (pathOf m st), plc st env, k0.ex] _ rfl ha (.pure [bools ((pathOf m st).map q), eB false] _ rfl hc ⟨by kernel_rfl, _, _, rfl, rfl, ?_⟩)⟩
 rw [show (pathOf m st).all q = !decide (false ∈ (pathOf m st).map q) from by rw [Bool.eq_iff_iff]; simp]; rfl
theorem fm_49 {s : Spc} {m : Mdl} {n k0 : Nd} (ho : n.op = 49) (hk : n.kids = [k0]) {st : Int} {env : List (ByteArray × Int)} (hm : MOk s m) (hl : m.states.length ≤ 100) (hst : 0 ≤ st ∧ st < m.states.length) (q : Int → Bool) (h0 : ∀ t : Int, 0 ≤ t ∧ t < (m.states.length : Int) → CF s m k0 t env (q t)) : CF s m n st env ((pathOf m st).any q) := by
 have hkm : n.kids.map Nd.av = [k0.ex] := by rw [hk, Nd.av_ex]; rfl
 have he : n.ex = .agg [eI 49, eS n.name, eI n.n, .slice 5 [k0.ex], eI n.at_] := by rw [Nd.ex, ho, hkm]
 have hpr := pathOf_ok hm hst.1 hst.2
 have hpp := pathP hm hl hst
 have hpl := pathOf_len hm hst
 have ha := alongP (pathOf m st) (by omega) q st fun t ht => h0 t (hpr t ht)
 have hc := containsB ((pathOf m st).map q) true
 rw [CF, he]
 refine AFun.of hT Tryz.func37 rfl rfl (by simp) (AD.run hT hmix ?_)
 refine .pure [mch s m, eI st] _ rfl hpp ⟨0, _, rfl, rfl, .pure [mch s m, ints (pathOf m st), plc st env, k0.ex] _ rfl ha (.pure [bools ((pathOf m st).map q), eB true] _ rfl hc ⟨by kernel_rfl, _, _, rfl, rfl, ?_⟩)⟩
 rw [show (pathOf m st).any q = decide (true ∈ (pathOf m st).map q) from by rw [Bool.eq_iff_iff]; simp]; rfl
theorem fm_50 {s : Spc} {m : Mdl} {n k0 : Nd} (ho : n.op = 50) (hk : n.kids = [k0]) {st : Int} {env : List (ByteArray × Int)} {b0 : Bool} (hst : 0 ≤ st ∧ st ≤ 100) (h0 : CF s m k0 (nextSt m st) env b0) : CF s m n st env b0 := by
 have hkm : n.kids.map Nd.av = [k0.ex] := by rw [hk, Nd.av_ex]; rfl
 have he : n.ex = .agg [eI 50, eS n.name, eI n.n, .slice 5 [k0.ex], eI n.at_] := by rw [Nd.ex, ho, hkm]
 rw [CF, he]
 refine AFun.of hT Tryz.func37 rfl rfl (by simp) (AD.run hT hmix ?_)
 exact .pure [m.av, eI st] _ rfl (nextP m st hst) ⟨0, _, rfl, rfl, .pure [mch s m, plc (nextSt m st) env, k0.ex] _ rfl h0 ⟨by kernel_rfl, _, _, rfl, rfl, rfl⟩⟩
theorem fm_51 {s : Spc} {m : Mdl} {n k0 k1 : Nd} (ho : n.op = 51) (hk : n.kids = [k0, k1]) {st : Int} {env : List (ByteArray × Int)} (hm : MOk s m) (hl : m.states.length ≤ 100) (hst : 0 ≤ st ∧ st < m.states.length) (f g : Int → Bool) (h0 : ∀ t : Int, 0 ≤ t ∧ t < (m.states.length : Int) → CF s m k0 t env (f t)) (h1 : ∀ t : Int, 0 ≤ t ∧ t < (m.states.length : Int) → CF s m k1 t env (g t)) : CF s m n st env (untilGo f g (pathOf m st) false false) := by
 have hkm : n.kids.map Nd.av = [k0.ex, k1.ex] := by rw [hk, Nd.av_ex]; rfl
 have he : n.ex = .agg [eI 51, eS n.name, eI n.n, .slice 5 [k0.ex, k1.ex], eI n.at_] := by rw [Nd.ex, ho, hkm]
 have hu := untilP hm hl hk hst f g h0 h1
 rw [he] at hu
 rw [CF, he]
 refine AFun.of hT Tryz.func37 rfl rfl (by simp) (AD.run hT hmix ?_)
 exact .pure [mch s m, plc st env, .agg [eI 51, eS n.name, eI n.n, .slice 5 [k0.ex, k1.ex], eI n.at_]] _ rfl hu ⟨_, _, rfl, rfl, rfl⟩
theorem any_snoc (l : List Int) (q : Int → Bool) {i : Nat} (hi : i < l.length) : (l.take (i + 1)).any q = ((l.take i).any q || q l[i]) := by rw [List.take_succ_eq_append_getElem hi, List.any_append]; simp
theorem all_snoc (l : List Int) (q : Int → Bool) {i : Nat} (hi : i < l.length) : (l.take (i + 1)).all q = ((l.take i).all q && q l[i]) := by rw [List.take_succ_eq_append_getElem hi, List.all_append]; simp
theorem fm_45 {s : Spc} {m : Mdl} {n k0 k1 : Nd} (ho : n.op = 45) (hk : n.kids = [k0, k1]) {st : Int} {env : List (ByteArray × Int)} (henv : env.length ≤ 5000000) {r0 : Rl} (hlen : r0.tuples.length ≤ 2000) (h0 : CX s m k0 st env r0) (a1 : r0.arity = 1) (q : Int → Bool) (h1 : ∀ x ∈ r0.tuples, CF s m k1 st (env ++ [(n.name, x)]) (q x)) : CF s m n st env (r0.tuples.all q) := by
 have hkm : n.kids.map Nd.av = [k0.ex, k1.ex] := by rw [hk, Nd.av_ex]; rfl
 have he : n.ex = .agg [eI 45, eS n.name, eI n.n, .slice 5 [k0.ex, k1.ex], eI n.at_] := by rw [Nd.ex, ho, hkm]
 have hi := instP hk henv hlen h0 a1 q h1
 obtain ⟨l, hl⟩ : ∃ l, r0.tuples = l := ⟨_, rfl⟩
 have hit := instIter r0.arity l q (by rw [← hl]; omega)
 have hil : (insts l q).length = l.length := by simp [insts]
 rw [show r0.cs = [eI r0.arity, ints l] by rw [← hl]; rfl] at hi
 rw [hl, he] at hi
 rw [hl] at hlen ⊢
 rw [CF, he]
 refine AFun.of hT Tryz.func37 rfl rfl (by simp) (AD.run hT hmix ?_)
 refine .pure [mch s m, plc st env, .agg [eI 45, eS n.name, eI n.n, .slice 5 [k0.ex, k1.ex], eI n.at_]] _ rfl hi ?_
 refine AD.rangeFunc (T := T) hit [(5, .loc 5 0), (10, .loc 10 0), (11, .loc 11 0), (201, .p (.fn (.func 138) [] [.ref [eI r0.arity, ints l], .ref [bools (l.map q)]]))]
  (fun i => [(5, .box 35 ([eI 45, eS n.name, eI n.n, .slice 5 [k0.ex, k1.ex], eI n.at_].map .p)), (10, .box 4 [.p (eB ((l.take i).any q))]), (11, .box 4 [.p (eB ((l.take i).all q))])]) l.length none .of rfl (by rw [hil]; exact Nat.le_refl _) (fun _ => hil.symm) (fun h => absurd rfl h) ?_ ?_ ?_
 · intro i xs hi hx
   rw [insts_at l q hi] at hx
   cases hx
   have e1 := any_snoc l q hi
   have e2 := all_snoc l q hi
   rw [e1, e2]
   generalize (l.take i).any q = x
   generalize (l.take i).all q = y
   generalize q l[i] = z
   cases x <;> cases y <;> cases z <;> exact AD.run hT hmix (AD.run hT hmix ⟨jumpNone _, .of⟩)
 · intro xs hx
   obtain ⟨x, _, rfl⟩ := List.mem_map.1 hx
   exact ⟨rfl, rfl⟩
 · rw [List.take_length]
   generalize l.any q = x
   generalize l.all q = y
   cases x <;> cases y <;> exact ⟨_, _, rfl, rfl, rfl⟩
theorem fm_46 {s : Spc} {m : Mdl} {n k0 k1 : Nd} (ho : n.op = 46) (hk : n.kids = [k0, k1]) {st : Int} {env : List (ByteArray × Int)} (henv : env.length ≤ 5000000) {r0 : Rl} (hlen : r0.tuples.length ≤ 2000) (h0 : CX s m k0 st env r0) (a1 : r0.arity = 1) (q : Int → Bool) (h1 : ∀ x ∈ r0.tuples, CF s m k1 st (env ++ [(n.name, x)]) (q x)) : CF s m n st env (r0.tuples.any q) := by
 have hkm : n.kids.map Nd.av = [k0.ex, k1.ex] := by rw [hk, Nd.av_ex]; rfl
 have he : n.ex = .agg [eI 46, eS n.name, eI n.n, .slice 5 [k0.ex, k1.ex], eI n.at_] := by rw [Nd.ex, ho, hkm]
 have hi := instP hk henv hlen h0 a1 q h1
 obtain ⟨l, hl⟩ : ∃ l, r0.tuples = l := ⟨_, rfl⟩
 have hit := instIter r0.arity l q (by rw [← hl]; omega)
 have hil : (insts l q).length = l.length := by simp [insts]
 rw [show r0.cs = [eI r0.arity, ints l] by rw [← hl]; rfl] at hi
 rw [hl, he] at hi
 rw [hl] at hlen ⊢
 rw [CF, he]
 refine AFun.of hT Tryz.func37 rfl rfl (by simp) (AD.run hT hmix ?_)
 refine .pure [mch s m, plc st env, .agg [eI 46, eS n.name, eI n.n, .slice 5 [k0.ex, k1.ex], eI n.at_]] _ rfl hi ?_
 refine AD.rangeFunc (T := T) hit [(5, .loc 5 0), (10, .loc 10 0), (11, .loc 11 0), (201, .p (.fn (.func 138) [] [.ref [eI r0.arity, ints l], .ref [bools (l.map q)]]))]
  (fun i => [(5, .box 35 ([eI 46, eS n.name, eI n.n, .slice 5 [k0.ex, k1.ex], eI n.at_].map .p)), (10, .box 4 [.p (eB ((l.take i).any q))]), (11, .box 4 [.p (eB ((l.take i).all q))])]) l.length none .of rfl (by rw [hil]; exact Nat.le_refl _) (fun _ => hil.symm) (fun h => absurd rfl h) ?_ ?_ ?_
 · intro i xs hi hx
   rw [insts_at l q hi] at hx
   cases hx
   have e1 := any_snoc l q hi
   have e2 := all_snoc l q hi
   rw [e1, e2]
   generalize (l.take i).any q = x
   generalize (l.take i).all q = y
   generalize q l[i] = z
   cases x <;> cases y <;> cases z <;> exact AD.run hT hmix (AD.run hT hmix ⟨jumpNone _, .of⟩)
 · intro xs hx
   obtain ⟨x, _, rfl⟩ := List.mem_map.1 hx
   exact ⟨rfl, rfl⟩
 · rw [List.take_length]
   generalize l.any q = x
   generalize l.all q = y
   cases x <;> cases y <;> exact ⟨_, _, rfl, rfl, rfl⟩
theorem machP (s : Spc) (m : Mdl) (h : small m.scope.atoms) : AFun Tryz.prog 31 [s.ex, m.av] (.p (mch s m)) := by
 refine AFun.of hT Tryz.func31 rfl rfl (by simp) (AD.finSub (AD.run hT hmix ?_))
 refine .pure [m.scope.av] _ rfl (atomsP m.scope h) ⟨by kernel_rfl, [(4, .p (mch s m))], [], .sealB 11 (hx := toPs_p (mcs s m)), _, _, rfl, rfl, rfl⟩
theorem formulaP {s : Spc} {m : Mdl} (h : small m.scope.atoms) {n : Nd} {st : Int} {env : List (ByteArray × Int)} {r : Bool} (hf : CF s m n st env r) : AFun Tryz.prog 13 [s.ex, m.av, eI st, .slice 2 (env.map bdA), n.ex] (.tup [.p (eB r), .p (eI 0)]) := by
 suffices hh : ∃ y, y = .tup [.p (eB r), .p (eI 0)] ∧ AFun Tryz.prog 13 [s.ex, m.av, eI st, .slice 2 (env.map bdA), n.ex] y by
  obtain ⟨y, rfl, hf⟩ := hh
  exact hf
 refine AFunE.introD hT Tryz.func13 rfl rfl (by simp) rfl rfl rfl rfl caught_quiet ⟨_, rfl⟩ ?_
 refine AD.run hT hmix (.pure [s.ex, m.av] _ rfl (machP s m h) ?_)
 exact .pure [mch s m, plc st env, n.ex] _ rfl hf ⟨by kernel_rfl, _, _, rfl, rfl, rfl⟩
theorem exprP {s : Spc} {m : Mdl} (h : small m.scope.atoms) {n : Nd} {st : Int} {env : List (ByteArray × Int)} {r : Rl} (hf : CX s m n st env r) : AFun Tryz.prog 10 [s.ex, m.av, eI st, .slice 2 (env.map bdA), n.ex] (.tup [.p r.av, .p (eI 0)]) := by
 suffices hh : ∃ y, y = .tup [.p r.av, .p (eI 0)] ∧ AFun Tryz.prog 10 [s.ex, m.av, eI st, .slice 2 (env.map bdA), n.ex] y by
  obtain ⟨y, rfl, hf⟩ := hh
  exact hf
 refine AFunE.introD hT Tryz.func10 rfl rfl (by simp) rfl rfl rfl rfl caught_quiet ⟨_, rfl⟩ ?_
 refine AD.run hT hmix (.pure [s.ex, m.av] _ rfl (machP s m h) ?_)
 exact .pure [mch s m, plc st env, n.ex] _ rfl hf ⟨by kernel_rfl, _, _, rfl, rfl, rfl⟩
end Go.Ab
namespace Go.Ab
open Go Go.Proofs
def NP (s : Spc) (m : Mdl) : Prop := ∀ (k : Nd) (st : Int) (env : List (ByteArray × Int)) (a : Int), k.op = 1 → 0 ≤ st → st < m.states.length → (∀ x ∈ env, 0 ≤ x.2 ∧ x.2 < m.n) → env.length ≤ 5000000 → NameTy s (tyE env) k.name a → CX s m k st env (nameVal s m st env k.name)
structure Evs (s : Spc) (m : Mdl) (n : Nd) (st : Int) (env : List (ByteArray × Int)) (v : Val) : Prop where
 r : n.isR → CX s m n st env v.r
 i : n.isI → CN s m n st env v.i
 b : n.isF → CF s m n st env v.b
theorem eval_ev {s : Spc} {m : Mdl} (hm : MOk s m) (hl : m.states.length ≤ 100) (hJ : JP m.n) (hN : NP s m) (n : Nd) : n.WF → n.hasCall = false → ∀ (env : List (ByteArray × Int)) (st a : Int), Ty s (tyE env) n a → 0 ≤ st → st < m.states.length → (∀ x ∈ env, 0 ≤ x.2 ∧ x.2 < m.n) → env.length + n.sz ≤ 5000000 → Evs s m n st env (ev s m n st env) := by
 induction n using Nd.ind with
 | h n ih =>
  intro hw hc env st a ht s0 s1 he hsz
  have hno := nc_op hc
  have hp := hm.pos
  have h12 := hm.n12
  have K : ∀ {k}, k ∈ n.kids → k.WF → ∀ (st a : Int), Ty s (tyE env) k a → 0 ≤ st → st < m.states.length → Evs s m k st env (ev s m k st env) := fun {k} hk w st a t u0 u1 => ih k hk w (nc_kid hc hk) env st a t u0 u1 he (by have := Nd.sz_kid hk; omega)
  have O : ∀ {k}, k ∈ n.kids → k.WF → k.isR → ∀ {a}, Ty s (tyE env) k a → (ev s m k st env).r.Ok m.n ∧ (ev s m k st env).r.arity = a := fun {k} hk w r {a} t => ev_ok hm k w (nc_kid hc hk) env st a t s0 s1 he r
  obtain ⟨n0, n1⟩ := nextSt_ok hm s0 s1
  have hse : env.length ≤ 5000000 := by omega
  have Q : ∀ {k0 k1 b}, n.kids = [k0, k1] → k0.WF → k0.isR → k1.WF → k1.isF → Ty s (tyE env) k0 1 → Ty s (tyE env ++ [(n.name, 1)]) k1 b → ∀ x ∈ (ev s m k0 st env).r.tuples, CF s m k1 st (env ++ [(n.name, x)]) (ev s m k1 st (env ++ [(n.name, x)])).b := fun {k0 k1 b} hk w0 r0 w1 f1 t0 t1 x hx => by
   have m0 : k0 ∈ n.kids := by rw [hk]; simp
   have m1 : k1 ∈ n.kids := by rw [hk]; simp
   obtain ⟨o, oa⟩ := O m0 w0 r0 t0
   have hr := o.rng x hx
   rw [oa] at hr
   have h2 : x < m.n ^ 1 := hr.2
   rw [Int.pow_succ, Int.pow_zero] at h2
   refine (ih k1 m1 w1 (nc_kid hc m1) (env ++ [(n.name, x)]) st b (by rw [tyE_snoc]; exact t1) s0 s1 (fun y hy => ?_) ?_).b f1
   · rcases List.mem_append.1 hy with hy | hy
     · exact he y hy
     · obtain rfl := List.mem_singleton.1 hy; exact ⟨hr.1, by show x < m.n; omega⟩
   · have := Nd.sz_kid m1
     rw [List.length_append, List.length_singleton]; omega
  have hop := WF_op hw
  have hcase : n.op = 1 ∨ n.op = 2 ∨ n.op = 3 ∨ n.op = 4 ∨ n.op = 5 ∨ n.op = 6 ∨ n.op = 7 ∨ n.op = 8 ∨ n.op = 9 ∨ n.op = 10 ∨ n.op = 11 ∨ n.op = 12 ∨ n.op = 13 ∨ n.op = 14 ∨ n.op = 15 ∨ n.op = 20 ∨ n.op = 21 ∨ n.op = 22 ∨ n.op = 23 ∨ n.op = 30 ∨ n.op = 31 ∨ n.op = 32 ∨ n.op = 33 ∨ n.op = 34 ∨ n.op = 35 ∨ n.op = 36 ∨ n.op = 37 ∨ n.op = 38 ∨ n.op = 39 ∨ n.op = 40 ∨ n.op = 41 ∨ n.op = 42 ∨ n.op = 43 ∨ n.op = 44 ∨ n.op = 45 ∨ n.op = 46 ∨ n.op = 48 ∨ n.op = 49 ∨ n.op = 50 ∨ n.op = 51 := by
   unfold Nd.isR Nd.isI Nd.isF at hop
   obtain ⟨⟨⟨s', h1, _, _⟩, _⟩, _⟩ := (Nd.WF_iff n).1 hw
   unfold shapeOf at h1
   simp only [List.mem_cons, List.not_mem_nil, or_false] at h1
   repeat' split at h1
   all_goals first | omega | cases h1
  rcases hcase with h | h | h | h | h | h | h | h | h | h | h | h | h | h | h | h | h | h | h | h | h | h | h | h | h | h | h | h | h | h | h | h | h | h | h | h | h | h | h | h
  · rw [ev_1 h]
    exact ⟨fun _ => hN n st env a h s0 s1 he hse (ht.inv_name h), fun h => by unfold Nd.isI at h; omega, fun h => by unfold Nd.isF at h; omega⟩
  · rw [ev_2 h]
    exact ⟨fun _ => ex_2 h, fun h => by unfold Nd.isI at h; omega, fun h => by unfold Nd.isF at h; omega⟩
  · rw [ev_3 h]
    exact ⟨fun _ => ex_3 hp h12 h, fun h => by unfold Nd.isI at h; omega, fun h => by unfold Nd.isF at h; omega⟩
  · rw [ev_4 h]
    exact ⟨fun _ => ex_4 hp h12 h, fun h => by unfold Nd.isI at h; omega, fun h => by unfold Nd.isF at h; omega⟩
  · obtain ⟨k0, hk, w0, r0⟩ := wf_e hw (by omega)
    obtain ⟨a0, t0, ha⟩ := ht.inv_1 (by omega) hk
    have m0 : k0 ∈ n.kids := by rw [hk]; simp
    have c0 := (K m0 w0 _ a0 t0 n0 n1).r r0
    rw [ev_5 h hk]
    exact ⟨fun _ => ex_5 h (primeM hp h12 ⟨s0, by omega⟩ hk c0), fun h => by unfold Nd.isI at h; omega, fun h => by unfold Nd.isF at h; omega⟩
  · obtain ⟨k0, k1, hk, ⟨w0, r0⟩, w1, r1⟩ := wf_ee hw (by omega)
    obtain ⟨a0, a1, t0, t1, ha⟩ := ht.inv_2 (by omega) hk
    have m0 : k0 ∈ n.kids := by rw [hk]; simp
    have m1 : k1 ∈ n.kids := by rw [hk]; simp
    obtain ⟨o0, e0⟩ := O m0 w0 r0 t0
    have c0 := (K m0 w0 st a0 t0 s0 s1).r r0
    obtain ⟨o1, e1⟩ := O m1 w1 r1 t1
    have c1 := (K m1 w1 st a1 t1 s0 s1).r r1
    have e := ha.2.2.2.2.1 (by omega)
    simp only [List.cons.injEq, and_true] at e
    rw [ev_6 h hk]
    exact ⟨fun _ => ex_6 h (unionM hp h12 hk c0 c1 (by omega) o0 o1), fun h => by unfold Nd.isI at h; omega, fun h => by unfold Nd.isF at h; omega⟩
  · obtain ⟨k0, k1, hk, ⟨w0, r0⟩, w1, r1⟩ := wf_ee hw (by omega)
    obtain ⟨a0, a1, t0, t1, ha⟩ := ht.inv_2 (by omega) hk
    have m0 : k0 ∈ n.kids := by rw [hk]; simp
    have m1 : k1 ∈ n.kids := by rw [hk]; simp
    obtain ⟨o0, e0⟩ := O m0 w0 r0 t0
    have c0 := (K m0 w0 st a0 t0 s0 s1).r r0
    obtain ⟨o1, e1⟩ := O m1 w1 r1 t1
    have c1 := (K m1 w1 st a1 t1 s0 s1).r r1
    have e := ha.2.2.2.2.1 (by omega)
    simp only [List.cons.injEq, and_true] at e
    rw [ev_7 h hk]
    exact ⟨fun _ => ex_7 h (interM hp h12 hk c0 c1 (by omega) o0 o1), fun h => by unfold Nd.isI at h; omega, fun h => by unfold Nd.isF at h; omega⟩
  · obtain ⟨k0, k1, hk, ⟨w0, r0⟩, w1, r1⟩ := wf_ee hw (by omega)
    obtain ⟨a0, a1, t0, t1, ha⟩ := ht.inv_2 (by omega) hk
    have m0 : k0 ∈ n.kids := by rw [hk]; simp
    have m1 : k1 ∈ n.kids := by rw [hk]; simp
    obtain ⟨o0, e0⟩ := O m0 w0 r0 t0
    have c0 := (K m0 w0 st a0 t0 s0 s1).r r0
    obtain ⟨o1, e1⟩ := O m1 w1 r1 t1
    have c1 := (K m1 w1 st a1 t1 s0 s1).r r1
    have e := ha.2.2.2.2.1 (by omega)
    simp only [List.cons.injEq, and_true] at e
    rw [ev_8 h hk]
    exact ⟨fun _ => ex_8 h (diffM hp h12 hk c0 c1 (by omega) o0 o1), fun h => by unfold Nd.isI at h; omega, fun h => by unfold Nd.isF at h; omega⟩
  · obtain ⟨k0, k1, hk, ⟨w0, r0⟩, w1, r1⟩ := wf_ee hw (by omega)
    obtain ⟨a0, a1, t0, t1, ha⟩ := ht.inv_2 (by omega) hk
    have m0 : k0 ∈ n.kids := by rw [hk]; simp
    have m1 : k1 ∈ n.kids := by rw [hk]; simp
    obtain ⟨o0, e0⟩ := O m0 w0 r0 t0
    have c0 := (K m0 w0 st a0 t0 s0 s1).r r0
    obtain ⟨o1, e1⟩ := O m1 w1 r1 t1
    have c1 := (K m1 w1 st a1 t1 s0 s1).r r1
    obtain ⟨b, c, e, e2, e3, e4⟩ := ha.2.2.2.2.2.2.1 (by omega)
    simp only [List.cons.injEq, and_true] at e
    rw [ev_9 h hk]
    exact ⟨fun _ => ex_9 h (joinM hp h12 hJ hk c0 c1 o0 o1 (by omega) (by omega)), fun h => by unfold Nd.isI at h; omega, fun h => by unfold Nd.isF at h; omega⟩
  · obtain ⟨k0, k1, hk, ⟨w0, r0⟩, w1, r1⟩ := wf_ee hw (by omega)
    obtain ⟨a0, a1, t0, t1, ha⟩ := ht.inv_2 (by omega) hk
    have m0 : k0 ∈ n.kids := by rw [hk]; simp
    have m1 : k1 ∈ n.kids := by rw [hk]; simp
    obtain ⟨o0, e0⟩ := O m0 w0 r0 t0
    have c0 := (K m0 w0 st a0 t0 s0 s1).r r0
    obtain ⟨o1, e1⟩ := O m1 w1 r1 t1
    have c1 := (K m1 w1 st a1 t1 s0 s1).r r1
    obtain ⟨b, c, e, e2, e3⟩ := ha.2.2.2.2.2.2.2.1 (by omega)
    simp only [List.cons.injEq, and_true] at e
    rw [ev_10 h hk]
    exact ⟨fun _ => ex_10 h (prodM hp h12 hk c0 c1 o0 o1 (by omega)), fun h => by unfold Nd.isI at h; omega, fun h => by unfold Nd.isF at h; omega⟩
  · obtain ⟨k0, hk, w0, r0⟩ := wf_e hw (by omega)
    obtain ⟨a0, t0, ha⟩ := ht.inv_1 (by omega) hk
    have m0 : k0 ∈ n.kids := by rw [hk]; simp
    obtain ⟨o0, e0⟩ := O m0 w0 r0 t0
    have c0 := (K m0 w0 st a0 t0 s0 s1).r r0
    obtain ⟨e, _⟩ := ha.2.2.2.2.2.2.2.2 (by omega)
    simp only [List.cons.injEq, and_true] at e
    rw [ev_11 h hk]
    exact ⟨fun _ => ex_11 h (transM hp h12 hk c0 (by omega) o0), fun h => by unfold Nd.isI at h; omega, fun h => by unfold Nd.isF at h; omega⟩
  · obtain ⟨k0, hk, w0, r0⟩ := wf_e hw (by omega)
    obtain ⟨a0, t0, ha⟩ := ht.inv_1 (by omega) hk
    have m0 : k0 ∈ n.kids := by rw [hk]; simp
    obtain ⟨o0, e0⟩ := O m0 w0 r0 t0
    have c0 := (K m0 w0 st a0 t0 s0 s1).r r0
    obtain ⟨e, _⟩ := ha.2.2.2.2.2.2.2.2 (by omega)
    simp only [List.cons.injEq, and_true] at e
    rw [ev_12 h hk]
    exact ⟨fun _ => ex_12 h (closM hp h12 hJ hk c0 (by omega) o0), fun h => by unfold Nd.isI at h; omega, fun h => by unfold Nd.isF at h; omega⟩
  · obtain ⟨k0, hk, w0, r0⟩ := wf_e hw (by omega)
    obtain ⟨a0, t0, ha⟩ := ht.inv_1 (by omega) hk
    have m0 : k0 ∈ n.kids := by rw [hk]; simp
    obtain ⟨o0, e0⟩ := O m0 w0 r0 t0
    have c0 := (K m0 w0 st a0 t0 s0 s1).r r0
    obtain ⟨e, _⟩ := ha.2.2.2.2.2.2.2.2 (by omega)
    simp only [List.cons.injEq, and_true] at e
    rw [ev_13 h hk]
    exact ⟨fun _ => ex_13 h (reflM hp h12 hJ hk c0 (by omega) o0), fun h => by unfold Nd.isI at h; omega, fun h => by unfold Nd.isF at h; omega⟩
  · obtain ⟨k0, k1, hk, ⟨w0, r0⟩, w1, r1⟩ := wf_ee hw (by omega)
    obtain ⟨a0, a1, t0, t1, ha⟩ := ht.inv_2 (by omega) hk
    have m0 : k0 ∈ n.kids := by rw [hk]; simp
    have m1 : k1 ∈ n.kids := by rw [hk]; simp
    obtain ⟨o0, e0⟩ := O m0 w0 r0 t0
    have c0 := (K m0 w0 st a0 t0 s0 s1).r r0
    obtain ⟨o1, e1⟩ := O m1 w1 r1 t1
    have c1 := (K m1 w1 st a1 t1 s0 s1).r r1
    have e := ha.2.2.2.2.1 (by omega)
    simp only [List.cons.injEq, and_true] at e
    rw [ev_14 h hk]
    exact ⟨fun _ => ex_14 h (overM hp h12 hk c0 c1 (by omega) o0 o1), fun h => by unfold Nd.isI at h; omega, fun h => by unfold Nd.isF at h; omega⟩
  · obtain ⟨k0, k1, hk, ⟨w0, r0⟩, w1, r1⟩ := wf_ef hw (by omega)
    obtain ⟨_, t0, b, t1⟩ := ht.inv_bind (by omega) hk
    have m0 : k0 ∈ n.kids := by rw [hk]; simp
    have q := Q hk w0 r0 w1 r1 t0 t1
    obtain ⟨o0, e0⟩ := O m0 w0 r0 t0
    have c0 := (K m0 w0 st 1 t0 s0 s1).r r0
    rw [ev_15 h hk]
    exact ⟨fun _ => ex_15 h (comprP hk hse (ok_len hp h12 o0) c0 e0 (fun x => (ev s m k1 st (env ++ [(n.name, x)])).b) q), fun h => by unfold Nd.isI at h; omega, fun h => by unfold Nd.isF at h; omega⟩
  · rw [ev_20 h]
    exact ⟨fun h => by unfold Nd.isR at h; omega, fun _ => numLit h st env, fun h => by unfold Nd.isF at h; omega⟩
  · obtain ⟨k0, hk, w0, r0⟩ := wf_e hw (by omega)
    obtain ⟨a0, t0, ha⟩ := ht.inv_1 (by omega) hk
    have m0 : k0 ∈ n.kids := by rw [hk]; simp
    obtain ⟨o0, e0⟩ := O m0 w0 r0 t0
    have c0 := (K m0 w0 st a0 t0 s0 s1).r r0
    rw [ev_21 h hk]
    exact ⟨fun h => by unfold Nd.isR at h; omega, fun _ => numCard h hk c0, fun h => by unfold Nd.isF at h; omega⟩
  · obtain ⟨k0, k1, hk, ⟨w0, r0⟩, w1, r1⟩ := wf_ii hw (by omega)
    obtain ⟨a0, a1, t0, t1, ha⟩ := ht.inv_2 (by omega) hk
    have m0 : k0 ∈ n.kids := by rw [hk]; simp
    have m1 : k1 ∈ n.kids := by rw [hk]; simp
    have c0 := (K m0 w0 st a0 t0 s0 s1).i r0
    have c1 := (K m1 w1 st a1 t1 s0 s1).i r1
    rw [ev_22 h hk]
    exact ⟨fun h => by unfold Nd.isR at h; omega, fun _ => numAdd h hk c0 c1, fun h => by unfold Nd.isF at h; omega⟩
  · obtain ⟨k0, k1, hk, ⟨w0, r0⟩, w1, r1⟩ := wf_ii hw (by omega)
    obtain ⟨a0, a1, t0, t1, ha⟩ := ht.inv_2 (by omega) hk
    have m0 : k0 ∈ n.kids := by rw [hk]; simp
    have m1 : k1 ∈ n.kids := by rw [hk]; simp
    have c0 := (K m0 w0 st a0 t0 s0 s1).i r0
    have c1 := (K m1 w1 st a1 t1 s0 s1).i r1
    rw [ev_23 h hk]
    exact ⟨fun h => by unfold Nd.isR at h; omega, fun _ => numSub h hk c0 c1, fun h => by unfold Nd.isF at h; omega⟩
  · rw [ev_30 h]
    exact ⟨fun h => by unfold Nd.isR at h; omega, fun h => by unfold Nd.isI at h; omega, fun _ => fm_30 h⟩
  · rw [ev_31 h]
    exact ⟨fun h => by unfold Nd.isR at h; omega, fun h => by unfold Nd.isI at h; omega, fun _ => fm_31 h⟩
  · obtain ⟨k0, k1, hk, ⟨w0, r0⟩, w1, r1⟩ := wf_ee hw (by omega)
    obtain ⟨a0, a1, t0, t1, ha⟩ := ht.inv_2 (by omega) hk
    have m0 : k0 ∈ n.kids := by rw [hk]; simp
    have m1 : k1 ∈ n.kids := by rw [hk]; simp
    obtain ⟨o0, e0⟩ := O m0 w0 r0 t0
    have c0 := (K m0 w0 st a0 t0 s0 s1).r r0
    obtain ⟨o1, e1⟩ := O m1 w1 r1 t1
    have c1 := (K m1 w1 st a1 t1 s0 s1).r r1
    obtain ⟨b, e⟩ := ha.2.2.2.2.2.1 (by omega)
    simp only [List.cons.injEq, and_true] at e
    rw [ev_32 h hk]
    exact ⟨fun h => by unfold Nd.isR at h; omega, fun h => by unfold Nd.isI at h; omega, fun _ => fm_32 h hk c0 c1 (by omega) (ok_1e9 hp h12 o0)⟩
  · obtain ⟨k0, k1, hk, ⟨w0, r0⟩, w1, r1⟩ := wf_ee hw (by omega)
    obtain ⟨a0, a1, t0, t1, ha⟩ := ht.inv_2 (by omega) hk
    have m0 : k0 ∈ n.kids := by rw [hk]; simp
    have m1 : k1 ∈ n.kids := by rw [hk]; simp
    obtain ⟨o0, e0⟩ := O m0 w0 r0 t0
    have c0 := (K m0 w0 st a0 t0 s0 s1).r r0
    obtain ⟨o1, e1⟩ := O m1 w1 r1 t1
    have c1 := (K m1 w1 st a1 t1 s0 s1).r r1
    obtain ⟨b, e⟩ := ha.2.2.2.2.2.1 (by omega)
    simp only [List.cons.injEq, and_true] at e
    rw [ev_33 h hk]
    exact ⟨fun h => by unfold Nd.isR at h; omega, fun h => by unfold Nd.isI at h; omega, fun _ => fm_33 h hk c0 c1 (by omega)⟩
  · obtain ⟨k0, hk, w0, r0⟩ := wf_e hw (by omega)
    obtain ⟨a0, t0, ha⟩ := ht.inv_1 (by omega) hk
    have m0 : k0 ∈ n.kids := by rw [hk]; simp
    obtain ⟨o0, e0⟩ := O m0 w0 r0 t0
    have c0 := (K m0 w0 st a0 t0 s0 s1).r r0
    rw [ev_34 h hk]
    exact ⟨fun h => by unfold Nd.isR at h; omega, fun h => by unfold Nd.isI at h; omega, fun _ => fm_34 h hk c0⟩
  · obtain ⟨k0, hk, w0, r0⟩ := wf_e hw (by omega)
    obtain ⟨a0, t0, ha⟩ := ht.inv_1 (by omega) hk
    have m0 : k0 ∈ n.kids := by rw [hk]; simp
    obtain ⟨o0, e0⟩ := O m0 w0 r0 t0
    have c0 := (K m0 w0 st a0 t0 s0 s1).r r0
    rw [ev_35 h hk]
    exact ⟨fun h => by unfold Nd.isR at h; omega, fun h => by unfold Nd.isI at h; omega, fun _ => fm_35 h hk c0⟩
  · obtain ⟨k0, hk, w0, r0⟩ := wf_e hw (by omega)
    obtain ⟨a0, t0, ha⟩ := ht.inv_1 (by omega) hk
    have m0 : k0 ∈ n.kids := by rw [hk]; simp
    obtain ⟨o0, e0⟩ := O m0 w0 r0 t0
    have c0 := (K m0 w0 st a0 t0 s0 s1).r r0
    rw [ev_36 h hk]
    exact ⟨fun h => by unfold Nd.isR at h; omega, fun h => by unfold Nd.isI at h; omega, fun _ => fm_36 h hk c0⟩
  · obtain ⟨k0, hk, w0, r0⟩ := wf_e hw (by omega)
    obtain ⟨a0, t0, ha⟩ := ht.inv_1 (by omega) hk
    have m0 : k0 ∈ n.kids := by rw [hk]; simp
    obtain ⟨o0, e0⟩ := O m0 w0 r0 t0
    have c0 := (K m0 w0 st a0 t0 s0 s1).r r0
    rw [ev_37 h hk]
    exact ⟨fun h => by unfold Nd.isR at h; omega, fun h => by unfold Nd.isI at h; omega, fun _ => fm_37 h hk c0⟩
  · obtain ⟨k0, k1, hk, ⟨w0, r0⟩, w1, r1⟩ := wf_ii hw (by omega)
    obtain ⟨a0, a1, t0, t1, ha⟩ := ht.inv_2 (by omega) hk
    have m0 : k0 ∈ n.kids := by rw [hk]; simp
    have m1 : k1 ∈ n.kids := by rw [hk]; simp
    have c0 := (K m0 w0 st a0 t0 s0 s1).i r0
    have c1 := (K m1 w1 st a1 t1 s0 s1).i r1
    rw [ev_38 h hk]
    exact ⟨fun h => by unfold Nd.isR at h; omega, fun h => by unfold Nd.isI at h; omega, fun _ => fm_38 h hk c0 c1⟩
  · obtain ⟨k0, k1, hk, ⟨w0, r0⟩, w1, r1⟩ := wf_ii hw (by omega)
    obtain ⟨a0, a1, t0, t1, ha⟩ := ht.inv_2 (by omega) hk
    have m0 : k0 ∈ n.kids := by rw [hk]; simp
    have m1 : k1 ∈ n.kids := by rw [hk]; simp
    have c0 := (K m0 w0 st a0 t0 s0 s1).i r0
    have c1 := (K m1 w1 st a1 t1 s0 s1).i r1
    rw [ev_39 h hk]
    exact ⟨fun h => by unfold Nd.isR at h; omega, fun h => by unfold Nd.isI at h; omega, fun _ => fm_39 h hk c0 c1⟩
  · obtain ⟨k0, hk, w0, r0⟩ := wf_f hw (by omega)
    obtain ⟨a0, t0, ha⟩ := ht.inv_1 (by omega) hk
    have m0 : k0 ∈ n.kids := by rw [hk]; simp
    have c0 := (K m0 w0 st a0 t0 s0 s1).b r0
    rw [ev_40 h hk]
    exact ⟨fun h => by unfold Nd.isR at h; omega, fun h => by unfold Nd.isI at h; omega, fun _ => fm_40 h hk c0⟩
  · obtain ⟨k0, k1, hk, ⟨w0, r0⟩, w1, r1⟩ := wf_ff hw (by omega)
    obtain ⟨a0, a1, t0, t1, ha⟩ := ht.inv_2 (by omega) hk
    have m0 : k0 ∈ n.kids := by rw [hk]; simp
    have m1 : k1 ∈ n.kids := by rw [hk]; simp
    have c0 := (K m0 w0 st a0 t0 s0 s1).b r0
    have c1 := (K m1 w1 st a1 t1 s0 s1).b r1
    rw [ev_41 h hk]
    exact ⟨fun h => by unfold Nd.isR at h; omega, fun h => by unfold Nd.isI at h; omega, fun _ => fm_41 h hk c0 c1⟩
  · obtain ⟨k0, k1, hk, ⟨w0, r0⟩, w1, r1⟩ := wf_ff hw (by omega)
    obtain ⟨a0, a1, t0, t1, ha⟩ := ht.inv_2 (by omega) hk
    have m0 : k0 ∈ n.kids := by rw [hk]; simp
    have m1 : k1 ∈ n.kids := by rw [hk]; simp
    have c0 := (K m0 w0 st a0 t0 s0 s1).b r0
    have c1 := (K m1 w1 st a1 t1 s0 s1).b r1
    rw [ev_42 h hk]
    exact ⟨fun h => by unfold Nd.isR at h; omega, fun h => by unfold Nd.isI at h; omega, fun _ => fm_42 h hk c0 c1⟩
  · obtain ⟨k0, k1, hk, ⟨w0, r0⟩, w1, r1⟩ := wf_ff hw (by omega)
    obtain ⟨a0, a1, t0, t1, ha⟩ := ht.inv_2 (by omega) hk
    have m0 : k0 ∈ n.kids := by rw [hk]; simp
    have m1 : k1 ∈ n.kids := by rw [hk]; simp
    have c0 := (K m0 w0 st a0 t0 s0 s1).b r0
    have c1 := (K m1 w1 st a1 t1 s0 s1).b r1
    rw [ev_43 h hk]
    exact ⟨fun h => by unfold Nd.isR at h; omega, fun h => by unfold Nd.isI at h; omega, fun _ => fm_43 h hk c0 c1⟩
  · obtain ⟨k0, k1, hk, ⟨w0, r0⟩, w1, r1⟩ := wf_ff hw (by omega)
    obtain ⟨a0, a1, t0, t1, ha⟩ := ht.inv_2 (by omega) hk
    have m0 : k0 ∈ n.kids := by rw [hk]; simp
    have m1 : k1 ∈ n.kids := by rw [hk]; simp
    have c0 := (K m0 w0 st a0 t0 s0 s1).b r0
    have c1 := (K m1 w1 st a1 t1 s0 s1).b r1
    rw [ev_44 h hk]
    exact ⟨fun h => by unfold Nd.isR at h; omega, fun h => by unfold Nd.isI at h; omega, fun _ => fm_44 h hk c0 c1⟩
  · obtain ⟨k0, k1, hk, ⟨w0, r0⟩, w1, r1⟩ := wf_ef hw (by omega)
    obtain ⟨_, t0, b, t1⟩ := ht.inv_bind (by omega) hk
    have m0 : k0 ∈ n.kids := by rw [hk]; simp
    have q := Q hk w0 r0 w1 r1 t0 t1
    obtain ⟨o0, e0⟩ := O m0 w0 r0 t0
    have c0 := (K m0 w0 st 1 t0 s0 s1).r r0
    rw [ev_45 h hk]
    exact ⟨fun h => by unfold Nd.isR at h; omega, fun h => by unfold Nd.isI at h; omega, fun _ => fm_45 h hk hse (ok_len hp h12 o0) c0 e0 (fun x => (ev s m k1 st (env ++ [(n.name, x)])).b) q⟩
  · obtain ⟨k0, k1, hk, ⟨w0, r0⟩, w1, r1⟩ := wf_ef hw (by omega)
    obtain ⟨_, t0, b, t1⟩ := ht.inv_bind (by omega) hk
    have m0 : k0 ∈ n.kids := by rw [hk]; simp
    have q := Q hk w0 r0 w1 r1 t0 t1
    obtain ⟨o0, e0⟩ := O m0 w0 r0 t0
    have c0 := (K m0 w0 st 1 t0 s0 s1).r r0
    rw [ev_46 h hk]
    exact ⟨fun h => by unfold Nd.isR at h; omega, fun h => by unfold Nd.isI at h; omega, fun _ => fm_46 h hk hse (ok_len hp h12 o0) c0 e0 (fun x => (ev s m k1 st (env ++ [(n.name, x)])).b) q⟩
  · obtain ⟨k0, hk, w0, r0⟩ := wf_f hw (by omega)
    obtain ⟨a0, t0, ha⟩ := ht.inv_1 (by omega) hk
    have m0 : k0 ∈ n.kids := by rw [hk]; simp
    rw [ev_48 h hk]
    exact ⟨fun h => by unfold Nd.isR at h; omega, fun h => by unfold Nd.isI at h; omega, fun _ => fm_48 h hk hm hl ⟨s0, s1⟩ (fun t => (ev s m k0 t env).b) fun t u => (K m0 w0 t a0 t0 u.1 u.2).b r0⟩
  · obtain ⟨k0, hk, w0, r0⟩ := wf_f hw (by omega)
    obtain ⟨a0, t0, ha⟩ := ht.inv_1 (by omega) hk
    have m0 : k0 ∈ n.kids := by rw [hk]; simp
    rw [ev_49 h hk]
    exact ⟨fun h => by unfold Nd.isR at h; omega, fun h => by unfold Nd.isI at h; omega, fun _ => fm_49 h hk hm hl ⟨s0, s1⟩ (fun t => (ev s m k0 t env).b) fun t u => (K m0 w0 t a0 t0 u.1 u.2).b r0⟩
  · obtain ⟨k0, hk, w0, r0⟩ := wf_f hw (by omega)
    obtain ⟨a0, t0, ha⟩ := ht.inv_1 (by omega) hk
    have m0 : k0 ∈ n.kids := by rw [hk]; simp
    have c0 := (K m0 w0 _ a0 t0 n0 n1).b r0
    rw [ev_50 h hk]
    exact ⟨fun h => by unfold Nd.isR at h; omega, fun h => by unfold Nd.isI at h; omega, fun _ => fm_50 h hk ⟨s0, by omega⟩ c0⟩
  · obtain ⟨k0, k1, hk, ⟨w0, r0⟩, w1, r1⟩ := wf_ff hw (by omega)
    obtain ⟨a0, a1, t0, t1, ha⟩ := ht.inv_2 (by omega) hk
    have m0 : k0 ∈ n.kids := by rw [hk]; simp
    have m1 : k1 ∈ n.kids := by rw [hk]; simp
    rw [ev_51 h hk]
    exact ⟨fun h => by unfold Nd.isR at h; omega, fun h => by unfold Nd.isI at h; omega, fun _ => fm_51 h hk hm hl ⟨s0, s1⟩ (fun t => (ev s m k0 t env).b) (fun t => (ev s m k1 t env).b) (fun t u => (K m0 w0 t a0 t0 u.1 u.2).b r0) fun t u => (K m1 w1 t a1 t1 u.1 u.2).b r1⟩
end Go.Ab
namespace Go.Ab
open Go Go.Proofs
set_option maxRecDepth 10000
theorem fullP (s : Scope) (h : small s.atoms) (N : Nat) (hN : sumI s.atoms = N) (h12 : N ≤ 12) (i : Nat) (hi : i < s.atoms.length) : AFun Tryz.prog 123 [s.av, ints [(i : Int)]] (.p (Rl.av ⟨1, sortL s i⟩)) := by
 have hal : (s.atoms.map eI).length = s.atoms.length := List.length_map _
 have hl4 := h.1
 have hw1 := withinP 1 1 3
 rw [show (decide ((1 : Int) ≤ 1) && decide ((1 : Int) ≤ 3)) = true from rfl] at hw1
 have hw2 := withinP i 0 (((s.atoms.map eI).length : Int) - 1)
 rw [show (decide ((0 : Int) ≤ (i : Int)) && decide ((i : Int) ≤ ((s.atoms.map eI).length : Int) - 1)) = true by rw [decide_eq_true (show (0 : Int) ≤ (i : Int) by omega), decide_eq_true (show (i : Int) ≤ ((s.atoms.map eI).length : Int) - 1 by omega)]; rfl] at hw2
 have ht := tuplesP s 0 [(i : Int)]
 have hI := tup1 s h N hN h12 i hi
 obtain ⟨l, hl⟩ : ∃ l, sortL s i = l := ⟨_, rfl⟩
 have hll : l.length ≤ 1000 := by
  have := h.at hi
  rw [← hl, sortL, List.length_map, List.length_range, atomsOf, List.getElem?_eq_getElem hi]
  show s.atoms[i].toNat ≤ 1000
  omega
 rw [hl] at hI ⊢
 have hil : (its l).length = l.length := by simp [its]
 refine AFun.of hT Tryz.func123 rfl rfl (by simp) (AD.run hT hmix ?_)
 intro h1
 refine .pure [eI 1, eI 1, eI 3] _ rfl hw1 ?_
 intro h2
 refine AD.loopI (fun k : Nat => k ≤ 1) (fun k => 1 - k) (fun k => [(1, .p (ints [(i : Int)])), (2, .loc 2 0), (4, .loc 4 0), (14, .p (ints [(i : Int)])), (15, eint .i64 1), (16, eint .i64 k)]) (fun _ => [(2, .box 30 (s.cs.map .p)), (4, .box 50 [.p (eI 0), .full 1 []])]) 0 (Nat.zero_le _) .of fun k hk => AD.run hT hmix ?_
 refine bgo_split (fun hb => ?_) (fun hb => ?_)
 · replace hb := of_decide_eq_true hb
   obtain rfl : k = 0 := by omega
   refine ⟨0, eI i, rfl, rfl, ?_⟩
   intro h3
   refine ngo_in (by omega) (by omega) (.pure [eI i, eI 0, eI (((s.atoms.map eI).length : Int) - 1)] _ rfl hw2 ?_)
   exact ngo_in (by omega) (by omega) ⟨1, by omega, by omega, .of⟩
 · replace hb := of_decide_eq_false hb
   obtain rfl : k = 1 := by omega
   intro h4
   refine .pure [s.av, eI 0, ints [(i : Int)]] _ rfl ht ?_
   refine AD.rangeFunc (T := T) hI [(4, .loc 4 0), (7, .loc 7 0), (34, .p (tupF s 0 [(i : Int)]))]
    (fun j => [(4, .box 50 [.p (eI 0), .full 1 []]), (7, .box 50 [.p (eI 1), .own 1 ((l.take j).map eI) 40]), (40, .tail ((l.take j).map eI).length)]) l.length none .of rfl (by rw [hil]; exact Nat.le_refl _) (fun _ => hil.symm) (fun h => absurd rfl h) ?_ ?_ ?_
   · intro j xs hj hx
     rw [its_at (List.getElem?_eq_getElem hj)] at hx
     cases hx
     refine AD.run hT hmix (AD.run hT hmix ?_)
     refine ⟨rfl, ⟨by simp; omega, by simp; omega⟩, jumpNone _, ?_⟩
     rw [List.take_succ_eq_append_getElem hj, List.map_append]
     exact .of
   · intro xs hx
     obtain ⟨x, _, rfl⟩ := List.mem_map.1 hx
     exact ⟨rfl, rfl⟩
   · rw [List.take_length]
     exact ⟨_, _, rfl, rfl, rfl⟩
theorem sortL_rel {s : Spc} {m : Mdl} (hm : MOk s m) {i : Nat} (hi : i < s.sorts.length) : (⟨1, sortL m.scope i⟩ : Rl) = sortRel m.scope i := by
 have hp := atoms_pos hm hi
 have hf := first_in hm hi
 rw [sortRel]
 congr 1
 refine cl_eq ?_ fun x => ?_
 · exact up_pairs (f := fun k => firstOf m.scope i + k) (fun a b h => by show _ + (a : Int) < _ + (b : Int); omega) _
 · unfold sortL
   rw [List.mem_map]
   constructor
   · rintro ⟨k, hk, rfl⟩
     rw [List.mem_range] at hk
     have h2 : firstOf m.scope i ≤ firstOf m.scope i + (k : Int) ∧ firstOf m.scope i + (k : Int) < firstOf m.scope i + atomsOf m.scope i := by omega
     have h3 := (firstOf_iff hm (by rw [hm.sl]; exact hi) _).1 h2
     have := hm.n12
     exact ⟨by omega, h2⟩
   · rintro ⟨_, h1, h2⟩
     exact ⟨(x - firstOf m.scope i).toNat, List.mem_range.2 (by omega), by omega⟩
theorem sEq_comm (a b : ByteArray) : sEq a b = sEq b a := by
 rw [Bool.eq_iff_iff, beq_iff_eq, beq_iff_eq]; exact eq_comm
theorem blt_false {a b : Nat} (h : b ≤ a) : Nat.blt a b = false := by
 cases e : Nat.blt a b with
 | false => rfl
 | true => exact absurd (Nat.le_of_ble_eq_true e) (by omega)
def toB (x : ByteArray × Int) : Bind := ⟨x.1, x.2⟩
theorem bdA_toB (env : List (ByteArray × Int)) : env.map bdA = (env.map toB).map Bind.av := by rw [List.map_map]; rfl
theorem env_first (env : List (ByteArray × Int)) (nm : ByteArray) : (∀ j (h : j < env.length), sEq (env[env.length - 1 - j]'(by omega)).1 nm = false) ∧ envLook env nm = none ∨
 ∃ j, ∃ h : j < env.length, (∀ k (hk : k < j), sEq (env[env.length - 1 - k]'(by omega)).1 nm = false) ∧ sEq (env[env.length - 1 - j]'(by omega)).1 nm = true ∧ envLook env nm = some (env[env.length - 1 - j]'(by omega)).2 := by
 by_cases hex : ∃ j, ∃ h : j < env.length, sEq (env[env.length - 1 - j]'(by omega)).1 nm = true
 · right
   have key : ∀ n, (∃ j, ∃ h : j < env.length, j ≤ n ∧ sEq (env[env.length - 1 - j]'(by omega)).1 nm = true) → ∃ j, ∃ h : j < env.length, (∀ k (hk : k < j), sEq (env[env.length - 1 - k]'(by omega)).1 nm = false) ∧ sEq (env[env.length - 1 - j]'(by omega)).1 nm = true := by
    intro n
    induction n with
    | zero =>
     rintro ⟨j, h, h0, he⟩
     obtain rfl : j = 0 := by omega
     exact ⟨0, h, fun k hk => by omega, he⟩
    | succ n ih =>
     rintro ⟨j, h, h0, he⟩
     by_cases hs : ∃ j, ∃ h : j < env.length, j ≤ n ∧ sEq (env[env.length - 1 - j]'(by omega)).1 nm = true
     · exact ih hs
     · refine ⟨j, h, fun k hk => ?_, he⟩
       cases hq : sEq (env[env.length - 1 - k]'(by omega)).1 nm with
       | false => rfl
       | true => exact absurd ⟨k, by omega, by omega, hq⟩ hs
   obtain ⟨j0, h0, he0⟩ := hex
   obtain ⟨j, h, h1, h2⟩ := key j0 ⟨j0, h0, Nat.le_refl _, he0⟩
   refine ⟨j, h, h1, h2, envLook_at (by omega) (fun y hy => ?_) h2⟩
   obtain ⟨i, hi, rfl⟩ := List.mem_iff_getElem.1 hy
   rw [List.getElem_drop]
   have hl : i < env.length - (env.length - 1 - j + 1) := by simpa using hi
   have := h1 (j - 1 - i) (by omega)
   simpa [show env.length - 1 - (j - 1 - i) = env.length - 1 - j + 1 + i by omega] using this
 · left
   have hno : ∀ j (h : j < env.length), sEq (env[env.length - 1 - j]'(by omega)).1 nm = false := fun j h => by
    cases hq : sEq (env[env.length - 1 - j]'(by omega)).1 nm with
    | false => rfl
    | true => exact absurd ⟨j, h, hq⟩ hex
   refine ⟨hno, envLook_none fun x hx => ?_⟩
   obtain ⟨i, hi, rfl⟩ := List.mem_iff_getElem.1 hx
   have := hno (env.length - 1 - i) (by omega)
   simpa [show env.length - 1 - (env.length - 1 - i) = i by omega] using this
def zeroRl : List EV := [.p (eI 0), .full 1 []]
theorem namedP {s : Spc} {m : Mdl} (hm : MOk s m) (hsm : small m.scope.atoms) (hfl : s.fields.length ≤ 1000) (hnm : ∀ x ∈ s.sorts, x.name.size ≤ 1048576) (nm : ByteArray) (st : Int) (env : List (ByteArray × Int)) (a : Int) (h0 : 0 ≤ st) (h1 : st < m.states.length) (he : ∀ x ∈ env, 0 ≤ x.2 ∧ x.2 < m.n) (hse : env.length ≤ 5000000) (ht : NameTy s (tyE env) nm a) :
 AFun Tryz.prog 73 [mch s m, plc st env, eS nm] (.p (nameVal s m st env nm).av) := by
 have hbl : (backs (env.map toB)).length = env.length := by rw [backs_len, List.length_map]
 have hat : ∀ j (h : j < env.length), (backs (env.map toB))[j]? = some [eI ((env.length - 1 - j : Nat) : Int), (toB (env[env.length - 1 - j]'(by omega))).av] := fun j h => by
  have := backs_at (env.map toB) (i := j) (by simpa using h)
  simpa using this
 have hit := backward1 (env.map toB) (by rw [List.length_map]; exact hse)
 have hbk := backP (env.map toB)
 refine AFun.of hT Tryz.func73 rfl rfl (by simp) ?_
 rw [plc, bdA_toB]
 refine AD.run hT hmix (.pure [binds (env.map toB)] _ rfl hbk ?_)
 rcases env_first env nm with ⟨hno, hlk⟩ | ⟨j, hj, hno, hyes, hlk⟩
 · refine AD.rangeFunc (T := T) hit [(0, .p (mch s m)), (4, .loc 4 0), (5, .loc 5 0), (6, .loc 6 0), (19, .p (.fn (.func 190) [] [.ref [binds (env.map toB)]]))]
    (fun _ => [(4, .box 90 ([eI st, binds (env.map toB)].map .p)), (5, .box 9 [.p (eS nm)]), (6, .box 50 zeroRl)]) env.length none .of rfl (by rw [hbl]; exact Nat.le_refl _) (fun _ => hbl.symm) (fun h => absurd rfl h) ?_ ?_ ?_
   · intro i xs hi hx
     rw [hat i hi] at hx
     cases hx
     refine AD.run hT hmix (AD.run hT hmix ?_)
     exact bgo_false (hno i hi) ⟨jumpNone _, .of⟩
   · intro xs hx
     obtain ⟨x, _, rfl⟩ := List.mem_map.1 hx
     exact ⟨rfl, rfl⟩
   · have hno' : s.found nm = [a] := by
      unfold NameTy at ht
      rw [tyE_look, hlk] at ht
      exact ht
     have hfr := foundR_ok hm h0 h1 nm
     obtain ⟨r, hr⟩ : ∃ r, foundR s m st nm = [r] := by
      have e := hfr.2
      rw [hno'] at e
      match hq : foundR s m st nm with
      | [r] => exact ⟨r, rfl⟩
      | [] => rw [hq] at e; cases e
      | _ :: _ :: _ => rw [hq] at e; simp at e
     have hv : nameVal s m st env nm = r := by rw [nameVal, hlk, hr]; rfl
     rw [hv]
     generalize binds (env.map toB) = bs
     obtain ⟨row, hrow, hrl, hrk⟩ := state_at hm h0 h1
     have hst : st.toNat < m.states.length := by omega
     have hrow2 : m.states[st.toNat] = row := by rw [List.getElem?_eq_getElem hst] at hrow; exact Option.some.inj hrow
     have hf1 : (s.fields.map Fld.av).length = s.fields.length := List.length_map _
     have hs1 : (s.sorts.map Srt.av).length = s.sorts.length := List.length_map _
     have hs4 : s.sorts.length ≤ 4 := by rw [← hm.sl]; exact hsm.1
     intro _
     refine AD.loopI (fun x : Nat × List Rl => x.1 ≤ s.fields.length ∧ x.2 = (s.fields.zipIdx.take x.1).flatMap (fRels m st nm) ∧ x.2.length ≤ x.1) (fun x => s.fields.length - x.1)
      (fun x => [(0, .p (mch s m)), (4, .loc 4 0), (5, .loc 5 0), (6, .loc 6 0), (9, .own 2 (x.2.map Rl.av) 300), (34, .p (.slice 3 (s.fields.map Fld.av))), (35, eint .i64 (s.fields.map Fld.av).length), (36, eint .i64 x.1)])
      (fun x => [(4, .box 90 ([eI st, bs].map .p)), (5, .box 9 [.p (eS nm)]), (6, .box 50 zeroRl), (300, .tail (x.2.map Rl.av).length)]) (0, []) ⟨Nat.zero_le _, by simp, Nat.zero_le _⟩ .of fun ⟨i, es⟩ ⟨g1, g2, g3⟩ => AD.run hT hmix ?_
     dsimp only at g1 g2 g3 ⊢
     refine bgo_split (fun hb => ?_) (fun hb => ?_)
     · replace hb := of_decide_eq_true hb
       have hlt : i < s.fields.length := by omega
       have hsn := fm_take (fRels m st nm) s.fields.zipIdx (i := i) (by simpa using hlt)
       rw [List.getElem_zipIdx, Nat.zero_add, fRels] at hsn
       refine igo_map i rfl hlt (bgo_split (fun hc => ?_) (fun hc => ?_))
       · have hri : i < row.length := by omega
         rw [if_pos hc] at hsn
         refine igo_map st.toNat (by omega) hst ?_
         rw [hrow2]
         refine igo_map i rfl hri ⟨rfl, ⟨by simp; omega, by simp; omega⟩, ⟨by kernel_rfl, ngo_in (by omega) (by omega) ⟨(i + 1, es ++ [row[i]]), ⟨by dsimp only; omega, ?_, by dsimp only; rw [List.length_append, List.length_singleton]; omega⟩, by dsimp only; omega, ?_⟩⟩⟩
         · dsimp only
           rw [hsn, ← g2]
           simp [hrow, List.getElem?_eq_getElem hri]
         · dsimp only
           rw [List.map_append]
           exact .of
       · rw [if_neg (fun e => Bool.false_ne_true (hc.symm.trans e)), List.append_nil] at hsn
         exact ngo_in (by omega) (by omega) ⟨(i + 1, es), ⟨by dsimp only; omega, by dsimp only; rw [hsn]; exact g2, by dsimp only; omega⟩, by dsimp only; omega, .of⟩
     · replace hb := of_decide_eq_false hb
       obtain rfl : i = s.fields.length := by omega
       have hft : s.fields.zipIdx.take s.fields.length = s.fields.zipIdx := List.take_of_length_le (by simp)
       rw [hft] at g2
       intro _
       refine AD.loopI (fun x : Nat × List Rl => x.1 ≤ s.sorts.length ∧ x.2 = es ++ (s.sorts.zipIdx.take x.1).flatMap (sRels m nm) ∧ x.2.length ≤ s.fields.length + 3 * x.1) (fun x => s.sorts.length - x.1)
        (fun x => [(0, .p (mch s m)), (5, .loc 5 0), (6, .loc 6 0), (9, .own 2 (x.2.map Rl.av) 300), (65, .p (.slice 2 (s.sorts.map Srt.av))), (66, eint .i64 (s.sorts.map Srt.av).length), (67, eint .i64 x.1)])
        (fun x => [(5, .box 9 [.p (eS nm)]), (6, .box 50 zeroRl), (300, .tail (x.2.map Rl.av).length)]) (0, es) ⟨Nat.zero_le _, by simp, g3⟩ .of fun ⟨i, es0⟩ ⟨f1, f2, f3⟩ => ?_
       dsimp only at f1 f2 f3 ⊢
       by_cases hb : i < s.sorts.length
       case neg =>
        obtain rfl : i = s.sorts.length := by omega
        have hft2 : s.sorts.zipIdx.take s.sorts.length = s.sorts.zipIdx := List.take_of_length_le (by simp)
        rw [hft2, g2] at f2
        have hf : es0 = [r] := f2.trans hr
        subst hf
        refine AD.run hT hmix (bgo_false (decide_eq_false (by omega)) ?_)
        intro _
        exact ⟨0, r.av, rfl, rfl, ⟨_, _, rfl, rfl, rfl⟩⟩
       case pos =>
        have hia : i < m.scope.atoms.length := by rw [hm.sl]; exact hb
        obtain ⟨N, hN⟩ : ∃ N : Nat, m.n = N := ⟨m.n.toNat, by have := hm.pos; omega⟩
        have h12 : N ≤ 12 := by have := hm.n12; omega
        have hfull := fullP m.scope hsm N hN h12 i hia
        have hrel := sortL_rel hm hb
        have hal := atoms_pos hm hb
        have hfi := first_in hm hb
        have hsn := fm_take (sRels m nm) s.sorts.zipIdx (i := i) (by simpa using hb)
        rw [List.getElem_zipIdx, Nat.zero_add, sRels] at hsn
        dsimp only at hsn
        obtain ⟨L, hL⟩ : ∃ L, sortL m.scope i = L := ⟨_, rfl⟩
        have hLl : L.length = (atomsOf m.scope i).toNat := by rw [← hL, sortL, List.length_map, List.length_range]
        have hLk : ∀ (k : Nat) (h : k < L.length), L[k] = firstOf m.scope i + k := fun k h => by subst hL; simp [sortL]
        rw [hL] at hfull hrel
        obtain ⟨srt, hsrt⟩ : ∃ srt, s.sorts[i] = srt := ⟨_, rfl⟩
        have hnl : srt.name.size ≤ 1048576 := by rw [← hsrt]; exact hnm _ (List.getElem_mem hb)
        rw [hsrt] at hsn
        refine AD.cut hT hmix 18 (fun es1 : List Rl => es1 = es0 ++ (if sEq srt.name nm = true then [sortRel m.scope i] else []) ∧ es1.length ≤ es0.length + 1)
         (fun es1 => [(0, .p (mch s m)), (5, .loc 5 0), (6, .loc 6 0), (9, .own 2 (es1.map Rl.av) 300), (13, .loc 13 0), (14, .loc 14 0), (65, .p (.slice 2 (s.sorts.map Srt.av))), (66, eint .i64 (s.sorts.map Srt.av).length), (67, eint .i64 i)])
         (fun es1 => [(5, .box 9 [.p (eS nm)]), (6, .box 50 zeroRl), (13, .box 78 [.p (eS srt.name), .p (eB srt.ordered)]), (14, .box 50 [.p (eI 1), .p (ints L)]), (300, .tail (es1.map Rl.av).length)]) ?_ fun es1 ⟨k1, k2⟩ => ?_
        · refine bgo_true (decide_eq_true (by omega)) (igo_map i rfl hb ?_)
          rw [hsrt]
          refine .pure [m.scope.av, ints [(i : Int)]] _ rfl hfull (bgo_split (fun hc => ?_) (fun hc => ?_))
          · refine ⟨rfl, ⟨by simp; omega, by simp; omega⟩, es0 ++ [⟨1, L⟩], ⟨by rw [if_pos hc, hrel], by rw [List.length_append, List.length_singleton]; omega⟩, ?_⟩
            dsimp only
            rw [List.map_append]
            exact .of
          · exact ⟨es0, ⟨by rw [if_neg (fun e => Bool.false_ne_true (hc.symm.trans e)), List.append_nil], by omega⟩, .of⟩
        · have hL1 : 1 ≤ L.length := by omega
          refine AD.cut hT hmix 20 (fun es2 : List Rl => es2 = es1 ++ (if (srt.ordered && sEq (srt.name ++ sFirst) nm) = true then [headRel m.scope i] else []) ∧ es2.length ≤ es1.length + 1)
           (fun es2 => [(0, .p (mch s m)), (5, .loc 5 0), (6, .loc 6 0), (9, .own 2 (es2.map Rl.av) 300), (13, .loc 13 0), (14, .loc 14 0), (65, .p (.slice 2 (s.sorts.map Srt.av))), (66, eint .i64 (s.sorts.map Srt.av).length), (67, eint .i64 i)])
           (fun es2 => [(5, .box 9 [.p (eS nm)]), (6, .box 50 zeroRl), (13, .box 78 [.p (eS srt.name), .p (eB srt.ordered)]), (14, .box 50 [.p (eI 1), .p (ints L)]), (300, .tail (es2.map Rl.av).length)]) ?_ fun es2 ⟨k3, k4⟩ => ?_
          · obtain ⟨x, L', hLx⟩ : ∃ x L', L = x :: L' := by
             match L, hL1 with
             | x :: L', _ => exact ⟨x, L', rfl⟩
            have hx : x = firstOf m.scope i := by have := hLk 0 (by omega); simp only [hLx] at this; simpa using this
            have hhr : headRel m.scope i = ⟨1, [x]⟩ := by rw [hx]; rfl
            have hcl := clipI [x] (by simp)
            refine bgo_split (fun o1 => ?_) (fun o1 => ?_)
            · refine ⟨str_add hnl (by decide), bgo_split (fun hc => ?_) (fun hc => ?_)⟩
              · have hc2 : (srt.ordered && sEq (srt.name ++ sFirst) nm) = true := by rw [o1, sEq_comm]; exact hc
                subst hLx
                intro _
                have hmin : ¬ ((((x :: L').map eI).length : Int) < 1) := by rw [List.length_map, List.length_cons]; omega
                refine ⟨0, 1, rfl, if_neg hmin, by omega, by simp, .pure [ints [x]] _ rfl hcl ⟨rfl, ⟨by simp; omega, by simp; omega⟩, es1 ++ [⟨1, [x]⟩], ⟨by rw [if_pos hc2, hhr], by rw [List.length_append, List.length_singleton]; omega⟩, ?_⟩⟩
                dsimp only
                rw [List.map_append]
                exact .of
              · have hc2 : (srt.ordered && sEq (srt.name ++ sFirst) nm) = false := by rw [o1, sEq_comm]; exact hc
                exact ⟨es1, ⟨by rw [hc2]; simp, by omega⟩, .of⟩
            · have hc2 : (srt.ordered && sEq (srt.name ++ sFirst) nm) = false := by rw [o1]; rfl
              exact ⟨es1, ⟨by rw [hc2]; simp, by omega⟩, .of⟩
          · have hfin : ∀ es3 : List Rl, es3 = es2 ++ (if (srt.ordered && sEq (srt.name ++ sNext) nm) = true then [nextRel m.scope i] else []) → es3 = es ++ (s.sorts.zipIdx.take (i + 1)).flatMap (sRels m nm) := fun es3 h => by
             rw [h, k3, k1, hsn, f2]
             simp only [List.append_assoc]
            refine AD.run hT hmix (bgo_split (fun o1 => ?_) (fun o1 => ?_))
            · refine ⟨str_add hnl (by decide), bgo_split (fun hc => ?_) (fun hc => ?_)⟩
              · have hc2 : (srt.ordered && sEq (srt.name ++ sNext) nm) = true := by rw [o1, sEq_comm]; exact hc
                rw [if_pos hc2] at hfin
                obtain ⟨nx, hnx⟩ : ∃ nx : Nat → List Int, nx = fun k => (List.range (k - 1)).map fun q : Nat => (firstOf m.scope i + q) * N + (firstOf m.scope i + q + 1) := ⟨_, rfl⟩
                have hnxl : ∀ k, (nx k).length = k - 1 := fun k => by rw [hnx]; simp
                have hfr2 : ∀ q : Nat, q < L.length → 0 ≤ firstOf m.scope i + q ∧ firstOf m.scope i + q < N := fun q hq => by
                 have := (firstOf_iff hm hia (firstOf m.scope i + q)).1 ⟨by omega, by omega⟩
                 rw [hN] at this; omega
                have hnr : nextRel m.scope i = ⟨2, nx L.length⟩ := by
                 rw [nextRel]
                 congr 1
                 have hsm : sumI m.scope.atoms = N := hN
                 rw [hsm, hnx]
                 refine (cl_eq ?_ fun x => ?_).symm
                 · refine up_pairs (f := fun q : Nat => (firstOf m.scope i + q) * N + (firstOf m.scope i + q + 1)) (fun a b h => ?_) _
                   have : (firstOf m.scope i + (a : Int)) * N ≤ (firstOf m.scope i + (b : Int)) * N := Int.mul_le_mul_of_nonneg_right (by omega) (by omega)
                   show _ + _ < _ + _
                   omega
                 · rw [List.mem_map]
                   constructor
                   · rintro ⟨q, hq, rfl⟩
                     rw [List.mem_range] at hq
                     have h2 := hfr2 q (by omega)
                     have h3 := hfr2 (q + 1) (by omega)
                     have m0 : 0 ≤ (firstOf m.scope i + (q : Int)) * N := Int.mul_nonneg (by omega) (by omega)
                     have m1 : (firstOf m.scope i + (q : Int)) * N ≤ 12 * 12 := Int.mul_le_mul (by omega) (by omega) (by omega) (by omega)
                     exact ⟨by omega, firstOf m.scope i + q, by omega, by omega, rfl⟩
                   · rintro ⟨_, k, h2, h3, rfl⟩
                     refine ⟨(k - firstOf m.scope i).toNat, List.mem_range.2 (by omega), ?_⟩
                     rw [show firstOf m.scope i + (((k - firstOf m.scope i).toNat : Nat) : Int) = k by omega]
                have hrank : ∀ k, 1 ≤ k → ∀ h : k < L.length, AFun Tryz.prog 125 [m.scope.av, ints [L[k - 1]'(by omega), L[k]]] (.p (eI ((firstOf m.scope i + ((k - 1 : Nat) : Int)) * N + (firstOf m.scope i + ((k - 1 : Nat) : Int) + 1)))) := fun k hk1 h => by
                 have := rankU m.scope hsm N hN h12 [L[k - 1]'(by omega), L[k]] (by simp) (fun x hx => by
                  rcases List.mem_cons.1 hx with rfl | hx
                  · rw [hLk]; exact hfr2 _ (by omega)
                  · obtain rfl := List.mem_singleton.1 hx; rw [hLk]; exact hfr2 _ h)
                 have e : rnk N [L[k - 1]'(by omega), L[k]] = (firstOf m.scope i + ((k - 1 : Nat) : Int)) * N + (firstOf m.scope i + ((k - 1 : Nat) : Int) + 1) := by
                  show (0 * (N : Int) + L[k - 1]) * N + L[k] = _
                  rw [hLk, hLk, Int.zero_mul, Int.zero_add]; omega
                 rw [e] at this; exact this
                have hLm : (L.map eI).length = L.length := List.length_map _
                have hL5 : L.length ≤ 12 := by have := hfr2 (L.length - 1) (by omega); omega
                refine AD.loopI (fun k : Nat => 1 ≤ k ∧ k ≤ L.length) (fun k => L.length - k)
                 (fun k => [(0, .p (mch s m)), (5, .loc 5 0), (6, .loc 6 0), (9, .own 2 (es2.map Rl.av) 300), (14, .loc 14 0), (15, .loc 15 0), (16, .p (eI k)), (65, .p (.slice 2 (s.sorts.map Srt.av))), (66, eint .i64 (s.sorts.map Srt.av).length), (67, eint .i64 i)])
                 (fun k => [(5, .box 9 [.p (eS nm)]), (6, .box 50 zeroRl), (14, .box 50 [.p (eI 1), .p (ints L)]), (15, .box 50 [.p (eI 2), .own 1 ((nx k).map eI) 301]), (301, .tail ((nx k).map eI).length), (300, .tail (es2.map Rl.av).length)]) 1 ⟨Nat.le_refl _, hL1⟩ ?_ fun k ⟨j1, j2⟩ => AD.run hT hmix ?_
                · rw [hnx]; exact .of
                · intro _
                  refine bgo_split (fun hb2 => ?_) (fun hb2 => ?_)
                  · replace hb2 := of_decide_eq_true hb2
                    have hk : k < L.length := by omega
                    have hrk := hrank k j1 hk
                    refine ngo_in (by omega) (by omega) (igo_map (k - 1) (by omega) (by omega) (igo_map k rfl hk (.pure [m.scope.av, ints [L[k - 1]'(by omega), L[k]]] _ rfl hrk ⟨rfl, ⟨by simp [hnxl]; omega, by simp [hnxl]; omega⟩, ⟨by kernel_rfl, ngo_in (by omega) (by omega) ⟨k + 1, ⟨by omega, by omega⟩, by omega, ?_⟩⟩⟩)))
                    have hsn2 : nx (k + 1) = nx k ++ [(firstOf m.scope i + ((k - 1 : Nat) : Int)) * N + (firstOf m.scope i + ((k - 1 : Nat) : Int) + 1)] := by
                     rw [hnx]
                     dsimp only
                     rw [show k + 1 - 1 = k - 1 + 1 by omega, List.range_succ, List.map_append]; rfl
                    dsimp only
                    rw [hsn2, List.map_append]
                    exact .of
                  · replace hb2 := of_decide_eq_false hb2
                    obtain rfl : k = L.length := by omega
                    refine ⟨rfl, ⟨by simp; omega, by simp; omega⟩, AD.run hT hmix (ngo_in (by omega) (by omega) ⟨(i + 1, es2 ++ [⟨2, nx L.length⟩]), ⟨by dsimp only; omega, hfin _ (by rw [hnr]), by dsimp only; rw [List.length_append, List.length_singleton]; omega⟩, by dsimp only; omega, ?_⟩)⟩
                    dsimp only
                    rw [List.map_append]
                    exact .of
              · have hc2 : ¬ (srt.ordered && sEq (srt.name ++ sNext) nm) = true := by rw [o1, sEq_comm]; exact fun e => Bool.false_ne_true (hc.symm.trans e)
                rw [if_neg hc2] at hfin
                exact AD.run hT hmix (ngo_in (by omega) (by omega) ⟨(i + 1, es2), ⟨by dsimp only; omega, hfin _ (by simp), by dsimp only; omega⟩, by dsimp only; omega, .of⟩)
            · have hc2 : ¬ (srt.ordered && sEq (srt.name ++ sNext) nm) = true := by rw [o1]; simp
              rw [if_neg hc2] at hfin
              exact AD.run hT hmix (ngo_in (by omega) (by omega) ⟨(i + 1, es2), ⟨by dsimp only; omega, hfin _ (by simp), by dsimp only; omega⟩, by dsimp only; omega, .of⟩)
 · have hv : nameVal s m st env nm = ⟨1, [(env[env.length - 1 - j]'(by omega)).2]⟩ := by rw [nameVal, hlk]
   rw [hv]
   refine AD.rangeFunc (T := T) hit [(0, .p (mch s m)), (4, .loc 4 0), (5, .loc 5 0), (6, .loc 6 0), (19, .p (.fn (.func 190) [] [.ref [binds (env.map toB)]]))]
    (fun i => [(4, .box 90 ([eI st, binds (env.map toB)].map .p)), (5, .box 9 [.p (eS nm)]), (6, .box 50 (bif Nat.blt j i then [.p (eI 1), .p (ints [(env[env.length - 1 - j]'(by omega)).2])] else zeroRl))]) (j + 1) (some .ret) .of rfl (by rw [hbl]; exact hj) (fun h => by cases h) (fun _ => Nat.succ_pos _) ?_ ?_ ?_
   · intro i xs hi hx
     rw [hat i (by omega)] at hx
     cases hx
     have e1 : Nat.blt j i = false := blt_false (by omega)
     dsimp only
     rw [e1]
     refine AD.run hT hmix (AD.run hT hmix ?_)
     by_cases hij : i < j
     · have e2 : Nat.blt j (i + 1) = false := blt_false (by omega)
       have e3 : Nat.blt (i + 1) (j + 1) = true := Nat.ble_eq_true_of_le (by omega)
       rw [e2, e3]
       exact bgo_false (hno i hij) ⟨trivial, .of⟩
     · obtain rfl : i = j := by omega
       have e2 : Nat.blt i (i + 1) = true := Nat.ble_eq_true_of_le (Nat.le_refl _)
       have e3 : Nat.blt (i + 1) (i + 1) = false := blt_false (by omega)
       rw [e2, e3]
       exact bgo_true hyes ⟨trivial, .of⟩
   · intro xs hx
     obtain ⟨x, _, rfl⟩ := List.mem_map.1 hx
     exact ⟨rfl, rfl⟩
   · have e2 : Nat.blt j (j + 1) = true := Nat.ble_eq_true_of_le (Nat.le_refl _)
     dsimp only
     rw [e2]
     exact ⟨_, _, rfl, rfl, rfl⟩
def lmap (p : List Int) (x : Int) : Int := p.getD x.toNat 0
theorem rankP (p : List Int) (N : Nat) (hN : p.length = N) (h0 : 0 < N) (h12 : N ≤ 12) (hp : ∀ x ∈ p, 0 ≤ x ∧ x < N) (k : Nat) (hk : k ≤ 3) (t : Int) (ht : 0 ≤ t ∧ t < 2000) :
 AFun Tryz.prog 34 [.agg [ints p, eI k], eI t] (.p (eI (pm N (lmap p) k t))) := by
 have hpl : (p.map eI).length = p.length := List.length_map _
 have hsc : ∀ i : Nat, i ≤ 3 → 1 ≤ (N : Int) ^ i ∧ (N : Int) ^ i ≤ 2000 := fun i hi => ⟨by have := ipow_pos (n := (N : Int)) (by omega) i; omega, pow_le_2000 (by omega) (by omega) hi⟩
 have hsc2 : ∀ i : Nat, i < 3 → (N : Int) ^ i ≤ 144 := fun i hi => by
  match i, hi with
  | 0, _ => simp
  | 1, _ => rw [Int.pow_succ, Int.pow_zero, Int.one_mul]; omega
  | 2, _ => rw [Int.pow_succ, Int.pow_succ, Int.pow_zero, Int.one_mul]; exact Int.le_trans (Int.mul_le_mul (by omega : (N : Int) ≤ 12) (by omega : (N : Int) ≤ 12) (by omega) (by omega)) (by omega)
 refine AFun.of hT Tryz.func34 rfl rfl (by simp) (AD.run hT hmix ?_)
 intro h1
 refine AD.loopI (fun x : Nat × Int × Int × Int => x.1 ≤ k ∧ (0 ≤ x.2.1 ∧ x.2.1 ≤ 2000 * x.1) ∧ x.2.2.1 = (N : Int) ^ x.1 ∧ (0 ≤ x.2.2.2 ∧ x.2.2.2 < 2000) ∧ pm N (lmap p) k t = pm N (lmap p) (k - x.1) x.2.2.2 * (N : Int) ^ x.1 + x.2.1) (fun x => k - x.1)
  (fun x => [(1, .p (eI x.2.2.2)), (2, .loc 2 0), (5, eint .i64 (p.map eI).length), (6, .p (eI x.2.1)), (7, .p (eI x.2.2.1)), (12, .p (eI k)), (13, eint .i64 x.1)]) (fun _ => [(2, .box 94 ([ints p, eI k].map .p))]) (0, 0, 1, t) ⟨Nat.zero_le _, by simp, by simp, ht, by simp⟩ .of fun ⟨i, o, sc, u⟩ ⟨g1, g2, g3, g4, g5⟩ => AD.run hT hmix ?_
 dsimp only at g1 g2 g3 g4 g5 ⊢
 subst g3
 refine bgo_split (fun h2 => ?_) (fun h2 => ?_)
 · replace h2 := of_decide_eq_true h2
   have hi3 : i < 3 := by omega
   have s1 := hsc i (by omega)
   have s2 := hsc2 i hi3
   have s3 := hsc (i + 1) (by omega)
   rw [Int.pow_succ] at s3
   have m0 := Int.emod_nonneg u (show (N : Int) ≠ 0 by omega)
   have m1 := Int.emod_lt_of_pos u (show (0 : Int) < N by omega)
   have hlt : (u % N).toNat < p.length := by omega
   have hpx := hp _ (List.getElem_mem hlt)
   have hlm : p[(u % N).toNat] = lmap p (u % N) := by rw [lmap, List.getD_eq_getElem?_getD, List.getElem?_eq_getElem hlt]; rfl
   have b2 := Int.ediv_nonneg g4.1 (show 0 ≤ (N : Int) by omega)
   have b3 := Int.ediv_le_self (N : Int) g4.1
   have q0 : 0 ≤ lmap p (u % N) * (N : Int) ^ i := Int.mul_nonneg (by omega) (by omega)
   have q1 : lmap p (u % N) * (N : Int) ^ i ≤ 12 * 144 := Int.mul_le_mul (by omega) s2 (by omega) (by omega)
   rw [hpl, hN]
   refine ⟨by omega, u % N, Int.tmod_eq_emod_of_nonneg g4.1, igo_map (u % N).toNat (by omega) hlt ?_⟩
   rw [hlm]
   refine ngo_in (by omega) (by omega) (ngo_in (by omega) (by omega) ⟨by kernel_rfl, ⟨by omega, u / N, by rw [Int.tdiv_eq_ediv_of_nonneg g4.1]; exact wrap64_in (by omega) (by omega), ngo_in (by omega) (by omega) (ngo_in (by omega) (by omega) ?_)⟩⟩)
   refine ⟨(i + 1, o + lmap p (u % N) * (N : Int) ^ i, (N : Int) ^ i * N, u / N), ⟨by dsimp only; omega, ⟨by dsimp only; omega, by dsimp only; omega⟩, by dsimp only; rw [Int.pow_succ], ⟨b2, by dsimp only; omega⟩, ?_⟩, by dsimp only; omega, ?_⟩
   · dsimp only
     obtain ⟨a, ha⟩ : ∃ a, k - (i + 1) = a := ⟨_, rfl⟩
     rw [ha, g5, show k - i = a + 1 by omega, pm, Int.add_mul, Int.pow_succ, Int.mul_assoc, Int.mul_comm (N : Int) ((N : Int) ^ i)]
     omega
   · dsimp only
     exact .of
 · replace h2 := of_decide_eq_false h2
   obtain rfl : i = k := by omega
   exact ⟨_, _, rfl, rfl, by rw [g5, Nat.sub_self, pm, Int.zero_mul, Int.zero_add]; rfl⟩
theorem mappedI (l : List Int) (hl : l.length ≤ 1000000) (f : FuncId) (pv : AV) (g : Int → Int) (hg : ∀ x ∈ l, AFun Tryz.prog f [pv, eI x] (.p (eI (g x)))) :
 AFunV Tryz.prog 35 [ints l, .fn (.func f) [pv] []] 1 3 l.length ((l.map g).map eI) := by
 suffices hh : ∃ n cs, (n = l.length ∧ cs = (l.map g).map eI) ∧ AFunV Tryz.prog 35 [ints l, .fn (.func f) [pv] []] 1 3 n cs by
  obtain ⟨n, cs, ⟨rfl, rfl⟩, hv⟩ := hh
  exact hv
 have hll : (l.map eI).length = l.length := List.length_map _
 refine AFunVE.intro hT Tryz.func35 rfl rfl (by simp) ⟨_, _, rfl, rfl⟩ (AD.run hT hmix ?_)
 intro h1
 refine .vec l.length rfl (by rw [hll]; rfl) (by show 8 * l.length ≤ _; omega) (by omega) ?_
 intro h2
 refine AD.loopI (fun i : Nat => i ≤ l.length) (fun i => l.length - i) (fun i => [(1, .p (.fn (.func f) [pv] [])), (5, .arr 1 10 0 i), (11, .p (ints l)), (12, eint .i64 (l.map eI).length), (13, eint .i64 i)]) (fun i => [(10, .box 3 ((((l.take i).map g).map eI).map .p))]) 0 (Nat.zero_le _) .of fun i hi => AD.run hT hmix ?_
 have htk : (l.take i).length = i := by rw [List.length_take]; omega
 refine bgo_split (fun hb => ?_) (fun hb => ?_)
 · replace hb := of_decide_eq_true hb
   have hlt : i < l.length := by omega
   refine igo_map i rfl hlt (.pure [pv, eI l[i]] _ rfl (hg _ (List.getElem_mem hlt)) ?_)
   refine ⟨by rw [List.length_map, List.length_map, List.length_map, htk, Nat.mul_one], ⟨by simp; omega, by simp; omega⟩, ngo_in (by omega) (by omega) ⟨i + 1, by omega, by omega, ?_⟩⟩
   refine SubAll.trans (c := [(1, .p (.fn (.func f) [pv] [])), (5, .arr 1 22 0 (i + 1)), (11, .p (ints l)), (12, eint .i64 (l.map eI).length), (13, eint .i64 ((i + 1 : Nat) : Int))]) (d := [(22, .box 3 ((((l.take (i + 1)).map g).map eI).map EV.p))]) ?_ ((SubAll.ren 22 10).trans .of)
   rw [List.take_succ_eq_append_getElem hlt, List.map_append, List.map_append, List.map_append]
   exact .of
 · replace hb := of_decide_eq_false hb
   obtain rfl : i = l.length := by omega
   rw [List.take_length]
   exact ⟨l.length, (l.map g).map eI, 10, _, rfl, rfl, toPs_p _, by rw [List.length_map, List.length_map, List.length_map, Nat.mul_one], rfl, rfl⟩
theorem sort_up {l : List Int} (h : l.Nodup) : Up (sortI l) ∧ ∀ x, x ∈ sortI l ↔ x ∈ l := by
 have hp : (sortI l).Perm l := List.mergeSort_perm l _
 refine ⟨?_, fun x => hp.mem_iff⟩
 have h1 : (sortI l).Pairwise fun a b => decide (a ≤ b) = true := List.pairwise_mergeSort (by intro a b c; simp; omega) (by intro a b; simp; omega) l
 have h2 : (sortI l).Nodup := hp.nodup_iff.2 h
 refine (h1.and h2).imp fun ⟨ha, hb⟩ => ?_
 have := of_decide_eq_true ha
 omega
theorem relP (s : Scope) (p : List Int) (N : Nat) (hN : p.length = N) (hn0 : 0 < N) (h12 : N ≤ 12) (hpr : Prm N (lmap p)) (hp : ∀ x ∈ p, 0 ≤ x ∧ x < N) (r : Rl) (hr : r.Ok N) :
 AFun Tryz.prog 12 [s.av, ints p, r.av] (.p (imgR N (lmap p) r).av) := by
 have hn0' : (0 : Int) < N := by omega
 have hl := ok_len hn0' (by omega) hr
 obtain ⟨k, hk⟩ : ∃ k : Nat, r.arity = k := ⟨r.arity.toNat, by have := hr.a; omega⟩
 have hk3 : 1 ≤ k ∧ k ≤ 3 := by have := hr.a; omega
 have hg : ∀ x ∈ r.tuples, AFun Tryz.prog 34 [.agg [ints p, eI r.arity], eI x] (.p (eI (pm N (lmap p) k x))) := fun x hx => by
  rw [hk]
  exact rankP p N hN hn0 h12 hp k hk3.2 x (ok_rng hn0' (by omega) hr hx)
 have hm := mappedI r.tuples (by omega) 34 (.agg [ints p, eI r.arity]) (pm N (lmap p) k) hg
 have hml : (r.tuples.map (pm N (lmap p) k)).length = r.tuples.length := List.length_map _
 have hso := sortE 17 (r.tuples.map (pm N (lmap p) k)) (by omega)
 rw [hml] at hso
 have hst : sortI (r.tuples.map (pm N (lmap p) k)) = (imgR N (lmap p) r).tuples := by
  have hkk : r.arity.toNat = k := by omega
  have hnd : (r.tuples.map (pm N (lmap p) k)).Nodup := by
   have hu := hr.up
   refine List.pairwise_map.2 (hu.imp_of_mem fun {a b} ha hb h e => ?_)
   have h1 := hr.rng a ha
   have h2 := hr.rng b hb
   rw [hkk] at h1 h2
   have := pm_inj hpr k a b h1.1 h1.2 h2.1 h2.2 e
   omega
  obtain ⟨h1, h2⟩ := sort_up hnd
  have hio := img_ok hpr (by omega) hr
  refine up_ext h1 hio.up fun x => ?_
  rw [h2, mem_img hpr (by omega) hr, hkk, List.mem_map]
  exact ⟨fun ⟨a, h3, h4⟩ => ⟨a, h3, h4.symm⟩, fun ⟨a, h3, h4⟩ => ⟨a, h3, h4.symm⟩⟩
 rw [hst] at hso
 have hil : (imgR N (lmap p) r).tuples.length = r.tuples.length := by rw [← hst, sortI, List.length_mergeSort, hml]
 obtain ⟨L, hL⟩ : ∃ L, (imgR N (lmap p) r).tuples = L := ⟨_, rfl⟩
 rw [show imgR N (lmap p) r = ⟨r.arity, L⟩ by rw [← hL]; rfl]
 rw [hL] at hso hil
 refine AFun.of hT Tryz.func12 rfl rfl (by simp) (AD.finSub (AD.run hT hmix ?_))
 refine .vec [ints r.tuples, .fn (.func 34) [.agg [ints p, eI r.arity]] []] _ _ _ _ 17 rfl hm rfl rfl ?_
 refine .eff [(17, .box 3 (((r.tuples.map (pm N (lmap p) k)).map eI).map .p))] [(17, .box 3 ((L.map eI).map .p))] _ hso ⟨rfl, trivial⟩ rfl rfl (okH_one _ _ _ _) rfl ?_
 rw [← hil]
 exact ⟨[(6, .loc 6 0)], [(6, .box 50 [.p (eI r.arity), .p (ints L)])], .sealB 17 (hx := toPs_p _) (h1 := ⟨⟨.inl rfl, rfl⟩, trivial⟩) (h2 := ⟨⟨rfl, .inl ⟨⟨.inl rfl, rfl⟩, ⟨.inr (.inr (.inr (.inl ⟨_, _, rfl, .inr ⟨1, 0, L.length, L.map eI, rfl, rfl, by rw [flat_ints, List.drop_zero, Nat.mul_one, ← List.length_map (f := eI), List.take_length], fun e he => by obtain ⟨x, _, rfl⟩ := List.mem_map.1 he; rfl, List.length_map _⟩⟩))), rfl⟩, trivial⟩⟩, trivial⟩), _, _, rfl, rfl, rfl⟩
theorem ex_1 {s : Spc} {m : Mdl} {n : Nd} (ho : n.op = 1) {st : Int} {env : List (ByteArray × Int)} {r : Rl} (h : AFun Tryz.prog 73 [mch s m, plc st env, eS n.name] (.p r.av)) : CX s m n st env r := by
 rw [CX, show n.ex = .agg [eI 1, eS n.name, eI n.n, .slice 5 (n.kids.map Nd.av), eI n.at_] by rw [Nd.ex, ho]]
 exact AFun.of hT Tryz.func32 rfl rfl (by simp) (AD.run hT hmix (.pure [mch s m, plc st env, eS n.name] _ rfl h ⟨_, _, rfl, rfl, rfl⟩))
theorem nameNP {s : Spc} {m : Mdl} (hm : MOk s m) (hsm : small m.scope.atoms) (hfl : s.fields.length ≤ 1000) (hnm : ∀ x ∈ s.sorts, x.name.size ≤ 1048576) : NP s m :=
 fun k st env a ho h0 h1 he hse ht => ex_1 ho (namedP hm hsm hfl hnm k.name st env a h0 h1 he hse ht)
theorem img_mok {s : Spc} {m : Mdl} (hm : MOk s m) {π : Int → Int} (hp : Prm m.n π) : MOk s (imgM π m) := by
 refine ⟨hm.pos, hm.n12, hm.at1, hm.sl, hm.fs, fun st hst => ?_, by rw [imgM, List.length_map]; exact hm.ne, by rw [imgM, List.length_map]; exact hm.loop⟩
 obtain ⟨st0, h0, rfl⟩ := List.mem_map.1 hst
 obtain ⟨h1, h2⟩ := hm.st st0 h0
 refine ⟨by rw [List.length_map]; exact h1, fun f h h' => ?_⟩
 have hf : f < st0.length := by simpa using h
 obtain ⟨h3, h4⟩ := h2 f hf h'
 rw [List.getElem_map]
 exact ⟨img_ok hp hm.n12 h3, h4⟩
abbrev mbox (m : Mdl) (p : List Int) : AHp := [(9003, .box 43 (m.cs.map .p)), (9002, .box 28 [.p (ints p)])]
theorem okH_mbox (m : Mdl) (p : List Int) : okH (mbox m p) (mbox m p) = true := by simp [okH, okL_p, okE.okL, okE]
theorem mapF {s : Spc} {m : Mdl} (hm : MOk s m) {p : List Int} {N : Nat} (hN : p.length = N) (hmn : m.n = N) (hpr : Prm N (lmap p)) (hp : ∀ x ∈ p, 0 ≤ x ∧ x < N) (r : Rl) (hr : r.Ok N) :
 EFun Tryz.prog 29 [.p r.av, .loc 9003 0, .loc 9002 0] (mbox m p) (.p (imgR N (lmap p) r).av) (mbox m p) := by
 have h12 : N ≤ 12 := by have := hm.n12; omega
 have h := relP m.scope p N hN (by have := hm.pos; omega) h12 hpr hp r hr
 refine EFun.of hT Tryz.func29 rfl rfl (by simp) rfl (AD.run hT hmix ?_)
 refine .pure [m.scope.av, ints p, r.av] _ rfl h ?_
 exact ⟨_, [.p (imgR N (lmap p) r).av], _, rfl, .of, rfl, rfl, rfl⟩
abbrev mfn (f : FuncId) : EV := .fn (.func f) [] [.loc 9003 0, .loc 9002 0]
theorem mappedR {s : Spc} {m : Mdl} (hm : MOk s m) {p : List Int} {N : Nat} (hN : p.length = N) (hmn : m.n = N) (hpr : Prm N (lmap p)) (hp : ∀ x ∈ p, 0 ≤ x ∧ x < N) (l : List Rl) (hl : ∀ r ∈ l, r.Ok N) (hll : l.length ≤ 1000) :
 EFun Tryz.prog 28 [.p (.slice 2 (l.map Rl.av)), mfn 29] (mbox m p) (.p (.slice 2 ((l.map (imgR N (lmap p))).map Rl.av))) (mbox m p) := by
 have hml : (l.map Rl.av).length = l.length := List.length_map _
 refine EFun.of hT Tryz.func28 rfl rfl (by simp) rfl (AD.run hT hmix ?_)
 intro h1
 refine .own l.length rfl (by rw [hml]; rfl) (by show 32 * l.length ≤ _; omega) (by omega) ?_
 intro h2
 refine AD.loopI (fun i : Nat => i ≤ l.length) (fun i => l.length - i) (fun i => [(1, mfn 29), (5, .own 2 (((l.take i).map (imgR N (lmap p))).map Rl.av) 10), (11, .p (.slice 2 (l.map Rl.av))), (12, eint .i64 (l.map Rl.av).length), (13, eint .i64 i)]) (fun i => mbox m p ++ [(10, .tail (((l.take i).map (imgR N (lmap p))).map Rl.av).length)]) 0 (Nat.zero_le _) .of fun i hi => AD.run hT hmix ?_
 have htk : (l.take i).length = i := by rw [List.length_take]; omega
 refine bgo_split (fun hb => ?_) (fun hb => ?_)
 · replace hb := of_decide_eq_true hb
   have hlt : i < l.length := by omega
   have hf := mapF hm hN hmn hpr hp l[i] (hl _ (List.getElem_mem hlt))
   replace hf := hf.le (args' := [.agg [.p (eI l[i].arity), .p (ints l[i].tuples)], .loc 9003 0, .loc 9002 0]) ⟨.inr ⟨_, rfl, rfl⟩, .inl rfl, .inl rfl, trivial⟩
   refine igo_map i rfl hlt (.eff (mbox m p) (mbox m p) _ hf ⟨rfl, rfl, trivial⟩ rfl rfl ?_ rfl ?_)
   · exact okH_mbox m p
   · refine ⟨rfl, ⟨by simp; omega, by simp; omega⟩, ngo_in (by omega) (by omega) ⟨i + 1, by omega, by omega, ?_⟩⟩
     rw [List.take_succ_eq_append_getElem hlt, List.map_append, List.map_append]
     exact .of
 · replace hb := of_decide_eq_false hb
   obtain rfl : i = l.length := by omega
   rw [List.take_length]
   exact ⟨_, [.p (.slice 2 ((l.map (imgR N (lmap p))).map Rl.av))], _, rfl, .of, rfl, rfl, rfl⟩
theorem rowF {s : Spc} {m : Mdl} (hm : MOk s m) {p : List Int} {N : Nat} (hN : p.length = N) (hmn : m.n = N) (hpr : Prm N (lmap p)) (hp : ∀ x ∈ p, 0 ≤ x ∧ x < N) (l : List Rl) (hl : ∀ r ∈ l, r.Ok N) (hll : l.length ≤ 1000) :
 EFun Tryz.prog 27 [.p (.slice 2 (l.map Rl.av)), .loc 9003 0, .loc 9002 0] (mbox m p) (.p (.slice 2 ((l.map (imgR N (lmap p))).map Rl.av))) (mbox m p) := by
 have h := mappedR hm hN hmn hpr hp l hl hll
 refine EFun.of hT Tryz.func27 rfl rfl (by simp) rfl (AD.run hT hmix ?_)
 refine .eff (mbox m p) (mbox m p) _ h ⟨rfl, rfl, trivial⟩ rfl rfl (okH_mbox m p) rfl ?_
 exact ⟨_, [.p (.slice 2 ((l.map (imgR N (lmap p))).map Rl.av))], _, rfl, .of, rfl, rfl, rfl⟩
def rowAV (l : List Rl) : AV := .slice 2 (l.map Rl.av)
theorem mappedS {s : Spc} {m : Mdl} (hm : MOk s m) {p : List Int} {N : Nat} (hN : p.length = N) (hmn : m.n = N) (hpr : Prm N (lmap p)) (hp : ∀ x ∈ p, 0 ≤ x ∧ x < N) (l : List (List Rl)) (hl : ∀ st ∈ l, st.length ≤ 1000 ∧ ∀ r ∈ st, r.Ok N) (hll : l.length ≤ 1000) :
 EFun Tryz.prog 26 [.p (.slice 1 (l.map rowAV)), mfn 27] (mbox m p) (.p (.slice 1 ((l.map fun st => st.map (imgR N (lmap p))).map rowAV))) (mbox m p) := by
 have hml : (l.map rowAV).length = l.length := List.length_map _
 refine EFun.of hT Tryz.func26 rfl rfl (by simp) rfl (AD.run hT hmix ?_)
 intro h1
 refine .own l.length rfl (by rw [hml]; rfl) (by show 24 * l.length ≤ _; omega) (by omega) ?_
 intro h2
 refine AD.loopI (fun i : Nat => i ≤ l.length) (fun i => l.length - i) (fun i => [(1, mfn 27), (5, .own 1 (((l.take i).map fun st => st.map (imgR N (lmap p))).map rowAV) 10), (11, .p (.slice 1 (l.map rowAV))), (12, eint .i64 (l.map rowAV).length), (13, eint .i64 i)]) (fun i => mbox m p ++ [(10, .tail (((l.take i).map fun st => st.map (imgR N (lmap p))).map rowAV).length)]) 0 (Nat.zero_le _) .of fun i hi => AD.run hT hmix ?_
 have htk : (l.take i).length = i := by rw [List.length_take]; omega
 refine bgo_split (fun hb => ?_) (fun hb => ?_)
 · replace hb := of_decide_eq_true hb
   have hlt : i < l.length := by omega
   have hi2 := hl _ (List.getElem_mem hlt)
   have hf := rowF hm hN hmn hpr hp l[i] hi2.2 hi2.1
   refine igo_map i rfl hlt (.eff (mbox m p) (mbox m p) _ hf ⟨rfl, rfl, trivial⟩ rfl rfl (okH_mbox m p) rfl ?_)
   refine ⟨rfl, ⟨by simp; omega, by simp; omega⟩, ngo_in (by omega) (by omega) ⟨i + 1, by omega, by omega, ?_⟩⟩
   rw [List.take_succ_eq_append_getElem hlt, List.map_append, List.map_append]
   exact .of
 · replace hb := of_decide_eq_false hb
   obtain rfl : i = l.length := by omega
   rw [List.take_length]
   exact ⟨_, [.p (.slice 1 ((l.map fun st => st.map (imgR N (lmap p))).map rowAV))], _, rfl, .of, rfl, rfl, rfl⟩
theorem modelP {s : Spc} {m : Mdl} (hm : MOk s m) (hfl : s.fields.length ≤ 1000) (hsl : m.states.length ≤ 1000) {p : List Int} {N : Nat} (hN : p.length = N) (hmn : m.n = N) (hpr : Prm N (lmap p)) (hp : ∀ x ∈ p, 0 ≤ x ∧ x < N) :
 AFun Tryz.prog 9 [ints p, m.av] (.p (imgM (lmap p) m).av) := by
 have h := ((mappedS hm hN hmn hpr hp m.states (fun st hst => by
  obtain ⟨h1, h2⟩ := hm.st st hst
  refine ⟨by omega, fun r hr => ?_⟩
  obtain ⟨f, hf, rfl⟩ := List.mem_iff_getElem.1 hr
  rw [← hmn]
  exact (h2 f hf (by omega)).1) hsl).ren 9003 3).ren 9002 2
 have h' : EFun Tryz.prog 26 [.p (.slice 1 (m.states.map rowAV)), .fn (.func 27) [] [.loc 3 0, .loc 2 0]] [(3, .box 43 (m.cs.map .p)), (2, .box 28 [.p (ints p)])] (.p (.slice 1 ((m.states.map fun st => st.map (imgR N (lmap p))).map rowAV))) [(3, .box 43 (m.cs.map .p)), (2, .box 28 [.p (ints p)])] := h
 refine AFun.of hT Tryz.func9 rfl rfl (by simp) (AD.run hT hmix ?_)
 refine .eff [(3, .box 43 (m.cs.map .p)), (2, .box 28 [.p (ints p)])] [(3, .box 43 (m.cs.map .p)), (2, .box 28 [.p (ints p)])] _ h' ⟨rfl, rfl, trivial⟩ rfl rfl rfl rfl ?_
 refine ⟨_, _, rfl, rfl, ?_⟩
 rw [← hmn]; rfl
theorem sameInts04 (a b : List Int) : AFun Tryz.prog 47 [ints a, ints b] (.p (eB (decide (a = b)))) := by
 refine AFun.of hT Tryz.func47 rfl rfl (by simp) (AD.run hT hmix ?_)
 have e3 : ∀ x, decide (a = b) = x → EV.p (eB (decide (a = b))) = retEV [AV.imm (.bool x)] := fun x h => by rw [h]; rfl
 have l1 : (a.map eI).length = a.length := List.length_map _
 have l2 : (b.map eI).length = b.length := List.length_map _
 intro _ _
 refine bgo_split (fun hb => ?_) (fun hb => ?_)
 · refine ⟨_, _, rfl, rfl, e3 _ (decide_eq_false fun h => ?_)⟩
   subst h; simp at hb
 have hb : a.length = b.length := by
  have hb : (((a.map eI).length : Nat) : Int) = (((b.map eI).length : Nat) : Int) := by simpa using hb
  omega
 refine AD.loopI (fun i : Nat => i ≤ a.length ∧ a.take i = b.take i) (fun i => a.length - i) (fun i => [(0, .p (ints a)), (1, .p (ints b)), (5, eint .i64 i)]) (fun _ => []) 0 ⟨Nat.zero_le _, rfl⟩ .of fun i ⟨hi, ht⟩ => AD.run hT hmix ?_
 intro _
 refine bgo_split (fun hc => ?_) (fun hc => ?_)
 · replace hc := of_decide_eq_true hc
   have hlt : i < a.length := by omega
   have hlt2 : i < b.length := by omega
   refine igo_map i rfl hlt (igo_map i rfl hlt2 ⟨by kernel_rfl, ?_⟩)
   refine bgo_split (fun hd => ?_) (fun hd => ?_)
   · refine ⟨_, _, rfl, rfl, e3 _ (decide_eq_false fun h => ?_)⟩
     subst h; simp at hd
   · have hd : a[i] = b[i] := by simpa using hd
     exact ngo_in (by omega) (by omega) ⟨i + 1, ⟨by omega, by rw [List.take_succ_eq_append_getElem hlt, List.take_succ_eq_append_getElem hlt2, ht, hd]⟩, by omega, .of⟩
 · replace hc := of_decide_eq_false hc
   refine ⟨_, _, rfl, rfl, e3 _ (decide_eq_true ?_)⟩
   rw [List.take_of_length_le (by omega), List.take_of_length_le (by omega)] at ht
   exact ht
theorem fin_dg {env : Env} {h : AHp} {k : Nat} {e p : Int} {Q : Int → Prop} (he : Q e) (h2 : lk env k = .loc k 0) (h3 : hp h k = .box 103 [.p (eI e), .p (eI p)]) : ∃ es xs, resAll T env h [.cell k 103] = some es ∧ toPs es = some xs ∧ ∃ e p, retEV xs = .p (Dg e p) ∧ Q e := by
 have r2 : resAll T env h [.cell k 103] = some [.agg [.p (eI e), .p (eI p)]] := res_cell rfl h2 h3 rfl rfl
 exact ⟨_, _, r2, rfl, e, p, rfl, he⟩
def parE (ps : List Param) : List (ByteArray × Int) := ps.map fun q => (q.name, 1)
theorem check04 (s : Spc) (hs : s.Fit) (hnm : ∀ x ∈ s.sorts, x.name.size ≤ 1048576) (calls : Int) (ps : List Param) (hps : ParamsOk s.sorts.length ps) (n : Nd) (hw : n.WF) (hsz : n.sz ≤ 1048576) : ∃ e p, (e = 0 → 30 ≤ n.op ∧ ∃ a, Ex s false (parE ps) n a) ∧ AFun Tryz.prog 104 [s.ex, eI calls, .slice 2 (ps.map Param.av), n.ex] (.p (Dg e p)) := by
 suffices hh : ∃ y, (∃ e p, y = .p (Dg e p) ∧ (e = 0 → 30 ≤ n.op ∧ ∃ a, Ex s false (parE ps) n a)) ∧ AFun Tryz.prog 104 [s.ex, eI calls, .slice 2 (ps.map Param.av), n.ex] y by
  obtain ⟨y, ⟨e, p, rfl, h⟩, hf⟩ := hh
  exact ⟨e, p, h, hf⟩
 refine AFunE.intro hT Tryz.func104 rfl rfl (by simp) ⟨_, 1, 0, rfl, fun h => absurd h (by decide)⟩ (AD.run hT hmix ?_)
 refine .pure [n.ex] _ rfl (formula04 n) ?_
 refine bgo_split (fun hb => fin_dg (fun h => absurd h (by decide)) rfl rfl) (fun hb => ?_)
 have hb : 30 ≤ n.op := by simpa using hb
 have h1 := hs.n1
 have h3 := hs.n3
 obtain ⟨tl, _, htl⟩ := temporals04 s (by omega)
 refine .pure [s.ex] _ rfl htl ?_
 obtain ⟨l, hl, hll, hlt, hlf⟩ := env04 ps (by have := hps.1; omega) (fun q hq => by have := hps.2 q hq; omega)
 refine .pure [.slice 2 (ps.map Param.av)] _ rfl hlf ?_
 obtain ⟨y, ⟨a, f, e, p, rfl, hf, ha⟩, hx⟩ := examine04 s hs hnm n hw ⟨s, tl, calls, false⟩ l rfl hl (by have := hps.1; omega)
 rw [Nd.av_ex] at hx
 refine .pure [Vw.av ⟨s, tl, calls, false⟩, .slice 66 (l.map Vr.av), n.ex] _ rfl hx ?_
 refine bgo_true (by rw [Bool.and_eq_true, Bool.and_eq_true]; exact ⟨len_beq hf, rfl, rfl⟩) ?_
 refine ⟨by kernel_rfl, fin_dg (fun he => ⟨hb, a, ?_⟩) rfl rfl⟩
 have := ha he
 rw [hlt] at this
 exact this
theorem checkFormula04 (s : Spc) (hs : s.Fit) (hnm : ∀ x ∈ s.sorts, x.name.size ≤ 1048576) (ps : List Param) (hps : ParamsOk s.sorts.length ps) (n : Nd) (hw : n.WF) (hsz : n.sz ≤ 1048576) : ∃ e p, (e = 0 → 30 ≤ n.op ∧ ∃ a, Ex s false (parE ps) n a) ∧ AFun Tryz.prog 53 [s.ex, .slice 2 (ps.map Param.av), n.ex] (.p (Dg e p)) := by
 obtain ⟨e, p, h, hf⟩ := check04 s hs hnm (s.preds.map Prd.ex).length ps hps n hw hsz
 refine ⟨e, p, h, AFun.of hT Tryz.func53 rfl rfl (by simp) (AD.run hT hmix ?_)⟩
 intro _
 refine .pure [s.ex, eI (s.preds.map Prd.ex).length, .slice 2 (ps.map Param.av), n.ex] _ rfl hf ?_
 have r2 : ∀ env h, lk env 6 = .loc 6 0 → hp h 6 = .box 103 [.p (eI e), .p (eI p)] → resAll T env h [.cell 6 103] = some [.agg [.p (eI e), .p (eI p)]] := fun env h h2 h3 => res_cell rfl h2 h3 rfl rfl
 exact ⟨_, _, r2 _ _ rfl rfl, rfl, rfl⟩
end Go.Ab
