/- Texts P5, P6, P7, P8, Seq, SeqM, SeqD, SeqE. Conditions: none. -/
import Derived.Test.YtmllhjbnbhapoaaGreatGG
import Derived.OrdersHeld
import Derived.Deep.RegionHeld
set_option linter.unusedSimpArgs false
set_option linter.unusedVariables false
namespace Go.Ab
open Go Go.Proofs
set_option maxRecDepth 10000
def intss (ls : List (List Int)) : AV := .slice 1 (ls.map ints)
def sumL (ls : List (List Int)) : Nat := (ls.map List.length).sum
theorem sumL_app (a b : List (List Int)) : sumL (a ++ b) = sumL a + sumL b := by simp [sumL]
theorem sumL_take {ls : List (List Int)} {i : Nat} (h : i < ls.length) : sumL (ls.take (i + 1)) = sumL (ls.take i) + ls[i].length := by
 rw [List.take_succ_eq_append_getElem h, sumL_app]; simp [sumL]
theorem sumL_le (ls : List (List Int)) (i : Nat) : sumL (ls.take i) ≤ sumL ls := by
 conv => rhs; rw [← List.take_append_drop i ls, sumL_app]
 omega
theorem sumL_flat (ls : List (List Int)) : ls.flatten.length = sumL ls := by simp [sumL, List.length_flatten]
theorem flat_ints (l : List Int) : flat (l.map eI) = l.map eI := by
 induction l with
 | nil => rfl
 | cons x r ih => show eI x :: flat (r.map eI) = _; rw [ih]; rfl
theorem concatV (ls : List (List Int)) (h2 : ls.length ≤ 1000) (hs : sumL ls ≤ 40000) : AFunV Tryz.prog 179 [intss ls] 1 3 (sumL ls) (ls.flatten.map eI) := by
 suffices hh : ∃ n cs, (n = sumL ls ∧ cs = ls.flatten.map eI) ∧ AFunV Tryz.prog 179 [intss ls] 1 3 n cs by
  obtain ⟨n, cs, ⟨rfl, rfl⟩, hv⟩ := hh
  exact hv
 have hl : (ls.map ints).length = ls.length := List.length_map _
 refine AFunVE.intro hT Tryz.func179 rfl rfl (by simp) ⟨_, _, rfl, rfl⟩ (AD.run hT hmix ?_)
 intro h1
 refine AD.loopI (fun i : Nat => i ≤ ls.length) (fun i => ls.length - i) (fun i => [(0, .p (intss ls)), (3, .p (eI (sumL (ls.take i) : Nat))), (9, .p (intss ls)), (10, eint .i64 (ls.map ints).length), (11, eint .i64 i)]) (fun _ => []) 0 (Nat.zero_le _) .of fun i g1 => AD.run hT hmix ?_
 refine bgo_split (fun hb => ?_) (fun hb => ?_)
 · replace hb := of_decide_eq_true hb
   have hlt : i < ls.length := by omega
   have e1 := sumL_take hlt
   have e2 := sumL_le ls (i + 1)
   refine igo_map i rfl hlt ?_
   intro h3
   have hli : (ls[i].map eI).length = ls[i].length := List.length_map _
   refine ngo_in (by omega) (by omega) (ngo_in (by omega) (by omega) ⟨i + 1, by omega, by omega, ?_⟩)
   rw [e1, ← hli]
   exact .of
 · replace hb := of_decide_eq_false hb
   obtain rfl : i = ls.length := by omega
   rw [List.take_length]
   refine .eff [] [(9000, .box 3 (([] : List AV).map .p))] _ (growE (sumL ls) hs) ⟨rfl, trivial⟩ rfl rfl rfl rfl ?_
   intro h4
   refine AD.loopI (fun x : Nat × List EV => x.1 ≤ ls.length ∧ x.2 = ((ls.take x.1).flatten.map eI).map .p) (fun x => ls.length - x.1) (fun x => [(0, .p (intss ls)), (6, .arr 1 9000 0 (sumL (ls.take x.1))), (25, .p (intss ls)), (26, eint .i64 (ls.map ints).length), (27, eint .i64 x.1)]) (fun x => [(9000, .box 3 x.2)]) (0, []) ⟨Nat.zero_le _, rfl⟩ .of fun ⟨i, cE⟩ ⟨g1, g2⟩ => AD.run hT hmix ?_
   dsimp only at g1 g2 ⊢
   have hok : ∀ h, okE.okL h cE = true := fun h => by rw [g2]; exact okL_p _ _
   refine bgo_split (fun hb => ?_) (fun hb => ?_)
   · replace hb := of_decide_eq_true hb
     have hlt : i < ls.length := by omega
     have e1 := sumL_take hlt
     have e2 := sumL_le ls (i + 1)
     refine igo_map i rfl hlt ?_
     have hcl : sumL (ls.take i) * 1 = cE.length := by rw [g2, List.length_map, List.length_map, sumL_flat, Nat.mul_one]
     refine ⟨hcl, ⟨by simp; omega, by simp; omega⟩, ngo_in (by omega) (by omega) ?_⟩
     refine ⟨(i + 1, renE.renL 33 9000 (cE ++ (flat (ls[i].map eI)).map .p)), ⟨by dsimp only; omega, ?_⟩, by dsimp only; omega, ?_⟩
     · dsimp only
       rw [g2, ← List.map_append, renL_p, flat_ints, List.take_succ_eq_append_getElem hlt, List.flatten_append, List.map_append, List.map_append]
       simp only [List.flatten_cons, List.flatten_nil, List.append_nil, List.map_append]
     · rw [e1, show ls[i].length = (ls[i].map eI).length from (List.length_map _).symm]
       exact (SubAll.of (env' := [(0, .p (intss ls)), (6, .arr 1 33 0 (sumL (ls.take i) + (ls[i].map eI).length)), (25, .p (intss ls)), (26, eint .i64 (ls.map ints).length), (27, eint .i64 (((i + 1 : Nat)) : Int))]) (h' := [(33, .box 3 (cE ++ (flat (ls[i].map eI)).map .p))])).trans (SubAll.ren 33 9000)
   · replace hb := of_decide_eq_false hb
     obtain rfl : i = ls.length := by omega
     rw [List.take_length] at g2
     rw [List.take_length]
     exact ⟨sumL ls, ls.flatten.map eI, 9000, cE, rfl, rfl, by rw [g2]; exact toPs_p _, by rw [g2, List.length_map, List.length_map, sumL_flat, Nat.mul_one], rfl, rfl⟩
theorem sortedK (k : Nat) (a : Int) (xs : List Int) (hx : xs.length ≤ 1000000000) : EFun Tryz.prog 178 [.p (eI a), .arr 1 k 0 xs.length] [(k, .box 3 ((xs.map eI).map .p))] (.agg [.p (eI a), .arr 1 k 0 (srt xs).length]) [(k, .box 3 (((srtC xs).map eI).map .p))] := by
 have h := (sortedE a xs hx).ren 9000 k
 have e1 : renE.renL 9000 k [.p (eI a), .arr 1 9000 0 xs.length] = [.p (eI a), .arr 1 k 0 xs.length] := by simp [renE.renL, renE, sw]
 have e2 : renE 9000 k (.agg [.p (eI a), .arr 1 9000 0 (srt xs).length]) = .agg [.p (eI a), .arr 1 k 0 (srt xs).length] := by simp [renE.renL, renE, sw]
 have e3 : ∀ l : List AV, renH 9000 k [(9000, .box 3 (l.map .p))] = [(k, .box 3 (l.map .p))] := fun l => by simp [renH, renO, renL_p, sw]
 rw [e1, e2, e3, e3] at h
 exact h
theorem AD.finSub {P : Program} {N : Nat} {O : Hp} {ro : Bool} {c : Code} {Q : Kc} {env : Env} {h : AHp} (hh : AD P N O ro c (fun ae env h => ∃ env' h', SubAll N O env h env' h' ∧ Q ae env' h') env h) : AD P N O ro c Q env h :=
 ⟨fun hl => let ⟨ae, _, _, ⟨e2, h2, hs, hq⟩, hl1, hg⟩ := hh.out hl; ⟨ae, e2, h2, hq, hl1.sub hs, fun Γ hc _ hK => AW.subEnd (hg Γ hc _ ⟨e2, h2, hs Γ hc.toCtxOk, hK⟩)⟩⟩
theorem ok_len {n : Int} (hn0 : 0 < n) (hn : n ≤ 12) {a : Rl} (ha : a.Ok n) : a.tuples.length ≤ 2000 := up_len ha.up fun x hx => by have := ha.rng x hx; have := ha.a; have := pow_le_2000 hn0 hn (k := a.arity.toNat) (by omega); omega
theorem ok_rng {n : Int} (hn0 : 0 < n) (hn : n ≤ 12) {a : Rl} (ha : a.Ok n) {x : Int} (hx : x ∈ a.tuples) : 0 ≤ x ∧ x < 2000 := by have := ha.rng x hx; have := ha.a; have := pow_le_2000 hn0 hn (k := a.arity.toNat) (by omega); omega
theorem seal_srt (k : Nat) (xs : List Int) : sealE k ((srtC xs).map eI) (.arr 1 k 0 (srt xs).length) (.p (ints (srt xs))) := by
 refine .inr ⟨1, 0, (srt xs).length, (srt xs).map eI, rfl, rfl, ?_, fun e he => ?_, List.length_map _⟩
 · rw [flat_ints, List.drop_zero, Nat.mul_one, srtC, List.map_append, List.take_left' (List.length_map _)]
 · obtain ⟨x, _, rfl⟩ := List.mem_map.1 he; rfl
theorem unionL {n : Int} (hn0 : 0 < n) (hn : n ≤ 12) {a b : Rl} (hla : a.tuples.length ≤ 10000) (hlb : b.tuples.length ≤ 10000) : AFun Tryz.prog 112 [a.av, b.av] (.p (Rl.av ⟨a.arity, srt (a.tuples ++ b.tuples)⟩)) := by
 refine AFun.of hT Tryz.func112 rfl rfl (by simp) (AD.finSub (AD.run hT hmix ?_))
 have hc := concatV [a.tuples, b.tuples] (by simp) (by simp [sumL]; omega)
 have hfl : ([a.tuples, b.tuples].flatten) = a.tuples ++ b.tuples := by simp
 have hsl : sumL [a.tuples, b.tuples] = (a.tuples ++ b.tuples).length := by simp [sumL]
 rw [hfl, hsl] at hc
 refine .vec [intss [a.tuples, b.tuples]] _ _ _ _ 12 rfl hc rfl rfl ?_
 refine .eff [(12, .box 3 (((a.tuples ++ b.tuples).map eI).map .p))] [(12, .box 3 (((srtC (a.tuples ++ b.tuples)).map eI).map .p))] _ (sortedK 12 a.arity (a.tuples ++ b.tuples) (by simp; omega)) ⟨rfl, trivial⟩ rfl rfl (okH_one _ _ _ _) rfl ?_
 refine ⟨by kernel_rfl, [(4, .loc 4 0)], [(4, .box 50 [.p (eI a.arity), .p (ints (srt (a.tuples ++ b.tuples)))])], .sealB 12 (hx := toPs_p _) (h1 := ⟨⟨.inl rfl, rfl⟩, trivial⟩) (h2 := ⟨⟨rfl, .inl ⟨⟨.inl rfl, rfl⟩, ⟨.inr (.inr (.inr (.inl ⟨_, _, rfl, seal_srt _ _⟩))), rfl⟩, trivial⟩⟩, trivial⟩), _, _, rfl, rfl, rfl⟩
theorem unionP {n : Int} (hn0 : 0 < n) (hn : n ≤ 12) {a b : Rl} (ha : a.Ok n) (hb : b.Ok n) : AFun Tryz.prog 112 [a.av, b.av] (.p (rUnion a b).av) := by
 have h := unionL hn0 hn (a := a) (b := b) (by have := ok_len hn0 hn ha; omega) (by have := ok_len hn0 hn hb; omega)
 rwa [srt_cl (S := fun x => x ∈ a.tuples ∨ x ∈ b.tuples) fun x => ?_] at h
 rw [List.mem_append]
 exact ⟨fun h => ⟨h.elim (ok_rng hn0 hn ha) (ok_rng hn0 hn hb), h⟩, fun h => h.2⟩
theorem overP {n : Int} (hn0 : 0 < n) (hn : n ≤ 12) {a b : Rl} (ha : a.Ok n) (hb : b.Ok n) (e : a.arity = b.arity) : AFun Tryz.prog 115 [eI n, a.av, b.av] (.p (rOver n a b).av) := by
 obtain ⟨k, hk⟩ : ∃ k : Nat, (b.arity - 1) = k := ⟨(b.arity - 1).toNat, by have := hb.a; omega⟩
 have hk3 : k ≤ 3 := by have := hb.a; omega
 have hpw : pw n (b.arity - 1) = n ^ k := by rw [hk]; rfl
 obtain ⟨l, hl, hf⟩ := setP b 186 [.ref [eI (n ^ k)]] (fun x => x / n ^ k) (fun x hx => overF1 n k ⟨hn0, hn⟩ x (ok_rng hn0 hn hb hx))
 have hla := ok_len hn0 hn ha
 have hlb := ok_len hn0 hn hb
 have hkeep := keepP a.tuples (by omega) 187 [mref l, .ref [.fn (.func 186) [] [.ref [eI (n ^ k)]]]] (fun x => decide (∀ v ∈ b.tuples, v / n ^ k ≠ x / n ^ k)) (fun x hx => overF2 n k ⟨hn0, hn⟩ hl x (ok_rng hn0 hn ha hx))
 obtain ⟨fl, hfl⟩ : ∃ fl, (a.tuples.filter fun x => decide (∀ v ∈ b.tuples, v / n ^ k ≠ x / n ^ k)) = fl := ⟨_, rfl⟩
 rw [hfl] at hkeep
 have hll : fl.length ≤ 2000 := by rw [← hfl]; exact Nat.le_trans (List.length_filter_le ..) hla
 have hu := unionL hn0 hn (a := b) (b := ⟨a.arity, fl⟩) (by omega) (show fl.length ≤ 10000 by omega)
 have hres : srt (b.tuples ++ fl) = (rOver n a b).tuples := by
  refine srt_cl fun x => ?_
  rw [List.mem_append, ← hfl, List.mem_filter, decide_eq_true_eq, hpw]
  exact ⟨fun h => ⟨h.elim (ok_rng hn0 hn hb) (fun h => ok_rng hn0 hn ha h.1), h⟩, fun h => h.2⟩
 refine AFun.of hT Tryz.func115 rfl rfl (by simp) (AD.cut hT hmix 4 (fun _ : Unit => True) (fun _ => [(4, .loc 4 0), (5, .loc 5 0), (6, .loc 6 0), (7, .p (.ref [eI (n ^ k)]))]) (fun _ => [(4, .box 50 (a.cs.map .p)), (5, .box 50 (b.cs.map .p)), (6, .box 50 [.p (eI 0), .full 1 []])]) ?_ fun _ _ => ?_)
 · refine bgo_false (show (n == 0) = false by simp; omega) ?_
   refine ⟨(k : Int), by rw [wrap64_in (by omega) (by omega), hk], ?_⟩
   exact .pure [eI n, eI k] _ rfl (powerP n k ⟨by omega, hn⟩ hk3) ⟨(), trivial, .sealB 7⟩
 · refine AD.cut hT hmix 6 (fun _ : Unit => True) (fun _ => [(4, .loc 4 0), (5, .loc 5 0), (6, .loc 6 0), (8, .p (.ref [.fn (.func 186) [] [.ref [eI (n ^ k)]]])), (9, .p (mref l))]) (fun _ => [(4, .box 50 (a.cs.map .p)), (5, .box 50 (b.cs.map .p)), (6, .box 50 [.p (eI 0), .full 1 []])]) ?_ fun _ _ => AD.run hT hmix ?_
   · refine .pure [b.av, .fn (.func 186) [] [.ref [eI (n ^ k)]]] _ rfl hf ⟨(), trivial, (SubAll.sealB (env' := [(4, .loc 4 0), (5, .loc 5 0), (6, .loc 6 0), (8, .p (.ref [.fn (.func 186) [] [.ref [eI (n ^ k)]]])), (9, .loc 9 0)]) (h' := [(4, .box 50 (a.cs.map .p)), (5, .box 50 (b.cs.map .p)), (6, .box 50 [.p (eI 0), .full 1 []]), (9, .box 257 [.p (.mp (.int .i64) (cntM l))])]) 8).trans (.sealB 9)⟩
   · refine .pure [ints a.tuples, .fn (.func 187) [] [mref l, .ref [.fn (.func 186) [] [.ref [eI (n ^ k)]]]]] _ rfl hkeep ?_
     refine .pure [b.av, Rl.av ⟨a.arity, fl⟩] _ rfl hu ⟨by kernel_rfl, _, _, rfl, rfl, ?_⟩
     rw [hres, ← e]; rfl
theorem prodP {n : Int} (hn0 : 0 < n) (hn : n ≤ 12) {a b : Rl} (ha : a.Ok n) (hb : b.Ok n) (h3 : a.arity + b.arity ≤ 3) : AFun Tryz.prog 118 [eI n, a.av, b.av] (.tup [.p (rProduct n a b).av, .p (eI 0)]) := by
 obtain ⟨k, hk⟩ : ∃ k : Nat, b.arity = k := ⟨b.arity.toNat, by have := hb.a; omega⟩
 have hak := ha.a
 have hbk := hb.a
 have hk3 : k ≤ 3 := by omega
 have hpw : pw n b.arity = n ^ k := by rw [hk]; rfl
 have hla := ok_len hn0 hn ha
 have hlb := ok_len hn0 hn hb
 have h1l : (a.tuples.map eI).length = a.tuples.length := List.length_map _
 have h2l : (b.tuples.map eI).length = b.tuples.length := List.length_map _
 obtain ⟨P, hP⟩ : ∃ P, n ^ k = P := ⟨_, rfl⟩
 have hP0 : 0 < P := by rw [← hP]; exact Int.pow_pos hn0
 have hbr : ∀ v ∈ b.tuples, 0 ≤ v ∧ v < P := fun v hv => by have := hb.rng v hv; rw [hk, show ((k : Nat) : Int).toNat = k from rfl, hP] at this; exact this
 have hpwr : AFun Tryz.prog 185 [eI n, eI b.arity] (.p (eI P)) := by rw [hk, ← hP]; exact powerP n k ⟨by omega, hn⟩ hk3
 have hub : ∀ u ∈ a.tuples, 0 ≤ u * P ∧ u * P + P ≤ 2000 := fun u hu => by
  have h1 := ha.rng u hu
  refine ⟨Int.mul_nonneg h1.1 (by omega), ?_⟩
  have h2 : (u + 1) * P ≤ n ^ a.arity.toNat * P := Int.mul_le_mul_of_nonneg_right (by omega) (by omega)
  have h4 : n ^ a.arity.toNat * P = n ^ (a.arity.toNat + k) := by rw [← hP, Int.pow_add]
  have h5 := pow_le_2000 hn0 hn (k := a.arity.toNat + k) (by omega)
  rw [Int.add_mul, Int.one_mul] at h2
  omega
 have hres : (rProduct n a b).tuples = prodL P a.tuples b.tuples := by
  refine (cl_eq (prodL_up _ hb.up hbr _ ha.up) fun x => ?_).symm
  rw [hpw, hP]
  constructor
  · intro hx
    obtain ⟨u, hu, hx⟩ := List.mem_flatMap.1 hx
    obtain ⟨v, hv, rfl⟩ := List.mem_map.1 hx
    have := hub u hu
    have := hbr v hv
    exact ⟨⟨by omega, by omega⟩, u, hu, v, hv, rfl⟩
  · rintro ⟨_, u, hu, v, hv, rfl⟩
    exact List.mem_flatMap.2 ⟨u, hu, List.mem_map.2 ⟨v, hv, rfl⟩⟩
 have hplen : ∀ l : List Int, (prodL P l b.tuples).length = l.length * b.tuples.length := by
  intro l
  induction l with
  | nil => simp [prodL]
  | cons x l ih => rw [prodL, List.flatMap_cons, List.length_append, List.length_map, List.length_cons, Nat.succ_mul]; rw [prodL] at ih; omega
 refine AFun.of hT Tryz.func118 rfl rfl (by simp) (AD.run hT hmix ?_)
 refine ngo_in (by omega) (by omega) (bgo_false (decide_eq_false (by omega)) (ngo_in (by omega) (by omega) ?_))
 refine .pure [eI n, eI b.arity] _ rfl hpwr ?_
 intro h5
 refine AD.loopI (fun x : Nat × List AV => x.1 ≤ a.tuples.length ∧ x.2 = (prodL P (a.tuples.take x.1) b.tuples).map eI) (fun x => a.tuples.length - x.1)
  (fun x => [(4, .loc 4 0), (5, .loc 5 0), (6, .loc 6 0), (8, .loc 8 0), (9, .p (eI P)), (32, .p (ints a.tuples)), (33, eint .i64 (a.tuples.map eI).length), (34, eint .i64 x.1)])
  (fun x => [(4, .box 50 (a.cs.map .p)), (5, .box 50 (b.cs.map .p)), (6, .box 50 [.p (eI 0), .full 1 []]), (8, .box 50 [.p (eI (a.arity + b.arity)), .own 1 x.2 53]), (53, .tail x.2.length)]) (0, []) ⟨Nat.zero_le _, rfl⟩ .of fun ⟨i, es⟩ ⟨g1, g2⟩ => AD.run hT hmix ?_
 dsimp only at g1 g2 ⊢
 refine bgo_split (fun h6 => ?_) (fun h6 => ?_)
 · replace h6 := of_decide_eq_true h6
   have hlt : i < a.tuples.length := by omega
   have hu := hub _ (List.getElem_mem hlt)
   have hel : es.length = i * b.tuples.length := by rw [g2, List.length_map, hplen, List.length_take, Nat.min_eq_left g1]
   have hel2 : i * b.tuples.length ≤ 2000 * 2000 := Nat.mul_le_mul (by omega) hlb
   refine igo_map i rfl hlt ?_
   intro h7
   refine AD.loopI (fun x : Nat × List AV => x.1 ≤ b.tuples.length ∧ x.2 = es ++ ((b.tuples.take x.1).map fun v => a.tuples[i] * P + v).map eI) (fun x => b.tuples.length - x.1)
    (fun x => [(4, .loc 4 0), (5, .loc 5 0), (6, .loc 6 0), (8, .loc 8 0), (9, .p (eI P)), (32, .p (ints a.tuples)), (33, eint .i64 (a.tuples.map eI).length), (34, eint .i64 i), (11, .p (eI a.tuples[i])), (39, .p (ints b.tuples)), (40, eint .i64 (b.tuples.map eI).length), (41, eint .i64 x.1)])
    (fun x => [(4, .box 50 (a.cs.map .p)), (5, .box 50 (b.cs.map .p)), (6, .box 50 [.p (eI 0), .full 1 []]), (8, .box 50 [.p (eI (a.arity + b.arity)), .own 1 x.2 53]), (53, .tail x.2.length)]) (0, es) ⟨Nat.zero_le _, by simp⟩ .of fun ⟨j, es2⟩ ⟨k1, k2⟩ => AD.run hT hmix ?_
   dsimp only at k1 k2 ⊢
   have hes2 : es2.length = es.length + j := by rw [k2]; simp; omega
   refine bgo_split (fun h8 => ?_) (fun h8 => ?_)
   · replace h8 := of_decide_eq_true h8
     have hlt2 : j < b.tuples.length := by omega
     have hv := hbr _ (List.getElem_mem hlt2)
     refine igo_map j rfl hlt2 ?_
     refine ngo_in (by omega) (by omega) (ngo_in (by omega) (by omega) ⟨rfl, ⟨by simp; omega, by simp; omega⟩, ngo_in (by omega) (by omega) ⟨(j + 1, es2 ++ [eI (a.tuples[i] * P + b.tuples[j])]), ⟨by dsimp only; omega, ?_⟩, by dsimp only; omega, .of⟩⟩)
     dsimp only
     rw [List.take_succ_eq_append_getElem hlt2, List.map_append, List.map_append, k2, List.append_assoc]; rfl
   · replace h8 := of_decide_eq_false h8
     obtain rfl : j = b.tuples.length := by omega
     rw [List.take_length] at k2
     refine ngo_in (by omega) (by omega) ⟨(i + 1, es2), ⟨by dsimp only; omega, ?_⟩, by dsimp only; omega, .of⟩
     dsimp only
     rw [List.take_succ_eq_append_getElem hlt, prodL, List.flatMap_append, List.map_append, k2, g2]
     simp [prodL]
 · replace h6 := of_decide_eq_false h6
   obtain rfl : i = a.tuples.length := by omega
   rw [List.take_length] at g2
   exact ⟨_, _, rfl, rfl, by rw [g2, ← hres]; rfl⟩
end Go.Ab
namespace Go.Ab
open Go Go.Proofs Go.RowKit
set_option maxRecDepth 10000
theorem rep_int (n : Nat) : rep n [eint .i64 0] = ((List.replicate n (0 : Int)).map eI).map .p := by
 induction n with
 | zero => rfl
 | succ n ih =>
  show [eint .i64 0] ++ rep n [eint .i64 0] = _
  rw [ih, List.replicate_succ]; rfl
theorem transL {n : Int} (hn0 : 0 < n) (hn : n ≤ 12) {a : Rl} (hr : ∀ x ∈ a.tuples, 0 ≤ x ∧ x < 2000) (hlen : a.tuples.length ≤ 2000) : AFun Tryz.prog 119 [eI n, a.av] (.p (Rl.av ⟨2, srt (a.tuples.map fun t => t % n * n + t / n)⟩)) := by
 have h1l : (a.tuples.map eI).length = a.tuples.length := List.length_map _
 obtain ⟨g, hg⟩ : ∃ g : Int → Int, (fun t => t % n * n + t / n) = g := ⟨_, rfl⟩
 rw [hg]
 refine AFun.of hT Tryz.func119 rfl rfl (by simp) (AD.finSub (AD.run hT hmix ?_))
 intro h1
 refine .arr a.tuples.length (by rw [h1l]; rfl) (by rw [h1l]; rfl) (by show 8 * a.tuples.length ≤ _; omega) (by omega) ?_
 intro h2
 refine AD.loopI (fun x : Nat × List Int => x.1 ≤ a.tuples.length ∧ x.2.length = a.tuples.length ∧ x.2.take x.1 = (a.tuples.take x.1).map g) (fun x => a.tuples.length - x.1)
  (fun x => [(0, .p (eI n)), (4, .loc 4 0), (5, .arr 1 11 0 a.tuples.length), (13, .p (ints a.tuples)), (14, eint .i64 (a.tuples.map eI).length), (15, eint .i64 x.1)])
  (fun x => [(4, .box 50 [.p (eI 0), .full 1 []]), (11, .box 3 ((x.2.map eI).map .p))]) (0, List.replicate a.tuples.length 0) ⟨Nat.zero_le _, by simp, by simp⟩ (.of (h2 := ⟨⟨rfl, .inr ⟨rfl, rfl⟩⟩, ⟨⟨rfl, .inr ⟨rep_int _, okL_p _ _⟩⟩, trivial⟩⟩)) fun ⟨i, xs⟩ ⟨g1, g2, g3⟩ => AD.run hT hmix ?_
 dsimp only at g1 g2 g3 ⊢
 refine bgo_split (fun h3 => ?_) (fun h3 => ?_)
 · replace h3 := of_decide_eq_true h3
   have hlt : i < a.tuples.length := by omega
   have ht := hr _ (List.getElem_mem hlt)
   have hge : a.tuples[i] % n * n + a.tuples[i] / n = g a.tuples[i] := by rw [← hg]
   refine igo_map i rfl hlt ?_
   generalize hat : a.tuples[i] = t at ht hge
   have b0 := Int.emod_nonneg t (show n ≠ 0 by omega)
   have b1 := Int.emod_lt_of_pos t hn0
   have b2 := Int.ediv_nonneg ht.1 (show 0 ≤ n by omega)
   have b3 := Int.ediv_le_self n ht.1
   have b4 : 0 ≤ t % n * n := Int.mul_nonneg b0 (by omega)
   have b5 : t % n * n ≤ 12 * 12 := Int.mul_le_mul (by omega) hn (by omega) (by omega)
   refine ⟨by omega, t % n, Int.tmod_eq_emod_of_nonneg ht.1, ngo_in (by omega) (by omega) ⟨by omega, t / n, by rw [Int.tdiv_eq_ediv_of_nonneg ht.1]; exact wrap64_in (by omega) (by omega), ngo_in (by omega) (by omega) ?_⟩⟩
   refine ⟨i, rfl, hlt, bgo_true (by simp [g2]; exact ⟨rfl, by omega⟩) ⟨by kernel_rfl, ngo_in (by omega) (by omega) ?_⟩⟩
   refine ⟨(i + 1, xs.set i (g t)), ⟨by dsimp only; omega, by simpa using g2, ?_⟩, by dsimp only; omega, .of (h2 := ⟨⟨rfl, .inr ⟨rfl, rfl⟩⟩, ⟨⟨rfl, .inr ⟨by rw [hge]; exact setSeg_eI .., okL_p _ _⟩⟩, trivial⟩⟩)⟩
   dsimp only
   rw [List.take_succ_eq_append_getElem (by simp; omega), List.getElem_set_self, List.take_set_of_le (Nat.le_refl i), List.take_succ_eq_append_getElem hlt, List.map_append, g3, hat]; rfl
 · replace h3 := of_decide_eq_false h3
   obtain rfl : i = a.tuples.length := by omega
   rw [List.take_length, ← g2, List.take_length] at g3
   subst g3
   obtain ⟨xs, hxs⟩ : ∃ xs, a.tuples.map g = xs := ⟨_, rfl⟩
   have hxl : xs.length = a.tuples.length := by rw [← hxs, List.length_map]
   rw [hxs, ← hxl]
   have hs := sortedK 11 2 xs (by omega)
   refine .eff [(11, .box 3 ((xs.map eI).map .p))] [(11, .box 3 (((srtC xs).map eI).map .p))] _ hs ⟨rfl, trivial⟩ rfl rfl (okH_one _ _ _ _) rfl ?_
   refine ⟨[(4, .loc 4 0)], [(4, .box 50 [.p (eI 2), .p (ints (srt xs))])], .sealB 11 (hx := toPs_p _) (h1 := ⟨⟨.inl rfl, rfl⟩, trivial⟩) (h2 := ⟨⟨rfl, .inl ⟨⟨.inl rfl, rfl⟩, ⟨.inr (.inr (.inr (.inl ⟨_, _, rfl, seal_srt _ _⟩))), rfl⟩, trivial⟩⟩, trivial⟩), _, _, rfl, rfl, rfl⟩
theorem transP {n : Int} (hn0 : 0 < n) (hn : n ≤ 12) {a : Rl} (ha : a.Ok n) (h2 : a.arity = 2) : AFun Tryz.prog 119 [eI n, a.av] (.p (rTrans n a).av) := by
 have h := transL hn0 hn (a := a) (fun x hx => ok_rng hn0 hn ha hx) (ok_len hn0 hn ha)
 rwa [srt_cl (S := fun x => ∃ t ∈ a.tuples, x = t % n * n + t / n) fun x => ?_] at h
 rw [List.mem_map]
 constructor
 · rintro ⟨t, ht, rfl⟩
   have hr := ha.rng t ht
   rw [h2, sq hn0 hn] at hr
   have b0 := Int.emod_nonneg t (show n ≠ 0 by omega)
   have b1 := Int.emod_lt_of_pos t hn0
   have b2 := Int.ediv_nonneg hr.1 (show 0 ≤ n by omega)
   have b3 : t / n < n := Int.ediv_lt_of_lt_mul hn0 hr.2
   have b4 : 0 ≤ t % n * n := Int.mul_nonneg b0 (by omega)
   have b5 : t % n * n ≤ 12 * 12 := Int.mul_le_mul (by omega) hn (by omega) (by omega)
   exact ⟨⟨by omega, by omega⟩, t, ht, rfl⟩
 · rintro ⟨_, t, ht, rfl⟩
   exact ⟨t, ht, rfl⟩
theorem rep_ints_val {fz : Fz} {v : Value} {l : List Int} (h : Rep fz v (ints l)) : ∃ p cap, v = .slice p l.length cap ∧ l.length ≤ cap ∧ l.length ≤ 9223372036854775807 ∧ ∀ (j : Nat) x, l[j]? = some x → ∃ b o, p = some ⟨b, o, none⟩ ∧ fz b (o + j) = some (.int .i64 x) := by
 cases h with
 | slice p n cap sz es vs hn hc hm hs h1 hr hl hh =>
  rw [List.length_map] at hn
  subst hn
  refine ⟨p, cap, rfl, hc, hm, fun j x hx => ?_⟩
  rw [flat_ints] at hl hh
  have hj : j < vs.length := by rw [hl, List.length_map]; exact (List.getElem?_eq_some_iff.1 hx).1
  obtain ⟨b, o, hp, hz⟩ := hr j vs[j] (List.getElem?_eq_getElem hj)
  refine ⟨b, o, hp, ?_⟩
  have h2 := hh j vs[j] (eI x) (List.getElem?_eq_getElem hj) (by rw [List.getElem?_map, hx]; rfl)
  generalize vs[j] = v at h2 hz
  cases h2 with
  | imm _ _ => exact hz
theorem rep_own {fz : Fz} {w w' : World} (hz : FzOk fz w) (hB : Below w.heap.size w w') {v : Value} {l : List Int} (hl : l.length ≤ 9223372036854775807) (h : w'.ownsRow w.heap.size 3 1 v l.length (l.map (Value.int .i64))) : ∃ fz', FzStep w.heap.size fz fz' ∧ FzOk fz' w' ∧ Rep fz' v (ints l) := by
 rcases h.2 with ⟨rfl, h0⟩ | ⟨g, cap, cur, rfl, hg, hh, h1, h2, h3, h4⟩
 · obtain rfl : l = [] := List.length_eq_zero_iff.1 h0
   exact ⟨fz, FzStep.same _ _, hz.kept (Kept.of_below hB), .slice none 0 0 1 [] [] rfl (Nat.le_refl _) (by omega) (fun _ h => by cases h) (fun _ h => by cases h) (fun i v h => by simp at h) rfl (fun i v x h => by simp at h)⟩
 · rw [Nat.mul_one] at h4
   let fz' : Fz := fun b o => if b = g then (if o < l.length then cur[o]? else none) else fz b o
   have hcur : ∀ (i : Nat) x, l[i]? = some x → cur[i]? = some (.int .i64 x) := fun i x hx => by
    have h5 : (cur.toList.take l.length)[i]? = (l.map (Value.int .i64))[i]? := by rw [h4]
    rw [List.getElem?_take_of_lt (List.getElem?_eq_some_iff.1 hx).1, List.getElem?_map, hx, Array.getElem?_toList] at h5
    exact h5
   have hgn : ∀ o, fz g o = none := fun o => by
    cases e : fz g o with
    | none => rfl
    | some v => have := pk_lt (hz g o v e); omega
   refine ⟨fz', ⟨fun b o v hv => ?_, fun b hb => ?_⟩, fun b o v hv => ?_, ?_⟩
   · show (if b = g then _ else _) = _
     by_cases e : b = g
     · subst e; rw [hgn] at hv; cases hv
     · rw [if_neg e]; exact hv
   · funext o
     show (if b = g then _ else _) = _
     rw [if_neg (by omega)]
   · have hv : (if b = g then (if o < l.length then cur[o]? else none) else fz b o) = some v := hv
     by_cases e : b = g
     · subst e
       rw [if_pos rfl] at hv
       split at hv
       · rename_i ho
         rw [hcur o l[o] (List.getElem?_eq_getElem ho)] at hv
         cases hv
         refine cell_pk ?_ rfl
         simp only [World.cell?, hh]
         simp only [Option.isSome_none, Bool.false_eq_true, if_false]
         exact hcur o l[o] (List.getElem?_eq_getElem ho)
       · cases hv
     · rw [if_neg e] at hv
       exact hz.kept (Kept.of_below hB) b o v hv
   · refine .slice _ _ cap 1 (l.map eI) (l.map (Value.int .i64)) (List.length_map _).symm h1 hl (fun e he => ?_) (fun v hv => ?_) (fun i v hv => ?_) (by rw [flat_ints, List.length_map, List.length_map]) (fun i v x hv hx => ?_)
     · obtain ⟨x, _, rfl⟩ := List.mem_map.1 he; rfl
     · obtain ⟨x, _, rfl⟩ := List.mem_map.1 hv; rfl
     · refine ⟨g, 0, rfl, ?_⟩
       show (if g = g then (if 0 + i < l.length then cur[0 + i]? else none) else _) = _
       rw [List.getElem?_map] at hv
       cases hx : l[i]? with
       | none => rw [hx] at hv; simp at hv
       | some x =>
        rw [hx] at hv
        simp only [Option.map_some, Option.some.injEq] at hv
        rw [if_pos rfl, Nat.zero_add, if_pos (List.getElem?_eq_some_iff.1 hx).1, hcur i x hx, hv]
     · rw [flat_ints, List.getElem?_map] at hx
       rw [List.getElem?_map] at hv
       cases hy : l[i]? with
       | none => rw [hy] at hx; simp at hx
       | some y =>
        rw [hy] at hx hv
        simp only [Option.map_some, Option.some.injEq] at hx hv
        subst hx hv
        exact .imm _ rfl
theorem cloneP (l : List Int) (hl : l.length ≤ 1000000) : AFun Tryz.prog 189 [ints l] (.p (ints l)) := by
 refine ⟨⟨_, Tryz.func189, rfl, rfl⟩, fun fz w vs hz hr => ?_⟩
 obtain ⟨v, rfl⟩ : ∃ v, vs = [v] := by
  match vs, hr.1 with
  | [v], _ => exact ⟨v, rfl⟩
 obtain ⟨p, cap, rfl, h1, h2, h3⟩ := rep_ints_val (hr.2 0 v _ rfl rfl)
 have fin : ∀ v' w', w'.ownsRow w.heap.size 3 1 v' l.length (l.map (Value.int .i64)) → Below w.heap.size w w' → ∃ v fz', Ending.returned v' = .returned v ∧ Kept (fun _ => False) w w' ∧ FzStep w.heap.size fz fz' ∧ FzOk fz' w' ∧ ∀ g : Gh, g.fz = fz' → ERep g noH v (.p (ints l)) := by
  intro v' w' ho hB
  obtain ⟨fz', f1, f2, f3⟩ := rep_own hz hB (by omega) ho
  exact ⟨v', fz', rfl, Kept.of_below hB, f1, f2, fun g hg => .p _ _ (hg ▸ f3)⟩
 by_cases h0 : l = []
 · subst h0
   cases p with
   | none =>
    refine (Tryz.slices_Clone_int_nil 0 cap w).mono ?_
    rintro e w' ⟨rfl, rfl⟩
    exact fin _ _ (World.ownsRow_nil _ _ _ _) (Below.refl _ _)
   | some ad =>
    refine (Tryz.slices_Clone_int_zero ad cap w).mono ?_
    rintro e w' ⟨v', rfl, ho, _, hB⟩
    exact fin _ _ ho hB
 · have hpos : 0 < l.length := List.length_pos_iff.2 h0
   obtain ⟨b, o, rfl, _⟩ := h3 0 l[0] (List.getElem?_eq_getElem hpos)
   refine (Tryz.slices_Clone_int b o l.length cap l w (Nat.le_refl _) (by omega) fun j hj => ?_).mono ?_
   · obtain ⟨b', o', e, hf⟩ := h3 j l[j] (List.getElem?_eq_getElem hj)
     cases e
     rw [List.getD_eq_getElem?_getD, List.getElem?_eq_getElem hj]
     exact pk_cell (hz _ _ _ hf) rfl
   · rintro e w' ⟨v', rfl, ho, _, hB⟩
     rw [List.take_length] at ho
     exact fin _ _ ho hB
theorem TC.trans {R : Int → Int → Prop} {x y z : Int} (h : TC R x y) (k : TC R y z) : TC R x z := by
 induction k with
 | one k => exact .more h k
 | more _ k ih => exact .more (ih) k
structure ClI (n : Int) (a c : List Int) : Prop where
 up : Up c
 rng : ∀ t ∈ c, 0 ≤ t ∧ t < n * n
 sub : ∀ t ∈ a, t ∈ c
 tc : ∀ t ∈ c, TC (fun x y => (0 ≤ x ∧ x < n) ∧ (0 ≤ y ∧ y < n) ∧ x * n + y ∈ a) (t / n) (t % n)
theorem two_ok {n : Int} (hn0 : 0 < n) (hn : n ≤ 12) {c : List Int} (hu : Up c) (hr : ∀ t ∈ c, 0 ≤ t ∧ t < n * n) : (⟨2, c⟩ : Rl).Ok n := ⟨⟨by show (1 : Int) ≤ 2; omega, by show (2 : Int) ≤ 3; omega⟩, hu, fun t ht => by rw [sq hn0 hn]; exact hr t ht⟩
noncomputable def clNext (n : Int) (c : List Int) : Rl := rUnion ⟨2, c⟩ (rJoin n ⟨2, c⟩ ⟨2, c⟩)
theorem join2_mem {n : Int} (hn0 : 0 < n) (hn : n ≤ 12) {c : List Int} (h : (⟨2, c⟩ : Rl).Ok n) {t : Int} (t0 : 0 ≤ t) (t1 : t < n * n) : t ∈ (rJoin n ⟨2, c⟩ ⟨2, c⟩).tuples ↔ ∃ m, (0 ≤ m ∧ m < n) ∧ t / n * n + m ∈ c ∧ m * n + t % n ∈ c := by
 have h1 := rJoin_mem hn0 hn h h (by show (1 : Int) ≤ 2 + 2 - 2; omega) (by show (2 : Int) + 2 - 2 ≤ 3; omega) t0 (by show t < n ^ (2 + 2 - 2 : Int).toNat; rw [show (2 + 2 - 2 : Int) = 2 by omega, sq hn0 hn]; exact t1)
 have e : n ^ ((2 : Int) - 1).toNat = n := by show n ^ 1 = n; rw [Int.pow_succ, Int.pow_zero, Int.one_mul]
 simp only [e] at h1
 exact h1
theorem join2_rng {n : Int} (hn0 : 0 < n) (hn : n ≤ 12) {c : List Int} (h : (⟨2, c⟩ : Rl).Ok n) {t : Int} (ht : t ∈ (rJoin n ⟨2, c⟩ ⟨2, c⟩).tuples) : 0 ≤ t ∧ t < n * n := by
 have := (rJoin_ok hn0 hn h h (by show (1 : Int) ≤ 2 + 2 - 2; omega) (by show (2 : Int) + 2 - 2 ≤ 3; omega)).rng t ht
 rwa [show (rJoin n ⟨2, c⟩ ⟨2, c⟩).arity = 2 from rfl, sq hn0 hn] at this
theorem mem_next {n : Int} (hn0 : 0 < n) (hn : n ≤ 12) {c : List Int} (h : (⟨2, c⟩ : Rl).Ok n) {t : Int} : t ∈ (clNext n c).tuples ↔ t ∈ c ∨ t ∈ (rJoin n ⟨2, c⟩ ⟨2, c⟩).tuples := by
 rw [clNext, rUnion, mem_cl]
 refine ⟨fun h => h.2, fun h2 => ⟨?_, h2⟩⟩
 have hn2 : n * n ≤ 12 * 12 := Int.mul_le_mul hn hn (by omega) (by omega)
 rcases h2 with h2 | h2
 · exact ok_rng hn0 hn h h2
 · have := join2_rng hn0 hn h h2; omega
theorem ClI.next {n : Int} (hn0 : 0 < n) (hn : n ≤ 12) {a c : List Int} (h : ClI n a c) : ClI n a (clNext n c).tuples := by
 have ho := two_ok hn0 hn h.up h.rng
 refine ⟨cl_up _, fun t ht => ?_, fun t ht => (mem_next hn0 hn ho).2 (.inl (h.sub t ht)), fun t ht => ?_⟩
 · rcases (mem_next hn0 hn ho).1 ht with ht | ht
   · exact h.rng t ht
   · exact join2_rng hn0 hn ho ht
 · rcases (mem_next hn0 hn ho).1 ht with ht | ht
   · exact h.tc t ht
   · have hr := join2_rng hn0 hn ho ht
     obtain ⟨m, ⟨m0, m1⟩, h1, h2⟩ := (join2_mem hn0 hn ho hr.1 hr.2).1 ht
     have e1 := h.tc _ h1
     have e2 := h.tc _ h2
     obtain ⟨r0, r1⟩ := mod_rng hn0 t
     rw [comb_div m0 m1, comb_mod m0 m1] at e1
     rw [comb_div r0 r1, comb_mod r0 r1] at e2
     exact e1.trans e2
theorem up_sub : ∀ {a b : List Int}, Up a → Up b → (∀ x ∈ a, x ∈ b) → a.Sublist b := by
 intro a b
 induction b generalizing a with
 | nil => intro _ _ h; cases a with
  | nil => exact List.Sublist.refl _
  | cons x a => exact absurd (h x (List.mem_cons_self ..)) (by simp)
 | cons y b ih =>
  intro ha hb h
  have hb' := List.pairwise_cons.1 hb
  cases a with
  | nil => exact List.nil_sublist _
  | cons x a =>
   have ha' := List.pairwise_cons.1 ha
   rcases List.mem_cons.1 (h x (List.mem_cons_self ..)) with rfl | hx
   · refine (ih ha'.2 hb'.2 fun z hz => ?_).cons_cons x
     rcases List.mem_cons.1 (h z (List.mem_cons_of_mem _ hz)) with rfl | hz'
     · have := ha'.1 z hz; omega
     · exact hz'
   · refine (ih ha hb'.2 fun z hz => ?_).cons y
     rcases List.mem_cons.1 (h z hz) with rfl | hz'
     · have h1 := hb'.1 x hx
       rcases List.mem_cons.1 hz with rfl | hz
       · omega
       · have := ha'.1 z hz; omega
     · exact hz'
theorem up_same {a b : List Int} (ha : Up a) (hb : Up b) (h : ∀ x ∈ a, x ∈ b) (hl : b.length ≤ a.length) : ∀ x ∈ b, x ∈ a := by
 have hs := up_sub ha hb h
 have := hs.eq_of_length_le hl
 rw [this]; exact fun x hx => hx
theorem ClI.last {n : Int} (hn0 : 0 < n) (hn : n ≤ 12) {a c : List Int} (h : ClI n a c) (hl : (clNext n c).tuples.length = c.length) : c = (rClos n ⟨2, a⟩).tuples := by
 have ho := two_ok hn0 hn h.up h.rng
 have hn2 : n * n ≤ 12 * 12 := Int.mul_le_mul hn hn (by omega) (by omega)
 have hcl : ∀ x ∈ (clNext n c).tuples, x ∈ c := up_same h.up (cl_up _) (fun x hx => (mem_next hn0 hn ho).2 (.inl hx)) (by omega)
 have hst : ∀ x m y, (0 ≤ m ∧ m < n) → (0 ≤ x ∧ x < n) → (0 ≤ y ∧ y < n) → x * n + m ∈ c → m * n + y ∈ c → x * n + y ∈ c := fun x m y hm hx hy h1 h2 => by
  refine hcl _ ((mem_next hn0 hn ho).2 (.inr ?_))
  refine (join2_mem hn0 hn ho (comb_nn hn0 hx.1 hy.1) (comb_lt hn0 hx.2 hy.2)).2 ⟨m, hm, ?_, ?_⟩
  · rw [comb_div hy.1 hy.2]; exact h1
  · rw [comb_mod hy.1 hy.2]; exact h2
 have hTC : ∀ x y, TC (fun x y => (0 ≤ x ∧ x < n) ∧ (0 ≤ y ∧ y < n) ∧ x * n + y ∈ a) x y → (0 ≤ x ∧ x < n) ∧ (0 ≤ y ∧ y < n) ∧ x * n + y ∈ c := by
  intro x y hxy
  induction hxy with
  | one h1 => exact ⟨h1.1, h1.2.1, h.sub _ h1.2.2⟩
  | more _ h1 ih => exact ⟨ih.1, h1.2.1, hst _ _ _ ih.2.1 ih.1 h1.2.1 ih.2.2 (h.sub _ h1.2.2)⟩
 refine cl_eq h.up fun x => ⟨fun hx => ?_, fun hx => ?_⟩
 · have := h.rng x hx
   exact ⟨⟨this.1, by omega⟩, this.2, h.tc x hx⟩
 · have := (hTC _ _ hx.2.2).2.2
   rwa [div_comb] at this
theorem closP {n : Int} (hn0 : 0 < n) (hn : n ≤ 12) (hJ : ∀ c, (⟨2, c⟩ : Rl).Ok n → AFun Tryz.prog 117 [eI n, Rl.av ⟨2, c⟩, Rl.av ⟨2, c⟩] (.tup [.p (rJoin n ⟨2, c⟩ ⟨2, c⟩).av, .p (eI 0)])) {a : Rl} (ha : a.Ok n) (h2 : a.arity = 2) : AFun Tryz.prog 121 [eI n, a.av] (.p (rClos n ⟨2, a.tuples⟩).av) := by
 have hla := ok_len hn0 hn ha
 have hn2 : n * n ≤ 12 * 12 := Int.mul_le_mul hn hn (by omega) (by omega)
 have h0 : ClI n a.tuples a.tuples := ⟨ha.up, fun t ht => by have := ha.rng t ht; rwa [h2, sq hn0 hn] at this, fun t ht => ht, fun t ht => by
  have hr := ha.rng t ht
  rw [h2, sq hn0 hn] at hr
  exact .one ⟨⟨Int.ediv_nonneg hr.1 (by omega), Int.ediv_lt_of_lt_mul hn0 hr.2⟩, mod_rng hn0 t, by rw [div_comb]; exact ht⟩⟩
 refine AFun.of hT Tryz.func121 rfl rfl (by simp) (AD.run hT hmix ?_)
 refine .pure [ints a.tuples] _ rfl (cloneP a.tuples (by omega)) ?_
 refine AD.loopI (fun c : List Int => ClI n a.tuples c) (fun c => 2000 - c.length) (fun _ => [(0, .p (eI n)), (4, .loc 4 0), (5, .loc 5 0)]) (fun c => [(4, .box 50 [.p (eI 0), .full 1 []]), (5, .box 50 [.p (eI 2), .p (ints c)])]) a.tuples h0 .of fun c hc => AD.run hT hmix ?_
 have ho := two_ok hn0 hn hc.up hc.rng
 have hjo := rJoin_ok hn0 hn ho ho (by show (1 : Int) ≤ 2 + 2 - 2; omega) (by show (2 : Int) + 2 - 2 ≤ 3; omega)
 have hno := two_ok hn0 hn (hc.next hn0 hn).up (hc.next hn0 hn).rng
 have hcl := ok_len hn0 hn hno
 have hle := (up_sub hc.up (hc.next hn0 hn).up fun x hx => (mem_next hn0 hn ho).2 (.inl hx)).length_le
 refine .pure [eI n, Rl.av ⟨2, c⟩, Rl.av ⟨2, c⟩] _ rfl (hJ c ho) ?_
 refine .pure [Rl.av ⟨2, c⟩, (rJoin n ⟨2, c⟩ ⟨2, c⟩).av] _ rfl (unionP hn0 hn ho hjo) ?_
 intro h3 h4
 have e1 : ((rUnion ⟨2, c⟩ (rJoin n ⟨2, c⟩ ⟨2, c⟩)).tuples.map eI).length = (clNext n c).tuples.length := List.length_map _
 have e2 : (c.map eI).length = c.length := List.length_map _
 refine bgo_split (fun h5 => ?_) (fun h5 => ?_)
 · have h5 : (((rUnion ⟨2, c⟩ (rJoin n ⟨2, c⟩ ⟨2, c⟩)).tuples.map eI).length : Int) = (c.map eI).length := by simpa using h5
   exact ⟨_, _, rfl, rfl, by rw [hc.last hn0 hn (by omega)]; rfl⟩
 · have h5 : (((rUnion ⟨2, c⟩ (rJoin n ⟨2, c⟩ ⟨2, c⟩)).tuples.map eI).length : Int) ≠ (c.map eI).length := by simpa using h5
   exact ⟨(clNext n c).tuples, hc.next hn0 hn, by have : (clNext n c).tuples.length ≤ 2000 := hcl; omega, .of⟩
end Go.Ab
namespace Go.Proofs.YtmllhjbnbhapoaaGreat
open Go
section
variable {P : Program} {ops : Array Oper} {Q : Exit → Act → World → Prop} {md : Region.Mode} {S : World → Prop}
def RGood (P : Program) (S : World → Prop) (v : Value) : Result Next → Prop
 | .ok (.value u) w' => u = v ∧ S w'
 | .ok .skip w' => v = undef ∧ S w'
 | .ok (.enter f args) w' => Calls P f args w' fun e w'' => e = .returned v ∧ S w''
 | _ => False
def YS (P : Program) (ops : Array Oper) (S : World → Prop) (o : Oper) (v : Value) (a : Act) : Prop :=
 (Region.wanted o (yielded ops a.tmps) = true ∧ ∀ w, S w → RGood P S v ((execOp a.eval o).run P w)) ∨
 (Region.wanted o (yielded ops a.tmps) = false ∧ v = undef)
theorem YS.of_same {o : Oper} {v : Value} {a a' : Act} (hy : YS P ops S o v a) (he : execOp a'.eval o = execOp a.eval o)
 (hw : Region.wanted o (yielded ops a'.tmps) = Region.wanted o (yielded ops a.tmps)) : YS P ops S o v a' := by
 unfold YS at *
 rw [he, hw]
 exact hy
theorem YS.wpOp {i : Nat} {o : Oper} {v : Value} {a : Act} (hi : ops[i]? = some o) (hy : YS P ops S o v a)
 {K : Act → World → Prop} {w : World} (hS : S w) (h : ∀ w', S w' → K (a.put o.dst v) w') : wpOp P ops Q i K a w := by
 unfold Go.wpOp
 simp only [hi]
 rcases hy with ⟨hw, hv⟩ | ⟨hw, rfl⟩
 · have hr := hv w hS
   simp only [hw, if_true]
   refine .inl ?_
   unfold Oper.wp
   generalize (execOp a.eval o).run P w = r at *
   cases r with
   | ok n w' =>
    cases n <;> simp only [RGood] at hr <;> simp only [Oper.upon]
    case value u => rw [hr.1]; exact h _ hr.2
    case skip => rw [← hr.1]; exact h _ hr.2
    case enter f args => exact Calls.mono hr fun e w'' he => by obtain ⟨rfl, hs⟩ := he; exact h _ hs
   | halt x w' => exact absurd hr (by simp [RGood])
 · simp only [hw, Bool.false_eq_true, if_false]; exact h _ hS
inductive Cert (P : Program) (md : Region.Mode) (ops : Array Oper) (S : World → Prop) (fin : Act → Prop) : Nat → Array Bool → Act → Prop
 | done {n : Nat} {listed : Array Bool} {a : Act} : Region.ready md ops listed = [] → fin a → Cert P md ops S fin n listed a
 | take {n : Nat} {listed : Array Bool} {a : Act} {i : Nat} {oi : Oper} {v : Value} : ops[i]? = some oi →
  (∀ j oj, ops[j]? = some oj → j ≠ i → listed.getD j true = false → (∀ e ∈ oj.after, Region.binds md e = true → e.on ≠ i) → oi.apart ops oj = true) →
  i ∈ Region.ready md ops listed → YS P ops S oi v a → Cert P md ops S fin n (listed.setIfInBounds i true) (a.put oi.dst v) → Cert P md ops S fin (n + 1) listed a
theorem Cert.front {fin : Act → Prop} (hsel : ∀ (j : Nat) (o : Oper) cs b, ops[j]? = some o → o.op ≠ .select cs b) {n : Nat} {listed : Array Bool} {a : Act} (h : Cert P md ops S fin n listed a) :
 ∀ j, j ∈ Region.ready md ops listed → ∃ m oj vj, n = m + 1 ∧ ops[j]? = some oj ∧ YS P ops S oj vj a ∧ Cert P md ops S fin m (listed.setIfInBounds j true) (a.put oj.dst vj) := by
 induction h with
 | done hr _ => intro j hj; rw [hr] at hj; cases hj
 | @take n listed a i oi v hi hfree hr hy hrest ih =>
  intro j hj
  by_cases hji : j = i
  · subst hji; exact ⟨n, oi, v, rfl, hi, hy, hrest⟩
  · obtain ⟨m, oj, vj, rfl, hoj, hyj, hc⟩ := ih j (ready_mono hj hji)
    obtain ⟨hjun, oj', hoj', hall⟩ := mem_ready.1 hj
    obtain rfl : oj = oj' := Option.some.inj (hoj.symm.trans hoj')
    have hnot : ∀ e ∈ oj.after, Region.binds md e = true → e.on ≠ i := fun e he hb heq => by
     have h1 := hall e he hb
     have h0 := (mem_ready.1 hr).1
     rw [heq] at h1
     rcases Nat.lt_or_ge i listed.size with h' | h'
     · simp [h'] at h0 h1; rw [h0] at h1; cases h1
     · simp [Array.getElem?_eq_none h'] at h1
    obtain ⟨h1, h2, h3⟩ := Oper.apart_spec (hfree j oj hoj hji hjun hnot)
    have hyj' : YS P ops S oj vj a := hyj.of_same (execOp_put oj (fun cs b => hsel j oj cs b hoj) a oi.dst v h1).symm (wanted_put oj a oi.dst v h1).symm
    have hy' : YS P ops S oi v (a.put oj.dst vj) := hy.of_same (execOp_put oi (fun cs b => hsel i oi cs b hi) a oj.dst vj h3) (wanted_put oi a oj.dst vj h3)
    have hfree' : ∀ k ok, ops[k]? = some ok → k ≠ i → (listed.setIfInBounds j true).getD k true = false →
     (∀ e ∈ ok.after, Region.binds md e = true → e.on ≠ i) → oi.apart ops ok = true := fun k ok hk hki hun hno => by
     refine hfree k ok hk hki ?_ hno
     by_cases hjk : j = k
     · subst hjk; exact hjun
     · rw [getD_set_ne true hjk] at hun; exact hun
    refine ⟨m + 1, oj, vj, rfl, hoj, hyj', .take hi hfree' (ready_mono hr (Ne.symm hji)) hy' ?_⟩
    rw [Array.setIfInBounds_comm _ _ hji, ← Act.put_comm a v vj h2]
    exact hc
theorem Cert.sound {fin : Act → Prop} (hsel : ∀ (j : Nat) (o : Oper) cs b, ops[j]? = some o → o.op ≠ .select cs b) (hfin : ∀ a, fin a → ∀ w, S w → Q .normal a w) :
 ∀ (n : Nat) (listed : Array Bool) (a : Act), Cert P md ops S fin n listed a → ∀ w, S w → wpAny P md ops Q n listed a w := by
 intro n
 induction n with
 | zero =>
  intro listed a h w hS
  cases h with
  | done hr hf => exact ⟨hr, hfin _ hf w hS⟩
 | succ n ih =>
  intro listed a h w hS
  refine ⟨fun hr => ?_, fun j hj => ?_⟩
  · cases h with
    | done _ hf => exact hfin _ hf w hS
    | take _ _ hr' => rw [hr] at hr'; cases hr'
  · obtain ⟨m, oj, vj, hm, hoj, hyj, hc⟩ := h.front hsel j hj
    obtain rfl : n = m := by omega
    exact hyj.wpOp hoj hS fun w' hS' => ih _ _ hc w' hS'
def pre (n k : Nat) : Array Bool := ((List.range n).map fun i => decide (i < k)).toArray
def orow (md : Region.Mode) (ops : Array Oper) (o : Oper) : Option Nat × List Nat × List Nat := (o.dst, o.looksAt ops, (o.after.toList.filter (Region.binds md)).map (·.on))
def apartR (x y : Option Nat × List Nat × List Nat) : Bool :=
  (match x.1 with
   | some d => !y.2.1.contains d && (match y.1 with | some e => !Nat.beq e d | none => true)
   | none => true) &&
  (match y.1 with
   | some d => !x.2.1.contains d
   | none => true)
def pairsOk : Nat → List (Option Nat × List Nat × List Nat) → Bool
 | _, [] => true
 | i, x :: t => t.all (fun y => y.2.2.contains i || apartR x y) && x.2.2.all (fun k => Nat.blt k i) && pairsOk (i + 1) t
def fastOk (md : Region.Mode) (ops : Array Oper) : Bool := Region.noSelect ops && pairsOk 0 (ops.toList.map (orow md ops))
theorem apartR_spec {md : Region.Mode} {ops : Array Oper} {x y : Oper} (h : apartR (orow md ops x) (orow md ops y) = true) : x.apart ops y = true := by
 unfold apartR orow at h
 unfold Oper.apart
 cases hx : x.dst with
 | none => cases hy : y.dst with
  | none => simp
  | some e => simpa [hx, hy] using h
 | some d => cases hy : y.dst with
  | none => simpa [hx, hy] using h
  | some e =>
   simp only [hx, hy, Bool.and_eq_true, Bool.not_eq_true'] at h ⊢
   refine ⟨⟨h.1.1, ?_⟩, h.2⟩
   have hne : e ≠ d := Nat.ne_of_beq_eq_false h.1.2
   simpa using hne
theorem pairsOk_spec : ∀ (l : List (Option Nat × List Nat × List Nat)) (i : Nat), pairsOk i l = true →
 ∀ k x, l[k]? = some x → (∀ e ∈ x.2.2, e < i + k) ∧ ∀ j y, k < j → l[j]? = some y → y.2.2.contains (i + k) = true ∨ apartR x y = true
 | [], _, _, k, x, h => by simp at h
 | x0 :: t, i, h, k, x, hk => by
  simp only [pairsOk, Bool.and_eq_true] at h
  obtain ⟨⟨h1, h2⟩, h3⟩ := h
  cases k with
  | zero =>
   obtain rfl : x0 = x := by simpa using hk
   refine ⟨fun e he => ?_, fun j y hj hy => ?_⟩
   · have := List.all_eq_true.1 h2 e he; simpa [Nat.blt_eq] using this
   · obtain ⟨j, rfl⟩ : ∃ m, j = m + 1 := ⟨j - 1, by omega⟩
     have hy' : t[j]? = some y := by simpa using hy
     have := List.all_eq_true.1 h1 y (List.mem_of_getElem? hy')
     simpa using this
  | succ k =>
   have hk' : t[k]? = some x := by simpa using hk
   obtain ⟨a1, a2⟩ := pairsOk_spec t (i + 1) h3 k x hk'
   refine ⟨fun e he => by have := a1 e he; omega, fun j y hj hy => ?_⟩
   obtain ⟨j, rfl⟩ : ∃ m, j = m + 1 := ⟨j - 1, by omega⟩
   have := a2 j y (by omega) (by simpa using hy)
   rwa [show i + 1 + k = i + (k + 1) by omega] at this
variable {fin : Act → Prop} {o : Oper} {rest : List Oper} {a : Act} {v : Value}
end
section
variable {P : Program} {ops : Array Oper} {Q : Exit → Act → World → Prop} {md : Region.Mode} {S : Nat → World → Prop} {m : Nat} {mover : Nat → Bool} {l : Nat}
def YM (P : Program) (ops : Array Oper) (S : Nat → World → Prop) (m : Nat) (mv : Bool) (j : Nat) (o : Oper) (v : Value) (a : Act) : Prop :=
 match mv with
 | true => Region.wanted o (yielded ops a.tmps) = true ∧ ∀ w, S j w → RGood P (S (j + 1)) v ((execOp a.eval o).run P w)
 | false => (Region.wanted o (yielded ops a.tmps) = true ∧ ∀ k, k ≤ m → ∀ w, S k w → RGood P (S k) v ((execOp a.eval o).run P w)) ∨
  (Region.wanted o (yielded ops a.tmps) = false ∧ v = undef)
theorem YM.of_same {mv : Bool} {j : Nat} {o : Oper} {v : Value} {a a' : Act} (hy : YM P ops S m mv j o v a) (he : execOp a'.eval o = execOp a.eval o)
 (hw : Region.wanted o (yielded ops a'.tmps) = Region.wanted o (yielded ops a.tmps)) : YM P ops S m mv j o v a' := by
 unfold YM at *
 rw [he, hw]
 exact hy
def up (mv : Bool) (j : Nat) : Nat := if mv then j + 1 else j
theorem wpOp_good {i : Nat} {o : Oper} {v : Value} {a : Act} {S' : World → Prop} (hi : ops[i]? = some o) (hw : Region.wanted o (yielded ops a.tmps) = true)
 {K : Act → World → Prop} {w : World} (hr : RGood P S' v ((execOp a.eval o).run P w)) (h : ∀ w', S' w' → K (a.put o.dst v) w') : wpOp P ops Q i K a w := by
 unfold Go.wpOp
 simp only [hi, hw, if_true]
 refine .inl ?_
 unfold Oper.wp
 generalize (execOp a.eval o).run P w = r at *
 cases r with
 | ok n w' =>
  cases n <;> simp only [RGood] at hr <;> simp only [Oper.upon]
  case value u => rw [hr.1]; exact h _ hr.2
  case skip => rw [← hr.1]; exact h _ hr.2
  case enter f args => exact Calls.mono hr fun e w'' he => by obtain ⟨rfl, hs⟩ := he; exact h _ hs
 | halt x w' => exact absurd hr (by simp [RGood])
theorem YM.wpOp {mv : Bool} {j i : Nat} {o : Oper} {v : Value} {a : Act} (hi : ops[i]? = some o) (hy : YM P ops S m mv j o v a) (hj : j ≤ m)
 {K : Act → World → Prop} {w : World} (hS : S j w) (h : ∀ w', S (up mv j) w' → K (a.put o.dst v) w') : wpOp P ops Q i K a w := by
 cases mv with
 | true => exact wpOp_good hi hy.1 (hy.2 w hS) (fun w' hw' => h w' hw')
 | false =>
  rcases hy with ⟨hw, hv⟩ | ⟨hw, rfl⟩
  · exact wpOp_good hi hw (hv j hj w hS) (fun w' hw' => h w' hw')
  · unfold Go.wpOp
    simp only [hi, hw, Bool.false_eq_true, if_false]; exact h _ hS
def Closed (md : Region.Mode) (ops : Array Oper) (listed : Array Bool) : Prop :=
 ∀ j o, ops[j]? = some o → listed.getD j false = true → ∀ e ∈ o.after, Region.binds md e = true → listed.getD e.on false = true
theorem Closed.step {listed : Array Bool} {i : Nat} (h : Closed md ops listed) (hi : i ∈ Region.ready md ops listed) : Closed md ops (listed.setIfInBounds i true) := by
 intro j o ho hj e he hb
 obtain ⟨_, oi, hoi, hall⟩ := mem_ready.1 hi
 by_cases hji : j = i
 · subst hji
   obtain rfl : oi = o := Option.some.inj (hoi.symm.trans ho)
   exact getD_set_true (hall e he hb)
 · rw [getD_set_ne false (Ne.symm hji)] at hj
   exact getD_set_true (h j o ho hj e he hb)
inductive CertM (P : Program) (md : Region.Mode) (ops : Array Oper) (Q : Exit → Act → World → Prop) (S : Nat → World → Prop) (m : Nat) (mover : Nat → Bool) (l : Nat) : Nat → Array Bool → Act → Nat → Prop
 | fin {n : Nat} {listed : Array Bool} {a : Act} : (∀ i, i < ops.size → i ≠ l → listed.getD i false = true) → (∀ w, S m w → wpAny P md ops Q n listed a w) → CertM P md ops Q S m mover l n listed a m
 | take {n : Nat} {listed : Array Bool} {a : Act} {j i : Nat} {oi : Oper} {v : Value} : ops[i]? = some oi →
  (∀ j oj, ops[j]? = some oj → j ≠ i → listed.getD j true = false → (∀ e ∈ oj.after, Region.binds md e = true → e.on ≠ i) → oi.apart ops oj = true) →
  i ∈ Region.ready md ops listed → YM P ops S m (mover i) j oi v a → up (mover i) j ≤ m → CertM P md ops Q S m mover l n (listed.setIfInBounds i true) (a.put oi.dst v) (up (mover i) j) → CertM P md ops Q S m mover l (n + 1) listed a j
theorem up_comm (x y : Bool) (j : Nat) : up x (up y j) = up y (up x j) := by cases x <;> cases y <;> rfl
theorem CertM.le {n : Nat} {listed : Array Bool} {a : Act} {j : Nat} (h : CertM P md ops Q S m mover l n listed a j) : j ≤ m := by
 cases h with
 | fin => exact Nat.le_refl _
 | take _ _ _ _ h => revert h; unfold up; split <;> omega
theorem CertM.front (hsel : ∀ (j : Nat) (o : Oper) cs b, ops[j]? = some o → o.op ≠ .select cs b)
 (hex : ∀ listed, Closed md ops listed → ∀ i j, i ∈ Region.ready md ops listed → j ∈ Region.ready md ops listed → mover i = true → mover j = true → i = j)
 (hlast : ∀ listed, Closed md ops listed → l ∈ Region.ready md ops listed → ∀ i, i < ops.size → i ≠ l → listed.getD i false = true)
 {n : Nat} {listed : Array Bool} {a : Act} {s : Nat} (h : CertM P md ops Q S m mover l n listed a s) :
 Closed md ops listed → ∀ j, j ∈ Region.ready md ops listed → (∀ i, i < ops.size → i ≠ l → listed.getD i false = true) ∨ ∃ k oj vj, n = k + 1 ∧ ops[j]? = some oj ∧ YM P ops S m (mover j) s oj vj a ∧ up (mover j) s ≤ m ∧ CertM P md ops Q S m mover l k (listed.setIfInBounds j true) (a.put oj.dst vj) (up (mover j) s) := by
 induction h with
 | fin hall _ => intro _ j _; exact .inl hall
 | @take n listed a s i oi v hi hfree hr hy hle hrest ih =>
  intro hcl j hj
  by_cases hji : j = i
  · subst hji; exact .inr ⟨n, oi, v, rfl, hi, hy, hle, hrest⟩
  · right
    have hun : ∀ x, x ∈ Region.ready md ops listed → listed.getD x false = true → False := by
     intro x hx ht
     have h0 := (mem_ready.1 hx).1
     rcases Nat.lt_or_ge x listed.size with h' | h'
     · simp [h'] at h0 ht; rw [h0] at ht; cases ht
     · simp [Array.getElem?_eq_none h'] at h0
    rcases ih (hcl.step hr) j (ready_mono hj hji) with hall | hex0
    · exfalso
      have hjl : j = l := by
       rcases Nat.decEq j l with h | h
       · exfalso
         have hjs : j < ops.size := by obtain ⟨_, o, ho, _⟩ := mem_ready.1 hj; exact (Array.getElem?_eq_some_iff.1 ho).1
         have := hall j hjs h
         rw [getD_set_ne false (Ne.symm hji)] at this
         exact hun j hj this
       · exact h
      subst hjl
      exact hun i hr (hlast listed hcl hj i (Array.getElem?_eq_some_iff.1 hi).1 (Ne.symm hji))
    obtain ⟨k, oj, vj, rfl, hoj, hyj, hlej, hc⟩ := hex0
    obtain ⟨hjun, oj', hoj', hall⟩ := mem_ready.1 hj
    obtain rfl : oj = oj' := Option.some.inj (hoj.symm.trans hoj')
    have hnot : ∀ e ∈ oj.after, Region.binds md e = true → e.on ≠ i := fun e he hb heq => by
     have h1 := hall e he hb
     have h0 := (mem_ready.1 hr).1
     rw [heq] at h1
     rcases Nat.lt_or_ge i listed.size with h' | h'
     · simp [h'] at h0 h1; rw [h0] at h1; cases h1
     · simp [Array.getElem?_eq_none h'] at h1
    obtain ⟨h1, h2, h3⟩ := Oper.apart_spec (hfree j oj hoj hji hjun hnot)
    have hnm : mover i = true → mover j = true → False := fun a b => hji (hex listed hcl j i hj hr b a)
    have hyj0 : YM P ops S m (mover j) s oj vj (a.put oi.dst v) := by
     cases hmj : mover j with
     | false => rw [hmj] at hyj; exact hyj
     | true =>
      cases hmi : mover i with
      | true => exact absurd hmj (fun h => hnm hmi h)
      | false => rw [hmj, hmi] at hyj; exact hyj
    have hy0 : YM P ops S m (mover i) (up (mover j) s) oi v a := by
     cases hmi : mover i with
     | false => rw [hmi] at hy; exact hy
     | true =>
      cases hmj : mover j with
      | true => exact absurd hmj (fun h => hnm hmi h)
      | false => rw [hmi] at hy; exact hy
    have hyj' : YM P ops S m (mover j) s oj vj a := hyj0.of_same (execOp_put oj (fun cs b => hsel j oj cs b hoj) a oi.dst v h1).symm (wanted_put oj a oi.dst v h1).symm
    have hy' : YM P ops S m (mover i) (up (mover j) s) oi v (a.put oj.dst vj) := hy0.of_same (execOp_put oi (fun cs b => hsel i oi cs b hi) a oj.dst vj h3) (wanted_put oi a oj.dst vj h3)
    have hfree' : ∀ k ok, ops[k]? = some ok → k ≠ i → (listed.setIfInBounds j true).getD k true = false →
     (∀ e ∈ ok.after, Region.binds md e = true → e.on ≠ i) → oi.apart ops ok = true := fun k ok hk hki hun hno => by
     refine hfree k ok hk hki ?_ hno
     by_cases hjk : j = k
     · subst hjk; exact hjun
     · rw [getD_set_ne true hjk] at hun; exact hun
    rw [up_comm] at hlej hc
    refine ⟨k + 1, oj, vj, rfl, hoj, hyj', ?_, .take hi hfree' (ready_mono hr (Ne.symm hji)) hy' hlej ?_⟩
    · revert hlej; unfold up; split <;> split <;> omega
    · rw [Array.setIfInBounds_comm _ _ hji, ← Act.put_comm a v vj h2]
      exact hc
theorem CertM.sound (hsel : ∀ (j : Nat) (o : Oper) cs b, ops[j]? = some o → o.op ≠ .select cs b)
 (hex : ∀ listed, Closed md ops listed → ∀ i j, i ∈ Region.ready md ops listed → j ∈ Region.ready md ops listed → mover i = true → mover j = true → i = j)
 (hlast : ∀ listed, Closed md ops listed → l ∈ Region.ready md ops listed → ∀ i, i < ops.size → i ≠ l → listed.getD i false = true) :
 ∀ (n : Nat) (listed : Array Bool) (a : Act) (s : Nat), CertM P md ops Q S m mover l n listed a s → Closed md ops listed → ∀ w, S s w → wpAny P md ops Q n listed a w := by
 intro n
 induction n with
 | zero =>
  intro listed a s h hcl w hS
  cases h with
  | fin _ hf => exact hf w hS
 | succ n ih =>
  intro listed a s h hcl w hS
  have hfr := h.front hsel hex hlast hcl
  have hle0 := h.le
  cases h with
  | fin _ hf => exact hf w hS
  | @take _ _ _ _ i oi v hi hfree hr hy hle hrest =>
   refine ⟨fun h0 => (by rw [h0] at hr; cases hr), fun j hj => ?_⟩
   by_cases hji : j = i
   · subst hji
     exact hy.wpOp hi hle0 hS fun w' hS' => ih _ _ _ hrest (hcl.step hj) w' hS'
   · rcases hfr j hj with hall | ⟨k, oj, vj, hk, hoj, hyj, hle', hc⟩
     · exfalso
       have un : ∀ x, x ∈ Region.ready md ops listed → x = l := by
        intro x hx
        rcases Nat.decEq x l with h | h
        · exfalso
          obtain ⟨h0, o, ho, _⟩ := mem_ready.1 hx
          have ht := hall x (Array.getElem?_eq_some_iff.1 ho).1 h
          rcases Nat.lt_or_ge x listed.size with h' | h'
          · simp [h'] at h0 ht; rw [h0] at ht; cases ht
          · simp [Array.getElem?_eq_none h'] at h0
        · exact h
       exact hji ((un j hj).trans (un i hr).symm)
     · obtain rfl : n = k := by omega
       exact hyj.wpOp hoj hle0 hS fun w' hS' => ih _ _ _ hc (hcl.step hj) w' hS'
def SeqM (P : Program) (ops : Array Oper) (S : Nat → World → Prop) (m : Nat) (mover : Nat → Bool) (fin : Act → Prop) : List Oper → Nat → Nat → Act → Prop
 | [], _, s, a => s = m ∧ fin a
 | o :: rest, k, s, a => ∃ v, YM P ops S m (mover k) s o v a ∧ up (mover k) s ≤ m ∧ SeqM P ops S m mover fin rest (k + 1) (up (mover k) s) (a.put o.dst v)
theorem closed_none (n : Nat) (hn : n = ops.size) : Closed md ops (Array.replicate n false) := by
 intro j o ho hj
 exfalso
 have hlt := (Array.getElem?_eq_some_iff.1 ho).1
 subst hn
 simp [hlt] at hj
variable {fin : Act → Prop} {o : Oper} {rest : List Oper} {a : Act} {v : Value} {k s : Nat}
end
section
variable {P : Program} {ops : Array Oper} {Q : Exit → Act → World → Prop} {md : Region.Mode}
def RStill (P : Program) (v : Value) (w : World) : Result Next → Prop
 | .ok (.value u) w' => u = v ∧ w' = w
 | .ok (.enter f args) w' => Calls P f args w' fun e w'' => e = .returned v ∧ w'' = w
 | _ => False
def YP (P : Program) (ops : Array Oper) (S : World → Prop) (o : Oper) (v : Value) (a : Act) : Prop :=
 (Region.wanted o (yielded ops a.tmps) = true ∧ ∀ w, S w → RStill P v w ((execOp a.eval o).run P w)) ∨
 (Region.wanted o (yielded ops a.tmps) = false ∧ v = undef)
def RTo (P : Program) (K : Value → World → Prop) : Result Next → Prop
 | .ok (.value u) w' => K u w'
 | .ok .skip w' => K undef w'
 | .ok (.enter f args) w' => Calls P f args w' fun e w'' => ∃ v, e = .returned v ∧ K v w''
 | _ => False
theorem RTo.mono {K K' : Value → World → Prop} {r : Result Next} (h : RTo P K r) (hk : ∀ v w, K v w → K' v w) : RTo P K' r := by
 cases r with
 | ok n w' =>
  cases n <;> simp only [RTo] at h ⊢
  case value u => exact hk _ _ h
  case skip => exact hk _ _ h
  case enter f args => exact Calls.mono h fun e w'' he => by obtain ⟨v, h1, h2⟩ := he; exact ⟨v, h1, hk _ _ h2⟩
 | halt x w' => exact h
theorem RTo.of_still {v : Value} {w : World} {r : Result Next} (h : RStill P v w r) {K : Value → World → Prop} (hk : K v w) : RTo P K r := by
 cases r with
 | ok n w' =>
  cases n <;> simp only [RStill, RTo] at h ⊢
  case value u => rw [h.1, h.2]; exact hk
  case enter f args => exact Calls.mono h fun e w'' he => by obtain ⟨h1, h2⟩ := he; subst h2; exact ⟨v, h1, hk⟩
 | halt x w' => exact absurd h (by simp [RStill])
theorem YP.of_same {S S' : World → Prop} {o : Oper} {v : Value} {a a' : Act} (hy : YP P ops S o v a) (hS : ∀ x, S' x → S x) (he : execOp a'.eval o = execOp a.eval o)
 (hw : Region.wanted o (yielded ops a'.tmps) = Region.wanted o (yielded ops a.tmps)) : YP P ops S' o v a' := by
 unfold YP at *
 rw [he, hw]
 rcases hy with ⟨h1, h2⟩ | h
 · exact .inl ⟨h1, fun w h => h2 w (hS w h)⟩
 · exact .inr h
theorem wpOp_to {i : Nat} {o : Oper} {a : Act} (hi : ops[i]? = some o) (hw : Region.wanted o (yielded ops a.tmps) = true)
 {K : Act → World → Prop} {w : World} (hr : RTo P (fun v w' => K (a.put o.dst v) w') ((execOp a.eval o).run P w)) : wpOp P ops Q i K a w := by
 unfold Go.wpOp
 simp only [hi, hw, if_true]
 refine .inl ?_
 unfold Oper.wp
 generalize (execOp a.eval o).run P w = r at *
 cases r with
 | ok n w' =>
  cases n <;> simp only [RTo] at hr <;> simp only [Oper.upon]
  case value u => exact hr
  case skip => exact hr
  case enter f args => exact Calls.mono hr fun e w'' he => by obtain ⟨v, rfl, hs⟩ := he; exact hs
 | halt x w' => exact absurd hr (by simp [RTo])
def CertD (P : Program) (md : Region.Mode) (ops : Array Oper) (Q : Exit → Act → World → Prop) : Nat → Array Bool → Act → (World → Prop) → Prop
 | 0, listed, a, S => Region.ready md ops listed = [] ∧ ∀ w, S w → Q .normal a w
 | n + 1, listed, a, S =>
  (∃ i oi v, ops[i]? = some oi ∧
   (∀ j oj, ops[j]? = some oj → j ≠ i → listed.getD j true = false → (∀ e ∈ oj.after, Region.binds md e = true → e.on ≠ i) → oi.apart ops oj = true) ∧
   i ∈ Region.ready md ops listed ∧ YP P ops S oi v a ∧ CertD P md ops Q n (listed.setIfInBounds i true) (a.put oi.dst v) S) ∨
  (∃ i oi, ops[i]? = some oi ∧ Region.ready md ops listed = [i] ∧ Region.wanted oi (yielded ops a.tmps) = true ∧
   ∀ w, S w → RTo P (fun v w' => ∃ S' : World → Prop, S' w' ∧ (∀ x, S' x → S x) ∧ CertD P md ops Q n (listed.setIfInBounds i true) (a.put oi.dst v) S') ((execOp a.eval oi).run P w))
def FrontD (P : Program) (md : Region.Mode) (ops : Array Oper) (Q : Exit → Act → World → Prop) (n : Nat) (listed : Array Bool) (a : Act) (S : World → Prop) (j : Nat) : Prop :=
  ∃ m oj, n = m + 1 ∧ ops[j]? = some oj ∧
    ((Region.wanted oj (yielded ops a.tmps) = true ∧ ∀ w, S w → RTo P (fun v w' => ∃ S' : World → Prop, S' w' ∧ (∀ x, S' x → S x) ∧ CertD P md ops Q m (listed.setIfInBounds j true) (a.put oj.dst v) S') ((execOp a.eval oj).run P w)) ∨
     (Region.wanted oj (yielded ops a.tmps) = false ∧ CertD P md ops Q m (listed.setIfInBounds j true) (a.put oj.dst undef) S))
theorem CertD.front (hsel : ∀ (j : Nat) (o : Oper) cs b, ops[j]? = some o → o.op ≠ .select cs b) :
 ∀ (n : Nat) (listed : Array Bool) (a : Act) (S : World → Prop), CertD P md ops Q n listed a S → ∀ j, j ∈ Region.ready md ops listed → FrontD P md ops Q n listed a S j := by
 intro n
 induction n with
 | zero => intro listed a S h j hj; rw [h.1] at hj; cases hj
 | succ n ih =>
  intro listed a S h j hj
  rcases h with ⟨i, oi, v, hi, hfree, hr, hy, hrest⟩ | ⟨i, oi, hi, hr, hw, hgo⟩
  · by_cases hji : j = i
    · subst hji
      refine ⟨n, oi, rfl, hi, ?_⟩
      rcases hy with ⟨h1, h2⟩ | ⟨h1, rfl⟩
      · exact .inl ⟨h1, fun w hS => RTo.of_still (h2 w hS) ⟨S, hS, fun _ h => h, hrest⟩⟩
      · exact .inr ⟨h1, hrest⟩
    · obtain ⟨m, oj, rfl, hoj, hc⟩ := ih _ _ _ hrest j (ready_mono hj hji)
      obtain ⟨hjun, oj', hoj', hall⟩ := mem_ready.1 hj
      obtain rfl : oj = oj' := Option.some.inj (hoj.symm.trans hoj')
      have hnot : ∀ e ∈ oj.after, Region.binds md e = true → e.on ≠ i := fun e he hb heq => by
       have h1 := hall e he hb
       have h0 := (mem_ready.1 hr).1
       rw [heq] at h1
       rcases Nat.lt_or_ge i listed.size with h' | h'
       · simp [h'] at h0 h1; rw [h0] at h1; cases h1
       · simp [Array.getElem?_eq_none h'] at h1
      obtain ⟨h1, h2, h3⟩ := Oper.apart_spec (hfree j oj hoj hji hjun hnot)
      have e1 := execOp_put oj (fun cs b => hsel j oj cs b hoj) a oi.dst v h1
      have e2 := wanted_put oj a oi.dst v h1
      have hfree' : ∀ k ok, ops[k]? = some ok → k ≠ i → (listed.setIfInBounds j true).getD k true = false →
       (∀ e ∈ ok.after, Region.binds md e = true → e.on ≠ i) → oi.apart ops ok = true := fun k ok hk hki hun hno => by
       refine hfree k ok hk hki ?_ hno
       by_cases hjk : j = k
       · subst hjk; exact hjun
       · rw [getD_set_ne true hjk] at hun; exact hun
      have back : ∀ (u : Value) (S' : World → Prop), (∀ x, S' x → S x) → CertD P md ops Q m ((listed.setIfInBounds i true).setIfInBounds j true) ((a.put oi.dst v).put oj.dst u) S' → CertD P md ops Q (m + 1) (listed.setIfInBounds j true) (a.put oj.dst u) S' := fun u S' hS hc => by
       refine .inl ⟨i, oi, v, hi, hfree', ready_mono hr (Ne.symm hji), hy.of_same hS (execOp_put oi (fun cs b => hsel i oi cs b hi) a oj.dst u h3) (wanted_put oi a oj.dst u h3), ?_⟩
       rw [Array.setIfInBounds_comm _ _ hji, ← Act.put_comm a v u h2]
       exact hc
      refine ⟨m + 1, oj, rfl, hoj, ?_⟩
      rcases hc with ⟨c1, c2⟩ | ⟨c1, c2⟩
      · refine .inl ⟨e2 ▸ c1, fun w hS => ?_⟩
        have := c2 w hS
        rw [e1] at this
        exact this.mono fun u w' hk => by obtain ⟨S', s1, s2, s3⟩ := hk; exact ⟨S', s1, s2, back u S' s2 s3⟩
      · exact .inr ⟨e2 ▸ c1, back undef S (fun _ h => h) c2⟩
  · rw [hr] at hj
    obtain rfl : j = i := by simpa using hj
    exact ⟨n, oi, rfl, hi, .inl ⟨hw, hgo⟩⟩
theorem CertD.sound (hsel : ∀ (j : Nat) (o : Oper) cs b, ops[j]? = some o → o.op ≠ .select cs b) :
 ∀ (n : Nat) (listed : Array Bool) (a : Act) (S : World → Prop), CertD P md ops Q n listed a S → ∀ w, S w → wpAny P md ops Q n listed a w := by
 intro n
 induction n with
 | zero => intro listed a S h w hS; exact ⟨h.1, h.2 w hS⟩
 | succ n ih =>
  intro listed a S h w hS
  refine ⟨fun hr => ?_, fun j hj => ?_⟩
  · exfalso
    rcases h with ⟨i, oi, v, hi, hfree, hr', hy, hrest⟩ | ⟨i, oi, hi, hr', hw, hgo⟩
    · rw [hr] at hr'; cases hr'
    · rw [hr] at hr'; cases hr'
  · obtain ⟨m, oj, hm, hoj, hc⟩ := CertD.front hsel _ _ _ _ h j hj
    obtain rfl : n = m := by omega
    rcases hc with ⟨c1, c2⟩ | ⟨c1, c2⟩
    · exact wpOp_to hoj c1 ((c2 w hS).mono fun v w' hk => by obtain ⟨S', s1, s2, s3⟩ := hk; exact ih _ _ _ s3 w' s1)
    · unfold Go.wpOp
      simp only [hoj, c1, Bool.false_eq_true, if_false]
      exact ih _ _ _ c2 w hS
def amask (md : Region.Mode) (o : Oper) : Nat := o.after.toList.foldl (fun m e => if Region.binds md e then Nat.lor m (Nat.shiftLeft 1 e.on) else m) 0
def rdy (am L i : Nat) : Bool := !Nat.testBit L i && Nat.beq (Nat.land am L) am
def onlyRdy (L i : Nat) : Nat → List Nat → Bool
 | _, [] => true
 | k, m :: t => (Nat.beq k i || !rdy m L k) && onlyRdy L i (k + 1) t
def lst (n L : Nat) : Array Bool := ((List.range n).map fun i => L.testBit i).toArray
theorem lst_getD (n L j : Nat) (d : Bool) (h : j < n) : (lst n L).getD j d = L.testBit j := by
 have hp : j < (lst n L).size := by simpa [lst] using h
 rw [Array.getD_eq_getD_getElem?, Array.getElem?_eq_getElem hp]
 simp [lst]
theorem lst_out (n L j : Nat) (d : Bool) (h : ¬ j < n) : (lst n L).getD j d = d := by
 rw [Array.getD_eq_getD_getElem?, Array.getElem?_eq_none (by simp [lst]; omega)]; rfl
theorem lst_set (n L i : Nat) : (lst n L).setIfInBounds i true = lst n (Nat.lor L (Nat.shiftLeft 1 i)) := by
 apply Array.ext
 · simp [lst]
 · intro j h1 h2
   rw [Array.getElem_setIfInBounds (by simpa using h1)]
   have e : Nat.testBit (Nat.lor L (Nat.shiftLeft 1 i)) j = (L.testBit j || decide (i = j)) := by
    show (L ||| (1 <<< i)).testBit j = _
    rw [Nat.testBit_or, Nat.one_shiftLeft, Nat.testBit_two_pow]
   simp only [lst, List.getElem_toArray, List.getElem_map, List.getElem_range, e]
   split
   · subst_vars; simp
   · rename_i hne; simp [hne]
theorem lst_zero (n : Nat) : lst n 0 = Array.replicate n false := by
 apply Array.ext
 · simp [lst]
 · intro j h1 h2; simp [lst]
theorem amask_bit (o : Oper) (j : Nat) : (amask md o).testBit j = true ↔ ∃ e ∈ o.after, Region.binds md e = true ∧ e.on = j := by
 have key : ∀ (l : List Edge) (m : Nat), (l.foldl (fun m e => if Region.binds md e then Nat.lor m (Nat.shiftLeft 1 e.on) else m) m).testBit j = true ↔ m.testBit j = true ∨ ∃ e ∈ l, Region.binds md e = true ∧ e.on = j := by
  intro l
  induction l with
  | nil => intro m; simp
  | cons e t ih =>
   intro m
   rw [List.foldl_cons, ih]
   by_cases hb : Region.binds md e = true
   · rw [if_pos hb]
     have e1 : Nat.testBit (Nat.lor m (Nat.shiftLeft 1 e.on)) j = (m.testBit j || decide (e.on = j)) := by
      show (m ||| (1 <<< e.on)).testBit j = _
      rw [Nat.testBit_or, Nat.one_shiftLeft, Nat.testBit_two_pow]
     rw [e1]
     simp only [Bool.or_eq_true, decide_eq_true_eq, List.mem_cons]
     constructor
     · rintro ((h | h) | ⟨x, hx, h⟩)
       · exact .inl h
       · exact .inr ⟨e, .inl rfl, hb, h⟩
       · exact .inr ⟨x, .inr hx, h⟩
     · rintro (h | ⟨x, rfl | hx, h1, h2⟩)
       · exact .inl (.inl h)
       · exact .inl (.inr h2)
       · exact .inr ⟨x, hx, h1, h2⟩
   · rw [if_neg hb]
     simp only [List.mem_cons]
     constructor
     · rintro (h | ⟨x, hx, h⟩)
       · exact .inl h
       · exact .inr ⟨x, .inr hx, h⟩
     · rintro (h | ⟨x, rfl | hx, h1, h2⟩)
       · exact .inl h
       · exact absurd h1 hb
       · exact .inr ⟨x, hx, h1, h2⟩
 unfold amask
 rw [key]
 simp
theorem rdy_iff {L i : Nat} {o : Oper} (hi : ops[i]? = some o) (hb : ∀ k, L.testBit k = true → k < ops.size) : rdy (amask md o) L i = true ↔ i ∈ Region.ready md ops (lst ops.size L) := by
 have hlt := (Array.getElem?_eq_some_iff.1 hi).1
 have hbeq : Nat.beq (Nat.land (amask md o) L) (amask md o) = true ↔ Nat.land (amask md o) L = amask md o := ⟨Nat.eq_of_beq_eq_true, fun h => by rw [h]; exact Nat.beq_refl _⟩
 unfold rdy
 rw [Bool.and_eq_true, hbeq, mem_ready, lst_getD _ _ _ _ hlt]
 constructor
 · rintro ⟨h1, h2⟩
   refine ⟨by simpa using h1, o, hi, fun e he hbd => ?_⟩
   have h3 : (amask md o).testBit e.on = true := (amask_bit o e.on).2 ⟨e, he, hbd, rfl⟩
   rw [← h2] at h3
   have h4 : (amask md o).testBit e.on = true ∧ L.testBit e.on = true := by
    have : ((amask md o) &&& L).testBit e.on = true := h3
    rw [Nat.testBit_and, Bool.and_eq_true] at this; exact this
   rw [lst_getD _ _ _ _ (hb _ h4.2)]; exact h4.2
 · rintro ⟨h1, o', ho', hall⟩
   obtain rfl : o = o' := Option.some.inj (hi.symm.trans ho')
   refine ⟨by simpa using h1, Nat.eq_of_testBit_eq fun k => ?_⟩
   show ((amask md o) &&& L).testBit k = _
   rw [Nat.testBit_and]
   cases hk : (amask md o).testBit k with
   | false => rfl
   | true =>
    obtain ⟨e, he, hbd, rfl⟩ := (amask_bit o k).1 hk
    have h3 := hall e he hbd
    by_cases hl : e.on < ops.size
    · rw [lst_getD _ _ _ _ hl] at h3; rw [h3]; rfl
    · rw [lst_out _ _ _ _ hl] at h3; cases h3
theorem onlyRdy_spec {L i : Nat} : ∀ (ms : List Nat) (k : Nat), onlyRdy L i k ms = true → ∀ j m, ms[j]? = some m → k + j = i ∨ rdy m L (k + j) = false
 | [], k, _, j, m, h => by simp at h
 | m0 :: t, k, h, j, m, hj => by
  simp only [onlyRdy, Bool.and_eq_true, Bool.or_eq_true, Bool.not_eq_true'] at h
  cases j with
  | zero =>
   obtain rfl : m0 = m := by simpa using hj
   rcases h.1 with h1 | h1
   · exact .inl (Nat.eq_of_beq_eq_true h1)
   · exact .inr h1
  | succ j =>
   rcases onlyRdy_spec t (k + 1) h.2 j m (by simpa using hj) with h1 | h1
   · exact .inl (by omega)
   · exact .inr (by rw [show k + (j + 1) = k + 1 + j by omega]; exact h1)
theorem ready_range {listed : Array Bool} {j : Nat} (h : j ∈ Region.ready md ops listed) : j < ops.size := by
 obtain ⟨_, o, ho, _⟩ := mem_ready.1 h; exact (Array.getElem?_eq_some_iff.1 ho).1
def SeqD (P : Program) (ops : Array Oper) (Q : Exit → Act → World → Prop) : List (Nat × Bool) → Act → (World → Prop) → Prop
 | [], a, S => ∀ w, S w → Q .normal a w
 | (i, false) :: rest, a, S => ∃ oi v, ops[i]? = some oi ∧ YP P ops S oi v a ∧ SeqD P ops Q rest (a.put oi.dst v) S
 | (i, true) :: rest, a, S => ∃ oi, ops[i]? = some oi ∧ Region.wanted oi (yielded ops a.tmps) = true ∧
  ∀ w, S w → RTo P (fun v w' => ∃ S' : World → Prop, S' w' ∧ (∀ x, S' x → S x) ∧ SeqD P ops Q rest (a.put oi.dst v) S') ((execOp a.eval oi).run P w)
theorem apart_symm {x y : Oper} (h : x.apart ops y = true) : y.apart ops x = true := by
 unfold Oper.apart at *
 cases hx : x.dst <;> cases hy : y.dst <;> simp only [hx, hy] at h ⊢ <;> simp_all
 exact fun e => h.1.2 e.symm
variable {S : World → Prop} {o : Oper} {rest : List (Nat × Bool)} {a : Act} {v : Value} {i : Nat}
end
section
variable {P : Program} {ops : Array Oper} {Q : Exit → Act → World → Prop}
def SeqT (P : Program) (ops : Array Oper) (Q : Exit → Act → World → Prop) : List Oper → Act → (World → Prop) → Prop
 | [], a, S => ∀ w, S w → Q .normal a w
 | o :: rest, a, S =>
  (Region.wanted o (yielded ops a.tmps) = true ∧ ∀ w, S w → RTo P (fun v w' => ∃ S' : World → Prop, S' w' ∧ SeqT P ops Q rest (a.put o.dst v) S') ((execOp a.eval o).run P w)) ∨
  (Region.wanted o (yielded ops a.tmps) = false ∧ SeqT P ops Q rest (a.put o.dst undef) S)
theorem SeqT.sound : ∀ (l : List Oper) (a : Act) (S : World → Prop), SeqT P ops Q l a S → ∀ w, S w → wpList P ops Q l a w
 | [], a, S, h, w, hS => h w hS
 | o :: rest, a, S, h, w, hS => by
  unfold wpList
  rcases h with ⟨h1, h2⟩ | ⟨h1, h2⟩
  · rw [if_pos h1]
    refine .inl ?_
    have hr := h2 w hS
    unfold Oper.wp
    generalize (execOp a.eval o).run P w = r at *
    cases r with
    | ok n w' =>
     cases n <;> simp only [RTo] at hr <;> simp only [Oper.upon]
     case value u => obtain ⟨S', s1, s2⟩ := hr; exact SeqT.sound rest _ S' s2 _ s1
     case skip => obtain ⟨S', s1, s2⟩ := hr; exact SeqT.sound rest _ S' s2 _ s1
     case enter f args => exact Calls.mono hr fun e w'' he => by obtain ⟨v, rfl, S', s1, s2⟩ := he; exact SeqT.sound rest _ S' s2 _ s1
    | halt x w' => exact absurd hr (by simp [RTo])
  · rw [if_neg (by rw [h1]; exact Bool.false_ne_true)]
    exact SeqT.sound rest _ S h2 w hS
variable {S : World → Prop} {o : Oper} {rest : List Oper} {a : Act} {v : Value}
end
section
variable {P : Program} {ops : Array Oper} {Q : Exit → Act → World → Prop} {md : Region.Mode}
def upM (ms : List Nat) (L : Nat) : Nat → List Nat → Nat
 | _, [] => L
 | k, m :: t => upM ms (if Nat.testBit L k then Nat.lor L m else L) (k + 1) t
def ancs (ms : List Nat) : Nat → Nat → Nat
 | 0, L => L
 | n + 1, L => ancs ms n (upM ms L 0 ms)
theorem upM_bits (ms : List Nat) (G : Nat → Prop) : ∀ (t : List Nat) (k L : Nat), (∀ i m, t[i]? = some m → G (k + i) → ∀ j, m.testBit j = true → G j) → (∀ j, L.testBit j = true → G j) → ∀ j, (upM ms L k t).testBit j = true → G j
 | [], _, _, _, hL, j, h => hL j h
 | m :: t, k, L, ht, hL, j, h => by
  unfold upM at h
  refine upM_bits ms G t (k + 1) _ (fun i m' hi hg => ht (i + 1) m' (by simpa using hi) (by rw [show k + (i + 1) = k + 1 + i by omega]; exact hg)) (fun j hj => ?_) j h
  split at hj
  · rename_i hk
    have e : Nat.testBit (Nat.lor L m) j = (L.testBit j || m.testBit j) := by
     show (L ||| m).testBit j = _
     rw [Nat.testBit_or]
    rw [e, Bool.or_eq_true] at hj
    rcases hj with hj | hj
    · exact hL j hj
    · exact ht 0 m (by simp) (hL _ hk) j hj
  · exact hL j hj
theorem ancs_bits (ms : List Nat) (G : Nat → Prop) (hm : ∀ i m, ms[i]? = some m → G i → ∀ j, m.testBit j = true → G j) : ∀ (n L : Nat), (∀ j, L.testBit j = true → G j) → ∀ j, (ancs ms n L).testBit j = true → G j
 | 0, _, hL, j, h => hL j h
 | n + 1, L, hL, j, h => ancs_bits ms G hm n _ (fun j hj => upM_bits ms G ms 0 L (fun i m hi hg => hm i m hi (by rw [Nat.zero_add] at hg; exact hg)) hL j hj) j h
inductive OT where
 | nil
 | one (i k : Nat) (rest : OT)
 | alt (i k : Nat) (rest more : OT)
 | stop
def OT.all : OT → List (Nat × Nat)
 | .nil => []
 | .stop => []
 | .one i k r => (i, k) :: r.all
 | .alt i k r m => (i, k) :: (r.all ++ m.all)
def OT.heads : OT → List Nat
 | .alt i _ _ m => i :: m.heads
 | _ => []
def barOk (ms : List Nat) (order : List (Nat × Nat)) : Bool :=
 order.all fun x => !Nat.beq x.2 3 || order.all fun y => !Nat.beq y.2 0 || Nat.testBit (ancs ms ms.length (ms.getD x.1 0)) y.1 || Nat.testBit (ancs ms ms.length (ms.getD y.1 0)) x.1
theorem anc_listed {listed : Array Bool} (hcl : Closed md ops listed) {j : Nat} (hj : j ∈ Region.ready md ops listed) {k n : Nat} (h : (ancs (ops.toList.map (amask md)) n ((ops.toList.map (amask md)).getD j 0)).testBit k = true) : listed.getD k false = true := by
 refine ancs_bits (ops.toList.map (amask md)) (fun k => listed.getD k false = true) ?_ n _ ?_ k h
 · intro i m hi hg j hj
   rw [List.getElem?_map] at hi
   cases ho : ops.toList[i]? with
   | none => rw [ho] at hi; cases hi
   | some o =>
    rw [ho] at hi
    obtain rfl : amask md o = m := by simpa using hi
    obtain ⟨e, he, hb, rfl⟩ := (amask_bit o j).1 hj
    exact hcl i o (by simpa using ho) hg e he hb
 · intro k hk
   obtain ⟨_, o, ho, hall⟩ := mem_ready.1 hj
   have hg : (ops.toList.map (amask md)).getD j 0 = amask md o := by
    rw [List.getD_eq_getElem?_getD, List.getElem?_map]
    have : ops.toList[j]? = some o := by simpa using ho
    rw [this]; rfl
   rw [hg] at hk
   obtain ⟨e, he, hb, rfl⟩ := (amask_bit o k).1 hk
   exact hall e he hb
def Part (md : Region.Mode) (ops : Array Oper) (dep bar : Nat → Bool) : Prop :=
 ∀ i j, dep i = true → bar j = true → ∀ listed, Closed md ops listed → i ∈ Region.ready md ops listed → j ∈ Region.ready md ops listed → False
def CertE (P : Program) (md : Region.Mode) (ops : Array Oper) (dep bar : Nat → Bool) (Q : Exit → Act → World → Prop) : Nat → Array Bool → Act → (World → Prop) → Prop
 | 0, listed, a, S => Region.ready md ops listed = [] ∧ ∀ w, S w → Q .normal a w
 | n + 1, listed, a, S =>
  (∃ i oi v, ops[i]? = some oi ∧
   (∀ j oj, ops[j]? = some oj → j ≠ i → listed.getD j true = false → (∀ e ∈ oj.after, Region.binds md e = true → e.on ≠ i) → oi.apart ops oj = true) ∧
   i ∈ Region.ready md ops listed ∧ (YP P ops S oi v a ∧ dep i = true ∨ YP P ops (fun _ => True) oi v a) ∧ CertE P md ops dep bar Q n (listed.setIfInBounds i true) (a.put oi.dst v) S) ∨
  (Region.ready md ops listed ≠ [] ∧ ∀ i, i ∈ Region.ready md ops listed → ∃ oi, ops[i]? = some oi ∧ Region.wanted oi (yielded ops a.tmps) = true ∧
   ∀ w, S w → RTo P (fun v w' => ∃ S' : World → Prop, S' w' ∧ ((∀ x, S' x → S x) ∨ bar i = true) ∧ CertE P md ops dep bar Q n (listed.setIfInBounds i true) (a.put oi.dst v) S') ((execOp a.eval oi).run P w))
def FrontE (P : Program) (md : Region.Mode) (ops : Array Oper) (dep bar : Nat → Bool) (Q : Exit → Act → World → Prop) (n : Nat) (listed : Array Bool) (a : Act) (S : World → Prop) (j : Nat) : Prop :=
  ∃ m oj, n = m + 1 ∧ ops[j]? = some oj ∧
    ((Region.wanted oj (yielded ops a.tmps) = true ∧ ∀ w, S w → RTo P (fun v w' => ∃ S' : World → Prop, S' w' ∧ ((∀ x, S' x → S x) ∨ bar j = true) ∧ CertE P md ops dep bar Q m (listed.setIfInBounds j true) (a.put oj.dst v) S') ((execOp a.eval oj).run P w)) ∨
     (Region.wanted oj (yielded ops a.tmps) = false ∧ CertE P md ops dep bar Q m (listed.setIfInBounds j true) (a.put oj.dst undef) S))
variable {dep bar : Nat → Bool}
theorem CertE.front (hsel : ∀ (j : Nat) (o : Oper) cs b, ops[j]? = some o → o.op ≠ .select cs b) (hpart : Part md ops dep bar) :
 ∀ (n : Nat) (listed : Array Bool) (a : Act) (S : World → Prop), Closed md ops listed → CertE P md ops dep bar Q n listed a S → ∀ j, j ∈ Region.ready md ops listed → FrontE P md ops dep bar Q n listed a S j := by
 intro n
 induction n with
 | zero => intro listed a S _ h j hj; rw [h.1] at hj; cases hj
 | succ n ih =>
  intro listed a S hcl h j hj
  rcases h with ⟨i, oi, v, hi, hfree, hr, hy, hrest⟩ | ⟨_, hgo⟩
  · by_cases hji : j = i
    · subst hji
      refine ⟨n, oi, rfl, hi, ?_⟩
      have hy' : YP P ops S oi v a := by
       rcases hy with h | h
       · exact h.1
       · exact h.of_same (fun _ _ => trivial) rfl rfl
      rcases hy' with ⟨h1, h2⟩ | ⟨h1, rfl⟩
      · exact .inl ⟨h1, fun w hS => RTo.of_still (h2 w hS) ⟨S, hS, .inl fun _ h => h, hrest⟩⟩
      · exact .inr ⟨h1, hrest⟩
    · obtain ⟨m, oj, rfl, hoj, hc⟩ := ih _ _ _ (hcl.step hr) hrest j (ready_mono hj hji)
      obtain ⟨hjun, oj', hoj', hall⟩ := mem_ready.1 hj
      obtain rfl : oj = oj' := Option.some.inj (hoj.symm.trans hoj')
      have hnot : ∀ e ∈ oj.after, Region.binds md e = true → e.on ≠ i := fun e he hb heq => by
       have h1 := hall e he hb
       have h0 := (mem_ready.1 hr).1
       rw [heq] at h1
       rcases Nat.lt_or_ge i listed.size with h' | h'
       · simp [h'] at h0 h1; rw [h0] at h1; cases h1
       · simp [Array.getElem?_eq_none h'] at h1
      obtain ⟨h1, h2, h3⟩ := Oper.apart_spec (hfree j oj hoj hji hjun hnot)
      have e1 := execOp_put oj (fun cs b => hsel j oj cs b hoj) a oi.dst v h1
      have e2 := wanted_put oj a oi.dst v h1
      have hfree' : ∀ k ok, ops[k]? = some ok → k ≠ i → (listed.setIfInBounds j true).getD k true = false →
       (∀ e ∈ ok.after, Region.binds md e = true → e.on ≠ i) → oi.apart ops ok = true := fun k ok hk hki hun hno => by
       refine hfree k ok hk hki ?_ hno
       by_cases hjk : j = k
       · subst hjk; exact hjun
       · rw [getD_set_ne true hjk] at hun; exact hun
      have e3 := fun u => execOp_put oi (fun cs b => hsel i oi cs b hi) a oj.dst u h3
      have e4 := fun u => wanted_put oi a oj.dst u h3
      have back : ∀ (u : Value) (S' : World → Prop), ((∀ x, S' x → S x) ∨ bar j = true) → CertE P md ops dep bar Q m ((listed.setIfInBounds i true).setIfInBounds j true) ((a.put oi.dst v).put oj.dst u) S' → CertE P md ops dep bar Q (m + 1) (listed.setIfInBounds j true) (a.put oj.dst u) S' := fun u S' hS hc => by
       refine .inl ⟨i, oi, v, hi, hfree', ready_mono hr (Ne.symm hji), ?_, ?_⟩
       · rcases hy with ⟨hy, hd⟩ | hy
         · rcases hS with hS | hb
           · exact .inl ⟨hy.of_same hS (e3 u) (e4 u), hd⟩
           · exact absurd (hpart i j hd hb listed hcl hr hj) id
         · exact .inr (hy.of_same (fun _ h => h) (e3 u) (e4 u))
       · rw [Array.setIfInBounds_comm _ _ hji, ← Act.put_comm a v u h2]
         exact hc
      refine ⟨m + 1, oj, rfl, hoj, ?_⟩
      rcases hc with ⟨c1, c2⟩ | ⟨c1, c2⟩
      · refine .inl ⟨e2 ▸ c1, fun w hS => ?_⟩
        have := c2 w hS
        rw [e1] at this
        exact this.mono fun u w' hk => by obtain ⟨S', s1, s2, s3⟩ := hk; exact ⟨S', s1, s2, back u S' s2 s3⟩
      · exact .inr ⟨e2 ▸ c1, back undef S (.inl fun _ h => h) c2⟩
  · obtain ⟨oi, hi, hw, hg⟩ := hgo j hj
    exact ⟨n, oi, rfl, hi, .inl ⟨hw, hg⟩⟩
theorem CertE.sound (hsel : ∀ (j : Nat) (o : Oper) cs b, ops[j]? = some o → o.op ≠ .select cs b) (hpart : Part md ops dep bar) :
 ∀ (n : Nat) (listed : Array Bool) (a : Act) (S : World → Prop), Closed md ops listed → CertE P md ops dep bar Q n listed a S → ∀ w, S w → wpAny P md ops Q n listed a w := by
 intro n
 induction n with
 | zero => intro listed a S _ h w hS; exact ⟨h.1, h.2 w hS⟩
 | succ n ih =>
  intro listed a S hcl h w hS
  refine ⟨fun hr => ?_, fun j hj => ?_⟩
  · exfalso
    rcases h with ⟨i, oi, v, hi, hfree, hr', hy, hrest⟩ | ⟨hne, hgo⟩
    · rw [hr] at hr'; cases hr'
    · exact hne hr
  · obtain ⟨m, oj, hm, hoj, hc⟩ := CertE.front hsel hpart _ _ _ _ hcl h j hj
    obtain rfl : n = m := by omega
    have hcl' := hcl.step hj
    rcases hc with ⟨c1, c2⟩ | ⟨c1, c2⟩
    · exact wpOp_to hoj c1 ((c2 w hS).mono fun v w' hk => by obtain ⟨S', s1, s2, s3⟩ := hk; exact ih _ _ _ hcl' s3 w' s1)
    · unfold Go.wpOp
      simp only [hoj, c1, Bool.false_eq_true, if_false]
      exact ih _ _ _ hcl' c2 w hS
def SeqE (P : Program) (ops : Array Oper) (Q : Exit → Act → World → Prop) : OT → Act → (World → Prop) → Prop
 | .nil, a, S => ∀ w, S w → Q .normal a w
 | .stop, _, _ => True
 | .one i k rest, a, S => ∃ oi v, ops[i]? = some oi ∧ (YP P ops S oi v a ∧ k = 0 ∨ YP P ops (fun _ => True) oi v a) ∧ SeqE P ops Q rest (a.put oi.dst v) S
 | .alt i k rest more, a, S => (∃ oi, ops[i]? = some oi ∧ Region.wanted oi (yielded ops a.tmps) = true ∧
  ∀ w, S w → RTo P (fun v w' => ∃ S' : World → Prop, S' w' ∧ ((∀ x, S' x → S x) ∨ k = 3) ∧ SeqE P ops Q rest (a.put oi.dst v) S') ((execOp a.eval oi).run P w)) ∧ SeqE P ops Q more a S
def rdySub (L : Nat) (hs : List Nat) : Nat → List Nat → Bool
 | _, [] => true
 | k, m :: t => (hs.any (Nat.beq k) || !rdy m L k) && rdySub L hs (k + 1) t
def ordE (ms : List Nat) : Nat → Bool → OT → Nat → Bool
 | n, true, .nil, L => Nat.beq n 0 && onlyRdy L ms.length 0 ms
 | _, false, .nil, _ => false
 | _, b, .stop, _ => !b
 | n, true, .one i k rest, L => (match ms[i]? with | some m => rdy m L i | none => false) && Nat.ble k 1 && Nat.ble 1 n && ordE ms (n - 1) true rest (Nat.lor L (Nat.shiftLeft 1 i))
 | _, false, .one _ _ _, _ => false
 | n, b, .alt i k rest more, L => (match ms[i]? with | some m => rdy m L i | none => false) && Nat.ble 1 n && (!b || rdySub L (i :: more.heads) 0 ms) && ordE ms (n - 1) true rest (Nat.lor L (Nat.shiftLeft 1 i)) && ordE ms n false more L
theorem rdySub_spec {L : Nat} {hs : List Nat} : ∀ (ms : List Nat) (k : Nat), rdySub L hs k ms = true → ∀ j m, ms[j]? = some m → k + j ∈ hs ∨ rdy m L (k + j) = false
 | [], k, _, j, m, h => by simp at h
 | m0 :: t, k, h, j, m, hj => by
  simp only [rdySub, Bool.and_eq_true, Bool.or_eq_true, Bool.not_eq_true'] at h
  cases j with
  | zero =>
   obtain rfl : m0 = m := by simpa using hj
   rcases h.1 with h1 | h1
   · left
     obtain ⟨x, hx, hb⟩ := List.any_eq_true.1 h1
     rw [Nat.add_zero, Nat.eq_of_beq_eq_true hb]; exact hx
   · exact .inr h1
  | succ j =>
   rcases rdySub_spec t (k + 1) h.2 j m (by simpa using hj) with h1 | h1
   · exact .inl (by rw [show k + (j + 1) = k + 1 + j by omega]; exact h1)
   · exact .inr (by rw [show k + (j + 1) = k + 1 + j by omega]; exact h1)
theorem certE_of_seq (hok : fastOk md ops = true) : ∀ (ot : OT) (n L : Nat) (a : Act) (S : World → Prop), (∀ i, (i, 0) ∈ ot.all → dep i = true) → (∀ i, (i, 3) ∈ ot.all → bar i = true) → (∀ k, L.testBit k = true → k < ops.size) → SeqE P ops Q ot a S →
 (ordE (ops.toList.map (amask md)) n true ot L = true → CertE P md ops dep bar Q n (lst ops.size L) a S) ∧
 (ordE (ops.toList.map (amask md)) n false ot L = true → ∃ m, (ot.heads ≠ [] → n = m + 1) ∧ ∀ i ∈ ot.heads, i ∈ Region.ready md ops (lst ops.size L) ∧ ∃ oi, ops[i]? = some oi ∧ Region.wanted oi (yielded ops a.tmps) = true ∧
  ∀ w, S w → RTo P (fun v w' => ∃ S' : World → Prop, S' w' ∧ ((∀ x, S' x → S x) ∨ bar i = true) ∧ CertE P md ops dep bar Q m ((lst ops.size L).setIfInBounds i true) (a.put oi.dst v) S') ((execOp a.eval oi).run P w)) := by
 have get : ∀ (j : Nat) (o : Oper), ops[j]? = some o → (ops.toList.map (amask md))[j]? = some (amask md o) := by
  intro j o ho
  rw [List.getElem?_map]
  have : ops.toList[j]? = some o := by simpa using ho
  rw [this]; rfl
 have getR : ∀ (j : Nat) (o : Oper), ops[j]? = some o → (ops.toList.map (orow md ops))[j]? = some (orow md ops o) := by
  intro j o ho
  rw [List.getElem?_map]
  have : ops.toList[j]? = some o := by simpa using ho
  rw [this]; rfl
 have hpairs : ∀ (i j : Nat) (oi oj : Oper), i < j → ops[i]? = some oi → ops[j]? = some oj → (∃ e ∈ oj.after, Region.binds md e = true ∧ e.on = i) ∨ oi.apart ops oj = true := by
  intro i j oi oj hij hi hj
  unfold fastOk at hok
  rw [Bool.and_eq_true] at hok
  have hs := (pairsOk_spec _ 0 hok.2 i _ (getR i oi hi)).2 j _ hij (getR j oj hj)
  rcases hs with h | h
  · left
    have hm : (0 + i) ∈ (orow md ops oj).2.2 := by simpa using h
    obtain ⟨e, he, hek⟩ := List.mem_map.1 hm
    rw [List.mem_filter] at he
    exact ⟨e, by simpa using he.1, he.2, by omega⟩
  · exact .inr (apartR_spec h)
 have step : ∀ i L, (∀ k, L.testBit k = true → k < ops.size) → (match (ops.toList.map (amask md))[i]? with | some m => rdy m L i | none => false) = true → ∀ oi, ops[i]? = some oi → i ∈ Region.ready md ops (lst ops.size L) ∧ (∀ k, (Nat.lor L (Nat.shiftLeft 1 i)).testBit k = true → k < ops.size) := by
  intro i L hL ho1 oi hi
  rw [get i oi hi] at ho1
  refine ⟨(rdy_iff hi hL).1 ho1, fun k hk => ?_⟩
  have e : Nat.testBit (Nat.lor L (Nat.shiftLeft 1 i)) k = (L.testBit k || decide (i = k)) := by
   show (L ||| (1 <<< i)).testBit k = _
   rw [Nat.testBit_or, Nat.one_shiftLeft, Nat.testBit_two_pow]
  rw [e, Bool.or_eq_true, decide_eq_true_eq] at hk
  rcases hk with hk | rfl
  · exact hL k hk
  · exact (Array.getElem?_eq_some_iff.1 hi).1
 have free : ∀ i L oi, ops[i]? = some oi → i ∈ Region.ready md ops (lst ops.size L) → ∀ j oj, ops[j]? = some oj → j ≠ i → (lst ops.size L).getD j true = false → (∀ e ∈ oj.after, Region.binds md e = true → e.on ≠ i) → oi.apart ops oj = true := by
  intro i L oi hi s1 j oj hj hji hun hno
  rcases Nat.lt_or_ge i j with hlt | hge
  · rcases hpairs i j oi oj hlt hi hj with ⟨e, he, hb, heq⟩ | h
    · exact absurd heq (hno e he hb)
    · exact h
  · have hlt : j < i := by omega
    rcases hpairs j i oj oi hlt hj hi with ⟨e, he, hb, heq⟩ | h
    · exfalso
      obtain ⟨_, o', ho', hall⟩ := mem_ready.1 s1
      obtain rfl : oi = o' := Option.some.inj (hi.symm.trans ho')
      have h1 := hall e he hb
      rw [heq, lst_getD _ _ _ _ (Array.getElem?_eq_some_iff.1 hj).1] at h1
      rw [lst_getD _ _ _ _ (Array.getElem?_eq_some_iff.1 hj).1, h1] at hun
      cases hun
    · exact apart_symm h
 intro ot
 induction ot with
 | nil =>
  intro n L a S _ _ hL h
  refine ⟨fun ho => ?_, fun ho => by simp [ordE] at ho⟩
  simp only [ordE, Bool.and_eq_true] at ho
  obtain rfl := Nat.eq_of_beq_eq_true ho.1
  refine ⟨?_, h⟩
  cases hr : Region.ready md ops (lst ops.size L) with
  | nil => rfl
  | cons j t =>
   exfalso
   have hj : j ∈ Region.ready md ops (lst ops.size L) := by rw [hr]; exact List.mem_cons_self
   have hjl := ready_range hj
   obtain ⟨o, hoj⟩ : ∃ o, ops[j]? = some o := ⟨_, Array.getElem?_eq_getElem hjl⟩
   have := onlyRdy_spec _ 0 ho.2 j _ (get j o hoj)
   rcases this with h1 | h1
   · simp at h1; omega
   · rw [Nat.zero_add] at h1
     rw [(rdy_iff hoj hL).2 hj] at h1; cases h1
 | stop =>
  intro n L a S _ _ hL h
  exact ⟨fun ho => by simp [ordE] at ho, fun _ => ⟨0, fun hn => absurd rfl hn, fun i hi => by cases hi⟩⟩
 | one i k rest ih =>
  intro n L a S hd hb hL h
  refine ⟨fun ho => ?_, fun ho => by simp [ordE] at ho⟩
  simp only [ordE, Bool.and_eq_true] at ho
  obtain ⟨⟨⟨ho1, ho2⟩, hn⟩, ho3⟩ := ho
  have hn := Nat.le_of_ble_eq_true hn
  obtain ⟨oi, v, hi, hy, hrest⟩ := h
  obtain ⟨s1, s2⟩ := step i L hL ho1 oi hi
  obtain ⟨m, rfl⟩ : ∃ m, n = m + 1 := ⟨n - 1, by omega⟩
  refine .inl ⟨i, oi, v, hi, free i L oi hi s1, s1, ?_, ?_⟩
  · rcases hy with ⟨hy, rfl⟩ | hy
    · exact .inl ⟨hy, hd i (List.mem_cons_self ..)⟩
    · exact .inr hy
  · rw [lst_set]
    exact (ih m _ _ _ (fun i hi => hd i (List.mem_cons_of_mem _ hi)) (fun i hi => hb i (List.mem_cons_of_mem _ hi)) s2 hrest).1 ho3
 | alt i k rest more ih1 ih2 =>
  intro n L a S hd hb hL h
  have hd1 : ∀ i, (i, 0) ∈ rest.all → dep i = true := fun i hi => hd i (List.mem_cons_of_mem _ (List.mem_append.2 (.inl hi)))
  have hd2 : ∀ i, (i, 0) ∈ more.all → dep i = true := fun i hi => hd i (List.mem_cons_of_mem _ (List.mem_append.2 (.inr hi)))
  have hb1 : ∀ i, (i, 3) ∈ rest.all → bar i = true := fun i hi => hb i (List.mem_cons_of_mem _ (List.mem_append.2 (.inl hi)))
  have hb2 : ∀ i, (i, 3) ∈ more.all → bar i = true := fun i hi => hb i (List.mem_cons_of_mem _ (List.mem_append.2 (.inr hi)))
  obtain ⟨⟨oi, hi, hw, hgo⟩, hmore⟩ := h
  have key : ∀ b, ordE (ops.toList.map (amask md)) n b (.alt i k rest more) L = true → ∃ m, n = m + 1 ∧ ∀ j ∈ OT.heads (.alt i k rest more), j ∈ Region.ready md ops (lst ops.size L) ∧ ∃ oi, ops[j]? = some oi ∧ Region.wanted oi (yielded ops a.tmps) = true ∧
   ∀ w, S w → RTo P (fun v w' => ∃ S' : World → Prop, S' w' ∧ ((∀ x, S' x → S x) ∨ bar j = true) ∧ CertE P md ops dep bar Q m ((lst ops.size L).setIfInBounds j true) (a.put oi.dst v) S') ((execOp a.eval oi).run P w) := by
   intro b ho
   simp only [ordE, Bool.and_eq_true] at ho
   obtain ⟨⟨⟨⟨ho1, hn⟩, _⟩, ho3⟩, ho4⟩ := ho
   have hn := Nat.le_of_ble_eq_true hn
   obtain ⟨m, rfl⟩ : ∃ m, n = m + 1 := ⟨n - 1, by omega⟩
   obtain ⟨s1, s2⟩ := step i L hL ho1 oi hi
   refine ⟨m, rfl, fun j hj => ?_⟩
   rcases List.mem_cons.1 hj with rfl | hj
   · refine ⟨s1, oi, hi, hw, fun w hS => (hgo w hS).mono fun v w' hk => ?_⟩
     obtain ⟨S', t1, t2, t3⟩ := hk
     exact ⟨S', t1, t2.imp id (fun e => by subst e; exact hb j (List.mem_cons_self ..)), by rw [lst_set]; exact (ih1 m _ _ _ hd1 hb1 s2 t3).1 ho3⟩
   · obtain ⟨m', e, hall⟩ := (ih2 (m + 1) L a S hd2 hb2 hL hmore).2 ho4
     obtain rfl : m = m' := by have := e (fun h0 => by rw [h0] at hj; cases hj); omega
     exact hall j hj
  refine ⟨fun ho => ?_, fun ho => ?_⟩
  · obtain ⟨m, rfl, hall⟩ := key true ho
    simp only [ordE, Bool.and_eq_true, Bool.not_true, Bool.false_or] at ho
    obtain ⟨⟨⟨⟨ho1, _⟩, hsub⟩, _⟩, _⟩ := ho
    refine .inr ⟨fun h0 => ?_, fun j hj => ?_⟩
    · have := (step i L hL ho1 oi hi).1; rw [h0] at this; cases this
    · have hjl := ready_range hj
      obtain ⟨o, hoj⟩ : ∃ o, ops[j]? = some o := ⟨_, Array.getElem?_eq_getElem hjl⟩
      rcases rdySub_spec _ 0 hsub j _ (get j o hoj) with h1 | h1
      · rw [Nat.zero_add] at h1
        exact (hall j h1).2
      · rw [Nat.zero_add] at h1
        rw [(rdy_iff hoj hL).2 hj] at h1; cases h1
  · obtain ⟨m, e, hall⟩ := key false ho
    exact ⟨m, fun _ => e, hall⟩
def ordEOk (md : Region.Mode) (ops : Array Oper) (ot : OT) : Bool :=
 ordE (ops.toList.map (amask md)) ops.size true ot 0 && barOk (ops.toList.map (amask md)) ot.all
theorem wp_region_seqE {id : Nat} {a : Act} {w : World} (S : World → Prop) (ot : OT) (hm : P.follows .mixedOrders = true) (hok' : fastOk .any ops = true) (hord : ordEOk .any ops ot = true) (hS : S w.drew)
 (h : SeqE P ops Q ot a S) : (Code.region id ops true).wp P Q a w := by
 refine wp_region_any hm ?_
 unfold ordEOk at hord
 rw [Bool.and_eq_true] at hord
 obtain ⟨ho, hb⟩ := hord
 let dep : Nat → Bool := fun i => ((ot.all.filter fun x => Nat.beq x.2 0).map (·.1)).contains i
 let bar : Nat → Bool := fun i => ((ot.all.filter fun x => Nat.beq x.2 3).map (·.1)).contains i
 have hc := (certE_of_seq (Q := Q) (dep := dep) (bar := bar) hok' ot ops.size 0 a S
  (fun i hi => by
   show List.contains _ i = true
   rw [List.contains_iff_mem]
   exact List.mem_map.2 ⟨(i, 0), List.mem_filter.2 ⟨hi, rfl⟩, rfl⟩)
  (fun i hi => by
   show List.contains _ i = true
   rw [List.contains_iff_mem]
   exact List.mem_map.2 ⟨(i, 3), List.mem_filter.2 ⟨hi, rfl⟩, rfl⟩)
  (fun k hk => by simp at hk) h).1 ho
 have hsel : ∀ (j : Nat) (o : Oper) cs b, ops[j]? = some o → o.op ≠ .select cs b := by
  unfold fastOk at hok'; rw [Bool.and_eq_true] at hok'; exact Region.noSelect_spec hok'.1
 have hpart : Part .any ops dep bar := by
  intro i j hi hj listed hcl ri rj
  have hi : List.contains _ i = true := hi
  have hj : List.contains _ j = true := hj
  rw [List.contains_iff_mem] at hi hj
  obtain ⟨⟨x, kx⟩, hx, rfl⟩ := List.mem_map.1 hi
  obtain ⟨⟨y, ky⟩, hy, rfl⟩ := List.mem_map.1 hj
  rw [List.mem_filter] at hx hy
  have h1 := List.all_eq_true.1 hb _ hy.1
  have ey : Nat.beq ky 3 = true := hy.2
  have ex : Nat.beq kx 0 = true := hx.2
  simp only [ey, Bool.not_true, Bool.false_or] at h1
  have h2 := List.all_eq_true.1 h1 _ hx.1
  simp only [ex, Bool.not_true, Bool.false_or, Bool.or_eq_true] at h2
  have un : ∀ {k}, k ∈ Region.ready .any ops listed → listed.getD k false = true → False := fun {k} hk h => by
   have h0 := (mem_ready.1 hk).1
   rcases Nat.lt_or_ge k listed.size with h' | h'
   · simp [h'] at h0 h; rw [h0] at h; cases h
   · simp [Array.getElem?_eq_none h'] at h
  rcases h2 with h2 | h2
  · exact un ri (anc_listed hcl rj h2)
  · exact un rj (anc_listed hcl ri h2)
 have hcl0 : Closed .any ops (lst ops.size 0) := by
  rw [lst_zero]; exact closed_none _ rfl
 have := CertE.sound hsel hpart _ _ _ _ hcl0 hc w.drew hS
 rw [lst_zero] at this
 exact this
theorem at_drop {o : Oper} {i : Nat} {tl : List Oper} (h : ops.toList.drop i = o :: tl) : ops[i]? = some o := by
 have h1 : (ops.toList.drop i)[0]? = some o := by rw [h]; rfl
 rw [List.getElem?_drop] at h1
 simpa using h1
variable {S : World → Prop} {o : Oper} {rest more : OT} {a : Act} {v : Value} {i : Nat} {W : World} {tl : List Oper}
theorem seqE_nil (h : ∀ w, S w → Q .normal a w) : SeqE P ops Q .nil a S := h
theorem seqE_stop : SeqE P ops Q .stop a S := trivial
theorem seqE_pure (hi : ops.toList.drop i = o :: tl) (hw : Region.wanted o (yielded ops a.tmps) = true) (hy : ∀ w, S w → (execOp a.eval o).run P w = .ok (.value v) w) (h : SeqE P ops Q rest (a.put o.dst v) S) : SeqE P ops Q (.one i 0 rest) a S :=
 ⟨o, v, at_drop hi, .inl ⟨.inl ⟨hw, fun w hS => by rw [hy w hS]; exact ⟨rfl, rfl⟩⟩, rfl⟩, h⟩
theorem seqE_free (hi : ops.toList.drop i = o :: tl) (hw : Region.wanted o (yielded ops a.tmps) = true) (hy : ∀ w, (execOp a.eval o).run P w = .ok (.value v) w) (h : SeqE P ops Q rest (a.put o.dst v) S) : SeqE P ops Q (.one i 1 rest) a S :=
 ⟨o, v, at_drop hi, .inr (.inl ⟨hw, fun w _ => by rw [hy w]; exact ⟨rfl, rfl⟩⟩), h⟩
theorem seqE_move (hi : ops.toList.drop i = o :: tl) (hw : Region.wanted o (yielded ops a.tmps) = true)
 (h : ∀ w, S w → ∃ v w', (execOp a.eval o).run P w = .ok (.value v) w' ∧ ∃ S' : World → Prop, S' w' ∧ (∀ x, S' x → S x) ∧ SeqE P ops Q rest (a.put o.dst v) S') (hm : SeqE P ops Q more a S) : SeqE P ops Q (.alt i 2 rest more) a S :=
 ⟨⟨o, at_drop hi, hw, fun w hS => by obtain ⟨v, w', h1, S', h2, h3, h4⟩ := h w hS; rw [h1]; exact ⟨S', h2, .inl h3, h4⟩⟩, hm⟩
theorem seqE_storeB (hi : ops.toList.drop i = o :: tl) (hw : Region.wanted o (yielded ops a.tmps) = true)
 (h : ∀ w, S w → ∃ w', (execOp a.eval o).run P w = .ok .skip w' ∧ ∃ S' : World → Prop, S' w' ∧ SeqE P ops Q rest (a.put o.dst undef) S') (hm : SeqE P ops Q more a S) : SeqE P ops Q (.alt i 3 rest more) a S :=
 ⟨⟨o, at_drop hi, hw, fun w hS => by obtain ⟨w', h1, S', h2, h3⟩ := h w hS; rw [h1]; exact ⟨S', h2, .inr rfl, h3⟩⟩, hm⟩
end
end Go.Proofs.YtmllhjbnbhapoaaGreat
