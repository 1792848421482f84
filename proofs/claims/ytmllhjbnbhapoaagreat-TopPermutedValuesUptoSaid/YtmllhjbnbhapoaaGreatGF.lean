/- Texts WD, WE, WF, WG, WH, WI, WJ, WK, WL, WM, WN, WB, WO, WP, W3, WQ, WR, WS, WT, WU, WV, WW. Conditions: none. -/
import Derived.Test.YtmllhjbnbhapoaaGreatGE
import Derived.Tactics
set_option linter.unusedSimpArgs false
set_option linter.unusedVariables false
namespace Go.Ab
open Go Go.Proofs
set_option maxRecDepth 10000
theorem caught_quiet : DQuiet Tryz.prog 30 1 := by
 refine ⟨⟨_, Tryz.func30, rfl, rfl⟩, fun args w hs => ?_⟩
 refine callsDIn_of_wpSIn Tryz.func30 rfl trivial fun c₀ cs hu => ?_
 obtain ⟨x, rfl⟩ : ∃ x, args = #[x] := by
  obtain ⟨l⟩ := args
  cases l with
  | nil => simp at hs
  | cons x r => cases r with
   | nil => exact ⟨x, rfl⟩
   | cons y z => simp at hs
 apply wpSIn_seq
 apply wpSIn_region
 simp [wpOpsSIn, go_sem, recoverD, hu, Exit.thenS]
 refine wpSIn_of_wpIn rfl (wpIn_wide.2 ?_)
 refine wp_block (wp_seq (wp_region ?_))
 simp [wpOps, Oper.wp, go_sem, List.range, List.range.loop, yielded, Region.wanted, Act.eval]
 left
 refine wp_cond_true (by simp [Act.eval]) ?_
 refine wp_region ?_
 simp [wpOps, Oper.wp, go_sem, List.range, List.range.loop, yielded, Region.wanted, Act.eval, Exit.inBlock, bodyPostS, results, hu]
 exact .inl (by rw [← hu])
theorem Nd.ind {P : Nd → Prop} (h : ∀ n : Nd, (∀ k ∈ n.kids, P k) → P n) (n : Nd) : P n :=
 Nd.rec (motive_1 := P) (motive_2 := fun l => ∀ k ∈ l, P k) (fun op name n kids a ih => h _ ih) (fun k hk => by cases hk) (fun x r hx hr k hk => by
  rcases List.mem_cons.1 hk with rfl | hk
  · exact hx
  · exact hr k hk) n
theorem Nd.cs_eq (n : Nd) : n.cs = [eI n.op, eS n.name, eI n.n, .slice 5 (n.kids.map Nd.av), eI n.at_] := by
 cases n with
 | mk op name n kids a => simp only [Nd.cs, Nd.avs_map, Nd.op, Nd.name, Nd.n, Nd.kids, Nd.at_]
def Nd.ex (n : Nd) : AV := .agg [eI n.op, eS n.name, eI n.n, .slice 5 (n.kids.map Nd.av), eI n.at_]
theorem Nd.av_ex : Nd.av = Nd.ex := funext fun n => by rw [Nd.av, n.cs_eq]; rfl
mutual
def Nd.hasCall : Nd → Bool
 | .mk op _ _ kids _ => decide (op = 47) || Nd.hasCalls kids
def Nd.hasCalls : List Nd → Bool
 | [] => false
 | x :: r => x.hasCall || Nd.hasCalls r
end
theorem Nd.hasCalls_any : ∀ l : List Nd, Nd.hasCalls l = l.any Nd.hasCall
 | [] => rfl
 | x :: r => by simp only [Nd.hasCalls, List.any_cons, Nd.hasCalls_any r]
theorem Nd.hasCall_eq (n : Nd) : n.hasCall = (decide (n.op = 47) || n.kids.any Nd.hasCall) := by
 cases n with
 | mk op name n kids a => show (decide (op = 47) || Nd.hasCalls kids) = _; rw [Nd.hasCalls_any]; rfl
theorem hasCall04 (n : Nd) : AFun Tryz.prog 20 [n.av] (.p (eB n.hasCall)) := by
 induction n using Nd.ind with
 | h n ih =>
  have e : n.av = .agg [eI n.op, eS n.name, eI n.n, .slice 5 (n.kids.map Nd.av), eI n.at_] := by rw [Nd.av, n.cs_eq]
  rw [e]
  refine AFun.of hT Tryz.func20 rfl rfl (by simp) (AD.run hT hmix ?_)
  have hl : (n.kids.map Nd.av).length = n.kids.length := List.length_map _
  refine bgo_split (fun hb => ?_) (fun hb => ?_)
  · have hb : n.op = 47 := by simpa using hb
    exact ⟨_, _, rfl, rfl, by rw [n.hasCall_eq, hb]; rfl⟩
  · have hb : n.op ≠ 47 := by simpa using hb
    refine AD.loopI (fun i : Nat => i ≤ n.kids.length ∧ ∀ k ∈ n.kids.take i, k.hasCall = false) (fun i => n.kids.length - i) (fun i => [(1, .loc 1 0), (3, eint .i64 i)]) (fun _ => [(1, .box 35 ([eI n.op, eS n.name, eI n.n, .slice 5 (n.kids.map Nd.av), eI n.at_].map .p))]) 0 ⟨Nat.zero_le _, by simp⟩ .of fun i ⟨hi, hk⟩ => AD.run hT hmix ?_
    intro hlen
    refine bgo_split (fun hb2 => ?_) (fun hb2 => ?_)
    · replace hb2 := of_decide_eq_true hb2
      have hlt : i < n.kids.length := by omega
      refine igo_map i rfl hlt (.pure _ _ rfl (ih _ (List.getElem_mem hlt)) ?_)
      cases hc : n.kids[i].hasCall with
      | true => exact ⟨_, _, rfl, rfl, by rw [n.hasCall_eq, List.any_eq_true.2 ⟨_, List.getElem_mem hlt, hc⟩, Bool.or_true]; rfl⟩
      | false =>
       refine ngo_in (by omega) (by omega) ⟨i + 1, ⟨by omega, fun k hk' => ?_⟩, by omega, .of⟩
       rw [List.take_succ_eq_append_getElem hlt, List.mem_append, List.mem_singleton] at hk'
       rcases hk' with hk' | rfl
       · exact hk k hk'
       · exact hc
    · replace hb2 := of_decide_eq_false hb2
      obtain rfl : i = n.kids.length := by omega
      rw [List.take_length] at hk
      refine ⟨_, _, rfl, rfl, ?_⟩
      have : n.kids.any Nd.hasCall = false := by
       rw [List.any_eq_false]; intro k hk'; rw [hk k hk']; simp
      rw [n.hasCall_eq, this, decide_eq_false hb]; rfl
def kindOf (op : Int) : Int := if 1 ≤ op ∧ op ≤ 15 then 101 else if 20 ≤ op ∧ op ≤ 23 then 105 else if 30 ≤ op ∧ op ≤ 51 then 102 else 0
theorem kind02 (op : Int) : AFun Tryz.prog 213 [eI op] (.p (eU8 (kindOf op))) := by
 refine AFun.of hT Tryz.func213 rfl rfl (by simp) (AD.run hT hmix ?_)
 have e3 : ∀ x, kindOf op = x → EV.p (eU8 (kindOf op)) = retEV [AV.imm (.int .u8 x)] := fun x h => by rw [h]; rfl
 repeat' first
  | exact ⟨_, _, rfl, rfl, e3 _ (by simp only [decide_eq_true_eq, decide_eq_false_iff_not] at *; unfold kindOf; repeat' split <;> omega)⟩
  | refine bgo_split (fun _ => ?_) (fun _ => ?_)
def shapeOf (op : Int) (k : Nat) : Option ByteArray :=
 if op ∈ [1, 2, 3, 4, 20, 30, 31] then some ⟨#[]⟩ else if op ∈ [5, 11, 12, 13, 21, 34, 35, 36, 37] then some ⟨#[101]⟩
 else if op ∈ [6, 7, 8, 9, 10, 14, 32, 33] then some ⟨#[101, 101]⟩ else if op ∈ [15, 45, 46] then some ⟨#[101, 102]⟩
 else if op ∈ [22, 23, 38, 39] then some ⟨#[105, 105]⟩ else if op ∈ [40, 48, 49, 50] then some ⟨#[102]⟩
 else if op ∈ [41, 42, 43, 44, 51] then some ⟨#[102, 102]⟩ else if op = 47 then some ⟨(List.replicate (min k 401) 101).toArray⟩ else none
set_option maxHeartbeats 2000000 in
theorem shape02 (op : Int) (k : Nat) : AFun Tryz.prog 212 [eI op, eI k] (.tup [.p (eS ((shapeOf op k).getD ⟨#[]⟩)), .p (eB (shapeOf op k).isSome)]) := by
 refine AFun.of hT Tryz.func212 rfl rfl (by simp) (AD.run hT hmix ?_)
 have e3 : ∀ o : Option ByteArray, shapeOf op k = o → EV.tup [.p (eS ((shapeOf op k).getD ⟨#[]⟩)), .p (eB (shapeOf op k).isSome)] = retEV [eS (o.getD ⟨#[]⟩), eB o.isSome] := fun o h => by rw [h]; rfl
 have rep : ∀ n : Nat, (⟨(List.replicate n 101).toArray⟩ : ByteArray).size = n := fun n => by simp [ByteArray.size]
 repeat' first
  | refine bgo_true (by assumption) ?_
  | refine bgo_false (by assumption) ?_
  | refine bgo_split (fun _ => ?_) (fun _ => ?_)
  | (show ∃ es xs, _ ∧ _; exact ⟨_, _, rfl, rfl, e3 (some _) (by simp only [beq_iff_eq, beq_eq_false_iff_ne] at *; subst op; rfl)⟩)
  | (show ∃ es xs, _ ∧ _; exact ⟨_, _, rfl, rfl, e3 none (by simp only [beq_iff_eq, beq_eq_false_iff_ne] at *; unfold shapeOf; simp [*])⟩)
 refine AD.loopI (fun x : Nat × ByteArray => x.1 ≤ min k 401 ∧ x.2 = ⟨(List.replicate x.1 101).toArray⟩) (fun x => 401 - x.1) (fun x => [(1, .p (eI k)), (6, .p (eS x.2)), (7, eint .i64 x.1)]) (fun _ => []) (0, ⟨#[]⟩) ⟨Nat.zero_le _, rfl⟩ .of fun ⟨i, s⟩ ⟨hi, hs⟩ => AD.run hT hmix ?_
 dsimp only at hi hs ⊢
 have fin : min k 401 = i → shapeOf op k = some s := fun h => by simp only [beq_iff_eq] at *; subst op; rw [hs, ← h]; rfl
 refine bgo_split (fun h1 => bgo_split (fun h2 => ?_) (fun h2 => ?_)) (fun h1 => ?_)
 · replace h1 := of_decide_eq_true h1
   replace h2 := of_decide_eq_true h2
   refine ⟨by rw [hs, rep]; simp [ByteArray.size]; omega, ngo_in (by omega) (by omega) ⟨(i + 1, _), ⟨by dsimp only; omega, ?_⟩, by dsimp only; omega, .of⟩⟩
   dsimp only
   rw [hs, List.replicate_succ']
   apply ByteArray.ext
   apply Array.ext'
   simp
 · replace h2 := of_decide_eq_false h2
   exact ⟨_, _, rfl, rfl, e3 (some _) (fin (by omega))⟩
 · replace h1 := of_decide_eq_false h1
   exact ⟨_, _, rfl, rfl, e3 (some _) (fin (by omega))⟩
def FitsK (op : Int) (kids : List Nd) : Prop := ∃ s : ByteArray, shapeOf op kids.length = some s ∧ s.size = kids.length ∧ ∀ (i : Nat) (h : i < kids.length), ∃ b : UInt8, s[i]? = some b ∧ kindOf kids[i].op = (b.toNat : Int)
theorem fits02 (op : Int) (kids : List Nd) : Gate 165 [eI op, .slice 5 (kids.map Nd.av)] (FitsK op kids) := by
 rw [Nd.av_ex]
 refine Gate.of Tryz.func165 rfl rfl (by simp) (AD.run hT hmix ?_)
 have hl : (kids.map Nd.ex).length = kids.length := List.length_map _
 intro _
 have hsh := shape02 op (kids.map Nd.ex).length
 rw [hl] at hsh ⊢
 refine .pure _ _ rfl hsh ?_
 cases hS : shapeOf op kids.length with
 | none => exact ⟨_, _, rfl, rfl, false, rfl, nofun⟩
 | some s =>
  intro _
  refine bgo_split (fun hb => ?_) (fun hb => ?_)
  · exact ⟨_, _, rfl, rfl, false, rfl, nofun⟩
  have hsz : (s.size : Int) = kids.length := by simpa [hl] using hb
  have hsz : s.size = kids.length := by omega
  refine AD.loopI (fun i : Nat => i ≤ kids.length ∧ ∀ (j : Nat) (h : j < kids.length), j < i → ∃ b : UInt8, s[j]? = some b ∧ kindOf kids[j].op = (b.toNat : Int)) (fun i => kids.length - i) (fun i => [(1, .p (.slice 5 (kids.map Nd.ex))), (5, .p (eS s)), (7, eint .i64 i)]) (fun _ => []) 0 ⟨Nat.zero_le _, fun _ _ h => by omega⟩ .of fun i ⟨hi, hg⟩ => AD.run hT hmix ?_
  intro _
  refine bgo_split (fun hb2 => ?_) (fun hb2 => ?_)
  · replace hb2 := of_decide_eq_true hb2
    have hlt : i < kids.length := by omega
    have hb : i < s.size := by omega
    refine igo_map i rfl hlt (.pure _ _ rfl (kind02 _) ⟨i, s[i], rfl, by simp [hb], ⟨by kernel_rfl, bgo_split (fun hc => ⟨_, _, rfl, rfl, false, rfl, nofun⟩) (fun hc => ?_)⟩⟩)
    have hc : kindOf kids[i].op = (s[i].toNat : Int) := by simpa using hc
    refine ngo_in (by omega) (by omega) ⟨i + 1, ⟨by omega, fun j hj hji => ?_⟩, by omega, .of⟩
    by_cases hj2 : j = i
    · subst hj2; exact ⟨_, by simp [hb], hc⟩
    · exact hg j hj (by omega)
  · replace hb2 := of_decide_eq_false hb2
    obtain rfl : i = kids.length := by omega
    exact ⟨_, _, rfl, rfl, true, rfl, fun _ => ⟨s, hS, hsz, fun j h => hg j h h⟩⟩
mutual
def Nd.WF : Nd → Prop
 | .mk op _ n kids _ => (FitsK op kids ∧ (op = 2 → 1 ≤ n ∧ n ≤ 3) ∧ (op = 20 → -64 ≤ n ∧ n ≤ 64)) ∧ Nd.WFs kids
def Nd.WFs : List Nd → Prop
 | [] => True
 | x :: r => x.WF ∧ Nd.WFs r
end
theorem Nd.WFs_all : ∀ l : List Nd, Nd.WFs l ↔ ∀ x ∈ l, x.WF
 | [] => by simp [Nd.WFs]
 | x :: r => by simp [Nd.WFs, Nd.WFs_all r]
theorem Nd.WF_iff (n : Nd) : n.WF ↔ (FitsK n.op n.kids ∧ (n.op = 2 → 1 ≤ n.n ∧ n.n ≤ 3) ∧ (n.op = 20 → -64 ≤ n.n ∧ n.n ≤ 64)) ∧ ∀ x ∈ n.kids, x.WF := by
 cases n with
 | mk op name n kids a => simp only [Nd.WF, Nd.WFs_all, Nd.op, Nd.n, Nd.kids]
def Test (f : FuncId) (ys : List AV) : Prop := Gate f ys True
theorem Test.of {f : FuncId} {fn : Func} {c : Code} {ys : List AV} (hf : Tryz.prog.funcs[f]? = some fn) (hb : fn.body = some c) (hname : (fn.name == "runtime.NumGoroutine") = false) (hn : ys.length ≤ fn.ntmps)
 (hh : AD Tryz.prog fn.ntmps noH false c (FinQ T fn.results.toList fun y => ∃ b : Bool, y = .p (eB b)) (mkEnv 0 ys) []) : Test f ys :=
 Gate.of hf hb hname hn (hh.mono fun e env h hq => by
  cases e <;> first | exact hq | (obtain ⟨es, xs, h1, h2, b, h3⟩ := hq; exact ⟨es, xs, h1, h2, b, h3, fun _ => trivial⟩))
def keywords : List ByteArray := [⟨#[115, 111, 114, 116]⟩, ⟨#[111, 114, 100, 101, 114, 101, 100]⟩, ⟨#[118, 97, 114]⟩, ⟨#[102, 105, 101, 108, 100]⟩, ⟨#[112, 114, 101, 100]⟩, ⟨#[102, 97, 99, 116]⟩, ⟨#[97, 108, 108]⟩, ⟨#[115, 111, 109, 101]⟩, ⟨#[110, 111]⟩, ⟨#[111, 110, 101]⟩, ⟨#[108, 111, 110, 101]⟩, ⟨#[97, 108, 119, 97, 121, 115]⟩, ⟨#[101, 118, 101, 110, 116, 117, 97, 108, 108, 121]⟩, ⟨#[97, 102, 116, 101, 114]⟩, ⟨#[117, 110, 116, 105, 108]⟩, ⟨#[110, 111, 110, 101]⟩, ⟨#[117, 110, 105, 118]⟩, ⟨#[105, 100, 101, 110]⟩, ⟨#[105, 110]⟩, ⟨#[110, 111, 116]⟩, ⟨#[116, 114, 117, 101]⟩, ⟨#[102, 97, 108, 115, 101]⟩]
theorem keyword02 (s : ByteArray) : Test 238 [eS s] := by
 refine Test.of Tryz.func238 rfl rfl (by simp) (AD.run hT hmix ?_)
 refine AD.loopI (fun i : Nat => i ≤ 22) (fun i => 22 - i) (fun i => [(0, .p (eS s)), (3, .p (.slice 1 (keywords.map eS))), (4, eint .i64 i)]) (fun _ => []) 0 (Nat.zero_le _) .of fun i hi => AD.run hT hmix ?_
 intro _
 refine bgo_split (fun hb => ?_) (fun hb => ⟨_, _, rfl, rfl, false, rfl⟩)
 have hl : (keywords.map eS).length = 22 := rfl
 replace hb := of_decide_eq_true hb
 refine igo_map i rfl (show i < keywords.length by show i < 22; omega) ?_
 refine bgo_split (fun hc => ⟨_, _, rfl, rfl, true, rfl⟩) (fun hc => ngo_in (by omega) (by omega) ⟨i + 1, by omega, by omega, .of⟩)
theorem name02 (s : ByteArray) : Test 211 [eS s] := by
 refine Test.of Tryz.func211 rfl rfl (by simp) (AD.run hT hmix ?_)
 obtain ⟨kb, _, hk⟩ := keyword02 s
 repeat' first
  | exact ⟨_, _, rfl, rfl, _, rfl⟩
  | refine .pure _ _ rfl hk ?_
  | refine bgo_true (by assumption) ?_
  | refine bgo_false (by assumption) ?_
  | refine bgo_split (fun _ => ?_) (fun _ => ?_)
 refine AD.loopI (fun i : Nat => i ≤ s.size ∧ s.size ≤ 16) (fun i => s.size - i) (fun i => [(0, .p (eS s)), (3, eint .i64 i)]) (fun _ => []) 0 ⟨Nat.zero_le _, ?_⟩ .of fun i ⟨hi, h16⟩ => AD.run hT hmix ?_
 · rename_i h1 h2 h3
   have := of_decide_eq_false h2
   omega
 refine bgo_split (fun hb => ?_) (fun hb => ⟨_, _, rfl, rfl, _, rfl⟩)
 replace hb := of_decide_eq_true hb
 have hb : i < s.size := by omega
 refine ⟨i, s[i], rfl, by simp [hb], ?_⟩
 generalize ((s[i].toNat : Nat) : Int) = c
 have next : SubAll Tryz.f211.ntmps noH [(3, eint .i64 (i + 1 : Int))] [] [(3, eint .i64 (i + 1 : Int))] [] := .of
 repeat' first
  | exact ⟨_, _, rfl, rfl, _, rfl⟩
  | refine bgo_true (by assumption) ?_
  | refine bgo_false (by assumption) ?_
  | refine bgo_split (fun _ => ?_) (fun _ => ?_)
  | exact ngo_in (by omega) (by omega) ⟨i + 1, ⟨by omega, h16⟩, by omega, .of⟩
def Nd.NumOk (n : Nd) : Prop := (n.op = 2 → 1 ≤ n.n ∧ n.n ≤ 3) ∧ (n.op = 20 → -64 ≤ n.n ∧ n.n ≤ 64)
set_option maxHeartbeats 1000000 in
theorem own02 (n : Nd) : Gate 164 [n.ex] n.NumOk := by
 refine Gate.of Tryz.func164 rfl rfl (by simp) (AD.run hT hmix ?_)
 obtain ⟨kb, _, hk⟩ := name02 n.name
 repeat' first
  | refine bgo_true (by assumption) ?_
  | refine bgo_false (by assumption) ?_
  | refine bgo_split (fun _ => ?_) (fun _ => ?_)
  | refine .pure _ _ rfl hk ?_
  | exact ⟨_, _, rfl, rfl, false, rfl, nofun⟩
  | exact ⟨_, _, rfl, rfl, _, rfl, fun _ => by simp only [beq_iff_eq, beq_eq_false_iff_ne, decide_eq_true_eq] at *; exact ⟨fun _ => by omega, fun _ => by omega⟩⟩
theorem count02 (n : Nd) : ∀ left : Int, -1000000 ≤ left → left ≤ 1000000 → ∃ r : Int, (1 ≤ r ∧ r ≤ max 1 (left + 1)) ∧ AFun Tryz.prog 100 [n.ex, eI left] (.p (eI r)) := by
 induction n using Nd.ind with
 | h n ih =>
  intro left hlo hhi
  suffices hh : ∃ y, (∃ r : Int, y = .p (eI r) ∧ 1 ≤ r ∧ r ≤ max 1 (left + 1)) ∧ AFun Tryz.prog 100 [n.ex, eI left] y by
   obtain ⟨y, ⟨r, rfl, hr⟩, hf⟩ := hh
   exact ⟨r, hr, hf⟩
  refine AFunE.intro hT Tryz.func100 rfl rfl (by simp) ⟨_, 1, rfl, Int.le_refl _, by omega⟩ (AD.run hT hmix ?_)
  have hl : (n.kids.map Nd.av).length = n.kids.length := List.length_map _
  refine AD.loopI (fun x : Nat × Int => x.1 ≤ n.kids.length ∧ 1 ≤ x.2 ∧ x.2 ≤ max 1 (left + 1)) (fun x => n.kids.length - x.1) (fun x => [(1, .p (eI left)), (2, .loc 2 0), (5, eint .i64 x.2), (6, eint .i64 x.1)]) (fun _ => [(2, .box 35 ([eI n.op, eS n.name, eI n.n, .slice 5 (n.kids.map Nd.av), eI n.at_].map .p))]) (0, 1) ⟨Nat.zero_le _, by dsimp only; omega, by dsimp only; omega⟩ .of fun ⟨i, s⟩ ⟨hi, g1, g2⟩ => AD.run hT hmix ?_
  dsimp only at hi g1 g2 ⊢
  intro hlen
  refine bgo_split (fun hb => bgo_split (fun hc => ?_) (fun hc => ⟨_, _, rfl, rfl, s, rfl, g1, g2⟩)) (fun hb => ⟨_, _, rfl, rfl, s, rfl, g1, g2⟩)
  replace hb := of_decide_eq_true hb
  replace hc := of_decide_eq_true hc
  have hlt : i < n.kids.length := by omega
  obtain ⟨r, hr, hf⟩ := ih _ (List.getElem_mem hlt) (left - s) (by omega) (by omega)
  rw [← Nd.av_ex] at hf
  refine igo_map i rfl hlt (ngo_in (by omega) (by omega) (.pure _ _ rfl hf (ngo_in (by omega) (by omega) (ngo_in (by omega) (by omega) ⟨(i + 1, s + r), ⟨by dsimp only; omega, by dsimp only; omega, by dsimp only; omega⟩, by dsimp only; omega, .of⟩))))
theorem formed02 (n : Nd) : ∀ lev : Int, lev ≤ 1000000 → -1 ≤ lev → Gate 101 [n.ex, eI lev] n.WF := by
 induction n using Nd.ind with
 | h n ih =>
  intro lev h1 h2
  refine Gate.of Tryz.func101 rfl rfl (by simp) (AD.run hT hmix ?_)
  have hl : (n.kids.map Nd.av).length = n.kids.length := List.length_map _
  obtain ⟨bo, fo, ho⟩ := own02 n
  obtain ⟨bf, ff, hf⟩ := fits02 n.op n.kids
  refine bgo_split (fun hb => ⟨_, _, rfl, rfl, false, rfl, nofun⟩) (fun hb => ?_)
  replace hb := of_decide_eq_false hb
  refine .pure _ _ rfl ho ?_
  cases bo with
  | false => exact ⟨_, _, rfl, rfl, false, rfl, nofun⟩
  | true =>
   refine .pure _ _ rfl hf ?_
   cases bf with
   | false => exact ⟨_, _, rfl, rfl, false, rfl, nofun⟩
   | true =>
    refine AD.loopI (fun i : Nat => i ≤ n.kids.length ∧ ∀ k ∈ n.kids.take i, k.WF) (fun i => n.kids.length - i) (fun i => [(1, .p (eI lev)), (2, .loc 2 0), (5, eint .i64 i)]) (fun _ => [(2, .box 35 ([eI n.op, eS n.name, eI n.n, .slice 5 (n.kids.map Nd.av), eI n.at_].map .p))]) 0 ⟨Nat.zero_le _, by simp⟩ .of fun i ⟨hi, hk⟩ => AD.run hT hmix ?_
    intro hlen
    refine bgo_split (fun hb2 => ?_) (fun hb2 => ?_)
    · replace hb2 := of_decide_eq_true hb2
      have hlt : i < n.kids.length := by omega
      obtain ⟨bk, fk, hkk⟩ := ih _ (List.getElem_mem hlt) (lev - 1) (by omega) (by omega)
      rw [← Nd.av_ex] at hkk
      refine igo_map i rfl hlt (ngo_in (by omega) (by omega) (.pure _ _ rfl hkk ?_))
      cases bk with
      | false => exact ⟨_, _, rfl, rfl, false, rfl, nofun⟩
      | true =>
       refine ngo_in (by omega) (by omega) ⟨i + 1, ⟨by omega, fun k hk' => ?_⟩, by omega, .of⟩
       rw [List.take_succ_eq_append_getElem hlt, List.mem_append, List.mem_singleton] at hk'
       rcases hk' with hk' | rfl
       · exact hk k hk'
       · exact fk rfl
    · replace hb2 := of_decide_eq_false hb2
      obtain rfl : i = n.kids.length := by omega
      rw [List.take_length] at hk
      exact ⟨_, _, rfl, rfl, true, rfl, fun _ => (Nd.WF_iff n).2 ⟨⟨ff rfl, fo rfl⟩, hk⟩⟩
theorem validNode02 (n : Nd) : Gate 51 [n.ex] n.WF := by
 refine Gate.of Tryz.func51 rfl rfl (by simp) (AD.run hT hmix ?_)
 obtain ⟨r, _, hc⟩ := count02 n 400 (by omega) (by omega)
 obtain ⟨b, f, hf⟩ := formed02 n 24 (by omega) (by omega)
 refine .pure _ _ rfl hc (bgo_split (fun hb => .pure _ _ rfl hf ⟨_, _, rfl, rfl, b, rfl, f⟩) (fun hb => ⟨_, _, rfl, rfl, false, rfl, nofun⟩))
def Prd.ex (p : Prd) : AV := .agg [eS p.name, .slice 2 (p.params.map Param.av), eI p.body.op, eS p.body.name, eI p.body.n, .slice 5 (p.body.kids.map Nd.av), eI p.body.at_]
def Fct.ex (f : Fct) : AV := .agg [eS f.name, eI f.body.op, eS f.body.name, eI f.body.n, .slice 5 (f.body.kids.map Nd.av), eI f.body.at_]
theorem Prd.av_ex : Prd.av = Prd.ex := funext fun p => by rw [Prd.av, p.body.cs_eq]; rfl
theorem Fct.av_ex : Fct.av = Fct.ex := funext fun f => by rw [Fct.av, f.body.cs_eq]; rfl
def Spc.cx (s : Spc) : List AV := [.slice 2 (s.sorts.map Srt.av), .slice 3 (s.fields.map Fld.av), .slice 7 (s.preds.map Prd.ex), .slice 6 (s.facts.map Fct.ex)]
def Spc.ex (s : Spc) : AV := .agg s.cx
theorem Spc.av_ex : Spc.av = Spc.ex := funext fun s => by rw [Spc.av, Spc.cs, Prd.av_ex, Fct.av_ex]; rfl
def ParamsOk (m : Nat) (ps : List Param) : Prop := ps.length ≤ 8 ∧ ∀ q ∈ ps, 0 ≤ q.sort ∧ q.sort < m
theorem params04 (s : Spc) (ps : List Param) : Gate 98 [s.ex, .slice 2 (ps.map Param.av)] (ParamsOk s.sorts.length ps) := by
 refine Gate.of Tryz.func98 rfl rfl (by simp) (AD.run hT hmix ?_)
 have hl : (ps.map Param.av).length = ps.length := List.length_map _
 have hs : (s.sorts.map Srt.av).length = s.sorts.length := List.length_map _
 intro _
 refine bgo_split (fun hb => ⟨_, _, rfl, rfl, false, rfl, nofun⟩) (fun hb => ?_)
 replace hb := of_decide_eq_false hb
 refine AD.loopI (fun i : Nat => i ≤ ps.length ∧ ∀ k ∈ ps.take i, 0 ≤ k.sort ∧ k.sort < s.sorts.length) (fun i => ps.length - i) (fun i => [(1, .p (.slice 2 (ps.map Param.av))), (2, .loc 2 0), (5, eint .i64 i)]) (fun _ => [(2, .box 27 (s.cx.map .p))]) 0 ⟨Nat.zero_le _, by simp⟩ .of fun i ⟨hi, hk⟩ => AD.run hT hmix ?_
 intro _
 refine bgo_split (fun hb2 => ?_) (fun hb2 => ?_)
 · replace hb2 := of_decide_eq_true hb2
   have hlt : i < ps.length := by omega
   refine igo_map i rfl hlt (bgo_split (fun hc => ⟨by kernel_rfl, _, _, rfl, rfl, false, rfl, nofun⟩) (fun hc => igo_map i rfl hlt ?_))
   intro _
   refine ⟨by kernel_rfl, bgo_split (fun hd => ⟨_, _, rfl, rfl, false, rfl, nofun⟩) (fun hd => ?_)⟩
   replace hc := of_decide_eq_false hc
   replace hd := of_decide_eq_false hd
   refine ngo_in (by omega) (by omega) ⟨i + 1, ⟨by omega, fun k hk' => ?_⟩, by omega, .of⟩
   rw [List.take_succ_eq_append_getElem hlt, List.mem_append, List.mem_singleton] at hk'
   rcases hk' with hk' | rfl
   · exact hk k hk'
   · omega
 · replace hb2 := of_decide_eq_false hb2
   obtain rfl : i = ps.length := by omega
   rw [List.take_length] at hk
   exact ⟨_, _, rfl, rfl, true, rfl, fun _ => ⟨by omega, hk⟩⟩
def SortsOk (m : Nat) (l : List Int) : Prop := (1 ≤ l.length ∧ l.length ≤ 3) ∧ ∀ x ∈ l, 0 ≤ x ∧ x < m
structure Spc.Fit (s : Spc) : Prop where
 n1 : s.sorts.length ≤ 4
 n2 : s.fields.length ≤ 6
 n3 : s.preds.length ≤ 8
 n4 : s.facts.length ≤ 16
 fld : ∀ f ∈ s.fields, SortsOk s.sorts.length f.sorts
 prd : ∀ p ∈ s.preds, ParamsOk s.sorts.length p.params ∧ p.body.WF
 fct : ∀ f ∈ s.facts, f.body.WF
theorem take_step {α : Type} {Q : α → Prop} {l : List α} {i : Nat} (hlt : i < l.length) (h : ∀ k ∈ l.take i, Q k) (hx : Q l[i]) : ∀ k ∈ l.take (i + 1), Q k := fun k hk => by
 rw [List.take_succ_eq_append_getElem hlt, List.mem_append, List.mem_singleton] at hk
 rcases hk with hk | rfl
 · exact h k hk
 · exact hx
set_option maxHeartbeats 1000000 in
theorem fits04 (s : Spc) : Gate 48 [s.ex] s.Fit := by
 refine Gate.of Tryz.func48 rfl rfl (by simp) (AD.run hT hmix ?_)
 have l1 : (s.sorts.map Srt.av).length = s.sorts.length := List.length_map _
 have l2 : (s.fields.map Fld.av).length = s.fields.length := List.length_map _
 have l3 : (s.preds.map Prd.ex).length = s.preds.length := List.length_map _
 have l4 : (s.facts.map Fct.ex).length = s.facts.length := List.length_map _
 have no : ∀ {es : List EV} {xs : List AV}, es = [ebool false] → xs = [eB false] → True := fun _ _ => trivial
 intro _
 refine bgo_split (fun hb => ⟨_, _, rfl, rfl, false, rfl, nofun⟩) (fun hb1 => ?_)
 intro _
 refine bgo_split (fun hb => ⟨_, _, rfl, rfl, false, rfl, nofun⟩) (fun hb2 => ?_)
 intro _
 refine bgo_split (fun hb => ⟨_, _, rfl, rfl, false, rfl, nofun⟩) (fun hb3 => ?_)
 intro _
 refine bgo_split (fun hb => ⟨_, _, rfl, rfl, false, rfl, nofun⟩) (fun hb4 => ?_)
 replace hb1 := of_decide_eq_false hb1
 replace hb2 := of_decide_eq_false hb2
 replace hb3 := of_decide_eq_false hb3
 replace hb4 := of_decide_eq_false hb4
 refine AD.loopI (fun i : Nat => i ≤ s.fields.length ∧ ∀ f ∈ s.fields.take i, SortsOk s.sorts.length f.sorts) (fun i => s.fields.length - i) (fun i => [(1, .loc 1 0), (3, eint .i64 i)]) (fun _ => [(1, .box 27 (s.cx.map .p))]) 0 ⟨Nat.zero_le _, by simp⟩ .of fun i ⟨hi, hk⟩ => AD.run hT hmix ?_
 intro _
 refine bgo_split (fun hb => ?_) (fun hb => ?_)
 · replace hb := of_decide_eq_true hb
   have hlt : i < s.fields.length := by omega
   refine igo_map i rfl hlt ?_
   intro _
   have l5 : (s.fields[i].sorts.map eI).length = s.fields[i].sorts.length := List.length_map _
   refine bgo_split (fun hb => ⟨_, _, rfl, rfl, false, rfl, nofun⟩) (fun hc1 => ?_)
   intro _
   refine bgo_split (fun hb => ⟨_, _, rfl, rfl, false, rfl, nofun⟩) (fun hc2 => ?_)
   replace hc1 := of_decide_eq_false hc1
   replace hc2 := of_decide_eq_false hc2
   refine AD.loopI (fun j : Nat => j ≤ s.fields[i].sorts.length ∧ ∀ x ∈ s.fields[i].sorts.take j, 0 ≤ x ∧ x < s.sorts.length) (fun j => s.fields[i].sorts.length - j) (fun j => [(1, .loc 1 0), (3, eint .i64 i), (4, .p (ints s.fields[i].sorts)), (5, eint .i64 j)]) (fun _ => [(1, .box 27 (s.cx.map .p))]) 0 ⟨Nat.zero_le _, by simp⟩ .of fun j ⟨hj, hx⟩ => AD.run hT hmix ?_
   intro _
   refine bgo_split (fun hb => ?_) (fun hb => ?_)
   · replace hb := of_decide_eq_true hb
     have hjt : j < s.fields[i].sorts.length := by omega
     refine igo_map j rfl hjt (bgo_split (fun hc => ⟨by kernel_rfl, _, _, rfl, rfl, false, rfl, nofun⟩) (fun hc => igo_map j rfl hjt ?_))
     intro _
     refine ⟨by kernel_rfl, bgo_split (fun hd => ⟨_, _, rfl, rfl, false, rfl, nofun⟩) (fun hd => ?_)⟩
     replace hc := of_decide_eq_false hc
     replace hd := of_decide_eq_false hd
     exact ngo_in (by omega) (by omega) ⟨j + 1, ⟨by omega, take_step hjt hx ⟨by omega, by omega⟩⟩, by omega, .of⟩
   · replace hb := of_decide_eq_false hb
     obtain rfl : j = s.fields[i].sorts.length := by omega
     rw [List.take_length] at hx
     exact ngo_in (by omega) (by omega) ⟨i + 1, ⟨by omega, take_step hlt hk ⟨⟨by omega, by omega⟩, hx⟩⟩, by omega, .of⟩
 replace hb := of_decide_eq_false hb
 obtain rfl : i = s.fields.length := by omega
 rw [List.take_length] at hk
 refine AD.loopI (fun i : Nat => i ≤ s.preds.length ∧ ∀ p ∈ s.preds.take i, ParamsOk s.sorts.length p.params ∧ p.body.WF) (fun i => s.preds.length - i) (fun i => [(1, .loc 1 0), (6, eint .i64 i)]) (fun _ => [(1, .box 27 (s.cx.map .p))]) 0 ⟨Nat.zero_le _, by simp⟩ .of fun i ⟨hi, hkp⟩ => AD.run hT hmix ?_
 intro _
 refine bgo_split (fun hb => ?_) (fun hb => ?_)
 · replace hb := of_decide_eq_true hb
   have hlt : i < s.preds.length := by omega
   obtain ⟨b1, f1, h1⟩ := params04 s s.preds[i].params
   obtain ⟨b2, f2, h2⟩ := validNode02 s.preds[i].body
   refine igo_map i rfl hlt (.pure _ _ rfl h1 ?_)
   cases b1 with
   | false => exact ⟨by kernel_rfl, _, _, rfl, rfl, false, rfl, nofun⟩
   | true =>
    refine igo_map i rfl hlt (.pure _ _ rfl h2 ⟨by kernel_rfl, ?_⟩)
    cases b2 with
    | false => exact ⟨_, _, rfl, rfl, false, rfl, nofun⟩
    | true => exact ngo_in (by omega) (by omega) ⟨i + 1, ⟨by omega, take_step hlt hkp ⟨f1 rfl, f2 rfl⟩⟩, by omega, .of⟩
 replace hb := of_decide_eq_false hb
 obtain rfl : i = s.preds.length := by omega
 rw [List.take_length] at hkp
 refine AD.loopI (fun i : Nat => i ≤ s.facts.length ∧ ∀ f ∈ s.facts.take i, f.body.WF) (fun i => s.facts.length - i) (fun i => [(1, .loc 1 0), (7, eint .i64 i)]) (fun _ => [(1, .box 27 (s.cx.map .p))]) 0 ⟨Nat.zero_le _, by simp⟩ .of fun i ⟨hi, hkf⟩ => AD.run hT hmix ?_
 intro _
 refine bgo_split (fun hb => ?_) (fun hb => ?_)
 · replace hb := of_decide_eq_true hb
   have hlt : i < s.facts.length := by omega
   obtain ⟨b2, f2, h2⟩ := validNode02 s.facts[i].body
   refine igo_map i rfl hlt (.pure _ _ rfl h2 ?_)
   cases b2 with
   | false => exact ⟨_, _, rfl, rfl, false, rfl, nofun⟩
   | true => exact ngo_in (by omega) (by omega) ⟨i + 1, ⟨by omega, take_step hlt hkf (f2 rfl)⟩, by omega, .of⟩
 replace hb := of_decide_eq_false hb
 obtain rfl : i = s.facts.length := by omega
 rw [List.take_length] at hkf
 exact ⟨_, _, rfl, rfl, true, rfl, fun _ => ⟨by omega, by omega, by omega, by omega, hk, hkp, hkf⟩⟩
structure Spc.Fit9 (s : Spc) (sc : Scope) : Prop where
 s1 : 1 ≤ s.sorts.length
 sz : SizedP sc
 len : s.sorts.length = sc.atoms.length
set_option maxHeartbeats 1000000 in
theorem fits09 (s : Spc) (sc : Scope) : Gate 49 [s.ex, sc.av] (s.Fit9 sc) := by
 refine Gate.of Tryz.func49 rfl rfl (by simp) (AD.run hT hmix ?_)
 have l1 : (s.sorts.map Srt.av).length = s.sorts.length := List.length_map _
 have l2 : (s.fields.map Fld.av).length = s.fields.length := List.length_map _
 have l3 : (sc.atoms.map eI).length = sc.atoms.length := List.length_map _
 intro _
 refine bgo_split (fun hb => ⟨_, _, rfl, rfl, false, rfl, nofun⟩) (fun hb1 => ?_)
 intro _
 refine bgo_split (fun hb => ⟨_, _, rfl, rfl, false, rfl, nofun⟩) (fun hb2 => ?_)
 intro _
 refine bgo_split (fun hb => ⟨_, _, rfl, rfl, false, rfl, nofun⟩) (fun hb3 => ?_)
 intro _
 refine bgo_split (fun hb => ⟨_, _, rfl, rfl, false, rfl, nofun⟩) (fun hb4 => ?_)
 replace hb1 : ((s.sorts.map Srt.av).length : Int) ≠ 0 := by simpa using hb1
 replace hb2 := of_decide_eq_false hb2
 replace hb3 := of_decide_eq_false hb3
 replace hb4 := of_decide_eq_false hb4
 refine AD.loopI (fun i : Nat => i ≤ s.fields.length) (fun i => s.fields.length - i) (fun i => [(2, .loc 2 0), (3, .loc 3 0), (5, eint .i64 i)]) (fun _ => [(2, .box 27 (s.cx.map .p)), (3, .box 30 (sc.cs.map .p))]) 0 (Nat.zero_le _) .of fun i hi => AD.run hT hmix ?_
 intro _
 refine bgo_split (fun hb => ?_) (fun hb => ?_)
 · replace hb := of_decide_eq_true hb
   have hlt : i < s.fields.length := by omega
   refine igo_map i rfl hlt ?_
   intro _
   have l5 : (s.fields[i].sorts.map eI).length = s.fields[i].sorts.length := List.length_map _
   refine bgo_split (fun hb => ⟨_, _, rfl, rfl, false, rfl, nofun⟩) (fun hc1 => ?_)
   intro _
   refine bgo_split (fun hb => ⟨_, _, rfl, rfl, false, rfl, nofun⟩) (fun hc2 => ?_)
   replace hc1 := of_decide_eq_false hc1
   replace hc2 := of_decide_eq_false hc2
   refine AD.loopI (fun j : Nat => j ≤ s.fields[i].sorts.length) (fun j => s.fields[i].sorts.length - j) (fun j => [(2, .loc 2 0), (3, .loc 3 0), (5, eint .i64 i), (6, .p (ints s.fields[i].sorts)), (7, eint .i64 j)]) (fun _ => [(2, .box 27 (s.cx.map .p)), (3, .box 30 (sc.cs.map .p))]) 0 (Nat.zero_le _) .of fun j hj => AD.run hT hmix ?_
   intro _
   refine bgo_split (fun hb => ?_) (fun hb => ?_)
   · replace hb := of_decide_eq_true hb
     have hjt : j < s.fields[i].sorts.length := by omega
     refine igo_map j rfl hjt (bgo_split (fun hc => ⟨by kernel_rfl, _, _, rfl, rfl, false, rfl, nofun⟩) (fun hc => igo_map j rfl hjt ?_))
     intro _
     exact ⟨by kernel_rfl, bgo_split (fun hd => ⟨_, _, rfl, rfl, false, rfl, nofun⟩) (fun hd => ngo_in (by omega) (by omega) ⟨j + 1, by omega, by omega, .of⟩)⟩
   · exact ngo_in (by omega) (by omega) ⟨i + 1, by omega, by omega, .of⟩
 obtain ⟨b, f, hf⟩ := valid05 s sc
 rw [Spc.av_ex] at hf
 exact .pure _ _ rfl hf ⟨_, _, rfl, rfl, b, rfl, fun e => ⟨by omega, (f e).1, (f e).2⟩⟩
end Go.Ab
namespace Go.Ab
open Go Go.Proofs
set_option maxRecDepth 10000
set_option maxHeartbeats 1000000 in
theorem work08 (n : Nd) (at_ st : Int) (ha : 0 ≤ at_ ∧ at_ ≤ 12) (hs : 0 ≤ st ∧ st ≤ 4) : ∃ r : Int, (1 ≤ r ∧ r ≤ 1000000) ∧ AFun Tryz.prog 106 [n.ex, eI at_, eI st] (.p (eI r)) := by
  induction n using Nd.ind with
  | h n ih =>
    suffices hh : ∃ y, (∃ r : Int, y = .p (eI r) ∧ 1 ≤ r ∧ r ≤ 1000000) ∧ AFun Tryz.prog 106 [n.ex, eI at_, eI st] y by
      obtain ⟨y, ⟨r, rfl, hr⟩, hf⟩ := hh
      exact ⟨r, hr, hf⟩
    refine AFunE.intro hT Tryz.func106 rfl rfl (by simp) ⟨_, 1, rfl, by omega, by omega⟩ (AD.run hT hmix ?_)
    have hl : (n.kids.map Nd.av).length = n.kids.length := List.length_map _
    refine AD.loopI (fun x : Nat × Int => x.1 ≤ n.kids.length ∧ 1 ≤ x.2 ∧ x.2 ≤ 1000000) (fun x => n.kids.length - x.1) (fun x => [(1, .p (eI at_)), (2, .p (eI st)), (3, .loc 3 0), (7, eint .i64 x.2), (8, eint .i64 x.1)]) (fun _ => [(3, .box 35 ([eI n.op, eS n.name, eI n.n, .slice 5 (n.kids.map Nd.av), eI n.at_].map .p))]) (0, 1) ⟨Nat.zero_le _, by dsimp only; omega, by dsimp only; omega⟩ .of fun ⟨i, s⟩ ⟨hi, g1, g2⟩ => AD.run hT hmix ?_
    dsimp only at hi g1 g2 ⊢
    intro hlen
    refine bgo_split (fun hb => ?_) (fun hb => ⟨_, _, rfl, rfl, s, rfl, g1, g2⟩)
    replace hb := of_decide_eq_true hb
    have hlt : i < n.kids.length := by omega
    obtain ⟨r, hr, hf⟩ := ih _ (List.getElem_mem hlt)
    rw [← Nd.av_ex] at hf
    refine igo_map i rfl hlt (.pure _ _ rfl hf ?_)
    have m1 : 0 ≤ r * at_ ∧ r * at_ ≤ 12000000 := ⟨Int.mul_nonneg (by omega) ha.1, by
      have := Int.mul_le_mul hr.2 ha.2 ha.1 (by omega : (0:Int) ≤ 1000000); omega⟩
    have m2 : ∀ q : Int, 0 ≤ q → q ≤ 12000000 → 0 ≤ q * st ∧ q * st ≤ 48000000 := fun q h1 h2 => ⟨Int.mul_nonneg h1 hs.1, by
      have := Int.mul_le_mul h2 hs.2 hs.1 (by omega : (0:Int) ≤ 12000000); omega⟩
    have m3 := m2 (r * at_) m1.1 m1.2
    have m4 := m2 r (by omega) (by omega)
    repeat' first
      | refine bgo_true (by assumption) ?_
      | refine bgo_false (by assumption) ?_
      | refine bgo_split (fun _ => ?_) (fun _ => ?_)
      | refine ngo_in (by omega) (by omega) ?_
    all_goals refine ⟨(i + 1, _), ⟨?_, ?_, ?_⟩, ?_, .of⟩
    all_goals dsimp only
    all_goals first
      | omega
      | (generalize Int.decLt _ _ = dd
         cases dd <;> dsimp only <;> omega)
theorem has09 (l : List Int) (x : Int) : Test 174 [ints l, eI x] := by
 refine Test.of Tryz.func174 rfl rfl (by simp) (AD.run hT hmix ?_)
 have hl : (l.map eI).length = l.length := List.length_map _
 refine AD.loopI (fun i : Nat => i ≤ l.length) (fun i => l.length - i) (fun i => [(0, .p (ints l)), (1, .p (eI x)), (5, eint .i64 i)]) (fun _ => []) 0 (Nat.zero_le _) .of fun i hi => AD.run hT hmix ?_
 intro _
 refine bgo_split (fun hb => ?_) (fun hb => ⟨_, _, rfl, rfl, _, rfl⟩)
 replace hb := of_decide_eq_true hb
 have hlt : i < l.length := by omega
 refine igo_map i rfl hlt (bgo_split (fun hc => ⟨_, _, rfl, rfl, _, rfl⟩) (fun hc => ngo_in (by omega) (by omega) ⟨i + 1, by omega, by omega, .of⟩))
def Pairs (m : Nat) (es : List AV) : Prop := ∃ l : List (Nat × Int), es = l.map (fun x => .agg [eI x.1, eI x.2]) ∧ ∀ x ∈ l, x.1 < m
theorem Pairs.snoc {m : Nat} {es : List AV} (h : Pairs m es) {i : Nat} (hi : i < m) (r : Int) : Pairs m (es ++ [.agg [eI i, eI r]]) := by
 obtain ⟨l, rfl, hl⟩ := h
 refine ⟨l ++ [(i, r)], by simp, fun x hx => ?_⟩
 rcases List.mem_append.1 hx with hx | hx
 · exact hl x hx
 · rw [List.mem_singleton] at hx; subst hx; exact hi
theorem free09 (bs : List Bnd) (hn : bs.length ≤ 100) (hu : ∀ b ∈ bs, b.upper.tuples.length ≤ 1728) : ∃ es, (Pairs bs.length es ∧ es.length ≤ 200000) ∧ AFun Tryz.prog 107 [.slice 4 (bs.map Bnd.av)] (.p (.slice 2 es)) := by
 suffices hh : ∃ y, (∃ es, y = .p (.slice 2 es) ∧ Pairs bs.length es ∧ es.length ≤ 200000) ∧ AFun Tryz.prog 107 [.slice 4 (bs.map Bnd.av)] y by
  obtain ⟨y, ⟨r, rfl, hr⟩, hf⟩ := hh
  exact ⟨r, hr, hf⟩
 have hl : (bs.map Bnd.av).length = bs.length := List.length_map _
 refine AFunE.intro hT Tryz.func107 rfl rfl (by simp) ⟨_, [], rfl, ⟨[], rfl, nofun⟩, by simp⟩ (AD.run hT hmix ?_)
 refine AD.loopI (fun x : Nat × List AV => x.1 ≤ bs.length ∧ Pairs bs.length x.2 ∧ x.2.length ≤ 1728 * x.1) (fun x => bs.length - x.1) (fun x => [(0, .p (.slice 4 (bs.map Bnd.av))), (3, .own 2 x.2 53), (4, eint .i64 x.1)]) (fun x => [(53, .tail x.2.length)]) (0, []) ⟨Nat.zero_le _, ⟨[], rfl, nofun⟩, Nat.le_refl _⟩ .of fun ⟨i, es⟩ ⟨hi, g1, g2⟩ => AD.run hT hmix ?_
 dsimp only at hi g1 g2 ⊢
 intro _
 refine bgo_split (fun hb => ?_) (fun hb => ⟨_, _, rfl, rfl, es, rfl, g1, by omega⟩)
 replace hb := of_decide_eq_true hb
 have hlt : i < bs.length := by omega
 have hui := hu _ (List.getElem_mem hlt)
 have hl2 : (bs[i].upper.tuples.map eI).length = bs[i].upper.tuples.length := List.length_map _
 refine AD.loopI (fun x : Nat × List AV => x.1 ≤ bs[i].upper.tuples.length ∧ Pairs bs.length x.2 ∧ x.2.length ≤ 1728 * i + x.1) (fun x => bs[i].upper.tuples.length - x.1) (fun x => [(0, .p (.slice 4 (bs.map Bnd.av))), (3, .own 2 x.2 53), (4, eint .i64 i), (5, eint .i64 x.1)]) (fun x => [(53, .tail x.2.length)]) (0, es) ⟨Nat.zero_le _, g1, by dsimp only; omega⟩ .of fun ⟨j, es⟩ ⟨hj, g1, g2⟩ => AD.run hT hmix ?_
 dsimp only at hj g1 g2 ⊢
 refine igo_map i rfl hlt ?_
 intro _
 refine bgo_split (fun hb2 => ?_) (fun hb2 => ?_)
 · replace hb2 := of_decide_eq_true hb2
   have hjt : j < bs[i].upper.tuples.length := by omega
   obtain ⟨b, _, hf⟩ := has09 bs[i].lower.tuples bs[i].upper.tuples[j]
   refine igo_map i rfl hlt (igo_map i rfl hlt (igo_map j rfl hjt (.pure _ _ rfl hf ?_)))
   cases b with
   | true => exact ⟨by kernel_rfl, ngo_in (by omega) (by omega) ⟨(j + 1, es), ⟨by dsimp only; omega, g1, by dsimp only; omega⟩, by dsimp only; omega, .of⟩⟩
   | false =>
    refine ⟨by kernel_rfl, igo_map i rfl hlt (igo_map j rfl hjt ⟨rfl, ⟨by simp; omega, by simp; omega⟩, ngo_in (by omega) (by omega) ?_⟩)⟩
    exact ⟨(j + 1, es ++ [.agg [eI i, eI bs[i].upper.tuples[j]]]), ⟨by dsimp only; omega, g1.snoc hlt _, by simp; omega⟩, by dsimp only; omega, .of⟩
 · exact ngo_in (by omega) (by omega) ⟨(i + 1, es), ⟨by dsimp only; omega, g1, by dsimp only; omega⟩, by dsimp only; omega, .of⟩
theorem choices25 (s : Spc) (sc : Scope) (bs : List Bnd) (hn : bs.length ≤ 100) (hb : bs.length ≤ s.fields.length) (hu : ∀ b ∈ bs, b.upper.tuples.length ≤ 1728) : ∃ es, AFun Tryz.prog 56 [s.ex, sc.av, .slice 4 (bs.map Bnd.av)] (.p (.slice 3 es)) := by
 suffices hh : ∃ y, (∃ es, y = .p (.slice 3 es)) ∧ AFun Tryz.prog 56 [s.ex, sc.av, .slice 4 (bs.map Bnd.av)] y by
  obtain ⟨y, ⟨r, rfl⟩, hf⟩ := hh
  exact ⟨r, hf⟩
 obtain ⟨fs, ⟨⟨l, rfl, hl⟩, hfl⟩, hf⟩ := free09 bs hn hu
 have hl0 : (l.map fun x : Nat × Int => AV.agg [eI x.1, eI x.2]).length = l.length := List.length_map _
 have hl1 : (s.fields.map Fld.av).length = s.fields.length := List.length_map _
 refine AFunE.intro hT Tryz.func56 rfl rfl (by simp) ⟨_, [], rfl⟩ (AD.run hT hmix ?_)
 refine .pure _ _ rfl hf ?_
 refine AD.loopI (fun x : Nat × List AV => x.1 ≤ 4 ∧ x.2.length ≤ 200000 * x.1) (fun x => 4 - x.1) (fun x => [(3, .loc 3 0), (4, .loc 4 0), (7, .own 3 x.2 57), (8, .p (.slice 2 (l.map fun x : Nat × Int => AV.agg [eI x.1, eI x.2]))), (9, eint .i64 x.1)]) (fun x => [(3, .box 27 (s.cx.map .p)), (4, .box 30 (sc.cs.map .p)), (57, .tail x.2.length)]) (0, []) ⟨Nat.zero_le _, Nat.le_refl _⟩ .of fun ⟨i, es⟩ ⟨hi, g1⟩ => AD.run hT hmix ?_
 dsimp only at hi g1 ⊢
 refine bgo_split (fun hb1 => bgo_split (fun hb2 => ?_) (fun hb2 => ⟨_, _, rfl, rfl, es, rfl⟩)) (fun hb1 => ⟨_, _, rfl, rfl, es, rfl⟩)
 replace hb2 := of_decide_eq_true hb2
 refine AD.loopI (fun x : Nat × List AV => x.1 ≤ l.length ∧ x.2.length ≤ 200000 * i + x.1) (fun x => l.length - x.1) (fun x => [(3, .loc 3 0), (4, .loc 4 0), (7, .own 3 x.2 57), (8, .p (.slice 2 (l.map fun x : Nat × Int => AV.agg [eI x.1, eI x.2]))), (9, eint .i64 i), (10, eint .i64 x.1)]) (fun x => [(3, .box 27 (s.cx.map .p)), (4, .box 30 (sc.cs.map .p)), (57, .tail x.2.length)]) (0, es) ⟨Nat.zero_le _, by dsimp only; omega⟩ .of fun ⟨j, es⟩ ⟨hj, g1⟩ => AD.run hT hmix ?_
 dsimp only at hj g1 ⊢
 intro _
 refine bgo_split (fun hb3 => ?_) (fun hb3 => ?_)
 · replace hb3 := of_decide_eq_true hb3
   have hjt : j < l.length := by omega
   have hlj := hl _ (List.getElem_mem hjt)
   refine bgo_split (fun hz => ?_) (fun hz => ?_)
   · refine ⟨by kernel_rfl, igo_map j rfl hjt ⟨0, rfl, by decide, igo_map j rfl hjt ⟨1, rfl, by decide, ⟨rfl, ⟨by simp; omega, by simp; omega⟩, ⟨by kernel_rfl, ngo_in (by omega) (by omega) ?_⟩⟩⟩⟩⟩
     exact ⟨(j + 1, es ++ [.agg [eI i, eI l[j].1, eI l[j].2]]), ⟨by dsimp only; omega, by simp; omega⟩, by dsimp only; omega, .of⟩
   · refine igo_map j rfl hjt ⟨0, rfl, by decide, igo_map l[j].1 rfl (by omega) ⟨by kernel_rfl, bgo_split (fun hv => ?_) (fun hv => ?_)⟩⟩
     · refine igo_map j rfl hjt ⟨0, rfl, by decide, igo_map j rfl hjt ⟨1, rfl, by decide, ⟨rfl, ⟨by simp; omega, by simp; omega⟩, ⟨by kernel_rfl, ngo_in (by omega) (by omega) ?_⟩⟩⟩⟩
       exact ⟨(j + 1, es ++ [.agg [eI i, eI l[j].1, eI l[j].2]]), ⟨by dsimp only; omega, by simp; omega⟩, by dsimp only; omega, .of⟩
     · exact ngo_in (by omega) (by omega) ⟨(j + 1, es), ⟨by dsimp only; omega, by dsimp only; omega⟩, by dsimp only; omega, .of⟩
 · exact ngo_in (by omega) (by omega) ⟨(i + 1, es), ⟨by dsimp only; omega, by dsimp only; omega⟩, by dsimp only; omega, .of⟩
def StateIn (b : List Bnd) (st : List Rl) : Prop := st.length = b.length ∧ ∀ (i : Nat) (hi : i < b.length) (hs : i < st.length), st[i].arity = b[i].upper.arity ∧ st[i].tuples.Sublist b[i].upper.tuples
theorem inside09 (b : List Bnd) (hb6 : b.length ≤ 6) (hlow : ∀ x ∈ b, x.lower.tuples = []) (hup : ∀ x ∈ b, x.upper.tuples.length ≤ 1728) (picks : List Bool) :
 ∃ n cs, (∃ st, StateIn b st ∧ n = st.length ∧ cs = flat (st.map Rl.av)) ∧ AFunV Tryz.prog 57 [.slice 4 (b.map Bnd.av), .slice 1 (picks.map eB)] 2 50 n cs := by
 have hl : (b.map Bnd.av).length = b.length := List.length_map _
 refine AFunVE.intro hT Tryz.func57 rfl rfl (by simp) ⟨_, _, b.map (fun x => ⟨x.upper.arity, []⟩), ⟨by simp, fun i hi hs => by simp⟩, rfl, rfl⟩ (AD.run hT hmix ?_)
 refine AD.loopI (fun x : Nat × Nat × Nat × List EV => x.1 ≤ b.length ∧ x.2.1 ≤ 1728 * x.1 ∧ ∃ st, x.2.2.1 = st.length ∧ x.2.2.2 = (flat (st.map Rl.av)).map .p ∧ StateIn (b.take x.1) st) (fun x => b.length - x.1)
  (fun x => [(0, .p (.slice 4 (b.map Bnd.av))), (1, .p (.slice 1 (picks.map eB))), (5, .arr 2 5 0 x.2.2.1), (6, eint .i64 (x.2.1 : Nat)), (7, eint .i64 (x.1 : Nat))])
  (fun x => [(5, .box 50 x.2.2.2)]) (0, 0, 0, []) ⟨Nat.zero_le _, Nat.zero_le _, [], rfl, rfl, rfl, fun i h => by simp at h⟩ (.vec 5) fun ⟨i, cnt, n, cE⟩ ⟨g1, g2, st, g5, g6, g3⟩ => AD.run hT hmix ?_
 dsimp only at g1 g2 g3 g5 g6 ⊢
 have hok : ∀ h, okE.okL h cE = true := fun h => by rw [g6]; exact okL_p _ _
 intro _
 refine bgo_split (fun hc => ?_) (fun hc => ?_)
 · replace hc := of_decide_eq_true hc
   have hlt : i < b.length := by omega
   obtain ⟨la, up, he⟩ : ∃ la up, b[i] = ⟨⟨la, []⟩, up⟩ := by
    have := hlow _ (List.getElem_mem hlt)
    generalize b[i] = x at this
    obtain ⟨⟨la, lt⟩, up⟩ := x
    dsimp only at this
    subst this
    exact ⟨la, up, rfl⟩
   have hget : (b.map Bnd.av)[i]? = some (Bnd.av ⟨⟨la, []⟩, up⟩) := by simp [hlt, he]
   have hu : up.tuples.length ≤ 1728 := by have := hup _ (List.getElem_mem hlt); rw [he] at this; exact this
   have hut : (up.tuples.map eI).length = up.tuples.length := List.length_map _
   refine ⟨i, _, rfl, hget, ?_⟩
   refine AD.loopI (fun x : Nat × Nat × List AV => x.1 ≤ up.tuples.length ∧ x.2.1 ≤ 1728 * i + x.1 ∧ ∃ tl : List Int, x.2.2 = tl.map eI ∧ tl.Sublist (up.tuples.take x.1)) (fun x => up.tuples.length - x.1)
    (fun x => [(0, .p (.slice 4 (b.map Bnd.av))), (1, .p (.slice 1 (picks.map eB))), (5, .arr 2 5 0 n), (6, eint .i64 (x.2.1 : Nat)), (7, eint .i64 i), (8, .loc 8 0), (9, eint .i64 (x.1 : Nat))])
    (fun x => [(5, .box 50 cE), (8, .box 50 [.p (eI up.arity), .own 1 x.2.2 77]), (77, .tail x.2.2.length)])
    (0, cnt, []) ⟨Nat.zero_le _, g2, [], rfl, List.Sublist.refl _⟩ .of fun ⟨k, c2, es⟩ ⟨e1, e2, e3⟩ => AD.run hT hmix ?_
   dsimp only at e1 e2 e3 ⊢
   refine ⟨i, _, rfl, hget, ?_⟩
   intro _
   refine bgo_split (fun hd => ?_) (fun hd => ?_)
   · replace hd := of_decide_eq_true hd
     have hk : k < up.tuples.length := by have : (k : Int) < (up.tuples.map eI).length := hd; omega
     refine ⟨i, _, rfl, hget, igo_map k rfl hk ⟨i, _, rfl, hget, .pure _ _ rfl (in06_nil up.arity la up.tuples[k]) ⟨by kernel_rfl, ?_⟩⟩⟩
     obtain ⟨tl, t1, t2⟩ := e3
     have hes : es.length ≤ 1728 := by rw [t1, List.length_map]; have := t2.length_le; rw [List.length_take] at this; omega
     have htk := List.take_succ_eq_append_getElem hk
     have yes : ∀ c3 : Nat, ∃ tl2 : List Int, es ++ [eI up.tuples[k]] = tl2.map eI ∧ tl2.Sublist (up.tuples.take (k + 1)) := fun _ => ⟨tl ++ [up.tuples[k]], by simp [t1], by rw [htk]; exact t2.append (List.Sublist.refl _)⟩
     have no : ∃ tl2 : List Int, es = tl2.map eI ∧ tl2.Sublist (up.tuples.take (k + 1)) := ⟨tl, t1, by rw [htk]; exact t2.trans (List.sublist_append_left _ _)⟩
     intro _
     refine bgo_split (fun hf => ?_) (fun hf => ?_)
     · replace hf := of_decide_eq_true hf
       have hcp : c2 < picks.length := by have : (c2 : Int) < (picks.map eB).length := hf; simp at this; omega
       refine igo_map c2 rfl hcp (bgo_split (fun hg => ?_) (fun hg => ?_))
       · refine ⟨rfl, ⟨by simp; omega, by simp; omega⟩, ngo_in (by omega) (by omega) (ngo_in (by omega) (by omega) ?_)⟩
         exact ⟨(k + 1, c2 + 1, _), ⟨by dsimp only; omega, by dsimp only; omega, yes 0⟩, by dsimp only; omega, .of⟩
       · refine ngo_in (by omega) (by omega) (ngo_in (by omega) (by omega) ?_)
         exact ⟨(k + 1, c2 + 1, es), ⟨by dsimp only; omega, by dsimp only; omega, no⟩, by dsimp only; omega, .of⟩
     · refine ngo_in (by omega) (by omega) (ngo_in (by omega) (by omega) ?_)
       exact ⟨(k + 1, c2 + 1, es), ⟨by dsimp only; omega, by dsimp only; omega, no⟩, by dsimp only; omega, .of⟩
   · replace hd := of_decide_eq_false hd
     have hk : k = up.tuples.length := by have : ¬ (k : Int) < (up.tuples.map eI).length := hd; omega
     subst hk
     obtain ⟨tl, t1, t2⟩ := e3
     have hcl : n * 2 = cE.length := by rw [g5, g6, List.length_map, flat_length (sz := 2) (fun e he => by obtain ⟨r, _, rfl⟩ := List.mem_map.1 he; rfl), List.length_map]
     have hn : n ≤ 6 := by have := g3.1; rw [g5, this, List.length_take]; omega
     refine ⟨hcl, ⟨by simp; omega, by simp; omega⟩, ngo_in (by omega) (by omega) ?_⟩
     refine ⟨(i + 1, c2, n + 1, renE.renL 84 5 (cE ++ (flat [Rl.av ⟨up.arity, tl⟩]).map .p)), ⟨by dsimp only; omega, by dsimp only; omega, st ++ [⟨up.arity, tl⟩], by simp [g5], ?_, ?_⟩, by dsimp only; omega, ?_⟩
     · dsimp only
       rw [g6, ← List.map_append, ← flat_append, renL_p]
       simp
     · refine ⟨by have := g3.1; rw [List.length_take] at this ⊢; simp; omega, fun j hj hs => ?_⟩
       have hj' : j < i + 1 := by rw [List.length_take] at hj; omega
       by_cases hji : j = i
       · subst hji
         have hsl : st.length = j := by have := g3.1; rw [List.length_take] at this; omega
         have e1 : (st ++ [(⟨up.arity, tl⟩ : Rl)])[j] = ⟨up.arity, tl⟩ := by simp [List.getElem_append_right, hsl]
         have e2 : (b.take (j + 1))[j] = b[j] := by simp
         rw [e1, e2, he]
         rw [List.take_length] at t2
         exact ⟨rfl, t2⟩
       · have hji' : j < i := by omega
         have hsl : st.length = i := by have := g3.1; rw [List.length_take] at this; omega
         have e1 : (st ++ [(⟨up.arity, tl⟩ : Rl)])[j] = st[j] := by rw [List.getElem_append_left]
         have e2 : (b.take (i + 1))[j] = (b.take i)[j]'(by rw [List.length_take]; omega) := by simp
         rw [e1, e2]
         exact g3.2 j (by rw [List.length_take]; omega) (by omega)
     · rw [t1]
       exact (SubAll.of (env' := [(0, .p (.slice 4 (b.map Bnd.av))), (1, .p (.slice 1 (picks.map eB))), (5, .arr 2 84 0 (n + 1)), (6, eint .i64 (c2 : Nat)), (7, eint .i64 ((i : Int) + 1))]) (h' := [(84, .box 50 (cE ++ (flat [Rl.av ⟨up.arity, tl⟩]).map .p))])).trans (SubAll.ren 84 5)
 · replace hc := of_decide_eq_false hc
   obtain rfl : i = b.length := by omega
   rw [List.take_length] at g3
   exact ⟨n, flat (st.map Rl.av), 5, cE, rfl, rfl, by rw [g6]; exact toPs_p _, by rw [g5, g6, List.length_map, flat_length (sz := 2) (fun e he => by obtain ⟨r, _, rfl⟩ := List.mem_map.1 he; rfl), List.length_map], st, g3, g5, rfl⟩
theorem setSeg_rl : ∀ (l : List Rl) (j : Nat) (r : Rl), j < l.length → setSeg ((flat (l.map Rl.av)).map EV.p) (0 + j * 2) [.p (eI r.arity), .p (ints r.tuples)] = (flat ((l.set j r).map Rl.av)).map .p
 | [], j, r, h => by simp at h
 | x :: l, 0, r, h => rfl
 | x :: l, j + 1, r, h => by
  have ih := setSeg_rl l j r (by simpa using h)
  simp only [Nat.zero_add, setSeg] at ih ⊢
  show (((eI x.arity :: ints x.tuples :: flat (l.map Rl.av)).map EV.p).set ((j + 1) * 2) _).set ((j + 1) * 2 + 1) _ = (eI x.arity :: ints x.tuples :: flat ((l.set j r).map Rl.av)).map EV.p
  rw [show (j + 1) * 2 = j * 2 + 1 + 1 by omega]
  simp only [List.map_cons, List.set_cons_succ]
  rw [ih]
theorem StateIn.set {b : List Bnd} {st st0 : List Rl} (h : StateIn b st) (h0 : StateIn b st0) {j : Nat} (hj : j < st0.length) : StateIn b (st.set j st0[j]) := by
 refine ⟨by simpa using h.1, fun i hi hs => ?_⟩
 by_cases hij : i = j
 · subst hij; simp only [List.getElem_set_self]; exact h0.2 i hi hj
 · simp only [List.getElem_set_ne (Ne.symm hij)]; exact h.2 i hi (by simpa using hs)
def stav (st : List Rl) : AV := .slice 2 (st.map Rl.av)
def pick2 (p : List (List Bool)) : AV := .slice 1 (p.map fun l => .slice 1 (l.map eB))
theorem any25 (s : Spc) (sc : Scope) (b : List Bnd) (hb6 : b.length ≤ 6) (hbf : b.length ≤ s.fields.length) (hlow : ∀ x ∈ b, x.lower.tuples = []) (hup : ∀ x ∈ b, x.upper.tuples.length ≤ 1728) (picks : List (List Bool)) (loop : Int) (hlp : 0 ≤ loop ∧ loop < 256) (hst : 1 ≤ sc.steps ∧ sc.steps ≤ 4) :
 ∃ m : Mdl, (m.scope = sc ∧ (m.states.length : Int) = sc.steps ∧ (0 ≤ m.loop ∧ m.loop < sc.steps) ∧ ∀ st ∈ m.states, StateIn b st) ∧ AFun Tryz.prog 22 [s.ex, sc.av, .slice 4 (b.map Bnd.av), pick2 picks, .imm (.int .u8 loop)] (.p m.av) := by
 suffices hh : ∃ y, (∃ m : Mdl, y = .p m.av ∧ m.scope = sc ∧ (m.states.length : Int) = sc.steps ∧ (0 ≤ m.loop ∧ m.loop < sc.steps) ∧ ∀ st ∈ m.states, StateIn b st) ∧ AFun Tryz.prog 22 [s.ex, sc.av, .slice 4 (b.map Bnd.av), pick2 picks, .imm (.int .u8 loop)] y by
  obtain ⟨y, ⟨m, rfl, hm⟩, hf⟩ := hh
  exact ⟨m, hm, hf⟩
 refine AFunE.intro hT Tryz.func22 rfl rfl (by simp) ?_ (AD.run hT hmix ?_)
 · refine ⟨_, ⟨sc, List.replicate sc.steps.toNat (b.map fun x => ⟨x.upper.arity, []⟩), 0⟩, rfl, rfl, by simp; omega, ⟨Int.le_refl _, by dsimp only; omega⟩, fun st h => ?_⟩
   rw [List.mem_replicate] at h
   rw [h.2]
   exact ⟨by simp, fun i hi hs => by simp⟩
 have hq0 := Int.tmod_nonneg sc.steps hlp.1
 have hq1 := Int.tmod_lt_of_pos loop (show 0 < sc.steps by omega)
 obtain ⟨q, hq⟩ : ∃ q, loop.tmod sc.steps = q := ⟨_, rfl⟩
 rw [hq] at hq0 hq1
 refine ngo_in (by omega) (by omega) ?_
 refine ⟨?_, q, ?_, ?_⟩
 · split <;> omega
 · rw [if_neg (by omega)]; exact hq
 refine ⟨by kernel_rfl, ?_⟩
 have hl : (b.map Bnd.av).length = b.length := List.length_map _
 refine AD.loopI (fun x : Nat × List (List Rl) => x.1 ≤ sc.steps.toNat ∧ x.2.length = x.1 ∧ ∀ st ∈ x.2, StateIn b st) (fun x => sc.steps.toNat - x.1)
  (fun x => [(2, .p (.slice 4 (b.map Bnd.av))), (3, .p (pick2 picks)), (5, .loc 5 0), (6, .loc 6 0), (10, .loc 10 0), (11, .loc 11 0), (12, eint .i64 x.1)])
  (fun x => [(5, .box 27 (s.cx.map .p)), (6, .box 30 (sc.cs.map .p)), (10, .box 43 [.full 1 [], .p (eI 0), .full 1 [], .p (eI 0)]), (11, .box 43 [.p (ints sc.atoms), .p (eI sc.steps), .own 1 (x.2.map stav) 76, .p (eI q)]), (76, .tail (x.2.map stav).length)])
  (0, []) ⟨Nat.zero_le _, rfl, nofun⟩ .of fun ⟨k, sts⟩ ⟨g1, g2, g3⟩ => AD.cut hT hmix 8 (fun _ : List Bool => k < sc.steps.toNat)
   (fun row => [(2, .p (.slice 4 (b.map Bnd.av))), (3, .p (pick2 picks)), (5, .loc 5 0), (6, .loc 6 0), (10, .loc 10 0), (11, .loc 11 0), (12, eint .i64 k), (13, .p (.slice 1 (row.map eB)))])
   (fun _ => [(5, .box 27 (s.cx.map .p)), (6, .box 30 (sc.cs.map .p)), (10, .box 43 [.full 1 [], .p (eI 0), .full 1 [], .p (eI 0)]), (11, .box 43 [.p (ints sc.atoms), .p (eI sc.steps), .own 1 (sts.map stav) 76, .p (eI q)]), (76, .tail (sts.map stav).length)]) ?_ fun row hk => ?_
 · dsimp only at g1 g2 g3 ⊢
   have hp : (picks.map fun l => AV.slice 1 (l.map eB)).length = picks.length := List.length_map _
   refine bgo_split (fun hb1 => bgo_split (fun hb2 => ?_) (fun hb2 => ?_)) (fun hb1 => ?_)
   · intro _
     replace hb1 := of_decide_eq_true hb1
     have hks : k < sc.steps.toNat := by omega
     refine bgo_split (fun hb3 => ?_) (fun hb3 => ⟨[], hks, .of⟩)
     replace hb3 := of_decide_eq_true hb3
     have hk : k < picks.length := by omega
     exact igo_map k rfl hk ⟨picks[k], hks, .of⟩
   · replace hb1 := of_decide_eq_true hb1
     replace hb2 := of_decide_eq_false hb2
     omega
   · replace hb1 := of_decide_eq_false hb1
     exact ⟨_, _, rfl, rfl, ⟨sc, sts, q⟩, rfl, rfl, by dsimp only; omega, ⟨hq0, hq1⟩, g3⟩
 · dsimp only at g1 g2 g3
   obtain ⟨n, cs, ⟨st0, hs0, rfl, rfl⟩, hI⟩ := inside09 b hb6 hlow hup row
   refine AD.cut hT hmix 14 (fun st : List Rl => StateIn b st ∧ st.length = st0.length)
    (fun st => [(2, .p (.slice 4 (b.map Bnd.av))), (3, .p (pick2 picks)), (5, .loc 5 0), (6, .loc 6 0), (10, .loc 10 0), (11, .loc 11 0), (12, eint .i64 k), (14, .p (stav st))])
    (fun _ => [(5, .box 27 (s.cx.map .p)), (6, .box 30 (sc.cs.map .p)), (10, .box 43 [.full 1 [], .p (eI 0), .full 1 [], .p (eI 0)]), (11, .box 43 [.p (ints sc.atoms), .p (eI sc.steps), .own 1 (sts.map stav) 76, .p (eI q)]), (76, .tail (sts.map stav).length)]) ?_ fun st ⟨h1, h2⟩ => ?_
   · refine .vec _ _ _ _ _ 44 rfl hI rfl rfl ?_
     have hn : st0.length = b.length := hs0.1
     have lf : (s.fields.map Fld.av).length = s.fields.length := List.length_map _
     have lst : (sts.map stav).length = sts.length := List.length_map _
     refine AD.loopI (fun x : Nat × List Rl => x.1 ≤ st0.length ∧ x.2.length = st0.length ∧ StateIn b x.2) (fun x => st0.length - x.1)
      (fun x => [(2, .p (.slice 4 (b.map Bnd.av))), (3, .p (pick2 picks)), (5, .loc 5 0), (6, .loc 6 0), (10, .loc 10 0), (11, .loc 11 0), (12, eint .i64 k), (14, .arr 2 44 0 st0.length), (15, eint .i64 x.1)])
      (fun x => [(5, .box 27 (s.cx.map .p)), (6, .box 30 (sc.cs.map .p)), (10, .box 43 [.full 1 [], .p (eI 0), .full 1 [], .p (eI 0)]), (11, .box 43 [.p (ints sc.atoms), .p (eI sc.steps), .own 1 (sts.map stav) 76, .p (eI q)]), (76, .tail (sts.map stav).length), (44, .box 50 ((flat (x.2.map Rl.av)).map .p))])
      (0, st0) ⟨Nat.zero_le _, rfl, hs0⟩ .of fun ⟨j, st⟩ ⟨e1, e2, e3⟩ => AD.run hT hmix ?_
     dsimp only at e1 e2 e3 ⊢
     have flen : ((flat (st.map Rl.av)).map EV.p).length = st.length * 2 := by rw [List.length_map, flat_length (sz := 2) (fun e he => by obtain ⟨r, _, rfl⟩ := List.mem_map.1 he; rfl), List.length_map]
     have hseal : sealE 44 (flat (st.map Rl.av)) (.arr 2 44 0 st0.length) (.p (stav st)) := .inr ⟨2, 0, st0.length, st.map Rl.av, rfl, rfl, by
      rw [List.drop_zero, List.take_of_length_le]; rw [List.length_map] at flen; omega, fun e he => by obtain ⟨r, _, rfl⟩ := List.mem_map.1 he; rfl, by rw [List.length_map]; exact e2⟩
     intro _
     refine bgo_split (fun hb1 => bgo_split (fun hb2 => ?_) (fun hb2 => ?_)) (fun hb1 => ?_)
     · replace hb1 := of_decide_eq_true hb1
       replace hb2 := of_decide_eq_true hb2
       have hj : j < st0.length := by omega
       have hs1 := g3 _ (List.getElem_mem (show 0 < sts.length by omega))
       have hjs : j < (sts[0]'(by omega)).length := by have := hs1.1; omega
       have lr : ((sts[0]'(by omega)).map Rl.av).length = (sts[0]'(by omega)).length := List.length_map _
       refine igo_map j rfl (by omega) (bgo_split (fun hv => ?_) (fun hv => ?_))
       · refine igo_map 0 rfl (by omega) (igo_map j rfl hjs ⟨j, rfl, hj, bgo_true (by rw [Bool.and_eq_true, Bool.and_eq_true]; exact ⟨rfl, Nat.ble_eq_true_of_le (by rw [flen]; show 0 + j * 2 + 2 ≤ st.length * 2; omega), rfl⟩) (ngo_in (by omega) (by omega) ?_)⟩)
         refine ⟨(j + 1, st.set j ((sts[0]'(by omega))[j])), ⟨by dsimp only; omega, by simpa using e2, e3.set hs1 hjs⟩, by dsimp only; omega, .of (h2 := ⟨⟨rfl, .inr ⟨rfl, okL_p _ _⟩⟩, ⟨⟨rfl, .inr ⟨rfl, okL_p _ _⟩⟩, ⟨⟨rfl, .inr ⟨rfl, rfl⟩⟩, ⟨⟨rfl, .inr ⟨rfl, rfl⟩⟩, ⟨rfl, ⟨⟨rfl, .inr ⟨setSeg_rl _ _ _ (by omega), okL_p _ _⟩⟩, trivial⟩⟩⟩⟩⟩⟩)⟩
       · exact ngo_in (by omega) (by omega) ⟨(j + 1, st), ⟨by dsimp only; omega, e2, e3⟩, by dsimp only; omega, .of⟩
     · exact ⟨st, ⟨e3, e2⟩, .sealB 44 (hx := toPs_p _) (h1 := ⟨⟨.inl rfl, rfl⟩, ⟨⟨.inl rfl, rfl⟩, ⟨⟨.inl rfl, rfl⟩, ⟨⟨.inl rfl, rfl⟩, ⟨⟨.inl rfl, rfl⟩, ⟨⟨.inl rfl, rfl⟩, ⟨⟨.inl rfl, rfl⟩, ⟨⟨.inr (.inr (.inr (.inl ⟨_, _, rfl, hseal⟩))), rfl⟩, trivial⟩⟩⟩⟩⟩⟩⟩⟩)⟩
     · exact ⟨st, ⟨e3, e2⟩, .sealB 44 (hx := toPs_p _) (h1 := ⟨⟨.inl rfl, rfl⟩, ⟨⟨.inl rfl, rfl⟩, ⟨⟨.inl rfl, rfl⟩, ⟨⟨.inl rfl, rfl⟩, ⟨⟨.inl rfl, rfl⟩, ⟨⟨.inl rfl, rfl⟩, ⟨⟨.inl rfl, rfl⟩, ⟨⟨.inr (.inr (.inr (.inl ⟨_, _, rfl, hseal⟩))), rfl⟩, trivial⟩⟩⟩⟩⟩⟩⟩⟩)⟩
   · have lst : (sts.map stav).length = sts.length := List.length_map _
     refine AD.run hT hmix ?_
     refine ⟨rfl, ⟨by simp; omega, by simp; omega⟩, AD.run hT hmix ?_⟩
     refine ngo_in (by omega) (by omega) ⟨(k + 1, sts ++ [st]), ⟨by dsimp only; omega, by simp; omega, fun x hx => ?_⟩, by dsimp only; omega, ?_⟩
     · rcases List.mem_append.1 hx with hx | hx
       · exact g3 x hx
       · rw [List.mem_singleton] at hx; rw [hx]; exact h1
     · dsimp only
       rw [List.map_append]
       exact .of
theorem flatB (bs : List Bnd) : (flat (bs.map Bnd.av)).length = bs.length * 4 := by rw [flat_length (sz := 4) (fun e he => by obtain ⟨r, _, rfl⟩ := List.mem_map.1 he; rfl), List.length_map]
theorem setSeg_bnd : ∀ (l : List Bnd) (j : Nat) (r : Bnd), j < l.length → setSeg ((flat (l.map Bnd.av)).map EV.p) (0 + j * 4) [.p (eI r.lower.arity), .p (ints r.lower.tuples), .p (eI r.upper.arity), .p (ints r.upper.tuples)] = (flat ((l.set j r).map Bnd.av)).map .p
 | [], j, r, h => by simp at h
 | x :: l, 0, r, h => rfl
 | x :: l, j + 1, r, h => by
  have ih := setSeg_bnd l j r (by simpa using h)
  simp only [Nat.zero_add, setSeg] at ih ⊢
  show (((((eI x.lower.arity :: ints x.lower.tuples :: eI x.upper.arity :: ints x.upper.tuples :: flat (l.map Bnd.av)).map EV.p).set ((j + 1) * 4) _).set ((j + 1) * 4 + 1) _).set ((j + 1) * 4 + 1 + 1) _).set ((j + 1) * 4 + 1 + 1 + 1) _ = (eI x.lower.arity :: ints x.lower.tuples :: eI x.upper.arity :: ints x.upper.tuples :: flat ((l.set j r).map Bnd.av)).map EV.p
  rw [show (j + 1) * 4 = j * 4 + 1 + 1 + 1 + 1 by omega]
  simp only [List.map_cons, List.set_cons_succ]
  rw [ih]
theorem drop_bnd : ∀ (l : List Bnd) (j : Nat) (h : j < l.length), (((flat (l.map Bnd.av)).map EV.p).drop (0 + j * 4 + 2)).take 2 = [.p (eI l[j].upper.arity), .p (ints l[j].upper.tuples)]
 | x :: l, 0, h => rfl
 | x :: l, j + 1, h => by
  have ih := drop_bnd l j (by simpa using h)
  show (((eI x.lower.arity :: ints x.lower.tuples :: eI x.upper.arity :: ints x.upper.tuples :: flat (l.map Bnd.av)).map EV.p).drop (0 + (j + 1) * 4 + 2)).take 2 = _
  rw [show 0 + (j + 1) * 4 + 2 = (0 + j * 4 + 2) + 1 + 1 + 1 + 1 by omega]
  simpa using ih
theorem default09V (sp : Spc) (s : Scope) (N : Nat) (h : ScopeOk s N) (hf : FieldsOk sp s) : AFunV Tryz.prog 23 [sp.ex, s.av] 4 133 sp.fields.length (flat ((dflt s N sp.fields).map Bnd.av)) := by
 suffices hh : ∃ n cs, (n = sp.fields.length ∧ cs = flat ((dflt s N sp.fields).map Bnd.av)) ∧ AFunV Tryz.prog 23 [sp.ex, s.av] 4 133 n cs by
  obtain ⟨n, cs, ⟨rfl, rfl⟩, hv⟩ := hh
  exact hv
 have hl : (sp.fields.map Fld.av).length = sp.fields.length := List.length_map _
 have hfew := hf.few
 refine AFunVE.intro hT Tryz.func23 rfl rfl (by simp) ⟨_, _, rfl, rfl⟩ (AD.run hT hmix ?_)
 refine AD.loopI (fun x : Nat × List EV => x.1 ≤ sp.fields.length ∧ x.2 = (flat ((dflt s N (sp.fields.take x.1)).map Bnd.av)).map .p) (fun x => sp.fields.length - x.1)
  (fun x => [(2, .loc 2 0), (3, .loc 3 0), (5, .arr 4 5 0 x.1), (6, eint .i64 (x.1 : Nat))])
  (fun x => [(2, .box 27 (sp.cx.map .p)), (3, .box 30 (s.cs.map .p)), (5, .box 133 x.2)]) (0, []) ⟨Nat.zero_le _, rfl⟩ (.vec 5) fun ⟨i, cE⟩ ⟨g1, g2⟩ => AD.run hT hmix ?_
 dsimp only at g1 g2 ⊢
 have hdl : (dflt s N (sp.fields.take i)).length = i := by simp [dflt]; omega
 have hok : ∀ h, okE.okL h cE = true := fun h => by rw [g2]; exact okL_p _ _
 intro _
 refine bgo_split (fun hb => ?_) (fun hb => ?_)
 · replace hb := of_decide_eq_true hb
   have hlt : i < sp.fields.length := by omega
   have hc := hf.cols _ (List.getElem_mem hlt)
   refine igo_map i rfl hlt ?_
   intro _
   have hcl : i * 4 = cE.length := by rw [g2, List.length_map, flatB, hdl]
   refine igo_map i rfl hlt (.pure _ _ rfl (full05 s h.small N h.sum h.pos h.most _ hc.1 hc.2) ⟨hcl, ⟨by simp; omega, by simp; omega⟩, ⟨by kernel_rfl, ngo_in (by omega) (by omega) ?_⟩⟩)
   refine ⟨(i + 1, renE.renL 35 5 (cE ++ (flat [Bnd.av ⟨⟨(sp.fields[i].sorts.map eI).length, []⟩, ⟨sp.fields[i].sorts.length, fullT s.atoms N sp.fields[i].sorts (N ^ sp.fields[i].sorts.length)⟩⟩]).map .p)), ⟨by dsimp only; omega, ?_⟩, by dsimp only; omega, ?_⟩
   · dsimp only
     rw [g2, ← List.map_append, ← flat_append, renL_p, List.take_succ_eq_append_getElem hlt, dflt, dflt, List.map_append, List.map_append]
     simp [fullR]
   · exact (SubAll.of (env' := [(2, .loc 2 0), (3, .loc 3 0), (5, .arr 4 35 0 (i + 1)), (6, eint .i64 ((i : Int) + 1))]) (h' := [(2, .box 27 (sp.cx.map .p)), (3, .box 30 (s.cs.map .p)), (35, .box 133 (cE ++ (flat [Bnd.av ⟨⟨(sp.fields[i].sorts.map eI).length, []⟩, ⟨sp.fields[i].sorts.length, fullT s.atoms N sp.fields[i].sorts (N ^ sp.fields[i].sorts.length)⟩⟩]).map .p))])).trans (SubAll.ren 35 5)
 · replace hb := of_decide_eq_false hb
   obtain rfl : i = sp.fields.length := by omega
   rw [List.take_length] at g2 hdl
   exact ⟨sp.fields.length, _, 5, cE, rfl, rfl, by rw [g2]; exact toPs_p _, by rw [g2, List.length_map, flatB, hdl], rfl, rfl⟩
def IntL (es : List AV) : Prop := ∃ l : List Int, es = l.map eI
theorem IntL.snoc {es : List AV} (h : IntL es) (x : Int) : IntL (es ++ [eI x]) := by obtain ⟨l, rfl⟩ := h; exact ⟨l ++ [x], by simp⟩
theorem IntL.app {a b : List AV} (h : IntL a) (k : IntL b) : IntL (a ++ b) := by obtain ⟨l, rfl⟩ := h; obtain ⟨m, rfl⟩ := k; exact ⟨l ++ m, by simp⟩
theorem IntL.take {a : List AV} (h : IntL a) (n : Nat) : IntL (a.take n) := by obtain ⟨l, rfl⟩ := h; exact ⟨l.take n, by simp⟩
theorem IntL.drop {a : List AV} (h : IntL a) (n : Nat) : IntL (a.drop n) := by obtain ⟨l, rfl⟩ := h; exact ⟨l.drop n, by simp⟩
theorem IntL.at {es : List AV} (h : IntL es) {q : Nat} (hq : q < es.length) : ∃ x : Int, es[q]? = some (eI x) := by
 obtain ⟨l, rfl⟩ := h
 have hq : q < l.length := by simpa using hq
 exact ⟨l[q], by simp [hq]⟩
theorem rem_nat {a : Int} {n : Nat} (ha : 0 ≤ a) (hn : 0 < n) : ∃ q : Nat, a.tmod n = q ∧ q < n := by
 have h1 := Int.emod_nonneg a (show (n : Int) ≠ 0 by omega)
 have h2 := Int.emod_lt_of_pos a (show (0 : Int) < n by omega)
 refine ⟨(a % n).toNat, ?_, by omega⟩
 rw [Int.tmod_eq_emod_of_nonneg ha]; omega
theorem quo_le {a : Int} {n : Nat} (ha : 0 ≤ a) : ∃ d, a.tdiv n = d ∧ 0 ≤ d ∧ d ≤ a := ⟨_, rfl, Int.tdiv_nonneg ha (Int.natCast_nonneg n), Int.tdiv_le_self n ha⟩
theorem nth11 (s : Scope) (h : small s.atoms) (raw : Int) (hr : 0 ≤ raw ∧ raw < 4294967296) : ∃ l : List Int, AFun Tryz.prog 7 [s.av, .imm (.int .u32 raw)] (.p (ints l)) := by
 suffices hh : ∃ y, (∃ l : List Int, y = .p (ints l)) ∧ AFun Tryz.prog 7 [s.av, .imm (.int .u32 raw)] y by
  obtain ⟨y, ⟨l, rfl⟩, hf⟩ := hh
  exact ⟨l, hf⟩
 have hl : (s.atoms.map eI).length = s.atoms.length := List.length_map _
 have hl4 := h.1
 refine AFunE.intro hT Tryz.func7 rfl rfl (by simp) ⟨_, [], rfl⟩ (AD.run hT hmix ?_)
 refine ngo_in (by omega) (by omega) ?_
 refine AD.loopI (fun x : Nat × List AV × Int × Int => x.1 ≤ s.atoms.length ∧ IntL x.2.1 ∧ x.2.1.length ≤ 5 * x.1 ∧ (0 ≤ x.2.2.1 ∧ x.2.2.1 ≤ 5 * x.1) ∧ (0 ≤ x.2.2.2 ∧ x.2.2.2 < 4294967296)) (fun x => s.atoms.length - x.1)
  (fun x => [(2, .loc 2 0), (5, .own 1 x.2.1 5), (6, eint .i64 x.2.2.1), (7, eint .i64 x.2.2.2), (8, eint .i64 (x.1 : Nat))]) (fun x => [(2, .box 30 (s.cs.map .p)), (5, .tail x.2.1.length)])
  (0, [], 0, raw) ⟨Nat.zero_le _, ⟨[], rfl⟩, Nat.le_refl _, ⟨Int.le_refl _, Int.le_refl _⟩, hr⟩ .of fun ⟨i, out, f, k⟩ ⟨h1, h2, h3, h4, h5⟩ => AD.run hT hmix ?_
 dsimp only at h1 h2 h3 h4 h5 ⊢
 intro _
 refine bgo_split (fun hb => ?_) (fun hb => ?_)
 · replace hb := of_decide_eq_true hb
   have hlt : i < s.atoms.length := by omega
   have ha := h.at hlt
   refine AD.loopI (fun x : Nat × List AV => x.1 ≤ s.atoms[i] ∧ IntL x.2 ∧ x.2.length = x.1) (fun x => 5 - x.1)
    (fun x => [(2, .loc 2 0), (5, .own 1 out 5), (6, eint .i64 f), (7, eint .i64 k), (8, eint .i64 i), (9, .own 1 x.2 9), (10, eint .i64 (x.1 : Nat))]) (fun x => [(2, .box 30 (s.cs.map .p)), (5, .tail out.length), (9, .tail x.2.length)])
    (0, []) ⟨by dsimp only; omega, ⟨[], rfl⟩, rfl⟩ .of fun ⟨j, ls⟩ ⟨g1, g2, g3⟩ => AD.run hT hmix ?_
   dsimp only at g1 g2 g3 ⊢
   refine igo_map i rfl hlt (bgo_split (fun hc => ?_) (fun hc => ?_))
   · replace hc := of_decide_eq_true hc
     refine ngo_in (by omega) (by omega) ⟨rfl, ⟨by simp; omega, by simp; omega⟩, ngo_in (by omega) (by omega) ?_⟩
     exact ⟨(j + 1, _), ⟨by dsimp only; omega, g2.snoc _, by simp [g3]⟩, by dsimp only; omega, .of⟩
   · replace hc := of_decide_eq_false hc
     refine AD.loopI (fun x : List AV × Int × List AV => IntL x.1 ∧ (0 ≤ x.2.1 ∧ x.2.1 < 4294967296) ∧ IntL x.2.2 ∧ x.1.length + x.2.2.length ≤ 5 * (i + 1)) (fun x => x.2.2.length)
      (fun x => [(2, .loc 2 0), (5, .own 1 x.1 5), (6, eint .i64 f), (7, eint .i64 x.2.1), (8, eint .i64 i), (9, .p (.slice 1 x.2.2))]) (fun x => [(2, .box 30 (s.cs.map .p)), (5, .tail x.1.length)])
      (out, k, ls) ⟨h2, h5, g2, by dsimp only; omega⟩ .of fun ⟨o2, k2, l2⟩ ⟨e1, e2, e3, e4⟩ => AD.run hT hmix ?_
     dsimp only at e1 e2 e3 e4 ⊢
     intro _
     refine bgo_split (fun hd => ?_) (fun hd => ?_)
     · replace hd := of_decide_eq_true hd
       intro _
       obtain ⟨q, hq1, hq2⟩ := rem_nat e2.1 (show 0 < l2.length by omega)
       obtain ⟨x, hx⟩ := e3.at hq2
       obtain ⟨d, hd1, hd2⟩ := quo_le (n := l2.length) e2.1
       refine ⟨by omega, q, hq1, ?_⟩
       intro _
       refine ⟨by omega, d, by rw [hd1]; exact wrap64_in (by omega) (by omega), ⟨q, _, rfl, hx, ⟨rfl, ⟨by simp; omega, by simp; omega⟩, ⟨0, q, rfl, rfl, by omega, by omega, ⟨by simp; omega, by simp; omega⟩, ngo_in (by omega) (by omega) ⟨q + 1, l2.length, rfl, rfl, by omega, by omega, by simp, ⟨by simp; omega, by simp; omega⟩, ?_⟩⟩⟩⟩⟩
       refine ⟨(_, _, _), ⟨e1.snoc _, ⟨?_, ?_⟩, (IntL.app (.app ⟨[], rfl⟩ ((e3.drop 0).take _)) ((e3.drop _).take _)), ?_⟩, ?_, .of⟩ <;> dsimp only
       · omega
       · omega
       · simp; omega
       · simp; omega
     · refine igo_map i rfl hlt (ngo_in (by omega) (by omega) (ngo_in (by omega) (by omega) ?_))
       refine ⟨(i + 1, _, _, _), ⟨?_, e1, ?_, ?_, e2⟩, ?_, .of⟩ <;> dsimp only
       · omega
       · omega
       · omega
       · omega
 · replace hb := of_decide_eq_false hb
   obtain ⟨l, rfl⟩ := h2
   exact ⟨_, _, rfl, rfl, l, rfl⟩
theorem leL_p (S : Sl) (h : AHp) : ∀ l : List AV, leL S h (l.map .p) (l.map .p)
 | [] => trivial
 | x :: r => ⟨⟨.inl rfl, rfl⟩, leL_p S h r⟩
theorem leL_set {S : Sl} {h : AHp} : ∀ {cs cs' : List EV} {o : Nat} {v v' : EV}, leL S h cs cs' → (leE S h v v' ∧ okE h v' = true) → leL S h (cs.set o v) (cs'.set o v')
 | [], [], _, _, _, _, _ => trivial
 | [], _ :: _, _, _, _, hl, _ => hl.elim
 | _ :: _, [], _, _, _, hl, _ => hl.elim
 | a :: r, b :: s, 0, v, v', hl, hv => ⟨hv, hl.2⟩
 | a :: r, b :: s, o + 1, v, v', hl, hv => ⟨hl.1, leL_set hl.2 hv⟩
theorem leL_setSeg {S : Sl} {h : AHp} : ∀ {vs vs' : List EV} {cs cs' : List EV} {o : Nat}, leL S h cs cs' → leL S h vs vs' → leL S h (setSeg cs o vs) (setSeg cs' o vs')
 | [], [], _, _, _, hl, _ => hl
 | [], _ :: _, _, _, _, _, hv => hv.elim
 | _ :: _, [], _, _, _, _, hv => hv.elim
 | a :: r, b :: s, cs, cs', o, hl, hv => by
  show leL S h (setSeg (cs.set o a) (o + 1) r) (setSeg (cs'.set o b) (o + 1) s)
  exact leL_setSeg (leL_set hl hv.1) hv.2
def rawav (raw : List (List Int)) : AV := .slice 1 (raw.map fun l => .slice 1 (l.map eU8))
theorem fullR_le (s : Scope) (N : Nat) (h : ScopeOk s N) (f : Fld) (hf : f.sorts.length ≤ 3) : (fullR s N f).tuples.length ≤ 1728 := Nat.le_trans (fullT_le _ _ _ _) (pow_most h.most hf)
set_option maxHeartbeats 1000000 in
theorem made09 (sp : Spc) (s : Scope) (N : Nat) (h : ScopeOk s N) (hf : FieldsOk sp s) (raw : List (List Int)) :
 ∃ bs : List Bnd, (bs.length = sp.fields.length ∧ ∀ b ∈ bs, b.upper.tuples.length ≤ 1728) ∧ AFun Tryz.prog 55 [sp.ex, s.av, rawav raw] (.p (.slice 4 (bs.map Bnd.av))) := by
 suffices hh : ∃ y, (∃ bs : List Bnd, y = .p (.slice 4 (bs.map Bnd.av)) ∧ bs.length = sp.fields.length ∧ ∀ b ∈ bs, b.upper.tuples.length ≤ 1728) ∧ AFun Tryz.prog 55 [sp.ex, s.av, rawav raw] y by
  obtain ⟨y, ⟨bs, rfl, hb⟩, hf⟩ := hh
  exact ⟨bs, hb, hf⟩
 have hD := default09V sp s N h hf
 have hfew := hf.few
 have hd0 : (dflt s N sp.fields).length = sp.fields.length := by simp [dflt]
 have hdu : ∀ b ∈ dflt s N sp.fields, b.upper.tuples.length ≤ 1728 := fun b hb => by
  obtain ⟨f, hm, rfl⟩ := List.mem_map.1 hb
  exact fullR_le s N h f (hf.cols f hm).1.2
 have hr : (raw.map fun l => AV.slice 1 (l.map eU8)).length = raw.length := List.length_map _
 refine AFunE.intro hT Tryz.func55 rfl rfl (by simp) ⟨_, _, rfl, hd0, hdu⟩ (AD.cut hT hmix 19 (fun bs : List Bnd => bs.length = sp.fields.length ∧ ∀ b ∈ bs, b.upper.tuples.length ≤ 1728) (fun bs => [(7, .p (.slice 4 (bs.map Bnd.av)))]) (fun _ => []) ?_ fun bs ⟨h1, h2⟩ => AD.run hT hmix ⟨_, _, rfl, rfl, bs, rfl, h1, h2⟩)
 refine .vec _ _ _ _ _ 16 rfl hD rfl rfl ?_
 refine AD.loopI (fun x : Nat × List Bnd => x.1 ≤ sp.fields.length ∧ x.2.length = sp.fields.length ∧ ∀ b ∈ x.2, b.upper.tuples.length ≤ 1728) (fun x => sp.fields.length - x.1)
  (fun x => [(2, .p (rawav raw)), (7, .arr 4 16 0 sp.fields.length), (8, eint .i64 x.1)]) (fun x => [(16, .box 133 ((flat (x.2.map Bnd.av)).map .p))]) (0, dflt s N sp.fields) ⟨Nat.zero_le _, hd0, hdu⟩ .of fun ⟨i, bs⟩ ⟨g1, g2, g3⟩ => AD.run hT hmix ?_
 dsimp only at g1 g2 g3 ⊢
 have flen : ((flat (bs.map Bnd.av)).map EV.p).length = bs.length * 4 := by rw [List.length_map, flatB]
 intro _
 refine bgo_split (fun hb => ?_) (fun hb => ?_)
 · replace hb := of_decide_eq_true hb
   have hlt : i < bs.length := by omega
   have hu := g3 _ (List.getElem_mem hlt)
   have hul : (bs[i].upper.tuples.map eI).length = bs[i].upper.tuples.length := List.length_map _
   refine ⟨i, rfl, by omega, bgo_true (Nat.ble_eq_true_of_le (by rw [flen]; show 0 + i * 4 + 2 + 2 ≤ _; omega)) ?_⟩
   generalize hz : List.take _ (List.drop _ ((flat (bs.map Bnd.av)).map EV.p)) = z
   obtain rfl : z = [.p (eI bs[i].upper.arity), .p (ints bs[i].upper.tuples)] := hz.symm.trans (drop_bnd bs i hlt)
   clear hz
   refine AD.loopI (fun x : Nat × List AV × List AV => x.1 ≤ bs[i].upper.tuples.length ∧ (IntL x.2.1 ∧ x.2.1.length ≤ x.1) ∧ (IntL x.2.2 ∧ x.2.2.length ≤ x.1)) (fun x => bs[i].upper.tuples.length - x.1)
    (fun x => [(2, .p (rawav raw)), (7, .arr 4 16 0 sp.fields.length), (8, eint .i64 i), (9, .loc 9 0), (10, .loc 10 0), (11, .loc 11 0), (12, eint .i64 x.1)])
    (fun x => [(16, .box 133 ((flat (bs.map Bnd.av)).map .p)), (9, .box 50 [.p (eI bs[i].upper.arity), .p (ints bs[i].upper.tuples)]), (10, .box 50 [.p (eI bs[i].upper.arity), .own 1 x.2.1 84]), (11, .box 50 [.p (eI bs[i].upper.arity), .own 1 x.2.2 72]), (84, .tail x.2.1.length), (72, .tail x.2.2.length)])
    (0, [], []) ⟨Nat.zero_le _, ⟨⟨[], rfl⟩, Nat.le_refl _⟩, ⟨⟨[], rfl⟩, Nat.le_refl _⟩⟩ .of fun ⟨j, lo, up⟩ ⟨e1, ⟨e2, e3⟩, ⟨e4, e5⟩⟩ => AD.run hT hmix ?_
   dsimp only at e1 e2 e3 e4 e5 ⊢
   intro _
   refine bgo_split (fun hc => ?_) (fun hc => ?_)
   · replace hc := of_decide_eq_true hc
     have hj : j < bs[i].upper.tuples.length := by omega
     intro _
     refine bgo_split (fun d1 => ?_) (fun d1 => ?_)
     · replace d1 := of_decide_eq_true d1
       have hi2 : i < raw.length := by omega
       have hl2 : (raw[i].map eU8).length = raw[i].length := List.length_map _
       refine igo_map i rfl hi2 ?_
       intro _
       refine bgo_split (fun d2 => ?_) (fun d2 => ?_)
       · replace d2 := of_decide_eq_true d2
         have hj2 : j < raw[i].length := by omega
         refine igo_map i rfl hi2 (igo_map j rfl hj2 ⟨by decide, raw[i][j].tmod 4, rfl, ?_⟩)
         refine bgo_split (fun c1 => ?_) (fun c1 => ?_)
         · refine igo_map j rfl hj ⟨rfl, ⟨by simp; omega, by simp; omega⟩, ⟨by kernel_rfl, bgo_split (fun c2 => ?_) (fun c2 => ?_)⟩⟩
           · refine igo_map j rfl hj ⟨rfl, ⟨by simp; omega, by simp; omega⟩, ⟨by kernel_rfl, ngo_in (by omega) (by omega) ?_⟩⟩
             exact ⟨(j + 1, lo ++ [eI bs[i].upper.tuples[j]], up ++ [eI bs[i].upper.tuples[j]]), ⟨by dsimp only; omega, ⟨e2.snoc _, by simp; omega⟩, ⟨e4.snoc _, by simp; omega⟩⟩, by dsimp only; omega, .of⟩
           · refine ngo_in (by omega) (by omega) ?_
             exact ⟨(j + 1, lo, up ++ [eI bs[i].upper.tuples[j]]), ⟨by dsimp only; omega, ⟨e2, by dsimp only; omega⟩, ⟨e4.snoc _, by simp; omega⟩⟩, by dsimp only; omega, .of⟩
         · refine bgo_split (fun c2 => ?_) (fun c2 => ?_)
           · refine igo_map j rfl hj ⟨rfl, ⟨by simp; omega, by simp; omega⟩, ⟨by kernel_rfl, ngo_in (by omega) (by omega) ?_⟩⟩
             exact ⟨(j + 1, lo ++ [eI bs[i].upper.tuples[j]], up), ⟨by dsimp only; omega, ⟨e2.snoc _, by simp; omega⟩, ⟨e4, by dsimp only; omega⟩⟩, by dsimp only; omega, .of⟩
           · refine ngo_in (by omega) (by omega) ?_
             exact ⟨(j + 1, lo, up), ⟨by dsimp only; omega, ⟨e2, by dsimp only; omega⟩, ⟨e4, by dsimp only; omega⟩⟩, by dsimp only; omega, .of⟩
       · refine igo_map j rfl hj ⟨rfl, ⟨by simp; omega, by simp; omega⟩, ⟨by kernel_rfl, ngo_in (by omega) (by omega) ?_⟩⟩
         exact ⟨(j + 1, lo, up ++ [eI bs[i].upper.tuples[j]]), ⟨by dsimp only; omega, ⟨e2, by dsimp only; omega⟩, ⟨e4.snoc _, by simp; omega⟩⟩, by dsimp only; omega, .of⟩
     · refine igo_map j rfl hj ⟨rfl, ⟨by simp; omega, by simp; omega⟩, ⟨by kernel_rfl, ngo_in (by omega) (by omega) ?_⟩⟩
       exact ⟨(j + 1, lo, up ++ [eI bs[i].upper.tuples[j]]), ⟨by dsimp only; omega, ⟨e2, by dsimp only; omega⟩, ⟨e4.snoc _, by simp; omega⟩⟩, by dsimp only; omega, .of⟩
   · obtain ⟨la, rfl⟩ := e2
     obtain ⟨ua, rfl⟩ := e4
     refine ⟨i, rfl, by omega, bgo_true (by rw [Bool.and_eq_true, Bool.and_eq_true]; exact ⟨rfl, Nat.ble_eq_true_of_le (by rw [flen]; show 0 + i * 4 + 4 ≤ _; omega), rfl⟩) (ngo_in (by omega) (by omega) ⟨(i + 1, bs.set i ⟨⟨bs[i].upper.arity, la⟩, ⟨bs[i].upper.arity, ua⟩⟩), ⟨by dsimp only; omega, by simpa using g2, fun b hb => ?_⟩, by dsimp only; omega, ?_⟩)⟩
     · rcases List.mem_or_eq_of_mem_set hb with hb | rfl
       · exact g3 b hb
       · simp at e5 ⊢; omega
     · have e6 := setSeg_bnd bs i ⟨⟨bs[i].upper.arity, la⟩, ⟨bs[i].upper.arity, ua⟩⟩ hlt
       refine .of (h2 := ⟨⟨rfl, .inl ?_⟩, trivial⟩)
       dsimp only
       rw [← e6]
       exact leL_setSeg (leL_p _ _ _) ⟨⟨.inl rfl, rfl⟩, ⟨⟨.inr (.inl ⟨_, rfl, rfl⟩), rfl⟩, ⟨⟨.inl rfl, rfl⟩, ⟨⟨.inr (.inl ⟨_, rfl, rfl⟩), rfl⟩, trivial⟩⟩⟩⟩
 · replace hb := of_decide_eq_false hb
   refine ⟨bs, ⟨g2, g3⟩, .sealB 16 (hx := toPs_p _) (h1 := ⟨⟨.inr (.inr (.inr (.inl ⟨_, _, rfl, .inr ⟨4, 0, sp.fields.length, bs.map Bnd.av, rfl, rfl, ?_, ?_, ?_⟩⟩))), rfl⟩, trivial⟩)⟩
   · rw [List.drop_zero, List.take_of_length_le]; rw [flatB]; omega
   · intro e he; obtain ⟨r, _, rfl⟩ := List.mem_map.1 he; rfl
   · rw [List.length_map]; exact g2
def setcs (a : Int) (bs : List Bool) : List AV := eI a :: bs.map eB
def setav (a : Int) (bs : List Bool) : AV := .agg (setcs a bs)
theorem ogo_of {α : Type} {o : Option α} {x : α} {k : α → Prop} (h : o = some x) (hk : k x) : ogo o k := by rw [h]; exact hk
theorem nth_setcs (a : Int) (f : List Bool) (i : Nat) (h : i < f.length) : nth ((setcs a f).map EV.p) (0 + 1 + i * 1) = some (.p (eB f[i])) := by
 rw [nth_eq, show 0 + 1 + i * 1 = i + 1 by omega]
 simp [setcs, h]
theorem setSeg_setcs (a : Int) (f : List Bool) (i : Nat) (v : Bool) : setSeg ((setcs a f).map EV.p) (0 + 1 + i * 1) [.p (eB v)] = (setcs a (f.set i v)).map .p := by
 rw [show 0 + 1 + i * 1 = i + 1 by omega]
 simp [setSeg, setcs, List.map_set]
theorem setcs_len (a : Int) (f : List Bool) : ((setcs a f).map EV.p).length = f.length + 1 := by simp [setcs]
def zeroOf (t : Nat) : List EV := match T.get t with | some ti => ti.zero | none => []
theorem take_setcs (a : Int) (f : List Bool) (hf : f.length = 64) : List.take 65 (List.drop 0 ((setcs a f).map EV.p)) = (setcs a f).map .p := by
 rw [List.drop_zero, List.take_of_length_le (by rw [setcs_len]; omega)]
theorem setSeg_mid {α : Type} : ∀ (vs pre post : List α) (old : List α), old.length = vs.length → setSeg (pre ++ old ++ post) pre.length vs = pre ++ vs ++ post
 | [], pre, post, old, h => by
  obtain rfl := List.eq_nil_of_length_eq_zero h
  simp [setSeg]
 | v :: vs, pre, post, [], h => by simp at h
 | v :: vs, pre, post, o :: old, h => by
  have ih := setSeg_mid vs (pre ++ [v]) post old (by simpa using h)
  simp only [setSeg]
  have e : (pre ++ o :: old ++ post).set pre.length v = pre ++ [v] ++ old ++ post := by simp [List.set_append]
  rw [e]
  simpa using ih
theorem setSeg_all {α : Type} (old vs : List α) (h : old.length = vs.length) : setSeg old 0 vs = vs := by
 have := setSeg_mid vs [] [] old h
 simpa using this
theorem res_cell {env : Env} {h : AHp} {a k : Nat} {ty : Nat} {ti : TI} {t : TypeId} {cs : List EV} (h1 : T.get ty = some ti) (h2 : lk env a = .loc k 0) (h3 : hp h k = .box t cs) (h4 : ti.agg = true) (h5 : cs.length = ti.size) : resAll T env h [.cell a ty] = some [.agg cs] := by
 simp only [resAll, resOne, h1, h2, h3, h4, cond_true]
 rw [show Nat.ble (0 + ti.size) cs.length = true from Nat.ble_eq_true_of_le (by omega)]
 simp only [cond_true, List.drop_zero]
 rw [List.take_of_length_le (by omega)]
theorem toPs_agg_p (l : List AV) : toPs [.agg (l.map .p)] = some [.agg l] := by
 have := toPs_p l
 simp only [toPs, toP.toPl, toP] at this ⊢
 rw [this]; rfl
theorem union04 (a b : Int) (f g : List Bool) (hf : f.length = 64) (hg : g.length = 64) : ∃ f' : List Bool, f'.length = 64 ∧ AFun Tryz.prog 240 [setav a f, setav b g] (.p (setav a f')) := by
 suffices hh : ∃ y, (∃ f' : List Bool, y = .p (setav a f') ∧ f'.length = 64) ∧ AFun Tryz.prog 240 [setav a f, setav b g] y by
  obtain ⟨y, ⟨r, rfl, hr⟩, hf⟩ := hh
  exact ⟨r, hr, hf⟩
 refine AFunE.intro hT Tryz.func240 rfl rfl (by simp) ⟨_, f, rfl, hf⟩ (AD.run hT hmix ?_)
 refine AD.loopI (fun x : Nat × List Bool => x.1 ≤ 64 ∧ x.2.length = 64) (fun x => 64 - x.1) (fun x => [(2, .loc 2 0), (3, .loc 3 0), (4, .loc 4 0), (5, eint .i64 x.1)]) (fun x => [(2, .box 240 ((setcs a x.2).map .p)), (3, .box 240 ((setcs b g).map .p)), (4, .box 240 (zeroOf 240))]) (0, f) ⟨Nat.zero_le _, hf⟩ .of fun ⟨i, f⟩ ⟨hi, hf⟩ => AD.run hT hmix ?_
 dsimp only at hi hf ⊢
 refine bgo_split (fun hb => ?_) (fun hb => ?_)
 · replace hb := of_decide_eq_true hb
   have hlt : i < 64 := by omega
   refine ⟨i, rfl, hlt, ogo_of (nth_setcs a f i (by omega)) ?_⟩
   refine bgo_split (fun hv => ?_) (fun hv => ?_)
   · refine ⟨i, rfl, hlt, bgo_true (by rw [Bool.and_eq_true, Bool.and_eq_true]; exact ⟨rfl, Nat.ble_eq_true_of_le (by rw [setcs_len]; show 0 + 1 + i * 1 + 1 ≤ _; omega), rfl⟩) (ngo_in (by omega) (by omega) ?_)⟩
     exact ⟨(i + 1, f.set i true), ⟨by dsimp only; omega, by simpa using hf⟩, by dsimp only; omega, .of (h2 := ⟨⟨rfl, .inr ⟨setSeg_setcs .., okL_p _ _⟩⟩, ⟨⟨rfl, .inr ⟨rfl, okL_p _ _⟩⟩, ⟨⟨rfl, .inr ⟨rfl, rfl⟩⟩, trivial⟩⟩⟩)⟩
   · refine ⟨i, rfl, hlt, ogo_of (nth_setcs b g i (by omega)) ⟨i, rfl, hlt, bgo_true (by rw [Bool.and_eq_true, Bool.and_eq_true]; exact ⟨rfl, Nat.ble_eq_true_of_le (by rw [setcs_len]; show 0 + 1 + i * 1 + 1 ≤ _; omega), rfl⟩) (ngo_in (by omega) (by omega) ?_)⟩⟩
     exact ⟨(i + 1, f.set i g[i]), ⟨by dsimp only; omega, by simpa using hf⟩, by dsimp only; omega, .of (h2 := ⟨⟨rfl, .inr ⟨setSeg_setcs .., okL_p _ _⟩⟩, ⟨⟨rfl, .inr ⟨rfl, okL_p _ _⟩⟩, ⟨⟨rfl, .inr ⟨rfl, rfl⟩⟩, trivial⟩⟩⟩)⟩
 · refine bgo_true (Nat.ble_eq_true_of_le (by rw [setcs_len]; show 0 + 65 ≤ _; omega)) ?_
   generalize hz : List.take _ (List.drop _ ((setcs a f).map EV.p)) = z
   obtain rfl : z = (setcs a f).map .p := hz.symm.trans (take_setcs a f hf)
   clear hz
   refine bgo_true (by rw [Bool.and_eq_true, Bool.and_eq_true]; exact ⟨by rw [setcs_len, hf]; rfl, rfl, rfl⟩) ?_
   have e : setSeg (zeroOf 240) 0 ((setcs a f).map EV.p) = (setcs a f).map .p := setSeg_all _ _ (by rw [setcs_len, hf]; rfl)
   exact ⟨_, _, res_cell rfl rfl rfl rfl (by rw [e, setcs_len, hf]), by rw [e]; exact toPs_agg_p _, f, rfl, hf⟩
theorem inter04 (a b : Int) (f g : List Bool) (hf : f.length = 64) (hg : g.length = 64) : ∃ f' : List Bool, f'.length = 64 ∧ AFun Tryz.prog 241 [setav a f, setav b g] (.p (setav a f')) := by
 suffices hh : ∃ y, (∃ f' : List Bool, y = .p (setav a f') ∧ f'.length = 64) ∧ AFun Tryz.prog 241 [setav a f, setav b g] y by
  obtain ⟨y, ⟨r, rfl, hr⟩, hf⟩ := hh
  exact ⟨r, hr, hf⟩
 refine AFunE.intro hT Tryz.func241 rfl rfl (by simp) ⟨_, List.replicate 64 false, rfl, List.length_replicate⟩ (AD.run hT hmix ?_)
 refine AD.loopI (fun x : Nat × List Bool => x.1 ≤ 64 ∧ x.2.length = 64) (fun x => 64 - x.1) (fun x => [(2, .loc 2 0), (3, .loc 3 0), (4, .loc 4 0), (5, eint .i64 x.1)]) (fun x => [(2, .box 240 ((setcs a x.2).map .p)), (3, .box 240 ((setcs b g).map .p)), (4, .box 240 (zeroOf 240))]) (0, f) ⟨Nat.zero_le _, hf⟩ .of fun ⟨i, f⟩ ⟨hi, hf⟩ => AD.run hT hmix ?_
 dsimp only at hi hf ⊢
 refine bgo_split (fun hb => ?_) (fun hb => ?_)
 · replace hb := of_decide_eq_true hb
   have hlt : i < 64 := by omega
   refine ⟨i, rfl, hlt, ogo_of (nth_setcs a f i (by omega)) ?_⟩
   refine bgo_split (fun hv => ?_) (fun hv => ?_)
   · refine ⟨i, rfl, hlt, ogo_of (nth_setcs b g i (by omega)) ⟨i, rfl, hlt, bgo_true (by rw [Bool.and_eq_true, Bool.and_eq_true]; exact ⟨rfl, Nat.ble_eq_true_of_le (by rw [setcs_len]; show 0 + 1 + i * 1 + 1 ≤ _; omega), rfl⟩) (ngo_in (by omega) (by omega) ?_)⟩⟩
     exact ⟨(i + 1, f.set i g[i]), ⟨by dsimp only; omega, by simpa using hf⟩, by dsimp only; omega, .of (h2 := ⟨⟨rfl, .inr ⟨setSeg_setcs .., okL_p _ _⟩⟩, ⟨⟨rfl, .inr ⟨rfl, okL_p _ _⟩⟩, ⟨⟨rfl, .inr ⟨rfl, rfl⟩⟩, trivial⟩⟩⟩)⟩
   · refine ⟨i, rfl, hlt, bgo_true (by rw [Bool.and_eq_true, Bool.and_eq_true]; exact ⟨rfl, Nat.ble_eq_true_of_le (by rw [setcs_len]; show 0 + 1 + i * 1 + 1 ≤ _; omega), rfl⟩) (ngo_in (by omega) (by omega) ?_)⟩
     exact ⟨(i + 1, f.set i false), ⟨by dsimp only; omega, by simpa using hf⟩, by dsimp only; omega, .of (h2 := ⟨⟨rfl, .inr ⟨setSeg_setcs .., okL_p _ _⟩⟩, ⟨⟨rfl, .inr ⟨rfl, okL_p _ _⟩⟩, ⟨⟨rfl, .inr ⟨rfl, rfl⟩⟩, trivial⟩⟩⟩)⟩
 · refine bgo_true (Nat.ble_eq_true_of_le (by rw [setcs_len]; show 0 + 65 ≤ _; omega)) ?_
   generalize hz : List.take _ (List.drop _ ((setcs a f).map EV.p)) = z
   obtain rfl : z = (setcs a f).map .p := hz.symm.trans (take_setcs a f hf)
   clear hz
   refine bgo_true (by rw [Bool.and_eq_true, Bool.and_eq_true]; exact ⟨by rw [setcs_len, hf]; rfl, rfl, rfl⟩) ?_
   have e : setSeg (zeroOf 240) 0 ((setcs a f).map EV.p) = (setcs a f).map .p := setSeg_all _ _ (by rw [setcs_len, hf]; rfl)
   exact ⟨_, _, res_cell rfl rfl rfl rfl (by rw [e, setcs_len, hf]), by rw [e]; exact toPs_agg_p _, f, rfl, hf⟩
theorem tm4 (i : Nat) : ((i : Int)).tmod 4 = ((i % 4 : Nat) : Int) := rfl
theorem td4 (i : Nat) (h : i ≤ 100000) : IntKind.i64.wrap (((i : Int)).tdiv 4) = ((i / 4 : Nat) : Int) := wrap64_in (n := ((i / 4 : Nat) : Int)) (by omega) (by omega)
theorem zero_set (a : Int) : setSeg (zeroOf 240) 0 (setSeg (zeroOf 240) 0 [.p (eI a)]) = (setcs a (List.replicate 64 false)).map .p := by
 have e : zeroOf 240 = .p (eI 0) :: List.replicate 64 (.p (eB false)) := rfl
 rw [e, setSeg_all _ _ (by simp [setSeg])]
 simp [setSeg, setcs, List.map_replicate]
theorem transpose04 (a : Int) (f : List Bool) (hf : f.length = 64) : ∃ f' : List Bool, f'.length = 64 ∧ AFun Tryz.prog 244 [setav a f] (.p (setav 2 f')) := by
 suffices hh : ∃ y, (∃ f' : List Bool, y = .p (setav 2 f') ∧ f'.length = 64) ∧ AFun Tryz.prog 244 [setav a f] y by
  obtain ⟨y, ⟨r, rfl, hr⟩, hf⟩ := hh
  exact ⟨r, hr, hf⟩
 refine AFunE.intro hT Tryz.func244 rfl rfl (by simp) ⟨_, List.replicate 64 false, rfl, List.length_replicate⟩ (AD.run hT hmix ?_)
 refine AD.loopI (fun x : Nat × List Bool => x.1 ≤ 16 ∧ x.2.length = 64) (fun x => 16 - x.1) (fun x => [(1, .loc 1 0), (2, .loc 2 0), (3, .loc 3 0), (4, eint .i64 x.1)]) (fun x => [(1, .box 240 ((setcs a f).map .p)), (2, .box 240 (zeroOf 240)), (3, .box 240 ((setcs 2 x.2).map .p))]) (0, List.replicate 64 false) ⟨Nat.zero_le _, List.length_replicate⟩ (.of (h2 := ⟨⟨rfl, .inr ⟨rfl, okL_p _ _⟩⟩, ⟨⟨rfl, .inr ⟨rfl, rfl⟩⟩, ⟨⟨rfl, .inr ⟨zero_set 2, okL_p _ _⟩⟩, trivial⟩⟩⟩)) fun ⟨i, g⟩ ⟨hi, hg⟩ => AD.run hT hmix ?_
 dsimp only at hi hg ⊢
 refine bgo_split (fun hb => ?_) (fun hb => ?_)
 · replace hb := of_decide_eq_true hb
   have hlt : i < 16 := by omega
   refine ⟨by decide, _, tm4 i, ngo_in (by omega) (by omega) ⟨by decide, _, td4 i (by omega), ngo_in (by omega) (by omega) ⟨i, rfl, (show i < 64 by omega), ogo_of (nth_setcs a f i (by omega)) ?_⟩⟩⟩
   refine ⟨i % 4 * 4 + i / 4, by omega, (show i % 4 * 4 + i / 4 < 64 by omega), bgo_true (by rw [Bool.and_eq_true, Bool.and_eq_true]; exact ⟨rfl, Nat.ble_eq_true_of_le (by rw [setcs_len]; show 0 + 1 + (i % 4 * 4 + i / 4) * 1 + 1 ≤ _; omega), rfl⟩) (ngo_in (by omega) (by omega) ?_)⟩
   exact ⟨(i + 1, g.set (i % 4 * 4 + i / 4) f[i]), ⟨by dsimp only; omega, by simpa using hg⟩, by dsimp only; omega, .of (h2 := ⟨⟨rfl, .inr ⟨rfl, okL_p _ _⟩⟩, ⟨⟨rfl, .inr ⟨rfl, rfl⟩⟩, ⟨⟨rfl, .inr ⟨setSeg_setcs .., okL_p _ _⟩⟩, trivial⟩⟩⟩)⟩
 · refine bgo_true (Nat.ble_eq_true_of_le (by rw [setcs_len]; show 0 + 65 ≤ _; omega)) ?_
   generalize hz : List.take _ (List.drop _ ((setcs 2 g).map EV.p)) = z
   obtain rfl : z = (setcs 2 g).map .p := hz.symm.trans (take_setcs 2 g hg)
   clear hz
   refine bgo_true (by rw [Bool.and_eq_true, Bool.and_eq_true]; exact ⟨by rw [setcs_len, hg]; rfl, rfl, rfl⟩) ?_
   have e : setSeg (zeroOf 240) 0 ((setcs 2 g).map EV.p) = (setcs 2 g).map .p := setSeg_all _ _ (by rw [setcs_len, hg]; rfl)
   exact ⟨_, _, res_cell rfl rfl rfl rfl (by rw [e, setcs_len, hg]), by rw [e]; exact toPs_agg_p _, g, rfl, hg⟩
def sizeOf4 (k : Int) : Int := if k < 1 then 1 else if k = 1 then 4 else if k = 2 then 16 else 64
theorem size04 (k : Int) : AFun Tryz.prog 250 [eI k] (.p (eI (sizeOf4 k))) := by
 refine AFun.of hT Tryz.func250 rfl rfl (by simp) (AD.run hT hmix ?_)
 have e3 : ∀ x, sizeOf4 k = x → EV.p (eI (sizeOf4 k)) = retEV [AV.imm (.int .i64 x)] := fun x h => by rw [h]; rfl
 repeat' first
  | exact ⟨_, _, rfl, rfl, e3 _ (by simp only [decide_eq_true_eq, decide_eq_false_iff_not, beq_iff_eq, beq_eq_false_iff_ne] at *; unfold sizeOf4; repeat' split <;> omega)⟩
  | refine bgo_split (fun _ => ?_) (fun _ => ?_)
theorem one04 (l : List Int) (hl3 : l.length ≤ 3) (hr : ∀ x ∈ l, 0 ≤ x ∧ x < 4) : ∃ f' : List Bool, f'.length = 64 ∧ AFun Tryz.prog 221 [ints l] (.p (setav (l.length : Int) f')) := by
 suffices hh : ∃ y, (∃ f' : List Bool, y = .p (setav (l.length : Int) f') ∧ f'.length = 64) ∧ AFun Tryz.prog 221 [ints l] y by
  obtain ⟨y, ⟨r, rfl, hr⟩, hf⟩ := hh
  exact ⟨r, hr, hf⟩
 refine AFunE.intro hT Tryz.func221 rfl rfl (by simp) ⟨_, List.replicate 64 false, rfl, List.length_replicate⟩ (AD.run hT hmix ?_)
 have hl : (l.map eI).length = l.length := List.length_map _
 intro _
 rw [hl]
 refine AD.loopI (fun x : Nat × Nat => x.1 ≤ l.length ∧ x.2 < 4 ^ x.1) (fun x => l.length - x.1) (fun x => [(0, .p (ints l)), (2, .loc 2 0), (3, .loc 3 0), (4, eint .i64 x.2), (5, eint .i64 x.1)]) (fun x => [(2, .box 240 (zeroOf 240)), (3, .box 240 ((setcs l.length (List.replicate 64 false)).map .p))]) (0, 0) ⟨Nat.zero_le _, by decide⟩ (.of (h2 := ⟨⟨rfl, .inr ⟨rfl, rfl⟩⟩, ⟨⟨rfl, .inr ⟨zero_set _, okL_p _ _⟩⟩, trivial⟩⟩)) fun ⟨i, v⟩ ⟨hi, hv⟩ => AD.run hT hmix ?_
 dsimp only at hi hv ⊢
 have h43 : 4 ^ i ≤ 64 := Nat.le_trans (Nat.pow_le_pow_right (by omega) (show i ≤ 3 by omega)) (by decide)
 intro _
 refine bgo_split (fun hb => ?_) (fun hb => ?_)
 · replace hb := of_decide_eq_true hb
   have hlt : i < l.length := by omega
   have hx := hr _ (List.getElem_mem hlt)
   refine ngo_in (by omega) (by omega) (igo_map i rfl hlt (ngo_in (by omega) (by omega) (ngo_in (by omega) (by omega) ?_)))
   refine ⟨(i + 1, 4 * v + l[i].toNat), ⟨by dsimp only; omega, by dsimp only; rw [Nat.pow_succ]; omega⟩, by dsimp only; omega, ?_⟩
   have e : (((4 * v + l[i].toNat : Nat)) : Int) = 4 * (v : Int) + l[i] := by omega
   dsimp only
   rw [e]
   exact .of (h2 := ⟨⟨rfl, .inr ⟨rfl, rfl⟩⟩, ⟨⟨rfl, .inr ⟨rfl, okL_p _ _⟩⟩, trivial⟩⟩)
 · replace hb := of_decide_eq_false hb
   refine bgo_split (fun h2 => ?_) (fun h2 => ?_)
   · replace h2 := of_decide_eq_true h2
     refine ⟨v, rfl, (show v < 64 by omega), bgo_true (by rw [Bool.and_eq_true, Bool.and_eq_true]; exact ⟨rfl, Nat.ble_eq_true_of_le (by rw [setcs_len, List.length_replicate]; show 0 + 1 + v * 1 + 1 ≤ _; omega), rfl⟩) ?_⟩
     generalize hy : setSeg ((setcs _ _).map EV.p) _ _ = y
     obtain rfl : y = (setcs (l.length : Int) ((List.replicate 64 false).set v true)).map .p := hy.symm.trans (setSeg_setcs ..)
     clear hy
     have hq : ((List.replicate 64 false).set v true).length = 64 := by simp
     refine bgo_true (Nat.ble_eq_true_of_le (by rw [setcs_len]; show 0 + 65 ≤ _; omega)) ?_
     generalize hz : List.take _ (List.drop _ ((setcs (l.length : Int) ((List.replicate 64 false).set v true)).map EV.p)) = z
     obtain rfl : z = (setcs (l.length : Int) ((List.replicate 64 false).set v true)).map .p := hz.symm.trans (take_setcs (l.length : Int) ((List.replicate 64 false).set v true) hq)
     clear hz
     refine bgo_true (by rw [Bool.and_eq_true, Bool.and_eq_true]; exact ⟨by rw [setcs_len, hq]; rfl, rfl, rfl⟩) ?_
     have e : setSeg (zeroOf 240) 0 ((setcs (l.length : Int) ((List.replicate 64 false).set v true)).map EV.p) = (setcs (l.length : Int) ((List.replicate 64 false).set v true)).map .p := setSeg_all _ _ (by rw [setcs_len, hq]; rfl)
     exact ⟨_, _, res_cell rfl rfl rfl rfl (by rw [e, setcs_len, hq]), by rw [e]; exact toPs_agg_p _, ((List.replicate 64 false).set v true), rfl, hq⟩
   · replace h2 := of_decide_eq_false h2
     omega
theorem size_nat (k : Int) : ∃ m : Nat, sizeOf4 k = m ∧ 1 ≤ m ∧ m ≤ 64 := by
 unfold sizeOf4
 repeat' split
 · exact ⟨1, rfl, by omega, by omega⟩
 · exact ⟨4, rfl, by omega, by omega⟩
 · exact ⟨16, rfl, by omega, by omega⟩
 · exact ⟨64, rfl, by omega, by omega⟩
theorem ngo_mul {i n q : Nat} {k : Int → Prop} (h : i * n = q) (hq : q ≤ 4096) (hk : k (q : Int)) : ngo (IntKind.i64.wrap ((i : Int) * (n : Int))) k := by
 have e : (i : Int) * (n : Int) = (q : Int) := by rw [← h]; exact (Int.natCast_mul i n).symm
 rw [e]
 exact ngo_in (by omega) (by omega) hk
theorem product04 (a b : Int) (ha : -1000 ≤ a ∧ a ≤ 1000) (hb : -1000 ≤ b ∧ b ≤ 1000) (f g : List Bool) (hf : f.length = 64) (hg : g.length = 64) : ∃ f' : List Bool, f'.length = 64 ∧ AFun Tryz.prog 243 [setav a f, setav b g] (.p (setav (a + b) f')) := by
 suffices hh : ∃ y, (∃ f' : List Bool, y = .p (setav (a + b) f') ∧ f'.length = 64) ∧ AFun Tryz.prog 243 [setav a f, setav b g] y by
  obtain ⟨y, ⟨r, rfl, hr⟩, hf⟩ := hh
  exact ⟨r, hr, hf⟩
 refine AFunE.intro hT Tryz.func243 rfl rfl (by simp) ⟨_, List.replicate 64 false, rfl, List.length_replicate⟩ (AD.run hT hmix ?_)
 obtain ⟨m, hm, hm1, hm2⟩ := size_nat a
 obtain ⟨n, hn, hn1, hn2⟩ := size_nat b
 have hsa := size04 a
 have hsb := size04 b
 rw [hm] at hsa
 rw [hn] at hsb
 refine ngo_in (by omega) (by omega) (.pure _ _ rfl hsb ?_)
 refine AD.loopI (fun x : Nat × List Bool => x.1 ≤ m ∧ x.2.length = 64) (fun x => m - x.1) (fun x => [(2, .loc 2 0), (3, .loc 3 0), (4, .loc 4 0), (5, .loc 5 0), (6, eint .i64 n), (7, eint .i64 x.1)]) (fun x => [(2, .box 240 ((setcs a f).map .p)), (3, .box 240 ((setcs b g).map .p)), (4, .box 240 (zeroOf 240)), (5, .box 240 ((setcs (a + b) x.2).map .p))]) (0, List.replicate 64 false) ⟨Nat.zero_le _, List.length_replicate⟩ (.of (h2 := ⟨⟨rfl, .inr ⟨rfl, okL_p _ _⟩⟩, ⟨⟨rfl, .inr ⟨rfl, okL_p _ _⟩⟩, ⟨⟨rfl, .inr ⟨rfl, rfl⟩⟩, ⟨⟨rfl, .inr ⟨zero_set _, okL_p _ _⟩⟩, trivial⟩⟩⟩⟩)) fun ⟨i, r⟩ ⟨hi, hr⟩ => AD.run hT hmix ?_
 dsimp only at hi hr ⊢
 refine .pure _ _ rfl hsa ?_
 refine bgo_split (fun hb => ?_) (fun hb => ?_)
 · replace hb := of_decide_eq_true hb
   have hlt : i < m := by omega
   refine AD.loopI (fun x : Nat × List Bool => x.1 ≤ n ∧ x.2.length = 64) (fun x => n - x.1) (fun x => [(2, .loc 2 0), (3, .loc 3 0), (4, .loc 4 0), (5, .loc 5 0), (6, eint .i64 n), (7, eint .i64 i), (8, eint .i64 x.1)]) (fun x => [(2, .box 240 ((setcs a f).map .p)), (3, .box 240 ((setcs b g).map .p)), (4, .box 240 (zeroOf 240)), (5, .box 240 ((setcs (a + b) x.2).map .p))]) (0, r) ⟨Nat.zero_le _, hr⟩ (.of (h2 := ⟨⟨rfl, .inr ⟨rfl, okL_p _ _⟩⟩, ⟨⟨rfl, .inr ⟨rfl, okL_p _ _⟩⟩, ⟨⟨rfl, .inr ⟨rfl, rfl⟩⟩, ⟨⟨rfl, .inr ⟨rfl, okL_p _ _⟩⟩, trivial⟩⟩⟩⟩)) fun ⟨k, r⟩ ⟨hk, hr⟩ => AD.run hT hmix ?_
   dsimp only at hk hr ⊢
   refine bgo_split (fun hb2 => ?_) (fun hb2 => ?_)
   · replace hb2 := of_decide_eq_true hb2
     have hkt : k < n := by omega
     obtain ⟨q, hq, hq4⟩ : ∃ q, i * n = q ∧ q ≤ 4096 := ⟨_, rfl, Nat.mul_le_mul (show i ≤ 64 by omega) (show n ≤ 64 by omega)⟩
     refine ⟨i, rfl, (show i < 64 by omega), ogo_of (nth_setcs a f i (by omega)) ?_⟩
     refine bgo_split (fun hv => ?_) (fun hv => ?_)
     · refine ⟨k, rfl, (show k < 64 by omega), ogo_of (nth_setcs b g k (by omega)) ?_⟩
       refine bgo_split (fun hw => ?_) (fun hw => ?_)
       · refine ngo_mul hq hq4 (ngo_in (by omega) (by omega) ?_)
         refine bgo_split (fun hc => ?_) (fun hc => ?_)
         · replace hc := of_decide_eq_true hc
           refine ngo_mul hq hq4 (ngo_in (by omega) (by omega) ?_)
           refine ⟨q + k, by omega, (show q + k < 64 by omega), bgo_true (by rw [Bool.and_eq_true, Bool.and_eq_true]; exact ⟨rfl, Nat.ble_eq_true_of_le (by rw [setcs_len]; show 0 + 1 + (q + k) * 1 + 1 ≤ _; omega), rfl⟩) (ngo_in (by omega) (by omega) ?_)⟩
           exact ⟨(k + 1, r.set (q + k) true), ⟨by dsimp only; omega, by simpa using hr⟩, by dsimp only; omega, .of (h2 := ⟨⟨rfl, .inr ⟨rfl, okL_p _ _⟩⟩, ⟨⟨rfl, .inr ⟨rfl, okL_p _ _⟩⟩, ⟨⟨rfl, .inr ⟨rfl, rfl⟩⟩, ⟨⟨rfl, .inr ⟨setSeg_setcs .., okL_p _ _⟩⟩, trivial⟩⟩⟩⟩)⟩
         · exact ngo_in (by omega) (by omega) ⟨(k + 1, r), ⟨by dsimp only; omega, hr⟩, by dsimp only; omega, .of (h2 := ⟨⟨rfl, .inr ⟨rfl, okL_p _ _⟩⟩, ⟨⟨rfl, .inr ⟨rfl, okL_p _ _⟩⟩, ⟨⟨rfl, .inr ⟨rfl, rfl⟩⟩, ⟨⟨rfl, .inr ⟨rfl, okL_p _ _⟩⟩, trivial⟩⟩⟩⟩)⟩
       · exact ngo_in (by omega) (by omega) ⟨(k + 1, r), ⟨by dsimp only; omega, hr⟩, by dsimp only; omega, .of (h2 := ⟨⟨rfl, .inr ⟨rfl, okL_p _ _⟩⟩, ⟨⟨rfl, .inr ⟨rfl, okL_p _ _⟩⟩, ⟨⟨rfl, .inr ⟨rfl, rfl⟩⟩, ⟨⟨rfl, .inr ⟨rfl, okL_p _ _⟩⟩, trivial⟩⟩⟩⟩)⟩
     · exact ngo_in (by omega) (by omega) ⟨(k + 1, r), ⟨by dsimp only; omega, hr⟩, by dsimp only; omega, .of (h2 := ⟨⟨rfl, .inr ⟨rfl, okL_p _ _⟩⟩, ⟨⟨rfl, .inr ⟨rfl, okL_p _ _⟩⟩, ⟨⟨rfl, .inr ⟨rfl, rfl⟩⟩, ⟨⟨rfl, .inr ⟨rfl, okL_p _ _⟩⟩, trivial⟩⟩⟩⟩)⟩
   · exact ngo_in (by omega) (by omega) ⟨(i + 1, r), ⟨by dsimp only; omega, hr⟩, by dsimp only; omega, .of (h2 := ⟨⟨rfl, .inr ⟨rfl, okL_p _ _⟩⟩, ⟨⟨rfl, .inr ⟨rfl, okL_p _ _⟩⟩, ⟨⟨rfl, .inr ⟨rfl, rfl⟩⟩, ⟨⟨rfl, .inr ⟨rfl, okL_p _ _⟩⟩, trivial⟩⟩⟩⟩)⟩
 · refine bgo_true (Nat.ble_eq_true_of_le (by rw [setcs_len]; show 0 + 65 ≤ _; omega)) ?_
   generalize hz : List.take _ (List.drop _ ((setcs (a + b) r).map EV.p)) = z
   obtain rfl : z = (setcs (a + b) r).map .p := hz.symm.trans (take_setcs (a + b) r hr)
   clear hz
   refine bgo_true (by rw [Bool.and_eq_true, Bool.and_eq_true]; exact ⟨by rw [setcs_len, hr]; rfl, rfl, rfl⟩) ?_
   have e : setSeg (zeroOf 240) 0 ((setcs (a + b) r).map EV.p) = (setcs (a + b) r).map .p := setSeg_all _ _ (by rw [setcs_len, hr]; rfl)
   exact ⟨_, _, res_cell rfl rfl rfl rfl (by rw [e, setcs_len, hr]), by rw [e]; exact toPs_agg_p _, r, rfl, hr⟩
theorem size_nat4 (k : Int) (h : 1 ≤ k) : ∃ n : Nat, sizeOf4 k = ((4 * n : Nat) : Int) ∧ 1 ≤ n ∧ n ≤ 16 := by
 unfold sizeOf4
 repeat' split
 · omega
 · exact ⟨1, rfl, by omega, by omega⟩
 · exact ⟨4, rfl, by omega, by omega⟩
 · exact ⟨16, rfl, by omega, by omega⟩
theorem join04 (a b : Int) (ha : -1000 ≤ a ∧ a ≤ 1000) (hb : 1 ≤ b ∧ b ≤ 1000) (f g : List Bool) (hf : f.length = 64) (hg : g.length = 64) : ∃ f' : List Bool, f'.length = 64 ∧ AFun Tryz.prog 242 [setav a f, setav b g] (.p (setav (a + b - 2) f')) := by
 suffices hh : ∃ y, (∃ f' : List Bool, y = .p (setav (a + b - 2) f') ∧ f'.length = 64) ∧ AFun Tryz.prog 242 [setav a f, setav b g] y by
  obtain ⟨y, ⟨r, rfl, hr⟩, hf⟩ := hh
  exact ⟨r, hr, hf⟩
 refine AFunE.intro hT Tryz.func242 rfl rfl (by simp) ⟨_, List.replicate 64 false, rfl, List.length_replicate⟩ (AD.run hT hmix ?_)
 obtain ⟨m, hm, hm1, hm2⟩ := size_nat a
 obtain ⟨n, hn, hn1, hn2⟩ := size_nat4 b hb.1
 have hsa := size04 a
 have hsb := size04 b
 rw [hm] at hsa
 rw [hn] at hsb
 refine ngo_in (by omega) (by omega) (ngo_in (by omega) (by omega) (.pure _ _ rfl hsb ⟨by decide, (n : Int), (td4 (4 * n) (by omega)).trans (by rw [Nat.mul_div_cancel_left _ (by decide)]), ?_⟩))
 refine AD.loopI (fun x : Nat × List Bool => x.1 ≤ m ∧ x.2.length = 64) (fun x => m - x.1) (fun x => [(2, .loc 2 0), (3, .loc 3 0), (4, .loc 4 0), (5, .loc 5 0), (6, eint .i64 n), (7, eint .i64 x.1)]) (fun x => [(2, .box 240 ((setcs a f).map .p)), (3, .box 240 ((setcs b g).map .p)), (4, .box 240 (zeroOf 240)), (5, .box 240 ((setcs (a + b - 2) x.2).map .p))]) (0, List.replicate 64 false) ⟨Nat.zero_le _, List.length_replicate⟩ (.of (h2 := ⟨⟨rfl, .inr ⟨rfl, okL_p _ _⟩⟩, ⟨⟨rfl, .inr ⟨rfl, okL_p _ _⟩⟩, ⟨⟨rfl, .inr ⟨rfl, rfl⟩⟩, ⟨⟨rfl, .inr ⟨zero_set _, okL_p _ _⟩⟩, trivial⟩⟩⟩⟩)) fun ⟨i, r⟩ ⟨hi, hr⟩ => AD.run hT hmix ?_
 dsimp only at hi hr ⊢
 refine .pure _ _ rfl hsa ?_
 refine bgo_split (fun hb' => ?_) (fun hb' => ?_)
 · replace hb' := of_decide_eq_true hb'
   have hlt : i < m := by omega
   refine AD.loopI (fun x : Nat × List Bool => x.1 ≤ 4 * n ∧ x.2.length = 64) (fun x => 4 * n - x.1) (fun x => [(2, .loc 2 0), (3, .loc 3 0), (4, .loc 4 0), (5, .loc 5 0), (6, eint .i64 n), (7, eint .i64 i), (8, eint .i64 x.1)]) (fun x => [(2, .box 240 ((setcs a f).map .p)), (3, .box 240 ((setcs b g).map .p)), (4, .box 240 (zeroOf 240)), (5, .box 240 ((setcs (a + b - 2) x.2).map .p))]) (0, r) ⟨Nat.zero_le _, hr⟩ (.of (h2 := ⟨⟨rfl, .inr ⟨rfl, okL_p _ _⟩⟩, ⟨⟨rfl, .inr ⟨rfl, okL_p _ _⟩⟩, ⟨⟨rfl, .inr ⟨rfl, rfl⟩⟩, ⟨⟨rfl, .inr ⟨rfl, okL_p _ _⟩⟩, trivial⟩⟩⟩⟩)) fun ⟨k, r⟩ ⟨hk, hr⟩ => AD.run hT hmix ?_
   dsimp only at hk hr ⊢
   refine .pure _ _ rfl hsb ?_
   refine bgo_split (fun hb2 => ?_) (fun hb2 => ?_)
   · replace hb2 := of_decide_eq_true hb2
     have hkt : k < 4 * n := by omega
     have hn0 : (n : Int) ≠ 0 := by omega
     obtain ⟨q, hq, hq4⟩ : ∃ q, i / 4 * n = q ∧ q ≤ 4096 := ⟨_, rfl, Nat.mul_le_mul (show i / 4 ≤ 64 by omega) (show n ≤ 64 by omega)⟩
     obtain ⟨s, hs, hs4⟩ : ∃ s, k / n = s ∧ s ≤ 64 := ⟨_, rfl, by have := Nat.div_le_self k n; omega⟩
     have hdv : IntKind.i64.wrap ((k : Int).tdiv (n : Int)) = (s : Int) := by
      show IntKind.i64.wrap ((k / n : Nat) : Int) = _
      rw [hs]; exact wrap64_in (by omega) (by omega)
     have hrm : k % n < n := Nat.mod_lt _ (by omega)
     refine ⟨by decide, _, td4 i (by omega), ngo_mul hq hq4 ⟨hn0, ((k % n : Nat) : Int), rfl, ngo_in (by omega) (by omega) ?_⟩⟩
     refine ⟨i, rfl, (show i < 64 by omega), ogo_of (nth_setcs a f i (by omega)) ?_⟩
     refine bgo_split (fun hv => ?_) (fun hv => ?_)
     · refine ⟨k, rfl, (show k < 64 by omega), ogo_of (nth_setcs b g k (by omega)) ?_⟩
       refine bgo_split (fun hw => ?_) (fun hw => ?_)
       · refine ⟨by decide, _, tm4 i, hn0, (s : Int), hdv, ?_⟩
         refine bgo_split (fun hc => ?_) (fun hc => ?_)
         · refine bgo_split (fun hc => ?_) (fun hc => ?_)
           · replace hc := of_decide_eq_true hc
             refine ⟨q + k % n, by omega, (show q + k % n < 64 by omega), bgo_true (by rw [Bool.and_eq_true, Bool.and_eq_true]; exact ⟨rfl, Nat.ble_eq_true_of_le (by rw [setcs_len]; show 0 + 1 + (q + k % n) * 1 + 1 ≤ _; omega), rfl⟩) (ngo_in (by omega) (by omega) ?_)⟩
             exact ⟨(k + 1, r.set (q + k % n) true), ⟨by dsimp only; omega, by simpa using hr⟩, by dsimp only; omega, .of (h2 := ⟨⟨rfl, .inr ⟨rfl, okL_p _ _⟩⟩, ⟨⟨rfl, .inr ⟨rfl, okL_p _ _⟩⟩, ⟨⟨rfl, .inr ⟨rfl, rfl⟩⟩, ⟨⟨rfl, .inr ⟨setSeg_setcs .., okL_p _ _⟩⟩, trivial⟩⟩⟩⟩)⟩
           · exact ngo_in (by omega) (by omega) ⟨(k + 1, r), ⟨by dsimp only; omega, hr⟩, by dsimp only; omega, .of (h2 := ⟨⟨rfl, .inr ⟨rfl, okL_p _ _⟩⟩, ⟨⟨rfl, .inr ⟨rfl, okL_p _ _⟩⟩, ⟨⟨rfl, .inr ⟨rfl, rfl⟩⟩, ⟨⟨rfl, .inr ⟨rfl, okL_p _ _⟩⟩, trivial⟩⟩⟩⟩)⟩
         · exact ngo_in (by omega) (by omega) ⟨(k + 1, r), ⟨by dsimp only; omega, hr⟩, by dsimp only; omega, .of (h2 := ⟨⟨rfl, .inr ⟨rfl, okL_p _ _⟩⟩, ⟨⟨rfl, .inr ⟨rfl, okL_p _ _⟩⟩, ⟨⟨rfl, .inr ⟨rfl, rfl⟩⟩, ⟨⟨rfl, .inr ⟨rfl, okL_p _ _⟩⟩, trivial⟩⟩⟩⟩)⟩
       · exact ngo_in (by omega) (by omega) ⟨(k + 1, r), ⟨by dsimp only; omega, hr⟩, by dsimp only; omega, .of (h2 := ⟨⟨rfl, .inr ⟨rfl, okL_p _ _⟩⟩, ⟨⟨rfl, .inr ⟨rfl, okL_p _ _⟩⟩, ⟨⟨rfl, .inr ⟨rfl, rfl⟩⟩, ⟨⟨rfl, .inr ⟨rfl, okL_p _ _⟩⟩, trivial⟩⟩⟩⟩)⟩
     · exact ngo_in (by omega) (by omega) ⟨(k + 1, r), ⟨by dsimp only; omega, hr⟩, by dsimp only; omega, .of (h2 := ⟨⟨rfl, .inr ⟨rfl, okL_p _ _⟩⟩, ⟨⟨rfl, .inr ⟨rfl, okL_p _ _⟩⟩, ⟨⟨rfl, .inr ⟨rfl, rfl⟩⟩, ⟨⟨rfl, .inr ⟨rfl, okL_p _ _⟩⟩, trivial⟩⟩⟩⟩)⟩
   · exact ngo_in (by omega) (by omega) ⟨(i + 1, r), ⟨by dsimp only; omega, hr⟩, by dsimp only; omega, .of (h2 := ⟨⟨rfl, .inr ⟨rfl, okL_p _ _⟩⟩, ⟨⟨rfl, .inr ⟨rfl, okL_p _ _⟩⟩, ⟨⟨rfl, .inr ⟨rfl, rfl⟩⟩, ⟨⟨rfl, .inr ⟨rfl, okL_p _ _⟩⟩, trivial⟩⟩⟩⟩)⟩
 · refine bgo_true (Nat.ble_eq_true_of_le (by rw [setcs_len]; show 0 + 65 ≤ _; omega)) ?_
   generalize hz : List.take _ (List.drop _ ((setcs (a + b - 2) r).map EV.p)) = z
   obtain rfl : z = (setcs (a + b - 2) r).map .p := hz.symm.trans (take_setcs (a + b - 2) r hr)
   clear hz
   refine bgo_true (by rw [Bool.and_eq_true, Bool.and_eq_true]; exact ⟨by rw [setcs_len, hr]; rfl, rfl, rfl⟩) ?_
   have e : setSeg (zeroOf 240) 0 ((setcs (a + b - 2) r).map EV.p) = (setcs (a + b - 2) r).map .p := setSeg_all _ _ (by rw [setcs_len, hr]; rfl)
   exact ⟨_, _, res_cell rfl rfl rfl rfl (by rw [e, setcs_len, hr]), by rw [e]; exact toPs_agg_p _, r, rfl, hr⟩
theorem toPs_two (l m : List AV) : toPs [.agg (l.map EV.p), .agg (m.map EV.p)] = some [.agg l, .agg m] := by
 have h1 := toPs_p l
 have h2 := toPs_p m
 simp only [toPs, toP.toPl, toP] at h1 h2 ⊢
 rw [h1, h2]; rfl
theorem toPs_one (l : List AV) (x : AV) : toPs [.agg (l.map EV.p), .p x] = some [.agg l, x] := by
 have h1 := toPs_p l
 simp only [toPs, toP.toPl, toP] at h1 ⊢
 rw [h1]; rfl
theorem closure04 (a : Int) (ha : 1 ≤ a ∧ a ≤ 1000) (f : List Bool) (hf : f.length = 64) : ∃ f' : List Bool, f'.length = 64 ∧ AFun Tryz.prog 245 [setav a f] (.p (setav a f')) := by
 suffices hh : ∃ y, (∃ f' : List Bool, y = .p (setav a f') ∧ f'.length = 64) ∧ AFun Tryz.prog 245 [setav a f] y by
  obtain ⟨y, ⟨r, rfl, hr⟩, hf⟩ := hh
  exact ⟨r, hr, hf⟩
 refine AFunE.intro hT Tryz.func245 rfl rfl (by simp) ⟨_, List.replicate 64 false, rfl, List.length_replicate⟩ (AD.run hT hmix ?_)
 refine AD.loopI (fun x : Nat × List Bool => x.1 ≤ 4 ∧ x.2.length = 64) (fun x => 4 - x.1) (fun x => [(1, .loc 1 0), (2, .loc 2 0), (3, eint .i64 x.1)]) (fun x => [(1, .box 240 ((setcs a x.2).map .p)), (2, .box 240 (zeroOf 240))]) (0, f) ⟨Nat.zero_le _, hf⟩ (.of (h2 := ⟨⟨rfl, .inr ⟨rfl, okL_p _ _⟩⟩, ⟨⟨rfl, .inr ⟨rfl, rfl⟩⟩, trivial⟩⟩)) fun ⟨i, f⟩ ⟨hi, hf⟩ => AD.run hT hmix ?_
 dsimp only at hi hf ⊢
 refine bgo_split (fun hb => ?_) (fun hb => ?_)
 · replace hb := of_decide_eq_true hb
   have hlt : i < 4 := by omega
   obtain ⟨g, hg, hj⟩ := join04 a a ⟨by omega, ha.2⟩ ha f f hf hf
   obtain ⟨r, hr, hu⟩ := union04 a (a + a - 2) f g hf hg
   refine bgo_true (Nat.ble_eq_true_of_le (by rw [setcs_len]; show 0 + 65 ≤ _; omega)) ?_
   generalize hz : List.take _ (List.drop _ ((setcs a f).map EV.p)) = z
   obtain rfl : z = (setcs a f).map .p := hz.symm.trans (take_setcs a f hf)
   clear hz
   refine bgo_true (Nat.ble_eq_true_of_le (by rw [setcs_len]; show 0 + 65 ≤ _; omega)) ?_
   generalize hz : List.take _ (List.drop _ ((setcs a f).map EV.p)) = z
   obtain rfl : z = (setcs a f).map .p := hz.symm.trans (take_setcs a f hf)
   clear hz
   refine bgo_true (Nat.ble_eq_true_of_le (by rw [setcs_len]; show 0 + 65 ≤ _; omega)) ?_
   generalize hz : List.take _ (List.drop _ ((setcs a f).map EV.p)) = z
   obtain rfl : z = (setcs a f).map .p := hz.symm.trans (take_setcs a f hf)
   clear hz
   refine .pure [setav a f, setav a f] _ (toPs_two _ _) hj (.pure [setav a f, setav (a + a - 2) g] _ (toPs_one _ _) hu ?_)
   refine bgo_true (by rw [Bool.and_eq_true, Bool.and_eq_true]; exact ⟨(by rw [show (setav a r).cells = setcs a r from rfl, setcs_len, hr]; rfl), Nat.ble_eq_true_of_le (by rw [setcs_len]; show 0 + 65 ≤ _; omega), rfl⟩) ?_
   refine ⟨by kernel_rfl, ngo_in (by omega) (by omega) ?_⟩
   exact ⟨(i + 1, r), ⟨by dsimp only; omega, hr⟩, by dsimp only; omega, .of (h2 := ⟨⟨rfl, .inr ⟨setSeg_all ((setcs a f).map EV.p) ((setcs a r).map EV.p) (by rw [setcs_len, setcs_len, hf, hr]), okL_p _ _⟩⟩, ⟨⟨rfl, .inr ⟨rfl, rfl⟩⟩, trivial⟩⟩)⟩
 · refine bgo_true (Nat.ble_eq_true_of_le (by rw [setcs_len]; show 0 + 65 ≤ _; omega)) ?_
   generalize hz : List.take _ (List.drop _ ((setcs a f).map EV.p)) = z
   obtain rfl : z = (setcs a f).map .p := hz.symm.trans (take_setcs a f hf)
   clear hz
   refine bgo_true (by rw [Bool.and_eq_true, Bool.and_eq_true]; exact ⟨by rw [setcs_len, hf]; rfl, rfl, rfl⟩) ?_
   have e : setSeg (zeroOf 240) 0 ((setcs a f).map EV.p) = (setcs a f).map .p := setSeg_all _ _ (by rw [setcs_len, hf]; rfl)
   exact ⟨_, _, res_cell rfl rfl rfl rfl (by rw [e, setcs_len, hf]), by rw [e]; exact toPs_agg_p _, f, rfl, hf⟩
theorem all04 (s : Spc) (k : Int) (hk : k = 1 ∨ k = 2) (hs : s.sorts.length ≤ 4) : ∃ f' : List Bool, f'.length = 64 ∧ AFun Tryz.prog 239 [s.ex, eI k] (.p (setav k f')) := by
 suffices hh : ∃ y, (∃ f' : List Bool, y = .p (setav k f') ∧ f'.length = 64) ∧ AFun Tryz.prog 239 [s.ex, eI k] y by
  obtain ⟨y, ⟨r, rfl, hr⟩, hf⟩ := hh
  exact ⟨r, hr, hf⟩
 refine AFunE.intro hT Tryz.func239 rfl rfl (by simp) ⟨_, List.replicate 64 false, rfl, List.length_replicate⟩ (AD.run hT hmix ?_)
 have hl : (s.sorts.map Srt.av).length = s.sorts.length := List.length_map _
 refine AD.loopI (fun x : Nat × List Bool => x.1 ≤ s.sorts.length ∧ x.2.length = 64) (fun x => s.sorts.length - x.1) (fun x => [(1, .p (eI k)), (2, .loc 2 0), (4, .loc 4 0), (5, .loc 5 0), (6, eint .i64 x.1)]) (fun x => [(2, .box 27 (s.cx.map .p)), (4, .box 240 (zeroOf 240)), (5, .box 240 ((setcs k x.2).map .p))]) (0, List.replicate 64 false) ⟨Nat.zero_le _, List.length_replicate⟩ (.of (h2 := ⟨⟨rfl, .inr ⟨rfl, okL_p _ _⟩⟩, ⟨⟨rfl, .inr ⟨rfl, rfl⟩⟩, ⟨⟨rfl, .inr ⟨zero_set _, okL_p _ _⟩⟩, trivial⟩⟩⟩)) fun ⟨i, r⟩ ⟨hi, hr⟩ => AD.run hT hmix ?_
 dsimp only at hi hr ⊢
 intro _
 refine bgo_split (fun hb => ?_) (fun hb => ?_)
 · replace hb := of_decide_eq_true hb
   refine bgo_split (fun hk1 => ?_) (fun hk1 => ?_)
   · skip
     have hlt : i < s.sorts.length := by omega
     obtain ⟨g, hg, ho⟩ := one04 [(i : Int)] (by simp) (by simp; omega)
     obtain ⟨q, hq, hu⟩ := union04 k (([(i : Int)] : List Int).length : Int) r g hr hg
     refine bgo_true (Nat.ble_eq_true_of_le (by rw [setcs_len]; show 0 + 65 ≤ _; omega)) ?_
     generalize hz : List.take _ (List.drop _ ((setcs k r).map EV.p)) = z
     obtain rfl : z = (setcs k r).map .p := hz.symm.trans (take_setcs k r hr)
     clear hz
     refine .pure [ints [(i : Int)]] _ rfl ho (.pure [setav k r, setav (([(i : Int)] : List Int).length : Int) g] _ (toPs_one _ _) hu ?_)
     refine bgo_true (by rw [Bool.and_eq_true, Bool.and_eq_true]; exact ⟨(by rw [show (setav k q).cells = setcs k q from rfl, setcs_len, hq]; rfl), Nat.ble_eq_true_of_le (by rw [setcs_len]; show 0 + 65 ≤ _; omega), rfl⟩) ?_
     refine ⟨by kernel_rfl, ngo_in (by omega) (by omega) ?_⟩
     exact ⟨(i + 1, q), ⟨by dsimp only; omega, hq⟩, by dsimp only; omega, .of (h2 := ⟨⟨rfl, .inr ⟨rfl, okL_p _ _⟩⟩, ⟨⟨rfl, .inr ⟨rfl, rfl⟩⟩, ⟨⟨rfl, .inr ⟨setSeg_all ((setcs k r).map EV.p) ((setcs k q).map EV.p) (by rw [setcs_len, setcs_len, hr, hq]), okL_p _ _⟩⟩, trivial⟩⟩⟩)⟩
   · skip
     have hlt : i < s.sorts.length := by omega
     obtain ⟨g, hg, ho⟩ := one04 [(i : Int), (i : Int)] (by simp) (by simp; omega)
     obtain ⟨q, hq, hu⟩ := union04 k (([(i : Int), (i : Int)] : List Int).length : Int) r g hr hg
     refine bgo_true (Nat.ble_eq_true_of_le (by rw [setcs_len]; show 0 + 65 ≤ _; omega)) ?_
     generalize hz : List.take _ (List.drop _ ((setcs k r).map EV.p)) = z
     obtain rfl : z = (setcs k r).map .p := hz.symm.trans (take_setcs k r hr)
     clear hz
     refine .pure [ints [(i : Int), (i : Int)]] _ rfl ho (.pure [setav k r, setav (([(i : Int), (i : Int)] : List Int).length : Int) g] _ (toPs_one _ _) hu ?_)
     refine bgo_true (by rw [Bool.and_eq_true, Bool.and_eq_true]; exact ⟨(by rw [show (setav k q).cells = setcs k q from rfl, setcs_len, hq]; rfl), Nat.ble_eq_true_of_le (by rw [setcs_len]; show 0 + 65 ≤ _; omega), rfl⟩) ?_
     refine ⟨by kernel_rfl, ngo_in (by omega) (by omega) ?_⟩
     exact ⟨(i + 1, q), ⟨by dsimp only; omega, hq⟩, by dsimp only; omega, .of (h2 := ⟨⟨rfl, .inr ⟨rfl, okL_p _ _⟩⟩, ⟨⟨rfl, .inr ⟨rfl, rfl⟩⟩, ⟨⟨rfl, .inr ⟨setSeg_all ((setcs k r).map EV.p) ((setcs k q).map EV.p) (by rw [setcs_len, setcs_len, hr, hq]), okL_p _ _⟩⟩, trivial⟩⟩⟩)⟩
 · refine bgo_true (Nat.ble_eq_true_of_le (by rw [setcs_len]; show 0 + 65 ≤ _; omega)) ?_
   generalize hz : List.take _ (List.drop _ ((setcs k r).map EV.p)) = z
   obtain rfl : z = (setcs k r).map .p := hz.symm.trans (take_setcs k r hr)
   clear hz
   refine bgo_true (by rw [Bool.and_eq_true, Bool.and_eq_true]; exact ⟨by rw [setcs_len, hr]; rfl, rfl, rfl⟩) ?_
   have e : setSeg (zeroOf 240) 0 ((setcs k r).map EV.p) = (setcs k r).map .p := setSeg_all _ _ (by rw [setcs_len, hr]; rfl)
   exact ⟨_, _, res_cell rfl rfl rfl rfl (by rw [e, setcs_len, hr]), by rw [e]; exact toPs_agg_p _, r, rfl, hr⟩
abbrev Sx := Int × List Bool
def Sx.av (x : Sx) : AV := setav x.1 x.2
def Sx.Ok (x : Sx) : Prop := (1 ≤ x.1 ∧ x.1 ≤ 3) ∧ x.2.length = 64
theorem res_cell_tmp {env : Env} {h : AHp} {a b k : Nat} {ty : Nat} {ti : TI} {t : TypeId} {cs : List EV} (h1 : T.get ty = some ti) (h2 : lk env a = .loc k 0) (h3 : hp h k = .box t cs) (h4 : ti.agg = true) (h5 : cs.length = ti.size) {v : Value} (hx : lk env b = .p (.imm v)) : resAll T env h [.cell a ty, .tmp b] = some [.agg cs, .p (.imm v)] := by
 simp only [resAll, resOne, h1, h2, h3, h4, hx, cond_true]
 rw [show Nat.ble (0 + ti.size) cs.length = true from Nat.ble_eq_true_of_le (by omega)]
 simp only [cond_true, List.drop_zero]
 rw [List.take_of_length_le (by omega)]
def ArApp (op num : Int) (l : List Int) (a : Int) : Prop :=
 (op = 2 → a = num) ∧ (op = 3 → a = 1) ∧ (op = 4 → a = 2) ∧ (op = 5 → l = [a]) ∧ ((6 ≤ op ∧ op ≤ 8) ∨ op = 14 → l = [a, a]) ∧ (op = 32 ∨ op = 33 → ∃ b, l = [b, b]) ∧
 (op = 9 → ∃ b c, l = [b, c] ∧ a = b + c - 2 ∧ 1 ≤ a ∧ a ≤ 3) ∧ (op = 10 → ∃ b c, l = [b, c] ∧ a = b + c ∧ a ≤ 3) ∧ (11 ≤ op ∧ op ≤ 13 → l = [2] ∧ a = 2)
section
variable {op num a : Int} {l : List Int}
theorem ArApp.p2 (h : op = 2) (ha : a = num) : ArApp op num l a := ⟨fun _ => ha, fun _ => by omega, fun _ => by omega, fun _ => by omega, fun _ => by omega, fun _ => by omega, fun _ => by omega, fun _ => by omega, fun _ => by omega⟩
theorem ArApp.p3 (h : op = 3) (ha : a = 1) : ArApp op num l a := ⟨fun _ => by omega, fun _ => ha, fun _ => by omega, fun _ => by omega, fun _ => by omega, fun _ => by omega, fun _ => by omega, fun _ => by omega, fun _ => by omega⟩
theorem ArApp.p4 (h : op = 4) (ha : a = 2) : ArApp op num l a := ⟨fun _ => by omega, fun _ => by omega, fun _ => ha, fun _ => by omega, fun _ => by omega, fun _ => by omega, fun _ => by omega, fun _ => by omega, fun _ => by omega⟩
theorem ArApp.p5 (h : op = 5) (ha : l = [a]) : ArApp op num l a := ⟨fun _ => by omega, fun _ => by omega, fun _ => by omega, fun _ => ha, fun _ => by omega, fun _ => by omega, fun _ => by omega, fun _ => by omega, fun _ => by omega⟩
theorem ArApp.p6 (h : (6 ≤ op ∧ op ≤ 8) ∨ op = 14) (ha : l = [a, a]) : ArApp op num l a := ⟨fun _ => by omega, fun _ => by omega, fun _ => by omega, fun _ => by omega, fun _ => ha, fun _ => by omega, fun _ => by omega, fun _ => by omega, fun _ => by omega⟩
theorem ArApp.p32 (h : op = 32 ∨ op = 33) (ha : ∃ b, l = [b, b]) : ArApp op num l a := ⟨fun _ => by omega, fun _ => by omega, fun _ => by omega, fun _ => by omega, fun _ => by omega, fun _ => ha, fun _ => by omega, fun _ => by omega, fun _ => by omega⟩
theorem ArApp.p9 (h : op = 9) (ha : ∃ b c, l = [b, c] ∧ a = b + c - 2 ∧ 1 ≤ a ∧ a ≤ 3) : ArApp op num l a := ⟨fun _ => by omega, fun _ => by omega, fun _ => by omega, fun _ => by omega, fun _ => by omega, fun _ => by omega, fun _ => ha, fun _ => by omega, fun _ => by omega⟩
theorem ArApp.p10 (h : op = 10) (ha : ∃ b c, l = [b, c] ∧ a = b + c ∧ a ≤ 3) : ArApp op num l a := ⟨fun _ => by omega, fun _ => by omega, fun _ => by omega, fun _ => by omega, fun _ => by omega, fun _ => by omega, fun _ => by omega, fun _ => ha, fun _ => by omega⟩
theorem ArApp.p11 (h : 11 ≤ op ∧ op ≤ 13) (ha : l = [2] ∧ a = 2) : ArApp op num l a := ⟨fun _ => by omega, fun _ => by omega, fun _ => by omega, fun _ => by omega, fun _ => by omega, fun _ => by omega, fun _ => by omega, fun _ => by omega, fun _ => ha⟩
theorem ArApp.p0 (h : op < 2 ∨ 14 < op) (h2 : op ≠ 32 ∧ op ≠ 33) : ArApp op num l a := ⟨fun _ => by omega, fun _ => by omega, fun _ => by omega, fun _ => by omega, fun _ => by omega, fun _ => by omega, fun _ => by omega, fun _ => by omega, fun _ => by omega⟩
end
def ArOk (op num : Int) (l : List Int) (a : Int) : Prop := ArApp op num l a ∧ (1 ≤ op → op ≤ 15 → 1 ≤ a ∧ a ≤ 3)
def AppR (op num : Int) (l : List Int) (y : EV) : Prop := ∃ a f ok, y = .tup [.p (setav a f), .p (eB ok)] ∧ f.length = 64 ∧ (ok = true → ArOk op num l a)
theorem len_beq {A : Int} {f : List Bool} (hf : f.length = 64) : (List.map EV.p (setav A f).cells).length.beq 65 = true := by
 rw [show (setav A f).cells = setcs A f from rfl, setcs_len, hf]; rfl
theorem app_fin {op num : Int} {l : List Int} {env : Env} {h : AHp} {A : Int} {f : List Bool} {ok : Bool} (hf : f.length = 64) (hA : ok = true → ArOk op num l A) (h2 : lk env 6 = .loc 6 0) (h3 : hp h 6 = .box 240 (setSeg (zeroOf 240) 0 ((setcs A f).map .p))) (hx : lk env 7 = .p (.imm (.bool ok))) : ∃ es xs, resAll T env h [.cell 6 240, .tmp 7] = some es ∧ toPs es = some xs ∧ AppR op num l (retEV xs) := by
 have e : setSeg (zeroOf 240) 0 ((setcs A f).map EV.p) = (setcs A f).map .p := setSeg_all _ _ (by rw [setcs_len, hf]; rfl)
 rw [e] at h3
 exact ⟨_, _, res_cell_tmp rfl h2 h3 rfl (by rw [setcs_len, hf]) hx, toPs_one _ _, A, f, ok, rfl, hf, hA⟩
theorem app_fin2 {op num : Int} {l : List Int} {env : Env} {h : AHp} {A : Int} {cs : List EV} (e : cs = (setcs A (List.replicate 64 false)).map .p) (hA : ArOk op num l A) (h2 : lk env 6 = .loc 6 0) (h3 : hp h 6 = .box 240 cs) (hx : lk env 7 = .p (.imm (.bool true))) : ∃ es xs, resAll T env h [.cell 6 240, .tmp 7] = some es ∧ toPs es = some xs ∧ AppR op num l (retEV xs) := by
 subst e
 exact ⟨_, _, res_cell_tmp rfl h2 h3 rfl (by rw [setcs_len, List.length_replicate]) hx, toPs_one _ _, A, List.replicate 64 false, true, rfl, List.length_replicate, fun _ => hA⟩
theorem app_fin3 {op num : Int} {l : List Int} {env : Env} {h : AHp} {ok : Bool} (hop : ok = true → ArApp op num l 0) (hop2 : ¬(1 ≤ op ∧ op ≤ 15)) (h2 : lk env 6 = .loc 6 0) (h3 : hp h 6 = .box 240 (setSeg (zeroOf 240) 0 (zeroOf 240))) (hx : lk env 7 = .p (.imm (.bool ok))) : ∃ es xs, resAll T env h [.cell 6 240, .tmp 7] = some es ∧ toPs es = some xs ∧ AppR op num l (retEV xs) := by
 have e : setSeg (zeroOf 240) 0 (zeroOf 240) = (setcs 0 (List.replicate 64 false)).map .p := by
  rw [setSeg_all _ _ rfl]
  have e : zeroOf 240 = .p (eI 0) :: List.replicate 64 (.p (eB false)) := rfl
  rw [e]; simp [setcs, List.map_replicate]
 rw [e] at h3
 exact ⟨_, _, res_cell_tmp rfl h2 h3 rfl (by rw [setcs_len, List.length_replicate]) hx, toPs_one _ _, 0, List.replicate 64 false, ok, rfl, List.length_replicate, fun h => ⟨hop h, fun h h' => absurd ⟨h, h'⟩ hop2⟩⟩
theorem apply04 (s : Spc) (hs : s.sorts.length ≤ 4) (n : Nd) (l : List Sx) (hn : n.op = 2 → 1 ≤ n.n ∧ n.n ≤ 3) (h1 : n.op = 5 ∨ n.op = 11 ∨ n.op = 12 ∨ n.op = 13 → ∃ x : Sx, l = [x] ∧ x.Ok) (h2 : (6 ≤ n.op ∧ n.op ≤ 10) ∨ n.op = 14 ∨ n.op = 32 ∨ n.op = 33 → ∃ x y : Sx, l = [x, y] ∧ x.Ok ∧ y.Ok) (h15 : n.op ≠ 1 ∧ n.op ≠ 15) : ∃ y, AppR n.op n.n (l.map (·.1)) y ∧ AFun Tryz.prog 219 [s.ex, n.ex, .slice 65 (l.map Sx.av)] y := by
 refine AFunE.intro hT Tryz.func219 rfl rfl (by simp) ⟨_, 1, List.replicate 64 false, false, rfl, List.length_replicate, nofun⟩ (AD.run hT hmix ?_)
 refine bgo_split (fun hb => ?_) (fun hb2 => ?_)
 · replace hb := beq_iff_eq.1 hb
   have e : setSeg (zeroOf 240) 0 (setSeg (zeroOf 240) 0 [.p (eI n.n)]) = (setcs n.n (List.replicate 64 false)).map .p := zero_set n.n
   exact app_fin2 e ⟨.p2 hb rfl, fun _ _ => hn hb⟩ rfl rfl rfl
 refine bgo_split (fun hb => ?_) (fun hb3 => ?_)
 · replace hb := beq_iff_eq.1 hb
   obtain ⟨f, hf, ha⟩ := all04 s 1 (.inl rfl) hs
   refine .pure [s.ex, eI 1] _ rfl ha ?_
   refine bgo_true (by rw [Bool.and_eq_true, Bool.and_eq_true]; exact ⟨len_beq hf, rfl, rfl⟩) ?_
   exact app_fin hf (fun _ => ⟨.p3 hb rfl, fun _ _ => by omega⟩) rfl rfl rfl
 refine bgo_split (fun hb => ?_) (fun hb4 => ?_)
 · replace hb := beq_iff_eq.1 hb
   obtain ⟨f, hf, ha⟩ := all04 s 2 (.inr rfl) hs
   refine .pure [s.ex, eI 2] _ rfl ha ?_
   refine bgo_true (by rw [Bool.and_eq_true, Bool.and_eq_true]; exact ⟨len_beq hf, rfl, rfl⟩) ?_
   exact app_fin hf (fun _ => ⟨.p4 hb rfl, fun _ _ => by omega⟩) rfl rfl rfl
 refine bgo_split (fun hb => ?_) (fun hb5 => ?_)
 · replace hb := beq_iff_eq.1 hb
   obtain ⟨⟨a, f⟩, rfl, ha, hf⟩ := h1 (by omega)
   dsimp only at ha hf
   refine igo_map (f := Sx.av) (l := [(a, f)]) 0 rfl Nat.zero_lt_one ?_
   refine bgo_true (by rw [Bool.and_eq_true, Bool.and_eq_true]; exact ⟨len_beq hf, rfl, rfl⟩) ?_
   exact app_fin hf (fun _ => ⟨.p5 hb rfl, fun _ _ => ha⟩) rfl rfl rfl
 refine bgo_split (fun hop => ?_) (fun hb6 => ?_)
 · refine bgo_true hop ?_
   replace hop := beq_iff_eq.1 hop
   obtain ⟨⟨a, f⟩, ⟨b, g⟩, rfl, ⟨ha, hf⟩, hb, hg⟩ := h2 (by omega)
   dsimp only at ha hf hb hg
   have E0 : ([(a, f), (b, g)] : List Sx)[0].1 = a := rfl
   have E1 : ([(a, f), (b, g)] : List Sx)[1].1 = b := rfl
   obtain ⟨r, hr, hu⟩ := union04 a b f g hf hg
   refine igo_map (f := Sx.av) (l := [(a, f), (b, g)]) 0 rfl Nat.zero_lt_two ?_
   refine igo_map (f := Sx.av) (l := [(a, f), (b, g)]) 1 rfl Nat.one_lt_two ?_
   refine .pure [setav a f, setav b g] _ rfl hu ?_
   refine igo_map (f := Sx.av) (l := [(a, f), (b, g)]) 0 rfl Nat.zero_lt_two ?_
   refine igo_map (f := Sx.av) (l := [(a, f), (b, g)]) 1 rfl Nat.one_lt_two ?_
   refine bgo_true (by rw [Bool.and_eq_true, Bool.and_eq_true]; exact ⟨len_beq hr, rfl, rfl⟩) ?_
   exact ⟨by kernel_rfl, app_fin hr (fun h => ⟨.p6 (by omega) (by rw [show a = b from beq_iff_eq.1 h]; rfl), fun _ _ => ha⟩) rfl rfl rfl⟩
 refine bgo_split (fun hop => ?_) (fun hb14 => ?_)
 · skip
   replace hop := beq_iff_eq.1 hop
   obtain ⟨⟨a, f⟩, ⟨b, g⟩, rfl, ⟨ha, hf⟩, hb, hg⟩ := h2 (by omega)
   dsimp only at ha hf hb hg
   have E0 : ([(a, f), (b, g)] : List Sx)[0].1 = a := rfl
   have E1 : ([(a, f), (b, g)] : List Sx)[1].1 = b := rfl
   obtain ⟨r, hr, hu⟩ := union04 a b f g hf hg
   refine igo_map (f := Sx.av) (l := [(a, f), (b, g)]) 0 rfl Nat.zero_lt_two ?_
   refine igo_map (f := Sx.av) (l := [(a, f), (b, g)]) 1 rfl Nat.one_lt_two ?_
   refine .pure [setav a f, setav b g] _ rfl hu ?_
   refine igo_map (f := Sx.av) (l := [(a, f), (b, g)]) 0 rfl Nat.zero_lt_two ?_
   refine igo_map (f := Sx.av) (l := [(a, f), (b, g)]) 1 rfl Nat.one_lt_two ?_
   refine bgo_true (by rw [Bool.and_eq_true, Bool.and_eq_true]; exact ⟨len_beq hr, rfl, rfl⟩) ?_
   exact ⟨by kernel_rfl, app_fin hr (fun h => ⟨.p6 (by omega) (by rw [show a = b from beq_iff_eq.1 h]; rfl), fun _ _ => ha⟩) rfl rfl rfl⟩
 refine bgo_split (fun hop => ?_) (fun hb7 => ?_)
 · skip
   replace hop := beq_iff_eq.1 hop
   obtain ⟨⟨a, f⟩, ⟨b, g⟩, rfl, ⟨ha, hf⟩, hb, hg⟩ := h2 (by omega)
   dsimp only at ha hf hb hg
   have E0 : ([(a, f), (b, g)] : List Sx)[0].1 = a := rfl
   have E1 : ([(a, f), (b, g)] : List Sx)[1].1 = b := rfl
   obtain ⟨r, hr, hu⟩ := inter04 a b f g hf hg
   refine igo_map (f := Sx.av) (l := [(a, f), (b, g)]) 0 rfl Nat.zero_lt_two ?_
   refine igo_map (f := Sx.av) (l := [(a, f), (b, g)]) 1 rfl Nat.one_lt_two ?_
   refine .pure [setav a f, setav b g] _ rfl hu ?_
   refine igo_map (f := Sx.av) (l := [(a, f), (b, g)]) 0 rfl Nat.zero_lt_two ?_
   refine igo_map (f := Sx.av) (l := [(a, f), (b, g)]) 1 rfl Nat.one_lt_two ?_
   refine bgo_true (by rw [Bool.and_eq_true, Bool.and_eq_true]; exact ⟨len_beq hr, rfl, rfl⟩) ?_
   exact ⟨by kernel_rfl, app_fin hr (fun h => ⟨.p6 (by omega) (by rw [show a = b from beq_iff_eq.1 h]; rfl), fun _ _ => ha⟩) rfl rfl rfl⟩
 refine bgo_split (fun hop => ?_) (fun hb8 => ?_)
 · skip
   replace hop := beq_iff_eq.1 hop
   obtain ⟨⟨a, f⟩, ⟨b, g⟩, rfl, ⟨ha, hf⟩, hb, hg⟩ := h2 (by omega)
   dsimp only at ha hf hb hg
   have E0 : ([(a, f), (b, g)] : List Sx)[0].1 = a := rfl
   have E1 : ([(a, f), (b, g)] : List Sx)[1].1 = b := rfl
   refine igo_map (f := Sx.av) (l := [(a, f), (b, g)]) 0 rfl Nat.zero_lt_two ?_
   refine igo_map (f := Sx.av) (l := [(a, f), (b, g)]) 0 rfl Nat.zero_lt_two ?_
   refine igo_map (f := Sx.av) (l := [(a, f), (b, g)]) 1 rfl Nat.one_lt_two ?_
   refine bgo_true (by rw [Bool.and_eq_true, Bool.and_eq_true]; exact ⟨len_beq hf, rfl, rfl⟩) ?_
   exact ⟨by kernel_rfl, app_fin hf (fun h => ⟨.p6 (by omega) (by rw [show a = b from beq_iff_eq.1 h]; rfl), fun _ _ => ha⟩) rfl rfl rfl⟩
 refine bgo_split (fun hop => ?_) (fun hb32 => ?_)
 · refine bgo_true hop ?_
   replace hop := beq_iff_eq.1 hop
   obtain ⟨⟨a, f⟩, ⟨b, g⟩, rfl, ⟨ha, hf⟩, hb, hg⟩ := h2 (by omega)
   dsimp only at ha hf hb hg
   have E0 : ([(a, f), (b, g)] : List Sx)[0].1 = a := rfl
   have E1 : ([(a, f), (b, g)] : List Sx)[1].1 = b := rfl
   refine igo_map (f := Sx.av) (l := [(a, f), (b, g)]) 0 rfl Nat.zero_lt_two ?_
   refine igo_map (f := Sx.av) (l := [(a, f), (b, g)]) 1 rfl Nat.one_lt_two ?_
   refine ⟨by kernel_rfl, ?_⟩
   exact app_fin3 (fun h => .p32 (by omega) ⟨b, by rw [show a = b from beq_iff_eq.1 h]; rfl⟩) (by omega) rfl rfl rfl
 refine bgo_split (fun hop => ?_) (fun hb33 => ?_)
 · skip
   replace hop := beq_iff_eq.1 hop
   obtain ⟨⟨a, f⟩, ⟨b, g⟩, rfl, ⟨ha, hf⟩, hb, hg⟩ := h2 (by omega)
   dsimp only at ha hf hb hg
   have E0 : ([(a, f), (b, g)] : List Sx)[0].1 = a := rfl
   have E1 : ([(a, f), (b, g)] : List Sx)[1].1 = b := rfl
   refine igo_map (f := Sx.av) (l := [(a, f), (b, g)]) 0 rfl Nat.zero_lt_two ?_
   refine igo_map (f := Sx.av) (l := [(a, f), (b, g)]) 1 rfl Nat.one_lt_two ?_
   refine ⟨by kernel_rfl, ?_⟩
   exact app_fin3 (fun h => .p32 (by omega) ⟨b, by rw [show a = b from beq_iff_eq.1 h]; rfl⟩) (by omega) rfl rfl rfl
 refine bgo_split (fun hop => ?_) (fun hb9 => ?_)
 · skip
   replace hop := beq_iff_eq.1 hop
   obtain ⟨⟨a, f⟩, ⟨b, g⟩, rfl, ⟨ha, hf⟩, hb, hg⟩ := h2 (by omega)
   dsimp only at ha hf hb hg
   have E0 : ([(a, f), (b, g)] : List Sx)[0].1 = a := rfl
   have E1 : ([(a, f), (b, g)] : List Sx)[1].1 = b := rfl
   refine igo_map (f := Sx.av) (l := [(a, f), (b, g)]) 0 rfl Nat.zero_lt_two ?_
   refine igo_map (f := Sx.av) (l := [(a, f), (b, g)]) 1 rfl Nat.one_lt_two ?_
   refine ngo_in (by omega) (by omega) (ngo_in (by omega) (by omega) ?_)
   refine ⟨by kernel_rfl, ?_⟩
   obtain ⟨r, hr, hu⟩ := join04 a b ⟨by omega, by omega⟩ ⟨by omega, by omega⟩ f g hf hg
   refine igo_map (f := Sx.av) (l := [(a, f), (b, g)]) 0 rfl Nat.zero_lt_two ?_
   refine igo_map (f := Sx.av) (l := [(a, f), (b, g)]) 1 rfl Nat.one_lt_two ?_
   refine .pure [setav a f, setav b g] _ rfl hu ?_
   refine bgo_split (fun hge => ?_) (fun hge => ?_)
   · replace hge := of_decide_eq_true hge
     refine bgo_true (by rw [Bool.and_eq_true, Bool.and_eq_true]; exact ⟨len_beq hr, rfl, rfl⟩) ?_
     exact ⟨by kernel_rfl, app_fin hr (fun h => (by have := of_decide_eq_true h; exact ⟨.p9 hop ⟨a, b, rfl, rfl, by omega, by omega⟩, fun _ _ => by omega⟩)) rfl rfl rfl⟩
   · skip
     refine bgo_true (by rw [Bool.and_eq_true, Bool.and_eq_true]; exact ⟨len_beq hr, rfl, rfl⟩) ?_
     exact ⟨by kernel_rfl, app_fin hr (fun h => by cases h) rfl rfl rfl⟩
 refine bgo_split (fun hop => ?_) (fun hb10 => ?_)
 · skip
   replace hop := beq_iff_eq.1 hop
   obtain ⟨⟨a, f⟩, ⟨b, g⟩, rfl, ⟨ha, hf⟩, hb, hg⟩ := h2 (by omega)
   dsimp only at ha hf hb hg
   have E0 : ([(a, f), (b, g)] : List Sx)[0].1 = a := rfl
   have E1 : ([(a, f), (b, g)] : List Sx)[1].1 = b := rfl
   obtain ⟨r, hr, hu⟩ := product04 a b ⟨by omega, by omega⟩ ⟨by omega, by omega⟩ f g hf hg
   refine igo_map (f := Sx.av) (l := [(a, f), (b, g)]) 0 rfl Nat.zero_lt_two ?_
   refine igo_map (f := Sx.av) (l := [(a, f), (b, g)]) 1 rfl Nat.one_lt_two ?_
   refine .pure [setav a f, setav b g] _ rfl hu ?_
   refine igo_map (f := Sx.av) (l := [(a, f), (b, g)]) 0 rfl Nat.zero_lt_two ?_
   refine igo_map (f := Sx.av) (l := [(a, f), (b, g)]) 1 rfl Nat.one_lt_two ?_
   refine ngo_in (by omega) (by omega) ?_
   refine bgo_true (by rw [Bool.and_eq_true, Bool.and_eq_true]; exact ⟨len_beq hr, rfl, rfl⟩) ?_
   exact ⟨by kernel_rfl, app_fin hr (fun h => (by have := of_decide_eq_true h; exact ⟨.p10 hop ⟨a, b, rfl, rfl, by omega⟩, fun _ _ => by omega⟩)) rfl rfl rfl⟩
 refine bgo_split (fun hop => ?_) (fun hb11 => ?_)
 · skip
   replace hop := beq_iff_eq.1 hop
   obtain ⟨⟨a, f⟩, rfl, ha, hf⟩ := h1 (by omega)
   dsimp only at ha hf
   obtain ⟨r, hr, hu⟩ := transpose04 a f hf
   refine igo_map (f := Sx.av) (l := [(a, f)]) 0 rfl Nat.zero_lt_one ?_
   refine .pure [setav a f] _ rfl hu ?_
   refine igo_map (f := Sx.av) (l := [(a, f)]) 0 rfl Nat.zero_lt_one ?_
   refine bgo_true (by rw [Bool.and_eq_true, Bool.and_eq_true]; exact ⟨len_beq hr, rfl, rfl⟩) ?_
   exact ⟨by kernel_rfl, app_fin hr (fun h => (by have h : a = 2 := beq_iff_eq.1 h; exact ⟨.p11 (by omega) ⟨by rw [h]; rfl, rfl⟩, fun _ _ => by omega⟩)) rfl rfl rfl⟩
 refine bgo_split (fun hop => ?_) (fun hb12 => ?_)
 · skip
   replace hop := beq_iff_eq.1 hop
   obtain ⟨⟨a, f⟩, rfl, ha, hf⟩ := h1 (by omega)
   dsimp only at ha hf
   obtain ⟨r, hr, hu⟩ := closure04 a ⟨by omega, by omega⟩ f hf
   refine igo_map (f := Sx.av) (l := [(a, f)]) 0 rfl Nat.zero_lt_one ?_
   refine .pure [setav a f] _ rfl hu ?_
   refine igo_map (f := Sx.av) (l := [(a, f)]) 0 rfl Nat.zero_lt_one ?_
   refine bgo_true (by rw [Bool.and_eq_true, Bool.and_eq_true]; exact ⟨len_beq hr, rfl, rfl⟩) ?_
   exact ⟨by kernel_rfl, app_fin hr (fun h => (by have h : a = 2 := beq_iff_eq.1 h; exact ⟨.p11 (by omega) ⟨by rw [h]; rfl, h⟩, fun _ _ => by omega⟩)) rfl rfl rfl⟩
 refine bgo_split (fun hop => ?_) (fun hb13 => ?_)
 · skip
   replace hop := beq_iff_eq.1 hop
   obtain ⟨⟨a, f⟩, rfl, ha, hf⟩ := h1 (by omega)
   dsimp only at ha hf
   obtain ⟨r, hr, hu⟩ := closure04 a ⟨by omega, by omega⟩ f hf
   obtain ⟨q, hq, hv⟩ := all04 s 2 (.inr rfl) hs
   obtain ⟨p, hp, hw⟩ := union04 a 2 r q hr hq
   refine igo_map (f := Sx.av) (l := [(a, f)]) 0 rfl Nat.zero_lt_one ?_
   refine .pure [setav a f] _ rfl hu ?_
   refine .pure [s.ex, eI 2] _ rfl hv ?_
   refine .pure [setav a r, setav 2 q] _ rfl hw ?_
   refine igo_map (f := Sx.av) (l := [(a, f)]) 0 rfl Nat.zero_lt_one ?_
   refine bgo_true (by rw [Bool.and_eq_true, Bool.and_eq_true]; exact ⟨len_beq hp, rfl, rfl⟩) ?_
   exact ⟨by kernel_rfl, app_fin hp (fun h => (by have h : a = 2 := beq_iff_eq.1 h; exact ⟨.p11 (by omega) ⟨by rw [h]; rfl, h⟩, fun _ _ => by omega⟩)) rfl rfl rfl⟩
 simp only [beq_eq_false_iff_ne] at *
 exact app_fin3 (fun _ => .p0 (by omega) (by omega)) (by omega) rfl rfl rfl
def timedOp (op : Int) : Bool := decide (op = 5 ∨ (48 ≤ op ∧ op ≤ 51))
theorem timed04 (op : Int) : AFun Tryz.prog 214 [eI op] (.p (eB (timedOp op))) := by
 refine AFun.of hT Tryz.func214 rfl rfl (by simp) (AD.run hT hmix ?_)
 have e3 : ∀ x, timedOp op = x → EV.p (eB (timedOp op)) = retEV [AV.imm (.bool x)] := fun x h => by rw [h]; rfl
 repeat' first
  | exact ⟨_, _, rfl, rfl, e3 _ (by simp only [decide_eq_true_eq, decide_eq_false_iff_not, beq_iff_eq, beq_eq_false_iff_ne] at *; unfold timedOp; first | (rw [decide_eq_decide]; omega) | (rw [decide_eq_true_eq]; omega) | (rw [decide_eq_false_iff_not]; omega))⟩
  | refine bgo_split (fun _ => ?_) (fun _ => ?_)
theorem formula04 (n : Nd) : AFun Tryz.prog 167 [n.ex] (.p (eB (decide (n.op ≥ 30)))) := by
 refine AFun.of hT Tryz.func167 rfl rfl (by simp) (AD.run hT hmix ?_)
 exact ⟨_, _, rfl, rfl, rfl⟩
theorem pred04 (s : Spc) (calls : Int) (nm : ByteArray) : ∃ r : Int, (-1 ≤ r ∧ r < s.preds.length ∧ r < max 0 calls) ∧ AFun Tryz.prog 166 [s.ex, eI calls, eS nm] (.p (eI r)) := by
 suffices hh : ∃ y, (∃ r : Int, y = .p (eI r) ∧ -1 ≤ r ∧ r < s.preds.length ∧ r < max 0 calls) ∧ AFun Tryz.prog 166 [s.ex, eI calls, eS nm] y by
  obtain ⟨y, ⟨r, rfl, hr⟩, hf⟩ := hh
  exact ⟨r, hr, hf⟩
 refine AFunE.intro hT Tryz.func166 rfl rfl (by simp) ⟨_, -1, rfl, by omega⟩ (AD.run hT hmix ?_)
 have hl : (s.preds.map Prd.ex).length = s.preds.length := List.length_map _
 refine AD.loopI (fun i : Nat => i ≤ s.preds.length) (fun i => s.preds.length - i) (fun i => [(1, .p (eI calls)), (2, .p (eS nm)), (3, .loc 3 0), (7, eint .i64 i)]) (fun _ => [(3, .box 27 (s.cx.map .p))]) 0 (Nat.zero_le _) .of fun i hi => AD.run hT hmix ?_
 refine bgo_split (fun hb => ?_) (fun hb => ⟨_, _, rfl, rfl, -1, rfl, by omega⟩)
 replace hb := of_decide_eq_true hb
 intro _
 refine bgo_split (fun hb2 => ?_) (fun hb2 => ⟨_, _, rfl, rfl, -1, rfl, by omega⟩)
 replace hb2 := of_decide_eq_true hb2
 have hlt : i < s.preds.length := by omega
 refine igo_map i rfl hlt ?_
 refine bgo_split (fun hc => ?_) (fun hc => ?_)
 · exact ⟨_, _, rfl, rfl, (i : Int), rfl, by omega⟩
 · exact ngo_in (by omega) (by omega) ⟨i + 1, by omega, by omega, .of⟩
theorem tpred04 (s : Spc) (known : List Bool) (calls : Int) (nm : ByteArray) : ∃ b : Bool, AFun Tryz.prog 215 [s.ex, .slice 1 (known.map eB), eI calls, eS nm] (.p (eB b)) := by
 suffices hh : ∃ y, (∃ b : Bool, y = .p (eB b)) ∧ AFun Tryz.prog 215 [s.ex, .slice 1 (known.map eB), eI calls, eS nm] y by
  obtain ⟨y, ⟨b, rfl⟩, hf⟩ := hh
  exact ⟨b, hf⟩
 obtain ⟨r, hr, hf⟩ := pred04 s calls nm
 have hl : (known.map eB).length = known.length := List.length_map _
 refine AFunE.intro hT Tryz.func215 rfl rfl (by simp) ⟨_, true, rfl⟩ (AD.run hT hmix ?_)
 refine .pure _ _ rfl hf ?_
 refine bgo_split (fun hb => ?_) (fun hb => ⟨_, _, rfl, rfl, _, rfl⟩)
 replace hb := of_decide_eq_true hb
 intro _
 refine bgo_split (fun hb2 => ?_) (fun hb2 => ⟨_, _, rfl, rfl, _, rfl⟩)
 replace hb2 := of_decide_eq_true hb2
 exact igo_map r.toNat (by omega) (by omega) ⟨_, _, rfl, rfl, _, rfl⟩
theorem temporal04 (s : Spc) (known : List Bool) (n : Nd) : ∃ b : Bool, AFun Tryz.prog 220 [s.ex, .slice 1 (known.map eB), n.ex] (.p (eB b)) := by
 induction n using Nd.ind with
 | h n ih =>
  suffices hh : ∃ y, (∃ b : Bool, y = .p (eB b)) ∧ AFun Tryz.prog 220 [s.ex, .slice 1 (known.map eB), n.ex] y by
   obtain ⟨y, ⟨b, rfl⟩, hf⟩ := hh
   exact ⟨b, hf⟩
  have hl : (n.kids.map Nd.av).length = n.kids.length := List.length_map _
  have hl2 : (known.map eB).length = known.length := List.length_map _
  refine AFunE.intro hT Tryz.func220 rfl rfl (by simp) ⟨_, true, rfl⟩ (AD.run hT hmix ?_)
  have ht := timed04 n.op
  obtain ⟨pb, hp⟩ := tpred04 s known ((known.map eB).length : Int) n.name
  refine .pure _ _ rfl ht ?_
  refine bgo_split (fun h1 => ⟨_, _, rfl, rfl, _, rfl⟩) (fun h1 => ?_)
  refine bgo_split (fun h2 => ?_) (fun h2 => ?_)
  · intro _
    refine .pure _ _ rfl hp ?_
    refine bgo_split (fun h3 => ⟨_, _, rfl, rfl, _, rfl⟩) (fun h3 => ?_)
    refine AD.loopI (fun i : Nat => i ≤ n.kids.length) (fun i => n.kids.length - i) (fun i => [(1, .p (.slice 1 (known.map eB))), (3, .loc 3 0), (5, .loc 5 0), (7, eint .i64 i)]) (fun _ => [(3, .box 27 (s.cx.map .p)), (5, .box 35 ([eI n.op, eS n.name, eI n.n, .slice 5 (n.kids.map Nd.av), eI n.at_].map .p))]) 0 (Nat.zero_le _) .of fun i hi => AD.run hT hmix ?_
    intro _
    refine bgo_split (fun hb => ?_) (fun hb => ⟨_, _, rfl, rfl, _, rfl⟩)
    replace hb := of_decide_eq_true hb
    have hlt : i < n.kids.length := by omega
    obtain ⟨b, hf⟩ := ih _ (List.getElem_mem hlt)
    rw [← Nd.av_ex] at hf
    refine igo_map i rfl hlt (.pure _ _ rfl hf ⟨by kernel_rfl, ?_⟩)
    exact bgo_split (fun hc => ⟨_, _, rfl, rfl, _, rfl⟩) (fun hc => ngo_in (by omega) (by omega) ⟨i + 1, by omega, by omega, .of⟩)
  · skip
    refine AD.loopI (fun i : Nat => i ≤ n.kids.length) (fun i => n.kids.length - i) (fun i => [(1, .p (.slice 1 (known.map eB))), (3, .loc 3 0), (5, .loc 5 0), (7, eint .i64 i)]) (fun _ => [(3, .box 27 (s.cx.map .p)), (5, .box 35 ([eI n.op, eS n.name, eI n.n, .slice 5 (n.kids.map Nd.av), eI n.at_].map .p))]) 0 (Nat.zero_le _) .of fun i hi => AD.run hT hmix ?_
    intro _
    refine bgo_split (fun hb => ?_) (fun hb => ⟨_, _, rfl, rfl, _, rfl⟩)
    replace hb := of_decide_eq_true hb
    have hlt : i < n.kids.length := by omega
    obtain ⟨b, hf⟩ := ih _ (List.getElem_mem hlt)
    rw [← Nd.av_ex] at hf
    refine igo_map i rfl hlt (.pure _ _ rfl hf ⟨by kernel_rfl, ?_⟩)
    exact bgo_split (fun hc => ⟨_, _, rfl, rfl, _, rfl⟩) (fun hc => ngo_in (by omega) (by omega) ⟨i + 1, by omega, by omega, .of⟩)
theorem temporals04 (s : Spc) (hs : s.preds.length ≤ 1000) : ∃ l : List Bool, l.length = s.preds.length ∧ AFun Tryz.prog 169 [s.ex] (.p (.slice 1 (l.map eB))) := by
 suffices hh : ∃ y, (∃ l : List Bool, y = .p (.slice 1 (l.map eB)) ∧ l.length = s.preds.length) ∧ AFun Tryz.prog 169 [s.ex] y by
  obtain ⟨y, ⟨r, rfl, hr⟩, hf⟩ := hh
  exact ⟨r, hr, hf⟩
 refine AFunE.intro hT Tryz.func169 rfl rfl (by simp) ⟨_, List.replicate s.preds.length true, rfl, by simp⟩ (AD.run hT hmix ?_)
 have hl : (s.preds.map Prd.ex).length = s.preds.length := List.length_map _
 refine AD.loopI (fun x : Nat × List Bool => x.1 ≤ s.preds.length ∧ x.2.length = x.1) (fun x => s.preds.length - x.1) (fun x => [(1, .loc 1 0), (3, .own 1 (x.2.map eB) 23), (4, eint .i64 x.1)]) (fun x => [(1, .box 27 (s.cx.map .p)), (23, .tail x.2.length)]) (0, []) ⟨Nat.zero_le _, rfl⟩ .of fun ⟨i, l⟩ ⟨hi, hl1⟩ => AD.run hT hmix ?_
 dsimp only at hi hl1 ⊢
 have hl2 : (l.map eB).length = l.length := List.length_map _
 intro _
 refine bgo_split (fun hb => ?_) (fun hb => ?_)
 · replace hb := of_decide_eq_true hb
   have hlt : i < s.preds.length := by omega
   obtain ⟨b, hf⟩ := temporal04 s l s.preds[i].body
   have e : (l ++ [b]).map eB = l.map eB ++ [eB b] := by simp
   refine igo_map i rfl hlt (.pure _ _ rfl hf ⟨hl2.symm, ⟨by simp; omega, by simp; omega⟩, by kernel_rfl, ngo_in (by omega) (by omega) ⟨(i + 1, l ++ [b]), ⟨by dsimp only; omega, by simp; omega⟩, by dsimp only; omega, ?_⟩⟩)
   dsimp only
   rw [e, show (l ++ [b]).length = (l.map eB ++ [eB b]).length by simp]
   exact .of
 · replace hb := of_decide_eq_false hb
   exact ⟨_, _, rfl, rfl, l, rfl, by omega⟩
end Go.Ab
