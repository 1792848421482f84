/- Texts PX, PY. Conditions: none. -/
import Derived.Test.YtmllhjbnbhapoaaGreatGK
import Derived.Tactics
set_option linter.unusedSimpArgs false
set_option linter.unusedVariables false
namespace Go.Ab
open Go Go.Proofs
set_option maxRecDepth 10000
theorem caughtT_quiet : DQuiet Tryz.prog 87 1 := by
 refine ⟨⟨_, Tryz.func87, rfl, rfl⟩, fun args w hs => ?_⟩
 refine callsDIn_of_wpSIn Tryz.func87 rfl trivial fun c₀ cs hu => ?_
 obtain ⟨x, rfl⟩ : ∃ x, args = #[x] := by
  obtain ⟨l⟩ := args
  cases l with
  | nil => simp at hs
  | cons x r => cases r with
   | nil => exact ⟨x, rfl⟩
   | cons y z => simp at hs
 apply wpSIn_seq
 apply wpSIn_region
 simp [wpOpsSIn, go_sem, recoverD, hu, Exit.thenS]
 refine wpSIn_of_wpIn rfl (wpIn_wide.2 ?_)
 refine wp_block (wp_seq (wp_region ?_))
 simp [wpOps, Oper.wp, go_sem, List.range, List.range.loop, yielded, Region.wanted, Act.eval]
 left
 refine wp_cond_true (by simp [Act.eval]) ?_
 refine wp_region ?_
 simp [wpOps, Oper.wp, go_sem, List.range, List.range.loop, yielded, Region.wanted, Act.eval, Exit.inBlock, bodyPostS, results, hu]
 exact .inl (by rw [← hu])
abbrev tfn : EV := .fn (.func 39) [] tcaps
theorem caughtP : EFun Tryz.prog 38 [tfn] tb0 (.agg [.p (eI 0), .p (eI 0)]) tb1 := by
 refine EFun.introC hT Tryz.func38 rfl rfl (by simp) rfl (t3 := 3) rfl rfl rfl rfl rfl caughtT_quiet ?_
 refine ⟨⟨_, rfl⟩, AD.run hT hmix ?_⟩
 refine .eff tb0 tb1 _ type1 ⟨rfl, trivial⟩ rfl rfl rfl rfl ?_
 exact ⟨_, [.agg [.p (eI 0), .p (eI 0)]], _, rfl, .of, rfl, rfl, rfl⟩
theorem bitsLenP (x : Int) (h0 : 0 ≤ x) (h1 : x ≤ 18446744073709551615) : AFun Tryz.prog 77 [.imm (.int .u64 x)] (.p (eI (Lib.bitLen x.toNat))) := by
 refine ⟨⟨_, Tryz.func77, rfl, rfl⟩, fun fz w vs hz hr => ?_⟩
 obtain ⟨v, rfl⟩ : ∃ v, vs = [v] := by
  match vs, hr.1 with
  | [v], _ => exact ⟨v, rfl⟩
 have e0 := hr.2 0 v _ rfl rfl
 cases e0
 refine (Tryz.bits_Len x w h0 h1).mono ?_
 rintro e w' ⟨rfl, rfl⟩
 exact ⟨_, fz, rfl, Kept.refl _ _, ⟨fun _ _ _ h => h, fun _ _ => rfl⟩, hz, fun g hg => .p _ _ (.imm _ rfl)⟩
abbrev cmpF : AV := .fn (.func 44) [] []
theorem insOne (r : AV) : AFun Tryz.prog 154 [.slice 1 [r], eI 0, eI 1, cmpF] (.tup []) := by
 refine AFun.of hT Tryz.func154 rfl rfl (by simp) (AD.run hT hmix ?_)
 refine ngo_in (by decide) (by decide) ?_
 refine AD.loopI (fun _ : Unit => True) (fun _ => 0) (fun _ => [(2, .p (eI 1)), (8, .p (eI 1))]) (fun _ => []) () trivial .of fun _ _ => AD.run hT hmix ?_
 exact ⟨_, _, rfl, rfl, rfl⟩
theorem pdqOne (r : AV) (l : Int) : AFun Tryz.prog 95 [.slice 1 [r], eI 0, eI 1, eI l, cmpF] (.tup []) := by
 refine AFun.of hT Tryz.func95 rfl rfl (by simp) (AD.run hT hmix ?_)
 refine AD.loopI (fun _ : Unit => True) (fun _ => 0) (fun _ => [(0, .p (.slice 1 [r])), (1, .p (eI 0)), (2, .p (eI 1)), (3, .p (eI l)), (4, .p cmpF)]) (fun _ => []) () trivial .of fun _ _ => AD.run hT hmix ?_
 refine ngo_in (by decide) (by decide) ?_
 exact .pure [.slice 1 [r], eI 0, eI 1, cmpF] _ rfl (insOne r) ⟨_, _, rfl, rfl, rfl⟩
theorem sortOne (r : AV) : AFun Tryz.prog 43 [.slice 1 [r], cmpF] (.tup []) := by
 refine AFun.of hT Tryz.func43 rfl rfl (by simp) (AD.run hT hmix ?_)
 intro _
 refine ⟨1, rfl, ?_⟩
 refine .pure [.imm (.int .u64 1)] _ rfl (bitsLenP 1 (by decide) (by decide)) ?_
 exact .pure [.slice 1 [r], eI 0, eI 1, _, cmpF] _ rfl (pdqOne r _) ⟨_, _, rfl, rfl, rfl⟩
theorem typeP : AFun Tryz.prog 14 [sS.ex, .slice 2 [], nJ.ex] (.tup [.p (.slice 1 [ints [0]]), .p (eI 0)]) := by
 refine AFun.of hT Tryz.func14 rfl rfl (by simp) ?_
 refine AD.cut hT hmix 4 (fun _ : Unit => True) (fun _ => [(3, .p (.ref sS.cx)), (4, .p (.ref [.slice 2 []])), (5, .p (.ref nJ.ecs)), (8, .loc 9003 0)]) (fun _ => tb0) ?_ fun _ _ => ?_
 · exact ⟨(), trivial, (SubAll.sealB (env' := [(3, .p (.ref sS.cx)), (4, .loc 4 0), (5, .loc 5 0), (8, .loc 8 0)]) (h' := [(4, .box 98 [.p (.slice 2 [])]), (5, .box 35 (nJ.ecs.map .p)), (8, .box 101 [.p (eI 0), .p (.imm (.map none))])]) 3).trans
    ((SubAll.sealB (env' := [(3, .p (.ref sS.cx)), (4, .p (.ref [.slice 2 []])), (5, .loc 5 0), (8, .loc 8 0)]) (h' := [(5, .box 35 (nJ.ecs.map .p)), (8, .box 101 [.p (eI 0), .p (.imm (.map none))])]) 4).trans
    ((SubAll.sealB (env' := [(3, .p (.ref sS.cx)), (4, .p (.ref [.slice 2 []])), (5, .p (.ref nJ.ecs)), (8, .loc 8 0)]) (h' := [(8, .box 101 [.p (eI 0), .p (.imm (.map none))])]) 5).trans ((SubAll.ren 9003 8).trans .of)))⟩
 · refine AD.run hT hmix ?_
   refine .eff tb0 tb1 _ caughtP ⟨rfl, trivial⟩ rfl rfl rfl rfl ?_
   refine AD.mapLoop (T := T) (it := 27) (tn := 28) (k := 27) (kp := K3) (tot := [k000]) (fun done => [(8, .loc 9003 0), (10, (match done with | [] => .full 1 [] | _ => .own 1 [ints [0]] 49)), (27, .mtok 27)])
    (fun done => (27, .map .iter ((.mp K3 [k000], tt) :: done)) :: (match done with | [] => tb1 | _ => (49, .tail 1) :: tb1)) [(10, .own 1 [ints [0]] 49)] [(49, .tail 1)] .of (fun done hd => ?_) ?_ (fun done x rest hp => ?_)
   · obtain rfl := one_perm hd
     exact .of
   · refine ACall.pure [.slice 1 [ints [0]], cmpF] _ rfl (sortOne (ints [0])) ?_
     exact ⟨_, _, rfl, rfl, rfl⟩
   · obtain ⟨rfl, rfl, rfl⟩ := one_step hp
     refine AD.run hT hmix ?_
     refine ⟨rfl, 0, 1, rfl, rfl, by decide, by decide, by decide, by decide, by decide, ?_⟩
     intro _
     refine AD.loopI (fun i : Nat => i ≤ 1) (fun i => 2 - i) (fun i => [(8, .loc 9003 0), (10, .full 1 []), (12, (match i with | 0 => .full 1 [] | _ => .own 1 [eI 0] 44)), (27, .mtok 27), (34, .arr 1 11 0 1), (35, eint .i64 1), (36, eint .i64 i)])
      (fun i => (11, .box 112 [.p (e8 0), .p (e8 0), .p (e8 0)]) :: (27, .map .iter [(.mp K3 [k000], tt), k000]) :: (match i with | 0 => tb1 | _ => (44, .tail 1) :: tb1)) 0 (by decide) .of fun i hi => ?_
     match i, hi with
     | 0, _ =>
      refine AD.run hT hmix ?_
      refine ⟨0, rfl, by decide, ngo_in (by decide) (by decide) ?_⟩
      exact ⟨⟨by decide, by decide⟩, ngo_in (by decide) (by decide) ⟨1, by decide, by decide, .of⟩⟩
     | 1, _ =>
      refine AD.run hT hmix ?_
      exact ⟨⟨by decide, by decide⟩, .of⟩
def sM (t : Int) : Mdl := ⟨sSc, [[⟨2, [t]⟩]], 0⟩
theorem sM_n (t : Int) : (sM t).n = 3 := rfl
theorem ok2 {t : Int} (h : 0 ≤ t ∧ t < 9) : Rl.Ok 3 ⟨2, [t]⟩ := ⟨by show (1 : Int) ≤ 2 ∧ (2 : Int) ≤ 3; decide, by simp [Up], fun x hx => by
 obtain rfl := List.mem_singleton.1 hx
 exact h⟩
theorem sM_ok {t : Int} (h : 0 ≤ t ∧ t < 9) : MOk sS (sM t) := by
 refine ⟨by show (0 : Int) < 3; decide, by show (3 : Int) ≤ 12; decide, by show ∀ k ∈ ([2, 1] : List Int), 1 ≤ k; decide, rfl, ?_, ?_, by show 0 < 1; decide, by show (0 : Int) ≤ 0 ∧ (0 : Int) < 1; decide⟩
 · intro f hf
   obtain rfl := List.mem_singleton.1 hf
   exact ⟨by decide, by show ∀ x ∈ [0, 1], _; decide⟩
 · intro st hst
   obtain rfl := List.mem_singleton.1 hst
   refine ⟨rfl, fun f hf _ => ?_⟩
   match f, hf with
   | 0, _ => exact ⟨ok2 h, rfl⟩
theorem sm_small (t : Int) : small (sM t).scope.atoms := ⟨by show 2 ≤ 4; decide, by show ∀ k ∈ ([2, 1] : List Int), 0 ≤ k ∧ k ≤ 5; decide⟩
theorem cl_one {S : Int → Prop} (a : Int) (ha : 0 ≤ a ∧ a < 2000) (h : ∀ x, S x ↔ x = a) : cl S = [a] :=
 (cl_eq (l := [a]) (by simp [Up]) fun x => by
  rw [List.mem_singleton, h]
  exact ⟨fun e => ⟨by omega, e⟩, fun e => e.2⟩).symm
theorem nvF (t : Int) : nameVal sS (sM t) 0 [] nmF = ⟨2, [t]⟩ := by kernel_rfl
theorem nvB (t : Int) : nameVal sS (sM t) 0 [] nmB = sortRel sSc 1 := by kernel_rfl
theorem sortB : sortRel sSc 1 = ⟨1, [2]⟩ := by
 rw [sortRel, cl_one 2 (by decide)]
 intro x
 rw [show firstOf sSc 1 = 2 from rfl, show atomsOf sSc 1 = 1 from rfl]
 omega
theorem joinFB (t : Int) (ht : t = 2 ∨ t = 5) : rJoin 3 ⟨2, [t]⟩ ⟨1, [2]⟩ = ⟨1, [t / 3]⟩ := by
 rw [rJoin, cl_one (t / 3) (by omega)]
 · rfl
 · intro x
   have h1 : pw 3 (1 - 1) = 1 := rfl
   simp only [List.mem_singleton, exists_eq_left, h1]
   omega
theorem snames : ∀ x ∈ sS.sorts, x.name.size ≤ 1048576 := fun x hx => by
 rcases List.mem_cons.1 hx with rfl | hx
 · exact (show 1 ≤ 1048576 by omega)
 · obtain rfl := List.mem_singleton.1 hx
   exact (show 1 ≤ 1048576 by omega)
theorem exJ (t : Int) (ht : t = 2 ∨ t = 5) : CX sS (sM t) nJ 0 [] ⟨1, [t / 3]⟩ := by
 have hr : 0 ≤ t ∧ t < 9 := by omega
 have hm := sM_ok hr
 have hn : ∀ (nm : ByteArray) (a : Int), sS.found nm = [a] → AFun Tryz.prog 73 [mch sS (sM t), plc 0 [], eS nm] (.p (nameVal sS (sM t) 0 [] nm).av) := fun nm a hf =>
  namedP hm (sm_small t) (by decide) snames nm 0 [] a (by decide) (by show (0 : Int) < 1; decide) (by simp) (by simp) hf
 have hF := hn nmF 2 (by kernel_rfl)
 have hB := hn nmB 1 (by kernel_rfl)
 rw [nvF] at hF
 rw [nvB, sortB] at hB
 have h := ex_9 (s := sS) (m := sM t) (n := nJ) rfl (joinM (show (0 : Int) < 3 by decide) (show (3 : Int) ≤ 12 by decide) (joinP (show (0 : Int) < 3 by decide) (show (3 : Int) ≤ 12 by decide)) rfl (ex_1 (n := nF) rfl hF) (ex_1 (n := nB) rfl hB) (ok2 hr) ⟨by decide, by simp [Up], fun x hx => by
  obtain rfl := List.mem_singleton.1 hx
  show (0 : Int) ≤ 2 ∧ 2 < 3 ^ 1
  decide⟩ (show (1 : Int) ≤ 2 + 1 - 2 by decide) (show (2 : Int) + 1 - 2 ≤ 3 by decide))
 rw [sM_n, joinFB t ht] at h
 exact h
abbrev swp : List Int := [1, 0, 2]
theorem swp_prm : Prm (3 : Nat) (lmap swp) := by
 have h : ∀ x : Int, 0 ≤ x → x < 3 → x = 0 ∨ x = 1 ∨ x = 2 := by omega
 refine ⟨by decide, fun x h0 h1 => ?_, fun x y h0 h1 h2 h3 e => ?_, fun y h0 h1 => ?_⟩
 · rcases h x h0 h1 with rfl | rfl | rfl <;> decide
 · rcases h x h0 h1 with rfl | rfl | rfl <;> rcases h y h2 h3 with rfl | rfl | rfl <;> first | rfl | exact absurd e (by decide)
 · rcases h y h0 h1 with rfl | rfl | rfl
   · exact ⟨1, by decide, rfl⟩
   · exact ⟨0, by decide, rfl⟩
   · exact ⟨2, by decide, rfl⟩
theorem img_sM : imgM (lmap swp) (sM 2) = sM 5 := by
 have h : imgR (sM 2).n (lmap swp) ⟨2, [2]⟩ = ⟨2, [5]⟩ := by
  rw [imgR, cl_one 5 (by decide)]
  intro x
  have h1 : pm (sM 2).n (lmap swp) (2 : Int).toNat 2 = 5 := by decide
  simp only [List.mem_singleton, exists_eq_left, h1]
 show (⟨sSc, [[imgR (sM 2).n (lmap swp) ⟨2, [2]⟩]], 0⟩ : Mdl) = _
 rw [h]; rfl
theorem head11P : AFun Tryz.prog 5 [] (.p (eB true)) := by
 refine AFun.of hT Tryz.func5 rfl rfl (by simp) (AD.run hT hmix ?_)
 refine .pure [] _ rfl smallP ?_
 refine .pure [eS nmF] _ rfl useF ?_
 refine .pure [eS nmB] _ rfl useB ?_
 refine .pure [sS.ex, .slice 2 [], nJ.ex] _ rfl typeP ?_
 have hE := exJ 2 (.inl rfl)
 have hE' := exJ 5 (.inr rfl)
 have hM := modelP (sM_ok (t := 2) (by decide)) (by decide) (by decide) (p := swp) (N := 3) rfl rfl swp_prm (by decide)
 rw [img_sM] at hM
 refine .pure [sS.ex, (sM 2).av, eI 0, .slice 2 [], nJ.ex] _ rfl (exprP (sm_small 2) hE) ?_
 refine .pure [ints swp, (sM 2).av] _ rfl hM ?_
 refine .pure [sS.ex, (sM 5).av, eI 0, .slice 2 [], nJ.ex] _ rfl (exprP (sm_small 5) hE') ?_
 refine ⟨by kernel_rfl, ?_⟩
 intro _
 refine .pure [Rl.av ⟨1, [0]⟩, Rl.av ⟨1, [0]⟩] _ rfl (equalR ⟨1, [0]⟩ ⟨1, [0]⟩) ?_
 refine .pure [Rl.av ⟨1, [1]⟩, Rl.av ⟨1, [1]⟩] _ rfl (equalR ⟨1, [1]⟩ ⟨1, [1]⟩) ?_
 exact .pure [sSc.av, eI 2] _ rfl sortOfP ⟨_, _, rfl, rfl, rfl⟩
abbrev Rd (t : TypeId) (Q : List AV → Prop) : Prop := ∀ n cs, typedC Tryz.prog n t cs → Q cs
def fldAt (P : Program) (t i : Nat) : Option (Nat × Nat × Nat) := match P.underlying t with
 | some (.struct fs) => (fs.toList[i]?).map fun f => (f.type, f.offset, P.cellsOf f.type)
 | _ => none
theorem rdFld {n : Nat} {t : TypeId} {cs : List AV} (h : typedC Tryz.prog n t cs) (i : Nat) {T o k : Nat} (hf : fldAt Tryz.prog t i = some (T, o, k)) : ∃ m, m < n ∧ typedC Tryz.prog m T ((cs.drop o).take k) := by
 unfold fldAt at hf
 split at hf
 · rename_i fs hu
   cases n with
   | zero => exact h.elim
   | succ m =>
    simp only [typedC, hu] at h
    cases hi : fs.toList[i]? with
    | none => rw [hi] at hf; cases hf
    | some f =>
     rw [hi] at hf
     cases hf
     exact ⟨m, by omega, h.2 f (List.mem_of_getElem? hi)⟩
 · cases hf
def isStruct (P : Program) (t : Nat) : Bool := match P.underlying t with | some (.struct _) => true | _ => false
theorem rdLen {n : Nat} {t : TypeId} {cs : List AV} (h : typedC Tryz.prog n t cs) {k : Nat} (hs : (isStruct Tryz.prog t && Nat.beq (Tryz.prog.cellsOf t) k) = true) : cs.length = k := by
 rw [Bool.and_eq_true] at hs
 have hk := Nat.eq_of_beq_eq_true hs.2
 have h1 := hs.1
 unfold isStruct at h1
 split at h1
 · rename_i fs hu
   cases n with
   | zero => exact h.elim
   | succ m => simp only [typedC, hu] at h; rw [← hk]; exact h.1
 · cases h1
theorem rdK {k : IntKind} {t : TypeId} (hu : Tryz.prog.underlying t = some (.int k)) : Rd t fun cs => ∃ m, cs = [.imm (.int k m)] ∧ k.min ≤ m ∧ m ≤ k.max := fun n cs h => by
 cases n with
 | zero => exact h.elim
 | succ m =>
  simp only [typedC, hu] at h
  obtain ⟨m, rfl, hw⟩ := h
  exact ⟨m, rfl, by simpa [Lit.wf] using hw⟩
theorem rdI : Rd 3 fun cs => ∃ m, cs = [eI m] := fun n cs h => let ⟨m, e, _⟩ := rdK Tryz.underlying3 n cs h; ⟨m, e⟩
theorem rdS : Rd 9 fun cs => ∃ s, cs = [eS s] := fun n cs h => by
 cases n with
 | zero => exact h.elim
 | succ m =>
  simp only [typedC, Tryz.underlying9] at h
  obtain ⟨s, rfl, _⟩ := h
  exact ⟨s, rfl⟩
theorem rdB : Rd 4 fun cs => ∃ b, cs = [eB b] := fun n cs h => by
 cases n with
 | zero => exact h.elim
 | succ m =>
  simp only [typedC, Tryz.underlying4] at h
  exact h
theorem ex_map {α : Type} {g : α → AV} : ∀ {es : List AV}, (∀ x ∈ es, ∃ k, x = g k) → ∃ l : List α, es = l.map g
 | [], _ => ⟨[], rfl⟩
 | x :: r, h => by
  obtain ⟨k, rfl⟩ := h x (List.mem_cons_self ..)
  obtain ⟨l, rfl⟩ := ex_map (g := g) (es := r) fun y hy => h y (List.mem_cons_of_mem _ hy)
  exact ⟨k :: l, rfl⟩
theorem rdSl {n : Nat} {t e : TypeId} {cs : List AV} (hu : Tryz.prog.underlying t = some (.slice e)) (h : typedC Tryz.prog n t cs) : ∃ m es, m < n ∧ cs = [.slice (Tryz.prog.cellsOf e) es] ∧ ∀ x ∈ es, ((rowT Tryz.prog e = true → ∃ ys, x = .agg ys) ∧ (rowT Tryz.prog e = false → x.cells = [x])) ∧ typedC Tryz.prog m e x.cells := by
 cases n with
 | zero => exact h.elim
 | succ m =>
  simp only [typedC, hu] at h
  obtain ⟨es, rfl, _, h3⟩ := h
  exact ⟨m, es, by omega, rfl, fun x hx => (h3 x hx).2⟩
theorem rdRows {α : Type} {g : α → AV} {t e : TypeId} {k : Nat} (hu : Tryz.prog.underlying t = some (.slice e)) (hr : (rowT Tryz.prog e && Nat.beq (Tryz.prog.cellsOf e) k) = true) (he : Rd e fun cs => ∃ a, AV.agg cs = g a) : Rd t fun cs => ∃ l : List α, cs = [.slice k (l.map g)] := fun n cs h => by
 rw [Bool.and_eq_true] at hr
 obtain ⟨m, es, _, rfl, hx⟩ := rdSl hu h
 obtain ⟨l, rfl⟩ := ex_map (g := g) (es := es) fun x hxm => by
  obtain ⟨⟨h1, _⟩, h2⟩ := hx x hxm
  obtain ⟨ys, rfl⟩ := h1 hr.1
  exact he _ _ h2
 exact ⟨l, by rw [Nat.eq_of_beq_eq_true hr.2]⟩
theorem rdOnes {α : Type} {g : α → AV} {t e : TypeId} (hu : Tryz.prog.underlying t = some (.slice e)) (hr : (!rowT Tryz.prog e && Nat.beq (Tryz.prog.cellsOf e) 1) = true) (he : Rd e fun cs => ∃ a, cs = [g a]) : Rd t fun cs => ∃ l : List α, cs = [.slice 1 (l.map g)] := fun n cs h => by
 rw [Bool.and_eq_true] at hr
 obtain ⟨m, es, _, rfl, hx⟩ := rdSl hu h
 have hnr : rowT Tryz.prog e = false := by have := hr.1; simpa using this
 obtain ⟨l, rfl⟩ := ex_map (g := g) (es := es) fun x hxm => by
  obtain ⟨⟨_, h1⟩, h2⟩ := hx x hxm
  obtain ⟨a, ha⟩ := he _ _ h2
  exact ⟨a, (List.cons.inj ((h1 hnr).symm.trans ha)).1⟩
 exact ⟨l, by rw [Nat.eq_of_beq_eq_true hr.2]⟩
theorem rdInts : Rd 28 fun cs => ∃ l : List Int, cs = [ints l] := rdOnes (g := eI) Tryz.underlying28 (by kernel_rfl) rdI
theorem rdNd : ∀ n cs, typedC Tryz.prog n 35 cs → ∃ k : Nd, cs = k.ecs := by
 intro n
 induction n using Nat.strongRecOn with
 | ind n ih =>
  intro cs h
  obtain ⟨c0, c1, c2, c3, c4, rfl⟩ : ∃ c0 c1 c2 c3 c4, cs = [c0, c1, c2, c3, c4] := by
   have := rdLen h (k := 5) (by kernel_rfl)
   match cs, this with
   | [c0, c1, c2, c3, c4], _ => exact ⟨_, _, _, _, _, rfl⟩
  obtain ⟨_, _, h0⟩ := rdFld h 0 (T := 3) (o := 0) (k := 1) (by kernel_rfl)
  obtain ⟨_, _, h1⟩ := rdFld h 1 (T := 9) (o := 1) (k := 1) (by kernel_rfl)
  obtain ⟨_, _, h2⟩ := rdFld h 2 (T := 3) (o := 2) (k := 1) (by kernel_rfl)
  obtain ⟨m, hm, h3⟩ := rdFld h 3 (T := 33) (o := 3) (k := 1) (by kernel_rfl)
  obtain ⟨_, _, h4⟩ := rdFld h 4 (T := 3) (o := 4) (k := 1) (by kernel_rfl)
  obtain ⟨x0, e0⟩ := rdI _ _ h0
  obtain ⟨x1, e1⟩ := rdS _ _ h1
  obtain ⟨x2, e2⟩ := rdI _ _ h2
  obtain ⟨x4, e4⟩ := rdI _ _ h4
  obtain ⟨m2, es, hm2, e3, hx⟩ := rdSl Tryz.underlying33 h3
  have hc : Tryz.prog.cellsOf 35 = 5 := by kernel_rfl
  rw [hc] at e3
  obtain ⟨l, rfl⟩ := ex_map (g := Nd.av) (es := es) fun x hxm => by
   obtain ⟨⟨q1, _⟩, q2⟩ := hx x hxm
   obtain ⟨ys, rfl⟩ := q1 (by kernel_rfl)
   obtain ⟨k, hk⟩ := ih m2 (by omega) _ q2
   refine ⟨k, ?_⟩
   rw [Nd.av_ex]
   exact congrArg AV.agg hk
  cases e0; cases e1; cases e2; cases e3; cases e4
  exact ⟨.mk x0 x1 x2 l x4, rfl⟩
theorem rdSrt : Rd 78 fun cs => ∃ s : Srt, .agg cs = s.av := fun n cs h => by
 obtain ⟨c0, c1, rfl⟩ : ∃ c0 c1, cs = [c0, c1] := by
  have := rdLen h (k := 2) (by kernel_rfl)
  match cs, this with
  | [c0, c1], _ => exact ⟨_, _, rfl⟩
 obtain ⟨_, _, h0⟩ := rdFld h 0 (T := 9) (o := 0) (k := 1) (by kernel_rfl)
 obtain ⟨_, _, h1⟩ := rdFld h 1 (T := 4) (o := 1) (k := 1) (by kernel_rfl)
 obtain ⟨x0, e0⟩ := rdS _ _ h0
 obtain ⟨x1, e1⟩ := rdB _ _ h1
 cases e0; cases e1
 exact ⟨⟨x0, x1⟩, rfl⟩
theorem rdFl : Rd 119 fun cs => ∃ s : Fld, .agg cs = s.av := fun n cs h => by
 obtain ⟨c0, c1, c2, rfl⟩ : ∃ c0 c1 c2, cs = [c0, c1, c2] := by
  have := rdLen h (k := 3) (by kernel_rfl)
  match cs, this with
  | [c0, c1, c2], _ => exact ⟨_, _, _, rfl⟩
 obtain ⟨_, _, h0⟩ := rdFld h 0 (T := 9) (o := 0) (k := 1) (by kernel_rfl)
 obtain ⟨_, _, h1⟩ := rdFld h 1 (T := 28) (o := 1) (k := 1) (by kernel_rfl)
 obtain ⟨_, _, h2⟩ := rdFld h 2 (T := 4) (o := 2) (k := 1) (by kernel_rfl)
 obtain ⟨x0, e0⟩ := rdS _ _ h0
 obtain ⟨x1, e1⟩ := rdInts _ _ h1
 obtain ⟨x2, e2⟩ := rdB _ _ h2
 cases e0; cases e1; cases e2
 exact ⟨⟨x0, x1, x2⟩, rfl⟩
theorem rdPar : Rd 169 fun cs => ∃ s : Param, .agg cs = s.av := fun n cs h => by
 obtain ⟨c0, c1, rfl⟩ : ∃ c0 c1, cs = [c0, c1] := by
  have := rdLen h (k := 2) (by kernel_rfl)
  match cs, this with
  | [c0, c1], _ => exact ⟨_, _, rfl⟩
 obtain ⟨_, _, h0⟩ := rdFld h 0 (T := 9) (o := 0) (k := 1) (by kernel_rfl)
 obtain ⟨_, _, h1⟩ := rdFld h 1 (T := 3) (o := 1) (k := 1) (by kernel_rfl)
 obtain ⟨x0, e0⟩ := rdS _ _ h0
 obtain ⟨x1, e1⟩ := rdI _ _ h1
 cases e0; cases e1
 exact ⟨⟨x0, x1⟩, rfl⟩
theorem rdPrd : Rd 160 fun cs => ∃ p : Prd, .agg cs = p.ex := fun n cs h => by
 obtain ⟨c0, c1, c2, c3, c4, c5, c6, rfl⟩ : ∃ c0 c1 c2 c3 c4 c5 c6, cs = [c0, c1, c2, c3, c4, c5, c6] := by
  have := rdLen h (k := 7) (by kernel_rfl)
  match cs, this with
  | [c0, c1, c2, c3, c4, c5, c6], _ => exact ⟨_, _, _, _, _, _, _, rfl⟩
 obtain ⟨_, _, h0⟩ := rdFld h 0 (T := 9) (o := 0) (k := 1) (by kernel_rfl)
 obtain ⟨_, _, h1⟩ := rdFld h 1 (T := 98) (o := 1) (k := 1) (by kernel_rfl)
 obtain ⟨_, _, h2⟩ := rdFld h 2 (T := 35) (o := 2) (k := 5) (by kernel_rfl)
 obtain ⟨x0, e0⟩ := rdS _ _ h0
 obtain ⟨x1, e1⟩ := rdRows (g := Param.av) Tryz.underlying98 (k := 2) (by kernel_rfl) rdPar _ _ h1
 obtain ⟨x2, e2⟩ := rdNd _ _ h2
 cases e0; cases e1
 exact ⟨⟨x0, x1, x2⟩, congrArg (fun l => AV.agg (eS x0 :: .slice 2 (x1.map Param.av) :: l)) e2⟩
theorem rdFct : Rd 176 fun cs => ∃ p : Fct, .agg cs = p.ex := fun n cs h => by
 obtain ⟨c0, c2, c3, c4, c5, c6, rfl⟩ : ∃ c0 c2 c3 c4 c5 c6, cs = [c0, c2, c3, c4, c5, c6] := by
  have := rdLen h (k := 6) (by kernel_rfl)
  match cs, this with
  | [c0, c2, c3, c4, c5, c6], _ => exact ⟨_, _, _, _, _, _, rfl⟩
 obtain ⟨_, _, h0⟩ := rdFld h 0 (T := 9) (o := 0) (k := 1) (by kernel_rfl)
 obtain ⟨_, _, h2⟩ := rdFld h 1 (T := 35) (o := 1) (k := 5) (by kernel_rfl)
 obtain ⟨x0, e0⟩ := rdS _ _ h0
 obtain ⟨x2, e2⟩ := rdNd _ _ h2
 cases e0
 exact ⟨⟨x0, x2⟩, congrArg (fun l => AV.agg (eS x0 :: l)) e2⟩
theorem rdSpc : Rd 27 fun cs => ∃ s : Spc, cs = s.cx := fun n cs h => by
 obtain ⟨c0, c1, c2, c3, rfl⟩ : ∃ c0 c1 c2 c3, cs = [c0, c1, c2, c3] := by
  have := rdLen h (k := 4) (by kernel_rfl)
  match cs, this with
  | [c0, c1, c2, c3], _ => exact ⟨_, _, _, _, rfl⟩
 obtain ⟨_, _, h0⟩ := rdFld h 0 (T := 22) (o := 0) (k := 1) (by kernel_rfl)
 obtain ⟨_, _, h1⟩ := rdFld h 1 (T := 23) (o := 1) (k := 1) (by kernel_rfl)
 obtain ⟨_, _, h2⟩ := rdFld h 2 (T := 24) (o := 2) (k := 1) (by kernel_rfl)
 obtain ⟨_, _, h3⟩ := rdFld h 3 (T := 25) (o := 3) (k := 1) (by kernel_rfl)
 obtain ⟨x0, e0⟩ := rdRows (g := Srt.av) Tryz.underlying22 (k := 2) (by kernel_rfl) rdSrt _ _ h0
 obtain ⟨x1, e1⟩ := rdRows (g := Fld.av) Tryz.underlying23 (k := 3) (by kernel_rfl) rdFl _ _ h1
 obtain ⟨x2, e2⟩ := rdRows (g := Prd.ex) Tryz.underlying24 (k := 7) (by kernel_rfl) rdPrd _ _ h2
 obtain ⟨x3, e3⟩ := rdRows (g := Fct.ex) Tryz.underlying25 (k := 6) (by kernel_rfl) rdFct _ _ h3
 cases e0; cases e1; cases e2; cases e3
 exact ⟨⟨x0, x1, x2, x3⟩, rfl⟩
theorem rdSc : Rd 30 fun cs => ∃ s : Scope, cs = s.cs := fun n cs h => by
 obtain ⟨c0, c1, rfl⟩ : ∃ c0 c1, cs = [c0, c1] := by
  have := rdLen h (k := 2) (by kernel_rfl)
  match cs, this with
  | [c0, c1], _ => exact ⟨_, _, rfl⟩
 obtain ⟨_, _, h0⟩ := rdFld h 0 (T := 28) (o := 0) (k := 1) (by kernel_rfl)
 obtain ⟨_, _, h1⟩ := rdFld h 1 (T := 3) (o := 1) (k := 1) (by kernel_rfl)
 obtain ⟨x0, e0⟩ := rdInts _ _ h0
 obtain ⟨x1, e1⟩ := rdI _ _ h1
 cases e0; cases e1
 exact ⟨⟨x0, x1⟩, rfl⟩
theorem rdRaw : Rd 32 fun cs => ∃ r, cs = [rawav r] := fun n cs h =>
 rdOnes (g := fun l : List Int => AV.slice 1 (l.map eU8)) Tryz.underlying32 (by kernel_rfl) (rdOnes (g := eU8) Tryz.underlying184 (by kernel_rfl) fun n cs h => let ⟨m, e, _⟩ := rdK Tryz.underlying5 n cs h; ⟨m, e⟩) n cs h
theorem rdPick : Rd 36 fun cs => ∃ r, cs = [pick2 r] := fun n cs h =>
 rdOnes (g := fun l : List Bool => AV.slice 1 (l.map eB)) Tryz.underlying36 (by kernel_rfl) (rdOnes (g := eB) Tryz.underlying129 (by kernel_rfl) rdB) n cs h
theorem rdCse : Rd 38 fun cs => ∃ x : Cse, cs = x.cs ∧ 0 ≤ x.loop ∧ x.loop < 256 := fun n cs h => by
  have hl := rdLen h (k := 14) (by kernel_rfl)
  obtain ⟨c0, c1, c2, c3, c4, c5, c6, c7, c8, c9, c10, c11, c12, c13, rfl⟩ : ∃ c0 c1 c2 c3 c4 c5 c6 c7 c8 c9 c10 c11 c12 c13, cs = [c0, c1, c2, c3, c4, c5, c6, c7, c8, c9, c10, c11, c12, c13] := by
    match cs, hl with
    | [c0, c1, c2, c3, c4, c5, c6, c7, c8, c9, c10, c11, c12, c13], _ => exact ⟨_, _, _, _, _, _, _, _, _, _, _, _, _, _, rfl⟩
  obtain ⟨_, _, h0⟩ := rdFld h 0 (T := 27) (o := 0) (k := 4) (by kernel_rfl)
  obtain ⟨_, _, h1⟩ := rdFld h 1 (T := 30) (o := 4) (k := 2) (by kernel_rfl)
  obtain ⟨_, _, h2⟩ := rdFld h 2 (T := 32) (o := 6) (k := 1) (by kernel_rfl)
  obtain ⟨_, _, h3⟩ := rdFld h 3 (T := 35) (o := 7) (k := 5) (by kernel_rfl)
  obtain ⟨_, _, h4⟩ := rdFld h 4 (T := 36) (o := 12) (k := 1) (by kernel_rfl)
  obtain ⟨_, _, h5⟩ := rdFld h 5 (T := 5) (o := 13) (k := 1) (by kernel_rfl)
  obtain ⟨s, e0⟩ := rdSpc _ _ h0
  obtain ⟨sc, e1⟩ := rdSc _ _ h1
  obtain ⟨r, e2⟩ := rdRaw _ _ h2
  obtain ⟨k, e3⟩ := rdNd _ _ h3
  obtain ⟨p, e4⟩ := rdPick _ _ h4
  obtain ⟨u, e5, u0, u1⟩ := rdK Tryz.underlying5 _ _ h5
  cases e0; cases e1; cases e2; cases e3; cases e4; cases e5
  exact ⟨⟨s, sc, r, k, p, u⟩, rfl, u0, by have e : IntKind.u8.max = 255 := by decide
                                          rw [e] at u1; show u < 256; omega⟩
mutual
theorem sz_bulk : ∀ n : Nd, n.sz + 1 ≤ avBs n.cs
 | .mk op nm m kids a => by
  have h := szs_bulk kids
  simp only [Nd.sz, Nd.cs, avBs, avB]
  omega
theorem szs_bulk : ∀ l : List Nd, Nd.szs l ≤ avBs (Nd.avs l)
 | [] => by rw [Nd.szs]; omega
 | x :: r => by
  have h1 := sz_bulk x
  have h2 := szs_bulk r
  simp only [Nd.szs, Nd.avs, avBs, avB]
  omega
end
theorem few_of {s : Spc} (h : avBs s.cx ≤ 1048576) : s.Few := by
 have e : s.cx = [.slice 2 (s.sorts.map Srt.av), .slice 3 (s.fields.map Fld.av), .slice 7 (s.preds.map Prd.ex), .slice 6 (s.facts.map Fct.ex)] := rfl
 rw [e] at h
 simp only [avBs, avB] at h
 refine ⟨fun x hx => ?_, fun p hp => ?_, fun p hp => ?_⟩
 · have h1 := avBs_mem (List.mem_map.2 ⟨x, hx, rfl⟩ : Srt.av x ∈ s.sorts.map Srt.av)
   simp only [Srt.av, avB, avBs] at h1
   omega
 · have h1 := avBs_mem (List.mem_map.2 ⟨p, hp, rfl⟩ : Prd.ex p ∈ s.preds.map Prd.ex)
   have h2 := sz_bulk p.body
   rw [← Prd.av_ex] at h1
   simp only [Prd.av, avB, avBs] at h1
   rw [← Prd.av_ex] at h
   omega
 · have h1 := avBs_mem (List.mem_map.2 ⟨p, hp, rfl⟩ : Fct.ex p ∈ s.facts.map Fct.ex)
   have h2 := sz_bulk p.body
   rw [← Fct.av_ex] at h1
   simp only [Fct.av, avB, avBs] at h1
   rw [← Fct.av_ex] at h
   omega
end Go.Ab
