/- Texts AbG, AbP, Tab, AbO, Dat, W1, W2, W5, W6, W7, W8, W9, WA, AbQ, AbS. Conditions: none. -/
import Derived.Test.YtmllhjbnbhapoaaGreatGD
import Derived.Test.YtmllhjbnbhapoaaGreatProg
import Derived.KernelRfl
import Derived.ProofKit
import Derived.Deep.Slices
import Derived.Deep.Fields
import Derived.OpenShut
import Derived.RangeFuncNested
set_option linter.unusedSimpArgs false
set_option linter.unusedVariables false
namespace Go.Ab
open Go Go.RowKit
structure CtxOk(N:Nat)(O:Hp)(Γ:Ctx):Prop where
 n:Γ.ntmps=N
 o:Γ.os0=O
structure CtxR(N:Nat)(O:Hp)(ro:Bool)(Γ:Ctx):Prop extends CtxOk N O Γ where
 r:ro=false→Γ.rd=none
def Live(N:Nat)(O:Hp)(ro:Bool)(env:Env)(h:AHp):Prop:=∃ Γ g a w,CtxR N O ro Γ∧SR Γ g (lk env) (hp h) a w
def Goes(P:Program)(N:Nat)(O:Hp)(ro:Bool)(c:Code)(env:Env)(h:AHp)(ae:AExit)(env':Env)(h':AHp):Prop:=
 ∀ Γ,CtxR N O ro Γ→∀ K:Kc,K ae env' h'→AW P Γ c K env h
def SubAll(N:Nat)(O:Hp)(env:Env)(h:AHp)(env':Env)(h':AHp):Prop:=∀ Γ,CtxOk N O Γ→Sub Γ env h env' h'
structure AD(P:Program)(N:Nat)(O:Hp)(ro:Bool)(c:Code)(Q:Kc)(env:Env)(h:AHp):Prop where
 out:Live N O ro env h→∃ ae env' h',Q ae env' h'∧Live N O ro env' h'∧Goes P N O ro c env h ae env' h'
theorem Live.sub{N O ro env h env' h'}(hl:Live N O ro env h)(hs:SubAll N O env h env' h'):Live N O ro env' h':=by
 obtain⟨Γ,g,a,w,hc,hr⟩:=hl
 obtain⟨g',hr'⟩:=hs Γ hc.toCtxOk g a w hr
 exact⟨Γ,g',a,w,hc,hr'⟩
section
variable {P:Program} {T:Tab} {N:Nat} {O:Hp} {ro:Bool} {Q:Kc} {env:Env} {h:AHp}
theorem AD.region(hT:TabOk P T){id:Nat}{ops:Array Oper}(hh:aops P T N ops.toList ops.toList env h [] fun env' h' _=>Q .normal env' h'):AD P N O ro (.region id ops false) Q env h:=by
 refine⟨fun ⟨Γ,g,a,w,hc,hr⟩=>?_⟩
 obtain⟨steps,env',h',ht,hq,g',a',w',hr'⟩:=aops_tr hT hc.n _ _ _ _ _ hh g a w hr
 exact⟨.normal,env',h',hq,⟨Γ,g',a',w',hc,hr'⟩,fun Γ hc K hk=>AW.region hc.n ht hk⟩
theorem AD.drawn(hT:TabOk P T)(hm:P.follows .mixedOrders=true){id:Nat}{ops:Array Oper}(hh:aops P T N ops.toList ops.toList env h [] fun env' h' fps=>okOrder ops.toList fps.reverse=true∧Q .normal env' h'):AD P N O ro (.region id ops true) Q env h:=by
 refine⟨fun ⟨Γ,g,a,w,hc,hr⟩=>?_⟩
 obtain⟨steps,env',h',ht,⟨hok,hq⟩,g',a',w',hr'⟩:=aops_tr hT hc.n _ _ _ _ _ hh g a w hr
 rw[List.append_nil,List.reverse_reverse] at hok
 exact⟨.normal,env',h',hq,⟨Γ,g',a',w',hc,hr'⟩,fun Γ hc K hk=>AW.drawn hm hc.n ht hok hk⟩
theorem AD.skip(hh:Q .normal env h):AD P N O ro .skip Q env h:=⟨fun hl=>⟨.normal,env,h,hh,hl,fun Γ _ K hk=>AW.skip hk⟩⟩
theorem AD.exit{id:Nat}(hh:Q (.exit id) env h):AD P N O ro (.exit id) Q env h:=⟨fun hl=>⟨.exit id,env,h,hh,hl,fun Γ _ K hk=>AW.exit hk⟩⟩
theorem AD.ret(hh:Q .ret env h):AD P N O ro .ret Q env h:=⟨fun hl=>⟨.ret,env,h,hh,hl,fun Γ _ K hk=>AW.ret hk⟩⟩
theorem AD.seq{x y:Code}(hh:AD P N O ro x (AExit.thn (AD P N O ro y Q) Q) env h):AD P N O ro (.seq x y) Q env h:=by
 refine⟨fun hl=>?_⟩
 obtain⟨ae,env',h',hq,hl',hg⟩:=hh.out hl
 cases ae with
 | normal=>
  obtain⟨ae2,env2,h2,hq2,hl2,hg2⟩:=AD.out hq hl'
  exact⟨ae2,env2,h2,hq2,hl2,fun Γ hc K hk=>AW.seq (hg Γ hc _ (hg2 Γ hc K hk))⟩
 | exit i=>exact⟨_,env',h',hq,hl',fun Γ hc K hk=>AW.seq (hg Γ hc _ hk)⟩
 | ret=>exact⟨_,env',h',hq,hl',fun Γ hc K hk=>AW.seq (hg Γ hc _ hk)⟩
theorem AD.cond{c:Operand}{x y:Code}{b:Bool}(hc:opv T env 0 c=ebool b)(hh:bgo b (AD P N O ro x Q env h) (AD P N O ro y Q env h)):AD P N O ro (.cond c x y) Q env h:=by
 refine⟨fun hl=>?_⟩
 rcases bgo_out hh with ⟨rfl,hh⟩ | ⟨rfl,hh⟩ <;> obtain⟨ae,env',h',hq,hl',hg⟩:=hh.out hl
 ·exact⟨ae,env',h',hq,hl',fun Γ hΓ K hk=>AW.cond hc (hg Γ hΓ K hk)⟩
 ·exact⟨ae,env',h',hq,hl',fun Γ hΓ K hk=>AW.cond hc (hg Γ hΓ K hk)⟩
theorem AD.block{id:Nat}{c:Code}(hh:AD P N O ro c (AExit.inBlock id Q) env h):AD P N O ro (.block id c) Q env h:=by
 refine⟨fun hl=>?_⟩
 obtain⟨ae,env',h',hq,hl',hg⟩:=hh.out hl
 by_cases he:ae=.exit id
 ·subst he
  simp only[AExit.inBlock,if_true] at hq
  exact⟨.normal,env',h',hq,hl',fun Γ hc K hk=>AW.block (hg Γ hc _ (by simpa only[AExit.inBlock,if_true] using hk))⟩
 ·have e:∀ K:Kc,AExit.inBlock id K ae env' h'=K ae env' h':=fun K=>by
   cases ae with
   | exit j=>simp only[AExit.inBlock];rw[if_neg fun hj=>he (by rw[hj])]
   | normal=>rfl
   | ret=>rfl
  rw[e] at hq
  exact⟨ae,env',h',hq,hl',fun Γ hc K hk=>AW.block (hg Γ hc _ (by rw[e];exact hk))⟩
theorem AD.sub{c:Code}{env':Env}{h':AHp}(hs:SubAll N O env h env' h')(hh:AD P N O ro c Q env' h'):AD P N O ro c Q env h:=by
 refine⟨fun hl=>?_⟩
 obtain⟨ae,env2,h2,hq,hl',hg⟩:=hh.out (hl.sub hs)
 exact⟨ae,env2,h2,hq,hl',fun Γ hc K hk=>(hg Γ hc K hk).sub (hs Γ hc.toCtxOk)⟩
theorem AD.mono{c:Code}{Q':Kc}(hk:∀ e env h,Q e env h→Q' e env h)(hh:AD P N O ro c Q env h):AD P N O ro c Q' env h:=
 ⟨fun hl=>let ⟨ae,env',h',hq,hl',hg⟩:=hh.out hl;⟨ae,env',h',hk _ _ _ hq,hl',hg⟩⟩
inductive Rounds(P:Program)(N:Nat)(O:Hp)(ro:Bool)(c:Code)(ae:AExit)(env':Env)(h':AHp):Nat→Env→AHp→Prop
 | last {a b} (hg:Goes P N O ro c a b ae env' h'):Rounds P N O ro c ae env' h' 0 a b
 | more {n a b env1 h1 env2 h2} (hg:Goes P N O ro c a b .normal env1 h1) (hs:SubAll N O env1 h1 env2 h2) (hr:Rounds P N O ro c ae env' h' n env2 h2):Rounds P N O ro c ae env' h' (n+1) a b
theorem Rounds.goes{c:Code}{ae:AExit}{env':Env}{h':AHp}{n:Nat}(hn:ae≠.normal)(hr:Rounds P N O ro c ae env' h' n env h):Goes P N O ro (.loop c) env h ae env' h':=by
 intro Γ hc K hk
 refine AW.loop (fun n env h=>Rounds P N O ro c ae env' h' n env h) ⟨n,env,h,fun g a w hs=>⟨g,hs⟩,hr⟩ fun n env h hr=>?_
 cases hr with
 | last hg=>exact hg Γ hc _ (by cases ae <;> first | exact hk | exact absurd rfl hn)
 | more hg hs hr=>exact hg Γ hc _ ⟨_,_,_,Nat.lt_succ_self _,hs Γ hc.toCtxOk,hr⟩
theorem AD.loopI{α:Type}{c:Code}(inv:α→Prop)(μ:α→Nat)(E:α→Env)(H:α→AHp)(x0:α)(hi:inv x0)(hs:SubAll N O env h (E x0) (H x0))
 (hr:∀ x,inv x→AD P N O ro c (AExit.thn (fun env1 h1=>∃ y,inv y∧μ y<μ x∧SubAll N O env1 h1 (E y) (H y)) Q) (E x) (H x)):AD P N O ro (.loop c) Q env h:=by
 refine⟨fun hl=>?_⟩
 have key:∀ n x,μ x=n→inv x→Live N O ro (E x) (H x)→∃ ae env' h',ae≠.normal∧Q ae env' h'∧Live N O ro env' h'∧∃ k,Rounds P N O ro c ae env' h' k (E x) (H x):=by
  intro n
  induction n using Nat.strongRecOn with
  | _ n ih=>
   intro x hx hi hl
   obtain⟨ae,env',h',hq,hl',hg⟩:=(hr x hi).out hl
   cases ae with
   | normal=>
    obtain⟨y,hy,hlt,hsub⟩:=hq
    obtain⟨ae,env2,h2,hne,hq2,hl2,k,hk⟩:=ih (μ y) (hx▸hlt) y rfl hy (hl'.sub hsub)
    exact⟨ae,env2,h2,hne,hq2,hl2,k+1,.more hg hsub hk⟩
   | exit i=>exact⟨.exit i,env',h',nofun,hq,hl',0,.last hg⟩
   | ret=>exact⟨.ret,env',h',nofun,hq,hl',0,.last hg⟩
 obtain⟨ae,env',h',hne,hq,hl',k,hk⟩:=key _ x0 rfl hi (hl.sub hs)
 exact⟨ae,env',h',hq,hl',fun Γ hc K hK=>(hk.goes hne Γ hc K hK).sub (hs Γ hc.toCtxOk)⟩
def cgo(e:EV)(A B:Prop):Prop:=match e with | .p (.imm (.bool b))=>bgo b A B | _=>False
def fst':Code→Option Nat
 | .region id _ _=>some id
 | .seq x _=>fst' x
 | .block _ c=>fst' c
 | .loop c=>fst' c
 | _=>none
def isAt(k:Option Nat)(c:Code):Bool:=match k,fst' c with | some i,some j=>Nat.beq i j | _,_=>false
def ac(P:Program)(T:Tab)(N:Nat)(O:Hp)(ro:Bool)(k:Option Nat)(J:Env→AHp→Prop)(c:Code):Kc→Env→AHp→Prop:=
 Code.rec (motive:=fun _=>Kc→Env→AHp→Prop)
  (fun K env h=>K .normal env h)
  (fun _ ops d K env h=>match d with
   | false=>aops P T N ops.toList ops.toList env h [] fun env' h' _=>K .normal env' h'
   | true=>aops P T N ops.toList ops.toList env h [] fun env' h' fps=>okOrder ops.toList fps.reverse=true∧K .normal env' h')
  (fun x y ix iy K env h=>ix (AExit.thn (bif isAt k y then J else iy K) K) env h)
  (fun c x y ix iy K env h=>cgo (opv T env 0 c) (ix K env h) (iy K env h))
  (fun i c ic K env h=>ic (AExit.inBlock i K) env h)
  (fun c _ K env h=>AD P N O ro (.loop c) K env h)
  (fun f ps a b _ _ K env h=>AD P N O ro (.rangeFunc f ps a b) K env h)
  (fun i K env h=>K (.exit i) env h)
  (fun c _ K env h=>AD P N O ro (.scope c) K env h)
  (fun l K env h=>AD P N O ro (.label l) K env h)
  (fun l K env h=>AD P N O ro (.goto l) K env h)
  (fun K env h=>K .ret env h)
  (fun s K env h=>AD P N O ro (.refuse s) K env h) c
def orB(a b:Option (Env→AHp→Prop)):Option (Env→AHp→Prop):=match a,b with | none,b=>b | a,none=>a | some a,some b=>some fun e h=>a e h∧b e h
def restAt(P:Program)(N:Nat)(O:Hp)(ro:Bool)(k:Option Nat):Code→Kc→Option (Env→AHp→Prop)
 | .seq x y,K=>orB (restAt P N O ro k x (AExit.thn (AD P N O ro y K) K)) (bif isAt k y then some (AD P N O ro y K) else restAt P N O ro k y K)
 | .cond _ x y,K=>orB (restAt P N O ro k x K) (restAt P N O ro k y K)
 | .block i c,K=>restAt P N O ro k c (AExit.inBlock i K)
 | _,_=>none
def OptP(o:Option (Env→AHp→Prop))(env:Env)(h:AHp):Prop:=match o with | some p=>p env h | none=>True
theorem orB_l{a b:Option (Env→AHp→Prop)}{env h}(hh:OptP (orB a b) env h):OptP a env h:=by
 cases a with
 | none=>trivial
 | some a=>cases b with
  | none=>exact hh
  | some b=>exact hh.1
theorem orB_r{a b:Option (Env→AHp→Prop)}{env h}(hh:OptP (orB a b) env h):OptP b env h:=by
 cases b with
 | none=>trivial
 | some b=>cases a with
  | none=>exact hh
  | some a=>exact hh.2
theorem ac_out(hT:TabOk P T)(hm:P.follows .mixedOrders=true){k:Option Nat}{J:Env→AHp→Prop}:∀ (c:Code) (K K':Kc),(∀ e env h,K' e env h→K e env h)→(∀ env h,J env h→OptP (restAt P N O ro k c K) env h) →
 ∀ env h,ac P T N O ro k J c K' env h→AD P N O ro c K env h:=by
 intro c
 induction c with
 | region id ops d=>
  intro K K' hK _ env h hh
  cases d with
  | false=>exact(AD.region hT (Q:=K') hh).mono hK
  | true=>exact(AD.drawn hT hm (Q:=K') hh).mono hK
 | skip=>intro K K' hK _ env h hh;exact AD.skip (hK _ _ _ hh)
 | exit i=>intro K K' hK _ env h hh;exact AD.exit (hK _ _ _ hh)
 | ret=>intro K K' hK _ env h hh;exact AD.ret (hK _ _ _ hh)
 | seq x y ihx ihy=>
  intro K K' hK hJ env h hh
  refine AD.seq (ihx _ _ ?_ (fun env h hj=>orB_l (hJ env h hj)) env h hh)
  intro e env h hq
  cases e with
  | normal=>
   have hq:(bif isAt k y then J else ac P T N O ro k J y K') env h:=hq
   have hj2:=fun env h hj=>orB_r (hJ env h hj)
   show AD P N O ro y K env h
   cases hi:isAt k y with
   | true=>
    rw[hi] at hq hj2
    exact hj2 env h hq
   | false=>
    rw[hi] at hq hj2
    exact ihy K K' hK hj2 env h hq
  | exit i=>exact hK _ _ _ hq
  | ret=>exact hK _ _ _ hq
 | cond c x y ihx ihy=>
  intro K K' hK hJ env h hh
  replace hh:cgo (opv T env 0 _) (ac P T N O ro k J x K' env h) (ac P T N O ro k J y K' env h):=hh
  unfold cgo at hh
  split at hh
  ·rename_i b hb
   refine AD.cond (T:=T) hb ?_
   rcases bgo_out hh with ⟨rfl,hh⟩ | ⟨rfl,hh⟩
   ·exact ihx K K' hK (fun env h hj=>orB_l (hJ env h hj)) env h hh
   ·exact ihy K K' hK (fun env h hj=>orB_r (hJ env h hj)) env h hh
  ·exact hh.elim
 | block i c ih=>
  intro K K' hK hJ env h hh
  refine AD.block (ih _ _ ?_ hJ env h hh)
  intro e env h hq
  cases e with
  | normal=>exact hK _ _ _ hq
  | exit j=>
   simp only[AExit.inBlock] at hq ⊢
   split
   ·rename_i hj;rw[if_pos hj] at hq;exact hK _ _ _ hq
   ·rename_i hj;rw[if_neg hj] at hq;exact hK _ _ _ hq
  | ret=>exact hK _ _ _ hq
 | _=>intro K K' hK _ env h hh;exact AD.mono hK hh
theorem AD.run(hT:TabOk P T)(hm:P.follows .mixedOrders=true){c:Code}(hh:ac P T N O ro none (fun _ _=>True) c Q env h):AD P N O ro c Q env h:=by
 have hr:∀ (c:Code) (K:Kc),restAt P N O ro none c K=none:=by
  intro c
  induction c <;> intro K <;> simp_all [restAt,orB,isAt]
 exact ac_out hT hm c Q Q (fun _ _ _ h=>h) (fun env h _=>by rw[hr];trivial) env h hh
abbrev CutJ{α:Type}(N:Nat)(O:Hp)(inv:α→Prop)(E:α→Env)(H:α→AHp):Env→AHp→Prop:=fun env h=>∃ x,inv x∧SubAll N O env h (E x) (H x)
theorem AD.cut(hT:TabOk P T)(hm:P.follows .mixedOrders=true){α:Type}{c:Code}(k:Nat)(inv:α→Prop)(E:α→Env)(H:α→AHp)
 (hh:ac P T N O ro (some k) (CutJ N O inv E H) c Q env h)(hr:∀ x,inv x→OptP (restAt P N O ro (some k) c Q) (E x) (H x)):AD P N O ro c Q env h:=by
 have hsub:∀ (c:Code) (Q:Kc),∀ env h env' h',SubAll N O env h env' h'→OptP (restAt P N O ro (some k) c Q) env' h'→OptP (restAt P N O ro (some k) c Q) env h:=by
  have hor:∀ (a b:Option (Env→AHp→Prop)) (env h env' h'),(OptP a env' h'→OptP a env h)→(OptP b env' h'→OptP b env h)→OptP (orB a b) env' h'→OptP (orB a b) env h:=by
   intro a b env h env' h' ha hb hh
   cases a <;> cases b <;> first | exact hb hh | exact ha hh | exact⟨ha hh.1,hb hh.2⟩ | trivial
  intro c
  induction c with
  | seq x y ihx ihy=>
   intro Q env h env' h' hs hh
   refine hor _ _ env h env' h' (ihx _ env h env' h' hs) ?_ hh
   cases hi:isAt (some k) y with
   | true=>exact AD.sub hs
   | false=>exact ihy _ env h env' h' hs
  | cond c x y ihx ihy=>intro Q env h env' h' hs hh;exact hor _ _ env h env' h' (ihx _ env h env' h' hs) (ihy _ env h env' h' hs) hh
  | block i c ih=>intro Q env h env' h' hs hh;exact ih _ env h env' h' hs hh
  | _=>intro Q env h env' h' hs hh;trivial
 exact ac_out hT hm c Q Q (fun _ _ _ h=>h) (fun env h ⟨x,hx,hs⟩=>hsub c Q _ _ _ _ hs (hr x hx)) env h hh
end
def FinQ(T:Tab)(rs:List ResultVar)(R:EV→Prop):Kc
 | .exit _,_,_=>False
 | _,env,h=>∃ es xs,resAll T env h rs=some es∧toPs es=some xs∧R (retEV xs)
def FinOQ(T:Tab)(rs:List ResultVar)(sz:Nat)(R:List AV→Prop):Kc
 | .exit _,_,_=>False
 | _,env,h=>0<sz∧∃ e es,resAll T env h rs=some [e]∧(e=.full sz es∨∃ k,e=.own sz es k∧hp h k=.tail es.length)∧R es
theorem live0{fz:Fz}{w:World}{vs:List Value}{ys:List AV}(hz:FzOk fz w)(hr:RepsL fz vs ys){N:Nat}(hn:ys.length≤N):Live N noH false (mkEnv 0 ys) []:=
 ⟨⟨w,⟨fz,fun _=>0,fun _=>0,fun _=>0,fun _=>False⟩,noH,N,[],none⟩,_,_,w,⟨⟨rfl,rfl⟩,fun _=>rfl⟩,start_SR (g:=⟨fz,fun _=>0,fun _=>0,fun _=>0,fun _=>False⟩) hz hr hn⟩
theorem AFunE.intro{P : Program}{T : Tab}(hT : TabOk P T){f : FuncId}{fn : Func}{c : Code}{ys : List AV}{R : EV → Prop}(hf : P.funcs[f]? = some fn)(hb : fn.body = some c)(hname : (fn.name == "runtime.NumGoroutine") = false)(hn : ys.length ≤ fn.ntmps)
 (h0:∃ y,R y)(hh:AD P fn.ntmps noH false c (FinQ T fn.results.toList R) (mkEnv 0 ys) []):∃ y,R y∧AFun P f ys y:=by
 by_cases hex:∃ fz w vs,FzOk fz w∧RepsL fz vs ys
 ·obtain⟨fz,w,vs,hz,hr⟩:=hex
  obtain⟨ae,env',h',hq,_,hg⟩:=hh.out (live0 hz hr hn)
  have mk:(∃ es xs,resAll T env' h' fn.results.toList=some es∧toPs es=some xs∧R (retEV xs))→ae≠.exit 0→(∀ i,ae≠.exit i)→∃ y,R y∧AFun P f ys y:=by
   rintro⟨es,xs,h1,h2,h3⟩ _ hne
   refine⟨_,h3,AFun.intro hT hf hb hname hn fun Γ e1 e2 _ e4=>hg Γ ⟨⟨e2,e1⟩,fun _=>e4⟩ _ ?_⟩
   cases ae with
   | exit i=>exact absurd rfl (hne i)
   | normal=>exact⟨es,xs,h1,h2,rfl⟩
   | ret=>exact⟨es,xs,h1,h2,rfl⟩
  cases ae with
  | exit i=>exact hq.elim
  | normal=>exact mk hq nofun nofun
  | ret=>exact mk hq nofun nofun
 ·obtain⟨y,hy⟩:=h0
  exact⟨y,hy,⟨fn,hf,hname,by rw[hb];rfl⟩,fun fz w vs hz hr=>absurd ⟨fz,w,vs,hz,hr⟩ hex⟩
theorem AFun.of{P : Program}{T : Tab}(hT : TabOk P T){f : FuncId}{fn : Func}{c : Code}{ys : List AV}{y : EV}(hf : P.funcs[f]? = some fn)(hb : fn.body = some c)(hname : (fn.name == "runtime.NumGoroutine") = false)(hn : ys.length ≤ fn.ntmps)
 (hh:AD P fn.ntmps noH false c (FinQ T fn.results.toList (y=·)) (mkEnv 0 ys) []):AFun P f ys y:=by
 obtain⟨y',rfl,h⟩:=AFunE.intro hT hf hb hname hn ⟨y,rfl⟩ hh
 exact h
theorem AFunOE.intro{P : Program}{T : Tab}(hT : TabOk P T){f : FuncId}{fn : Func}{c : Code}{ys : List AV}{sz : Nat}{R : List AV → Prop}(hf : P.funcs[f]? = some fn)(hb : fn.body = some c)(hname : (fn.name == "runtime.NumGoroutine") = false)(hn : ys.length ≤ fn.ntmps)
 (h0:∃ y,R y)(hh:AD P fn.ntmps noH false c (FinOQ T fn.results.toList sz R) (mkEnv 0 ys) []):∃ es,R es∧AFunO P f ys sz es:=by
 by_cases hex:∃ fz w vs,FzOk fz w∧RepsL fz vs ys
 ·obtain⟨fz,w,vs,hz,hr⟩:=hex
  obtain⟨ae,env',h',hq,_,hg⟩:=hh.out (live0 hz hr hn)
  have mk:(0<sz∧∃ e es,resAll T env' h' fn.results.toList=some [e]∧(e=.full sz es∨∃ k,e=.own sz es k∧hp h' k=.tail es.length)∧R es)→(∀ i,ae≠.exit i)→∃ y,R y∧AFunO P f ys sz y:=by
   rintro⟨h1,e,es,h2,h3,h4⟩ hne
   refine⟨_,h4,AFunO.intro hT hf hb hname hn fun Γ e1 e2 _ e4=>hg Γ ⟨⟨e2,e1⟩,fun _=>e4⟩ _ ?_⟩
   cases ae with
   | exit i=>exact absurd rfl (hne i)
   | normal=>exact⟨h1,e,h2,h3⟩
   | ret=>exact⟨h1,e,h2,h3⟩
  cases ae with
  | exit i=>exact hq.elim
  | normal=>exact mk hq nofun
  | ret=>exact mk hq nofun
 ·obtain⟨y,hy⟩:=h0
  exact⟨y,hy,⟨fn,hf,hname,by rw[hb];rfl⟩,fun fz w vs hz hr=>absurd ⟨fz,w,vs,hz,hr⟩ hex⟩
def FinVQ(T:Tab)(rs:List ResultVar)(sz:Nat)(t:TypeId)(R:Nat→List AV→Prop):Kc
 | .exit _,_,_=>False
 | _,env,h=>∃ n ys k cs,resAll T env h rs=some [.arr sz k 0 n]∧hp h k=.box t cs∧toPs cs=some ys∧n*sz=cs.length∧R n ys
theorem AFunVE.intro{P : Program}{T : Tab}(hT : TabOk P T){f : FuncId}{fn : Func}{c : Code}{ys : List AV}{sz : Nat}{t : TypeId}{R : Nat → List AV → Prop}(hf : P.funcs[f]? = some fn)(hb : fn.body = some c)(hname : (fn.name == "runtime.NumGoroutine") = false)(hn : ys.length ≤ fn.ntmps)
 (h0:∃ n y,R n y)(hh:AD P fn.ntmps noH false c (FinVQ T fn.results.toList sz t R) (mkEnv 0 ys) []):∃ n es,R n es∧AFunV P f ys sz t n es:=by
 by_cases hex:∃ fz w vs,FzOk fz w∧RepsL fz vs ys
 ·obtain⟨fz,w,vs,hz,hr⟩:=hex
  obtain⟨ae,env',h',hq,_,hg⟩:=hh.out (live0 hz hr hn)
  have mk:(∃ n ys k cs,resAll T env' h' fn.results.toList=some [.arr sz k 0 n]∧hp h' k=.box t cs∧toPs cs=some ys∧n*sz=cs.length∧R n ys)→(∀ i,ae≠.exit i)→∃ n es,R n es∧AFunV P f ys sz t n es:=by
   rintro⟨n,es,k,cs,h1,h2,h3,h4,h5⟩ hne
   refine⟨n,es,h5,AFunV.intro hT hf hb hname hn fun Γ e1 e2 _ e4=>hg Γ ⟨⟨e2,e1⟩,fun _=>e4⟩ _ ?_⟩
   cases ae with
   | exit i=>exact absurd rfl (hne i)
   | normal=>exact⟨k,cs,h1,h2,h3,h4⟩
   | ret=>exact⟨k,cs,h1,h2,h3,h4⟩
  cases ae with
  | exit i=>exact hq.elim
  | normal=>exact mk hq nofun
  | ret=>exact mk hq nofun
 ·obtain⟨n,y,hy⟩:=h0
  exact⟨n,y,hy,⟨fn,hf,hname,by rw[hb];rfl⟩,fun fz w vs hz hr=>absurd ⟨fz,w,vs,hz,hr⟩ hex⟩
theorem okL_p(h:AHp):∀ l:List AV,okE.okL h (l.map .p)=true
 | []=>rfl
 | x::r=>by simp only[List.map_cons,okE.okL,okE,okL_p h r,Bool.and_true]
theorem okL_app(h:AHp):∀ a b:List EV,okE.okL h (a++b)=(okE.okL h a&&okE.okL h b)
 | [],b=>rfl
 | x::r,b=>by simp only[List.cons_append,okE.okL,okL_app h r b,Bool.and_assoc]
theorem SubAll.trans{N O a b c d e f}(h1:SubAll N O a b c d)(h2:SubAll N O c d e f):SubAll N O a b e f:=fun Γ hc g x w hs=>let ⟨g',h'⟩:=h1 Γ hc g x w hs;h2 Γ hc g' x w h'
theorem setSeg_p(l:List AV)(n:Nat)(v:AV):setSeg (l.map EV.p) n [.p v]=(l.set n v).map .p:=by
 show(l.map EV.p).set n (.p v)=_
 rw[List.map_set]
theorem toPs_p:∀ l:List AV,toPs (l.map .p)=some l
 | []=>rfl
 | x::r=>by simp only[List.map_cons,toP.toPl,toP,toPs_p r]
def NoLost(O:Hp)(h:AHp):Prop:=∀ j,O j≠.gone→hp h j≠.lost∧(∀ m,O j≠.tail m)∧∀ e,O j≠.ext e
theorem NoLost.no{h}:NoLost noH h:=fun k h=>absurd rfl h
def noLostB(h:AHp):AHp→Bool
 | []=>true
 | (k,o)::r=>(match hp h k with | .lost=>false | _=>true)&&(match o with | .tail _=>false | .ext _=>false | _=>true)&&noLostB h r
theorem NoLost.of{l h:AHp}(hb:noLostB h l=true):NoLost (hp l) h:=by
 intro k hk
 induction l with
 | nil=>exact absurd rfl hk
 | cons x r ih=>
  obtain⟨j,o⟩:=x
  simp only[noLostB,Bool.and_eq_true] at hb
  by_cases hj:k=j
  ·subst hj
   refine⟨fun e=>?_,fun m e=>?_,fun m e=>?_⟩
   ·rw[e] at hb;simp at hb
   ·rw[hp_cons,if_pos rfl] at e;subst e;simp at hb
   ·rw[hp_cons,if_pos rfl] at e;subst e;simp at hb
  ·rw[hp_cons,if_neg hj] at hk ⊢;exact ih hb.2 hk
theorem SubAll.of{N:Nat}{O:Hp}{env env':Env}{h h':AHp}(h1:SubE (none,none,none) env h' env':=by repeat' (first | exact trivial | exact rfl | exact .inl rfl | exact .inr (.inl ⟨_,rfl,rfl⟩) | exact .inr (.inr (.inl ⟨_,_,_,_,rfl,rfl,rfl,Nat.le_refl _⟩)) | refine⟨?_,?_⟩))(h2:SubH (none,none,none) h h' h':=by repeat' (first | exact trivial | exact rfl | exact⟨rfl,List.Perm.refl _,fun _=>rfl⟩ | exact(List.length_append ..).symm | exact .inr ⟨rfl,rfl⟩ | exact .inr ⟨rfl,okL_p _ _⟩ | exact .inr ⟨setSeg_p _ _ _,okL_p _ _⟩ | exact .inr ⟨rfl,by simp only[*,okL_app,okL_p,Bool.and_self]⟩ | exact .inr ⟨renL_p _ _ _,okL_p _ _⟩ | exact .inl rfl | exact .inr (.inl ⟨_,rfl,rfl⟩) | exact .inr (.inr (.inl ⟨_,_,_,_,rfl,rfl,rfl,Nat.le_refl _⟩)) | refine⟨?_,?_⟩ | refine .inl ⟨?_,?_⟩))(hO:KeepO O h':=by first | exact KeepO.no | exact KeepO.of rfl):SubAll N O env h env' h':=fun Γ hc=>Sub.of (hc.o▸hO) h1 h2
theorem SubAll.sealB{N:Nat}{O:Hp}{env env':Env}{h h':AHp}(k:Nat){t:TypeId}{cs:List EV}{xs:List AV}(hk:hp h k=.box t cs:=by rfl)(hx:toPs cs=some xs:=by rfl)(hg:hp h' k=.gone:=by rfl)
 (h1:SubE (some (k,xs),none,none) env h' env':=by repeat' (first | exact trivial | exact rfl | exact .inl rfl | exact .inr (.inl ⟨_,rfl,rfl⟩) | exact .inr (.inr (.inl ⟨_,_,_,_,rfl,rfl,rfl,Nat.le_refl _⟩)) | exact .inr (.inr (.inr (.inl ⟨_,_,rfl,.inl ⟨_,rfl,rfl⟩⟩))) | refine⟨?_,?_⟩))(h2:SubH (some (k,xs),none,none) h h' h':=by repeat' (first | exact trivial | exact rfl | exact⟨rfl,List.Perm.refl _,fun _=>rfl⟩ | exact(List.length_append ..).symm | exact .inr ⟨rfl,rfl⟩ | exact .inr ⟨rfl,okL_p _ _⟩ | exact .inr ⟨setSeg_p _ _ _,okL_p _ _⟩ | exact .inr ⟨rfl,by simp only[*,okL_app,okL_p,Bool.and_self]⟩ | exact .inr ⟨renL_p _ _ _,okL_p _ _⟩ | exact .inl rfl | exact .inr (.inl ⟨_,rfl,rfl⟩) | exact .inr (.inr (.inl ⟨_,_,_,_,rfl,rfl,rfl,Nat.le_refl _⟩)) | exact .inr (.inr (.inr (.inl ⟨_,_,rfl,.inl ⟨_,rfl,rfl⟩⟩))) | refine⟨?_,?_⟩ | refine .inl ⟨?_,?_⟩))
 (hO:KeepO O h':=by first | exact KeepO.no | exact KeepO.of rfl)(hN:NoLost O h:=by first | exact NoLost.no | exact NoLost.of rfl)(hOk:O k=.gone:=by rfl):SubAll N O env h env' h':=fun Γ hc=>Sub.sealB (hc.o▸hO) k hk (hc.o▸hOk) (hc.o▸hN) hx hg h1 h2
def SubAllT(N:Nat)(O:Hp)(env:Env)(h:AHp)(env':Env)(h':AHp):Prop:=∀ Γ,CtxOk N O Γ→SubT Γ env h env' h'
theorem SubAllT.refl{N O a b}:SubAllT N O a b a b:=fun _ _=>.refl
theorem SubAllT.trans{N O a b c d e f}(h1:SubAllT N O a b c d)(h2:SubAllT N O c d e f):SubAllT N O a b e f:=fun Γ hc=>(h1 Γ hc).trans (h2 Γ hc)
theorem SubAllT.ren{N:Nat}{O:Hp}(d k:Nat){env:Env}{h:AHp}(hd:O d=.gone:=by rfl)(hk:O k=.gone:=by rfl):SubAllT N O env h (renEnv d k env) (renH d k h):=fun Γ hc=>.ren d k (hc.o▸hd) (hc.o▸hk)
theorem SubAllT.of{N:Nat}{O:Hp}{env env':Env}{h h':AHp}(h1:SubE (none,none,none) env h' env':=by repeat' (first | exact trivial | exact rfl | exact .inl rfl | exact .inr (.inl ⟨_,rfl,rfl⟩) | exact .inr (.inr (.inl ⟨_,_,_,_,rfl,rfl,rfl,Nat.le_refl _⟩)) | refine⟨?_,?_⟩))(h2:SubH (none,none,none) h h' h':=by repeat' (first | exact trivial | exact rfl | exact⟨rfl,List.Perm.refl _,fun _=>rfl⟩ | exact(List.length_append ..).symm | exact .inr ⟨rfl,rfl⟩ | exact .inr ⟨rfl,okL_p _ _⟩ | exact .inr ⟨setSeg_p _ _ _,okL_p _ _⟩ | exact .inr ⟨rfl,by simp only[*,okL_app,okL_p,Bool.and_self]⟩ | exact .inr ⟨renL_p _ _ _,okL_p _ _⟩ | exact .inl rfl | exact .inr (.inl ⟨_,rfl,rfl⟩) | exact .inr (.inr (.inl ⟨_,_,_,_,rfl,rfl,rfl,Nat.le_refl _⟩)) | refine⟨?_,?_⟩ | refine .inl ⟨?_,?_⟩))(hO:KeepO O h':=by first | exact KeepO.no | exact KeepO.of rfl):SubAllT N O env h env' h':=fun Γ hc=>SubT.of (hc.o▸hO) h1 h2
theorem SubAll.mseal{N:Nat}{O:Hp}{env env':Env}{h h':AHp}(k:Nat){kp:KP}{es es':List (AV×AV)}(hk:hp h k=.map kp es:=by rfl)(hni:kp≠.iter:=by nofun)(he:es.Perm es':=by exact List.Perm.refl _)(hg:hp h' k=.gone:=by rfl)
 (h1:SubE (none,none,some (k,kp,es')) env h' env':=by repeat' (first | exact trivial | exact rfl | exact .inl rfl | exact .inr (.inl ⟨_,rfl,rfl⟩) | exact .inr (.inr (.inl ⟨_,_,_,_,rfl,rfl,rfl,Nat.le_refl _⟩)) | exact .inr (.inr (.inr (.inr (.inr ⟨_,_,_,rfl,rfl,rfl⟩)))) | refine⟨?_,?_⟩))(h2:SubH (none,none,some (k,kp,es')) h h' h':=by repeat' (first | exact trivial | exact rfl | exact⟨rfl,List.Perm.refl _,fun _=>rfl⟩ | exact(List.length_append ..).symm | exact .inr ⟨rfl,rfl⟩ | exact .inr ⟨rfl,okL_p _ _⟩ | exact .inr ⟨setSeg_p _ _ _,okL_p _ _⟩ | exact .inr ⟨rfl,by simp only[*,okL_app,okL_p,Bool.and_self]⟩ | exact .inr ⟨renL_p _ _ _,okL_p _ _⟩ | exact .inl rfl | exact .inr (.inl ⟨_,rfl,rfl⟩) | exact .inr (.inr (.inl ⟨_,_,_,_,rfl,rfl,rfl,Nat.le_refl _⟩)) | exact .inr (.inr (.inr (.inr (.inr ⟨_,_,_,rfl,rfl,rfl⟩)))) | refine⟨?_,?_⟩ | refine .inl ⟨?_,?_⟩))
 (hO:KeepO O h':=by first | exact KeepO.no | exact KeepO.of rfl)(hN:NoLost O h:=by first | exact NoLost.no | exact NoLost.of rfl)(hOk:O k=.gone:=by rfl):SubAll N O env h env' h':=fun Γ hc=>Sub.mseal (hc.o▸hO) k hk hni he (hc.o▸hOk) (hc.o▸hN) hg h1 h2
theorem SubAll.vec{N:Nat}{O:Hp}{env env':Env}{h h':AHp}(k:Nat)(hk:hp h k=.gone:=by rfl)
 (h1:SubE (none,some k,none) env h' env':=by repeat' (first | exact trivial | exact rfl | exact .inl rfl | exact .inr (.inl ⟨_,rfl,rfl⟩) | exact .inr (.inr (.inl ⟨_,_,_,_,rfl,rfl,rfl,Nat.le_refl _⟩)) | exact .inr (.inr (.inr (.inr (.inl ⟨_,_,_,rfl,rfl,rfl,rfl⟩)))) | refine⟨?_,?_⟩))(h2:SubH (none,some k,none) h h' h':=by repeat' (first | exact trivial | exact rfl | exact⟨rfl,List.Perm.refl _,fun _=>rfl⟩ | exact(List.length_append ..).symm | exact .inr ⟨rfl,rfl⟩ | exact .inr ⟨rfl,okL_p _ _⟩ | exact .inr ⟨setSeg_p _ _ _,okL_p _ _⟩ | exact .inr ⟨rfl,by simp only[*,okL_app,okL_p,Bool.and_self]⟩ | exact .inr ⟨renL_p _ _ _,okL_p _ _⟩ | exact .inl rfl | exact .inr (.inl ⟨_,rfl,rfl⟩) | exact .inr (.inr (.inl ⟨_,_,_,_,rfl,rfl,rfl,Nat.le_refl _⟩)) | exact .inr (.inr (.inr (.inr (.inl ⟨_,_,_,rfl,rfl,rfl,rfl⟩)))) | refine⟨?_,?_⟩ | refine .inl ⟨?_,?_⟩))
 (hO:KeepO O h':=by first | exact KeepO.no | exact KeepO.of rfl):SubAll N O env h env' h':=fun Γ hc=>Sub.vec (hc.o▸hO) k hk h1 h2
theorem SubAll.ren{N:Nat}{O:Hp}(d k:Nat){env:Env}{h:AHp}(hd:O d=.gone:=by rfl)(hk:O k=.gone:=by rfl):SubAll N O env h (renEnv d k env) (renH d k h):=fun Γ hc=>Sub.ren d k (hc.o▸hd) (hc.o▸hk)
def mkE:Nat→List EV→Env
 | _,[]=>[]
 | i,y::r=>(i,y)::mkE (i+1) r
theorem lk_mkE:∀ (ys:List EV) (i t:Nat),lk (mkE i ys) t=if t<i then .dead else match ys[t - i]? with | some y=>y | none=>.dead
 | [],i,t=>by simp[mkE,lk]
 | y::r,i,t=>by
  rw[mkE,lk_cons,lk_mkE r (i+1) t]
  by_cases h1:t=i
  ·subst h1;simp
  ·rw[if_neg h1]
   by_cases h2:t<i
   ·rw[if_pos h2,if_pos (by omega)]
   ·rw[if_neg h2,if_neg (by omega),show t - i=(t - (i+1))+1 by omega]
    simp
theorem mkE_reps{g:Gh}{H:Hp}{vs:List Value}{ys:List EV}(hl:vs.length=ys.length)(hr:∀ (i:Nat) v x,vs[i]?=some v→ys[i]?=some x→ERep g H v x)(n:Nat)(t:Nat):
 ERep g H ((vs.toArray++Array.replicate n undef).getD t undef) (lk (mkE 0 ys) t):=by
 rw[lk_mkE]
 simp only[Nat.not_lt_zero,if_false,Nat.sub_zero]
 cases hy:ys[t]? with
 | none=>exact .dead _
 | some y=>
  have hlt:t<vs.length:=by
   rw[hl]
   rcases Nat.lt_or_ge t ys.length with h' | h'
   ·exact h'
   ·rw[List.getElem?_eq_none h'] at hy;cases hy
  refine hr t _ y ?_ hy
  simp[hlt,Array.getElem?_append]
theorem start_E{g:Gh}{w:World}{h0:AHp}(hi:WInv g (hp h0) w){vs:List Value}{ys:List EV}(hl:vs.length=ys.length)(hr:∀ (i:Nat) v x,vs[i]?=some v→ys[i]?=some x→ERep g (hp h0) v x){n:Nat}(hn:ys.length≤n):
 SR ⟨w,g,hp h0,n,[],none⟩ g (lk (mkE 0 ys)) (hp h0) { tmps:=vs.toArray++Array.replicate (n - vs.toArray.size) undef,defers:=[] } w:=
 ⟨by simp[hl];omega,DfOk.start rfl,fun t=>mkE_reps hl hr _ t,hi,⟨Kept.refl _ _,FzLe.refl _,fun _ _ _=>rfl,fun k b hb=>.inl ⟨k,hb⟩,fun k t cs hk=>.inr ⟨cs,hk,rfl,rfl,rfl⟩,fun k kp es hk=>.inr ⟨es,hk,rfl⟩,fun k m hk=>⟨m,hk,Nat.le_refl _,fun _=>⟨rfl,rfl,rfl⟩⟩⟩⟩
def retE:List EV→EV
 | [x]=>x
 | xs=>.tup xs
def FinE(T:Tab)(rs:List ResultVar)(h0:AHp)(R:EV→AHp→Prop):Kc
 | .exit _,_,_=>False
 | _,env,h=>∃ es ys h1,resAll T env h rs=some es∧SubAll es.length (hp h0) (mkE 0 es) h (mkE 0 ys) h1∧Nat.beq ys.length es.length=true∧R (retE ys) h1
def onlyBM:AHp→Bool
 | []=>true
 | (_,.box _ _)::r=>onlyBM r
 | (_,.map _ _)::r=>onlyBM r
 | (_,.ext _)::r=>onlyBM r
 | (_,.tail _)::r=>onlyBM r
 | _::_=>false
theorem onlyBM_at:∀ {l:AHp},onlyBM l=true→∀ k,hp l k=.gone∨(∃ t cs,hp l k=.box t cs)∨(∃ kp es,hp l k=.map kp es)∨(∃ e,hp l k=.ext e)∨∃ m,hp l k=.tail m
 | [],_,k=>.inl rfl
 | (j,o)::r,hl,k=>by
  rw[hp_cons]
  by_cases hj:k=j
  ·rw[if_pos hj]
   cases o <;> simp only[onlyBM] at hl <;> first | exact .inr (.inl ⟨_,_,rfl⟩) | exact .inr (.inr (.inl ⟨_,_,rfl⟩)) | exact .inr (.inr (.inr (.inl ⟨_,rfl⟩))) | exact .inr (.inr (.inr (.inr ⟨_,rfl⟩))) | cases hl
  ·rw[if_neg hj]
   cases o <;> simp only[onlyBM] at hl <;> first | exact onlyBM_at hl k | cases hl
theorem ret_rep{g:Gh}{H:Hp}{vs:List Value}{ys:List EV}(hl:vs.length=ys.length)(hr:∀ (i:Nat) v x,vs[i]?=some v→ys[i]?=some x→ERep g H v x):
 ERep g H (if _:vs.length=1 then vs.headD undef else .tuple vs.toArray) (retE ys):=by
 by_cases h1:vs.length=1
 ·obtain⟨v,rfl⟩:∃ v,vs=[v]:=by
   cases vs with
   | nil=>simp at h1
   | cons v r=>cases r with
    | nil=>exact⟨v,rfl⟩
    | cons a b=>simp at h1
  obtain⟨y,rfl⟩:∃ y,ys=[y]:=by
   cases ys with
   | nil=>simp at hl
   | cons v r=>cases r with
    | nil=>exact⟨v,rfl⟩
    | cons a b=>simp at hl
  exact hr 0 v y rfl rfl
 ·rw[dif_neg h1]
  have:retE ys=.tup ys:=by
   unfold retE
   split
   ·simp at hl;exact absurd hl h1
   ·rfl
  rw[this]
  exact .tup _ _ hl hr
theorem EFun.mk{P : Program}{T : Tab}(hT : TabOk P T){f : FuncId}{fn : Func}{c : Code}{args : List EV}{h0 : AHp}{y : EV}{h1 : AHp}(hf : P.funcs[f]? = some fn)(hb : fn.body = some c)(hname : (fn.name == "runtime.NumGoroutine") = false)(hn : args.length ≤ fn.ntmps)(hbm : onlyBM h0 = true)
 (hh:∀ Γ:Ctx,CtxR fn.ntmps (hp h0) false Γ→Γ.dfs=[]→AW P Γ c (FinE T fn.results.toList h0 (fun y' h'=>y'=y∧h'=h1)) (mkE 0 args) h0):EFun P f args h0 y h1:=by
 refine⟨⟨fn,hf,hname,by rw[hb];rfl⟩,fun g w vs hi hl hr=>?_⟩
 refine calls_marks hf hb (Γ:=⟨w,g,hp h0,fn.ntmps,[],none⟩) rfl rfl (wpIn_mono ((hh ⟨w,g,hp h0,fn.ntmps,[],none⟩ ⟨⟨rfl,rfl⟩,fun _=>rfl⟩ rfl).out g _ w (start_E hi hl hr hn) 0) fun e a' w' hq=>?_)
 obtain⟨ae,env',h',g',he,hk,hs⟩:=hq
 have key:(∃ es ys h2,resAll T env' h' fn.results.toList=some es∧SubAll es.length (hp h0) (mkE 0 es) h' (mkE 0 ys) h2∧Nat.beq ys.length es.length=true∧retE ys=y∧h2=h1)→∀ w',SR ⟨w,g,hp h0,fn.ntmps,a'.defers,none⟩ g' (lk env') (hp h') a' w'→∃ v,(results fn a'.tmps).run P w'=.ok v w' ∧
  ∃ v' g',Ending.returned v=.returned v'∧GLe g (hp h0) g' (hp h1)∧WInv g' (hp h1) w'∧Fr ⟨w,g,hp h0,0,[],none⟩ g' (hp h1) w'∧ERep g' (hp h1) v' y:=by
  rintro⟨es,ys,h2,q1,q2,q3,rfl,rfl⟩ w' hs
  have q3:=nbt q3
  obtain⟨us,r1,r2,r3⟩:=results_run hT (fn:=fn) hs.tmps hs.inv q1
  have hsr:SR ⟨w,g,hp h0,es.length,[],none⟩ g' (lk (mkE 0 es)) (hp h') { tmps:=us.toArray++Array.replicate 0 undef,defers:=[] } w':=
   ⟨by simp[r2],DfOk.start rfl,fun t=>mkE_reps r2 r3 0 t,hs.inv,⟨hs.fr.kept,hs.fr.fz,hs.fr.low,hs.fr.own,hs.fr.box,hs.fr.map,hs.fr.tail⟩⟩
  obtain⟨g2,hs2⟩:=q2 _ ⟨rfl,rfl⟩ g' _ w' hsr
  refine⟨_,r1,_,g2,rfl,?_,hs2.inv,⟨hs2.fr.kept,hs2.fr.fz,hs2.fr.low,hs2.fr.own,hs2.fr.box,hs2.fr.map,hs2.fr.tail⟩,ret_rep (by rw[r2,q3]) fun i v x hv hx=>?_⟩
  ·refine⟨hs2.fr.fz,fun k t cs hk=>?_,fun k hk=>?_,fun k m hk=>?_,fun k kp es hk=>?_⟩
   ·rcases hs2.fr.box k t cs hk with h | ⟨cs',a1,a2,a3,a4⟩
    ·exact .inl h
    ·exact .inr ⟨a3,a4,cs',a1,a2⟩
   ·rcases onlyBM_at hbm k with h | ⟨_,_,h⟩ | ⟨_,_,h⟩ | ⟨_,h⟩ | ⟨_,h⟩ <;> rw[h] at hk <;> cases hk
   ·exact hs2.fr.tail k m hk
   ·rcases hs2.fr.map k kp es hk with h | ⟨cs',a1,a2⟩
    ·exact .inl h
    ·exact .inr ⟨a2,cs',a1⟩
  ·have:=hs2.tmps i
   rw[lk_mkE] at this
   simp only[Nat.not_lt_zero,if_false,Nat.sub_zero,hx] at this
   have hlt:i<us.length:=(List.getElem?_eq_some_iff.1 hv).1
   have e:(us.toArray++Array.replicate 0 undef).getD i undef=v:=by
    have:=(List.getElem?_eq_some_iff.1 hv).2
    simp[hlt,this]
   rw[e] at this
   exact this
 cases ae with
 | normal=>cases e <;> first | exact he.elim | exact⟨.inl rfl,g',env',h',hs,key hk⟩
 | exit i=>exact hk.elim
 | ret=>cases e <;> first | exact he.elim | exact⟨.inr rfl,g',env',h',hs,key hk⟩
theorem live_E{g:Gh}{w:World}{h0:AHp}(hi:WInv g (hp h0) w){vs:List Value}{ys:List EV}(hl:vs.length=ys.length)(hr:∀ (i:Nat) v x,vs[i]?=some v→ys[i]?=some x→ERep g (hp h0) v x){N:Nat}(hn:ys.length≤N):Live N (hp h0) false (mkE 0 ys) h0:=
 ⟨_,g,_,w,⟨⟨rfl,rfl⟩,fun _=>rfl⟩,start_E hi hl hr hn⟩
theorem EFunE.intro{P : Program}{T : Tab}(hT : TabOk P T){f : FuncId}{fn : Func}{c : Code}{args : List EV}{h0 : AHp}{R : EV → AHp → Prop}(hf : P.funcs[f]? = some fn)(hb : fn.body = some c)(hname : (fn.name == "runtime.NumGoroutine") = false)(hn : args.length ≤ fn.ntmps)(hbm : onlyBM h0 = true)
 (hex0:∃ y h1,R y h1)(hh:AD P fn.ntmps (hp h0) false c (FinE T fn.results.toList h0 R) (mkE 0 args) h0):∃ y h1,R y h1∧EFun P f args h0 y h1:=by
 by_cases hex:∃ (g:Gh) (w:World) (vs:List Value),WInv g (hp h0) w∧vs.length=args.length∧∀ (i:Nat) v x,vs[i]?=some v→args[i]?=some x→ERep g (hp h0) v x
 ·obtain⟨g,w,vs,hi,hl,hr⟩:=hex
  obtain⟨ae,env',h',hq,_,hg⟩:=hh.out (live_E hi hl hr hn)
  have mk:(∃ es ys h1,resAll T env' h' fn.results.toList=some es∧SubAll es.length (hp h0) (mkE 0 es) h' (mkE 0 ys) h1∧Nat.beq ys.length es.length=true∧R (retE ys) h1)→(∀ i,ae≠.exit i)→∃ y h1,R y h1∧EFun P f args h0 y h1:=by
   rintro⟨es,ys,h1,q1,q2,q3,q4⟩ hne
   refine⟨_,_,q4,EFun.mk hT hf hb hname hn hbm fun Γ e1 _=>hg Γ e1 _ ?_⟩
   cases ae with
   | exit i=>exact absurd rfl (hne i)
   | normal=>exact⟨es,ys,h1,q1,q2,q3,rfl,rfl⟩
   | ret=>exact⟨es,ys,h1,q1,q2,q3,rfl,rfl⟩
  cases ae with
  | exit i=>exact hq.elim
  | normal=>exact mk hq nofun
  | ret=>exact mk hq nofun
 ·obtain⟨y,h1,hy⟩:=hex0
  exact⟨y,h1,hy,⟨fn,hf,hname,by rw[hb];rfl⟩,fun g w vs hi hl hr=>absurd ⟨g,w,vs,hi,hl,hr⟩ hex⟩
theorem EFun.of{P : Program}{T : Tab}(hT : TabOk P T){f : FuncId}{fn : Func}{c : Code}{args : List EV}{h0 : AHp}{y : EV}{h1 : AHp}(hf : P.funcs[f]? = some fn)(hb : fn.body = some c)(hname : (fn.name == "runtime.NumGoroutine") = false)(hn : args.length ≤ fn.ntmps)(hbm : onlyBM h0 = true)
 (hh:AD P fn.ntmps (hp h0) false c (FinE T fn.results.toList h0 (fun y' h'=>y'=y∧h'=h1)) (mkE 0 args) h0):EFun P f args h0 y h1:=by
 obtain⟨y',h',⟨rfl,rfl⟩,h⟩:=EFunE.intro hT hf hb hname hn hbm ⟨y,h1,rfl,rfl⟩ hh
 exact h
end Go.Ab
namespace Go.Ab
open Go
def T:Tab:=[
 (3,{ kind:=6,size:=1,bytes:=8,zero:=[eint .i64 0],ik:=.i64 }),
 (28,{ kind:=3,size:=1,bytes:=24,zero:=[.full 1 []],elem:=3,esz:=1,ebytes:=8,ezero:=[eint .i64 0] }),
 (35,{ kind:=1,size:=5,bytes:=64,zero:=[eint .i64 0,estr ⟨#[]⟩,eint .i64 0,.full 5 [],eint .i64 0],flds:=[(0,3,1),(1,9,1),(2,3,1),(3,33,1),(4,3,1)] }),
 (50,{ kind:=1,size:=2,bytes:=32,zero:=[eint .i64 0,.full 1 []],flds:=[(0,3,1),(1,28,1)] }),
 (240,{ kind:=1,size:=65,bytes:=72,zero:=[eint .i64 0]++List.replicate 64 (ebool false),flds:=[(0,3,1),(1,238,64)] }),
 (27,{ kind:=1,size:=4,bytes:=96,zero:=[.full 2 [],.full 3 [],.full 7 [],.full 6 []],flds:=[(0,22,1),(1,23,1),(2,24,1),(3,25,1)] }),
 (101,{ kind:=1,size:=2,bytes:=16,zero:=[eint .i64 0,.p (.imm (.map none))],flds:=[(0,3,1),(1,99,1)] }),
 (30,{ kind:=1,size:=2,bytes:=32,zero:=[.full 1 [],eint .i64 0],flds:=[(0,28,1),(1,3,1)] }),
 (33,{ kind:=3,size:=1,bytes:=24,zero:=[.full 5 []],elem:=35,esz:=5,ebytes:=64,ezero:=[eint .i64 0,estr ⟨#[]⟩,eint .i64 0,.full 5 [],eint .i64 0] }),
 (4,{ kind:=5,size:=1,bytes:=1,zero:=[ebool false] }),
 (59,{ kind:=3,size:=1,bytes:=24,zero:=[.full 1 []],elem:=28,esz:=1,ebytes:=24,ezero:=[.full 1 []] }),
 (9,{ kind:=4,size:=1,bytes:=16,zero:=[estr ⟨#[]⟩] }),
 (90,{ kind:=1,size:=2,bytes:=32,zero:=[eint .i64 0,.full 2 []],flds:=[(0,3,1),(1,83,1)] }),
 (103,{ kind:=1,size:=2,bytes:=16,zero:=[eint .i64 0,eint .i64 0],flds:=[(0,51,1),(1,3,1)] }),
 (250,{ kind:=1,size:=7,bytes:=136,zero:=[.full 2 [],.full 3 [],.full 7 [],.full 6 [],.full 1 [],eint .i64 0,eint .i64 0],flds:=[(0,27,4),(4,248,1),(5,3,1),(6,3,1)] }),
 (43,{ kind:=1,size:=4,bytes:=64,zero:=[.full 1 [],eint .i64 0,.full 1 [],eint .i64 0],flds:=[(0,30,2),(2,41,1),(3,3,1)] }),
 (38,{ kind:=1,size:=14,bytes:=248,zero:=[.full 2 [],.full 3 [],.full 7 [],.full 6 [],.full 1 [],eint .i64 0,.full 1 [],eint .i64 0,estr ⟨#[]⟩,eint .i64 0,.full 5 [],eint .i64 0,.full 1 [],eint .u8 0],flds:=[(0,27,4),(4,30,2),(6,32,1),(7,35,5),(12,36,1),(13,5,1)] }),
 (24,{ kind:=3,size:=1,bytes:=24,zero:=[.full 7 []],elem:=160,esz:=7,ebytes:=104,ezero:=[estr ⟨#[]⟩,.full 2 [],eint .i64 0,estr ⟨#[]⟩,eint .i64 0,.full 5 [],eint .i64 0] }),
 (112,{ kind:=2,size:=3,bytes:=3,zero:=List.replicate 3 (eint .i8 0),elem:=110,esz:=1,ebytes:=1,ezero:=[eint .i8 0],len:=3 }),
 (23,{ kind:=3,size:=1,bytes:=24,zero:=[.full 3 []],elem:=119,esz:=3,ebytes:=48,ezero:=[estr ⟨#[]⟩,.full 1 [],ebool false] }),
 (22,{ kind:=3,size:=1,bytes:=24,zero:=[.full 2 []],elem:=78,esz:=2,ebytes:=24,ezero:=[estr ⟨#[]⟩,ebool false] }),
 (51,{ kind:=6,size:=1,bytes:=8,zero:=[eint .i64 0],ik:=.i64 }),
 (166,{ kind:=3,size:=1,bytes:=24,zero:=[.full 2 []],elem:=101,esz:=2,ebytes:=16,ezero:=[eint .i64 0,.p (.imm (.map none))] }),
 (99,{ kind:=7,size:=1,bytes:=8,zero:=[.p (.imm (.map none))],mkey:=112,kp:=.ints (List.replicate 3 .i8),elem:=4,esz:=1,ebytes:=1,ezero:=[ebool false] }),
 (288,{ kind:=3,size:=1,bytes:=24,zero:=[.full 65 []],elem:=240,esz:=65,ebytes:=72,ezero:=[eint .i64 0]++List.replicate 64 (ebool false) }),
 (245,{ kind:=1,size:=7,bytes:=136,zero:=[.full 2 [],.full 3 [],.full 7 [],.full 6 [],.full 1 [],eint .i64 0,ebool false],flds:=[(0,27,4),(4,129,1),(5,3,1),(6,4,1)] }),
 (129,{ kind:=3,size:=1,bytes:=24,zero:=[.full 1 []],elem:=4,esz:=1,ebytes:=1,ezero:=[ebool false] }),
 (78,{ kind:=1,size:=2,bytes:=24,zero:=[estr ⟨#[]⟩,ebool false],flds:=[(0,9,1),(1,4,1)] }),
 (98,{ kind:=3,size:=1,bytes:=24,zero:=[.full 2 []],elem:=169,esz:=2,ebytes:=24,ezero:=[estr ⟨#[]⟩,eint .i64 0] }),
 (68,{ kind:=3,size:=1,bytes:=24,zero:=[.full 2 []],elem:=50,esz:=2,ebytes:=32,ezero:=[eint .i64 0,.full 1 []] }),
 (119,{ kind:=1,size:=3,bytes:=48,zero:=[estr ⟨#[]⟩,.full 1 [],ebool false],flds:=[(0,9,1),(1,28,1),(2,4,1)] }),
 (41,{ kind:=3,size:=1,bytes:=24,zero:=[.full 1 []],elem:=68,esz:=1,ebytes:=24,ezero:=[.full 2 []] }),
 (160,{ kind:=1,size:=7,bytes:=104,zero:=[estr ⟨#[]⟩,.full 2 [],eint .i64 0,estr ⟨#[]⟩,eint .i64 0,.full 5 [],eint .i64 0],flds:=[(0,9,1),(1,98,1),(2,35,5)] }),
 (136,{ kind:=1,size:=9,bytes:=168,zero:=[.full 1 [],eint .i64 0,.full 1 [],eint .i64 0,.full 2 [],.full 3 [],.full 7 [],.full 6 [],eint .i64 0],flds:=[(0,43,4),(4,27,4),(8,3,1)] }),
 (265,{ kind:=6,size:=1,bytes:=8,zero:=[eint .u64 0],ik:=.u64 }),
 (83,{ kind:=3,size:=1,bytes:=24,zero:=[.full 2 []],elem:=200,esz:=2,ebytes:=24,ezero:=[estr ⟨#[]⟩,eint .i64 0] }),
 (169,{ kind:=1,size:=2,bytes:=24,zero:=[estr ⟨#[]⟩,eint .i64 0],flds:=[(0,9,1),(1,3,1)] }),
 (86,{ kind:=0,size:=1,bytes:=8,zero:=[.p (.imm (.pointer none))] }),
 (25,{ kind:=3,size:=1,bytes:=24,zero:=[.full 6 []],elem:=176,esz:=6,ebytes:=80,ezero:=[estr ⟨#[]⟩,eint .i64 0,estr ⟨#[]⟩,eint .i64 0,.full 5 [],eint .i64 0] }),
 (71,{ kind:=3,size:=1,bytes:=24,zero:=[.full 4 []],elem:=133,esz:=4,ebytes:=64,ezero:=[eint .i64 0,.full 1 [],eint .i64 0,.full 1 []] }),
 (158,{ kind:=1,size:=6,bytes:=128,zero:=[.full 2 [],.full 3 [],.full 7 [],.full 6 [],eint .i64 0,.full 1 []],flds:=[(0,27,4),(4,3,1),(5,129,1)] }),
 (238,{ kind:=2,size:=64,bytes:=64,zero:=List.replicate 64 (ebool false),elem:=4,esz:=1,ebytes:=1,ezero:=[ebool false],len:=64 }),
 (257,{ kind:=7,size:=1,bytes:=8,zero:=[.p (.imm (.map none))],mkey:=3,kp:=.int .i64,elem:=3,esz:=1,ebytes:=8,ezero:=[eint .i64 0] }),
 (122,{ kind:=3,size:=1,bytes:=24,zero:=[.full 2 []],elem:=103,esz:=2,ebytes:=16,ezero:=[eint .i64 0,eint .i64 0] }),
 (295,{ kind:=3,size:=1,bytes:=24,zero:=[.full 9 []],elem:=302,esz:=9,ebytes:=112,ezero:=[estr ⟨#[]⟩,estr ⟨#[]⟩,ebool false,eint .i64 0,estr ⟨#[]⟩,eint .i64 0,.full 5 [],eint .i64 0,eint .i64 0] }),
 (138,{ kind:=7,size:=1,bytes:=8,zero:=[.p (.imm (.map none))],mkey:=3,kp:=.int .i64,elem:=137,esz:=1,ebytes:=8,ezero:=[.p (.imm .nilFunc)] }),
 (5,{ kind:=6,size:=1,bytes:=1,zero:=[eint .u8 0],ik:=.u8 }),
 (133,{ kind:=1,size:=4,bytes:=64,zero:=[eint .i64 0,.full 1 [],eint .i64 0,.full 1 []],flds:=[(0,50,2),(2,50,2)] }),
 (214,{ kind:=6,size:=1,bytes:=8,zero:=[eint .u64 0],ik:=.u64 }),
 (246,{ kind:=3,size:=1,bytes:=24,zero:=[.full 66 []],elem:=294,esz:=66,ebytes:=88,ezero:=[estr ⟨#[]⟩,eint .i64 0]++List.replicate 64 (ebool false) }),
 (248,{ kind:=3,size:=1,bytes:=24,zero:=[.full 1 []],elem:=9,esz:=1,ebytes:=16,ezero:=[estr ⟨#[]⟩] }),
 (145,{ kind:=6,size:=1,bytes:=8,zero:=[eint .u64 0],ik:=.u64 }),
 (305,{ kind:=7,size:=1,bytes:=8,zero:=[.p (.imm (.map none))],mkey:=3,kp:=.int .i64,elem:=28,esz:=1,ebytes:=24,ezero:=[.full 1 []] }),
 (110,{ kind:=6,size:=1,bytes:=1,zero:=[eint .i8 0],ik:=.i8 }),
 (302,{ kind:=1,size:=9,bytes:=112,zero:=[estr ⟨#[]⟩,estr ⟨#[]⟩,ebool false,eint .i64 0,estr ⟨#[]⟩,eint .i64 0,.full 5 [],eint .i64 0,eint .i64 0],flds:=[(0,9,1),(1,9,1),(2,4,1),(3,35,5),(8,3,1)] }),
 (115,{ kind:=0,size:=1,bytes:=8,zero:=[.p (.imm .nilFunc)] }),
 (39,{ kind:=6,size:=1,bytes:=4,zero:=[eint .u32 0],ik:=.u32 }),
 (165,{ kind:=1,size:=4,bytes:=40,zero:=[estr ⟨#[]⟩,eint .i64 0,.p (.imm (.map none)),.p (.imm (.pointer none))],flds:=[(0,9,1),(1,101,2),(3,108,1)] }),
 (200,{ kind:=1,size:=2,bytes:=24,zero:=[estr ⟨#[]⟩,eint .i64 0],flds:=[(0,9,1),(1,3,1)] }),
 (105,{ kind:=0,size:=1,bytes:=8,zero:=[.p (.imm (.pointer none))] }),
 (184,{ kind:=3,size:=1,bytes:=24,zero:=[.full 1 []],elem:=5,esz:=1,ebytes:=1,ezero:=[eint .u8 0] }),
 (113,{ kind:=3,size:=1,bytes:=24,zero:=[.full 1 []],elem:=110,esz:=1,ebytes:=1,ezero:=[eint .i8 0] }),
 (185,{ kind:=3,size:=1,bytes:=24,zero:=[.full 2 []],elem:=187,esz:=2,ebytes:=16,ezero:=List.replicate 2 (eint .i64 0) }),
 (92,{ kind:=0,size:=1,bytes:=8,zero:=[.p (.imm .nilFunc)] }),
 (108,{ kind:=0,size:=1,bytes:=8,zero:=[.p (.imm (.pointer none))] }),
 (269,{ kind:=0,size:=1,bytes:=8,zero:=[.p (.imm (.pointer none))] }),
 (94,{ kind:=1,size:=2,bytes:=32,zero:=[.full 1 [],eint .i64 0],flds:=[(0,28,1),(1,3,1)] }),
 (176,{ kind:=1,size:=6,bytes:=80,zero:=[estr ⟨#[]⟩,eint .i64 0,estr ⟨#[]⟩,eint .i64 0,.full 5 [],eint .i64 0],flds:=[(0,9,1),(1,35,5)] }),
 (156,{ kind:=1,size:=2,bytes:=16,zero:=[eint .i64 0,eint .i64 0],flds:=[(0,103,2)] }),
 (204,{ kind:=6,size:=1,bytes:=8,zero:=[eint .i64 0],ik:=.i64 }),
 (36,{ kind:=3,size:=1,bytes:=24,zero:=[.full 1 []],elem:=129,esz:=1,ebytes:=24,ezero:=[.full 1 []] }),
 (187,{ kind:=2,size:=2,bytes:=16,zero:=List.replicate 2 (eint .i64 0),elem:=3,esz:=1,ebytes:=8,ezero:=[eint .i64 0],len:=2 }),
 (235,{ kind:=0,size:=1,bytes:=8,zero:=[.p (.imm .nilFunc)] }),
 (294,{ kind:=1,size:=66,bytes:=88,zero:=[estr ⟨#[]⟩,eint .i64 0]++List.replicate 64 (ebool false),flds:=[(0,9,1),(1,240,65)] }),
 (32,{ kind:=3,size:=1,bytes:=24,zero:=[.full 1 []],elem:=184,esz:=1,ebytes:=24,ezero:=[.full 1 []] }),
 (127,{ kind:=3,size:=1,bytes:=24,zero:=[.full 3 []],elem:=189,esz:=3,ebytes:=24,ezero:=[eint .i64 0,eint .i64 0,eint .i64 0] }),
 (189,{ kind:=1,size:=3,bytes:=24,zero:=[eint .i64 0,eint .i64 0,eint .i64 0],flds:=[(0,3,1),(1,3,1),(2,3,1)] }),
 (224,{ kind:=0,size:=1,bytes:=8,zero:=[.p (.imm .nilFunc)] }),
 (20,{ kind:=0,size:=1,bytes:=16,zero:=[.p (.imm .nilIface)] }),
 (70,{ kind:=0,size:=1,bytes:=8,zero:=[.p (.imm .nilFunc)] }),
 (278,{ kind:=0,size:=1,bytes:=8,zero:=[.p (.imm .nilFunc)] }),
 (261,{ kind:=0,size:=1,bytes:=8,zero:=[.p (.imm .nilFunc)] }),
 (82,{ kind:=0,size:=1,bytes:=8,zero:=[.p (.imm .nilFunc)] }),
 (1,{ kind:=0,size:=1,bytes:=8,zero:=[.p (.imm .nilFunc)] }),
 (81,{ kind:=0,size:=1,bytes:=8,zero:=[.p (.imm .nilFunc)] }),
 (149,{ kind:=0,size:=1,bytes:=8,zero:=[.p (.imm .nilFunc)] }),
 (197,{ kind:=0,size:=1,bytes:=8,zero:=[.p (.imm .nilFunc)] }),
 (137,{ kind:=0,size:=1,bytes:=8,zero:=[.p (.imm .nilFunc)] })]
theorem hT:TabOk Go.Proofs.Tryz.prog T:=TabOk.of (by kernel_rfl)
theorem hmix:Go.Proofs.Tryz.prog.follows .mixedOrders=true:=by kernel_rfl
end Go.Ab
namespace Go.Ab
open Go Go.RowKit Go.ChangeShapes Go.WideShapes Go.ChangeAt
def rowT(P:Program)(e:TypeId):Bool:=match P.underlying e with | some (.struct _)=>true | some (.array _ _)=>true | _=>false
def typedC(P:Program):Nat→TypeId→List AV→Prop
 | 0,_,_=>False
 | n+1,t,cs=>
  match P.underlying t with
  | some .bool=>∃ b,cs=[.imm (.bool b)]
  | some (.int k)=>∃ m,cs=[.imm (.int k m)]∧(Lit.int k m).wf=true
  | some .string=>∃ s,cs=[.imm (.string s)]∧s.size≤maxLen
  | some (.slice e)=>∃ es,cs=[.slice (P.cellsOf e) es]∧es.length≤maxLen∧∀ x∈es,x.cells.length=P.cellsOf e∧((rowT P e=true→∃ ys,x=.agg ys)∧(rowT P e=false→x.cells=[x]))∧typedC P n e x.cells
  | some (.struct fs)=>cs.length=P.cellsOf t∧∀ f∈fs.toList,typedC P n f.type ((cs.drop f.offset).take (P.cellsOf f.type))
  | _=>False
def seqT(P:Program)(N:Nat):List Field→Nat→Bool
 | [],o=>Nat.beq o N
 | f::r,o=>Nat.beq f.offset o&&seqT P N r (o+P.cellsOf f.type)
def closedT(P:Program)(S:List TypeId):Bool:=S.all fun t=>
 match P.underlying t with
 | some .bool=>true
 | some (.int _)=>true
 | some .string=>true
 | some (.slice e)=>S.contains e
 | some (.struct fs)=>seqT P (P.cellsOf t) fs.toList 0&&fs.toList.all fun f=>S.contains f.type
 | _=>false
mutual
def avB:AV→Nat
 | .imm (.string s)=>s.size+1
 | .imm _=>1
 | .agg cs=>avBs cs+1
 | .slice _ es=>avBs es+1
 | _=>0
def avBs:List AV→Nat
 | []=>0
 | x::r=>avB x+avBs r
end
theorem avBs_append:∀ a b:List AV,avBs (a++b)=avBs a+avBs b
 | [],b=>by simp[avBs]
 | x::r,b=>by rw[List.cons_append,avBs,avBs,avBs_append r b];omega
theorem avBs_mem:∀ {l:List AV} {x:AV},x∈l→avB x≤avBs l
 | y::r,x,h=>by
  rw[avBs]
  rcases List.mem_cons.1 h with rfl | h
  ·omega
  ·have:=avBs_mem h;omega
theorem avBs_one(x:AV):avBs [x]=avB x:=by rw[avBs,avBs];rfl
structure Bk{H:Type}(bk:DataW H→Nat)(ba:List (DataW H)→Nat):Prop where
 str:∀ b,bk (.lit (.string b))=b.length+1
 int:∀ k m,bk (.lit (.int k m))=1
 bool:∀ b,bk (.lit (.bool b))=1
 nil:bk .nil=1
 slice:∀ a b,bk (.slice a b)=ba a+ba b+1
 agg:∀ a,bk (.agg a)=ba a+1
 none:ba []=0
 more:∀ x r,ba (x::r)=bk x+ba r
theorem Bk.sum{H:Type}{bk:DataW H→Nat}{ba:List (DataW H)→Nat}(h:Bk bk ba):∀ l:List (DataW H),ba l=(l.map bk).sum
 | []=>by rw[h.none];rfl
 | x::r=>by rw[h.more,h.sum r];rfl
theorem avBs_le:∀ {l:List AV} {bs:List Nat},l.length=bs.length→(∀ (i:Nat) x b,l[i]?=some x→bs[i]?=some b→avB x≤b)→avBs l≤bs.sum
 | [],bs,_,_=>by rw[avBs];omega
 | x::r,[],h,_=>by simp at h
 | x::r,b::bs,h,hb=>by
  have h1:=hb 0 x b rfl rfl
  have h2:=avBs_le (l:=r) (bs:=bs) (by simpa using h) fun i y c hy hc=>hb (i+1) y c (by simpa using hy) (by simpa using hc)
  rw[avBs,List.sum_cons];omega
theorem spot_none{w:World}{a:Addr}{k:Nat}{v:Value}(h:w.cell? (a.add k)=some v)(hk:k=0):a.spot=none:=by
 subst hk
 cases hs:a.spot with
 | none=>rfl
 | some x=>exfalso;simp[World.cell?,Addr.add,hs] at h;split at h <;> simp_all
def fzW(w:World):Fz:=fun b o=>w.pk b o
def RepC(fz:Fz)(cs:List Value)(xs:List AV):Prop:=xs.length=cs.length∧Ones cs∧∀ (i:Nat) v x,cs[i]?=some v→xs[i]?=some x→Rep fz v x
theorem RepC.one{fz:Fz}{v:Value}{x:AV}(h1:v.oneCell'=true)(h:Rep fz v x):RepC fz [v] [x]:=by
 refine⟨rfl,by simpa[Ones] using h1,fun i u y hu hy=>?_⟩
 cases i with
 | zero=>simp at hu hy;subst hu;subst hy;exact h
 | succ i=>simp at hu
theorem list_of{α:Type}{p:Nat→α→Prop}{n:Nat}(h:∀ i,i<n→∃ x,p i x):∃ l:List α,l.length=n∧∀ i x,l[i]?=some x→p i x:=by
 induction n with
 | zero=>exact⟨[],rfl,fun i x hx=>by simp at hx⟩
 | succ n ih=>
  obtain⟨l,hl,hg⟩:=ih fun i hi=>h i (by omega)
  obtain⟨x,hx⟩:=h n (by omega)
  refine⟨l++[x],by simp[hl],fun i y hy=>?_⟩
  by_cases hi:i<l.length
  ·rw[List.getElem?_append_left hi] at hy;exact hg i y hy
  ·rw[List.getElem?_append_right (by omega)] at hy
   have h0:i - l.length=0:=by
    cases hh:i - l.length with
    | zero=>rfl
    | succ m=>rw[hh] at hy;simp at hy
   rw[h0] at hy
   obtain rfl:x=y:=by simpa using hy
   obtain rfl:i=n:=by omega
   exact hx
section
variable {H:Type} {enc:TypeId×Value→H} {P:Program} {w:World} {spare:Nat→Bool} {held:Bool}
theorem seqT_le{N:Nat}:∀ {fs:List Field} {o:Nat},seqT P N fs o=true→o≤N∧∀ f∈fs,o≤f.offset
 | [],o,h=>⟨Nat.le_of_eq (nbt h),by simp⟩
 | f::r,o,h=>by
  simp only[seqT,Bool.and_eq_true] at h
  obtain⟨h1,h2⟩:=h
  obtain⟨h3,h4⟩:=seqT_le h2
  have h1:=nbt h1
  refine⟨by omega,fun g hg=>?_⟩
  rcases List.mem_cons.1 hg with rfl | hg
  ·omega
  ·have:=h4 g hg;omega
theorem struct_build{fz:Fz}{N n:Nat}{cs:List Value}(hN:cs.length=N):∀ {fs:List Field} {o:Nat} {ds:List Nat},seqT P N fs o=true→ds.length=fs.length→(∀ (i:Nat) f d,fs[i]?=some f→ds[i]?=some d→∃ xs,typedC P n f.type xs∧RepC fz ((cs.drop f.offset).take (P.cellsOf f.type)) xs∧avBs xs≤d) →
 ∃ xs,RepC fz (cs.drop o) xs∧avBs xs≤ds.sum∧∀ f∈fs,typedC P n f.type ((xs.drop (f.offset - o)).take (P.cellsOf f.type))
 | [],o,ds,h,_,_=>by
  have:=nbt h
  refine⟨[],?_,by rw[avBs];omega,by simp⟩
  rw[List.drop_eq_nil_of_le (by omega)]
  exact⟨rfl,by simp[Ones],by intro i v x hv;simp at hv⟩
 | f::r,o,[],h,hl,_=>by simp at hl
 | f::r,o,d::ds,h,hl,hf=>by
  simp only[seqT,Bool.and_eq_true] at h
  obtain⟨h1,h2⟩:=h
  have h1:=nbt h1
  obtain⟨hle,hoff⟩:=seqT_le h2
  obtain⟨xr,hr,hbr,ht⟩:=struct_build hN h2 (ds:=ds) (by simpa using hl) fun i g e hg he=>hf (i+1) g e (by simpa using hg) (by simpa using he)
  obtain⟨xf,hxt,⟨hx1,hx2,hx3⟩,hbf⟩:=hf 0 f d rfl rfl
  have hlen:xf.length=P.cellsOf f.type:=by rw[hx1,List.length_take,List.length_drop];omega
  have hcs:cs.drop o=(cs.drop o).take (P.cellsOf f.type)++cs.drop (o+P.cellsOf f.type):=by
   rw[← List.drop_drop,List.take_append_drop]
  rw[h1] at hx1 hx2 hx3
  refine⟨xf++xr,?_,by rw[avBs_append,List.sum_cons];omega,fun g hg=>?_⟩
  ·rw[hcs]
   refine⟨by rw[List.length_append,List.length_append,hx1,hr.1],fun v hv=>?_,fun i v x hv hx=>?_⟩
   ·rcases List.mem_append.1 hv with hv | hv
    ·exact hx2 v hv
    ·exact hr.2.1 v hv
   ·rw[List.getElem?_append] at hv hx
    rw[hx1] at hx
    split at hv
    ·rename_i h3
     rw[if_pos h3] at hx
     exact hx3 i v x hv hx
    ·rename_i h3
     rw[if_neg h3] at hx
     exact hr.2.2 _ v x hv hx
  ·rcases List.mem_cons.1 hg with rfl | hg
   ·rw[h1,Nat.sub_self,List.drop_zero,List.take_append_of_le_length (by omega),List.take_of_length_le (by omega)]
    exact hxt
   ·have:=hoff g hg
    rw[List.drop_append,List.drop_eq_nil_of_le (by omega),List.nil_append,hlen,show g.offset - o - P.cellsOf f.type=g.offset - (o+P.cellsOf f.type) by omega]
    exact ht g hg
theorem typedC_one{n:Nat}{e:TypeId}{xs:List AV}(h:typedC P n e xs)(hr:rowT P e=false):∃ x,xs=[x]∧x.cells=[x]:=by
 cases n with
 | zero=>exact h.elim
 | succ n=>
  simp only[typedC] at h
  split at h
  ·obtain⟨b,rfl⟩:=h;exact⟨_,rfl,rfl⟩
  ·obtain⟨b,rfl,_⟩:=h;exact⟨_,rfl,rfl⟩
  ·obtain⟨b,rfl,_⟩:=h;exact⟨_,rfl,rfl⟩
  ·obtain⟨b,rfl,_⟩:=h;exact⟨_,rfl,rfl⟩
  ·rename_i hu;simp[rowT,hu] at hr
  ·exact h.elim
theorem elem_of{fz:Fz}{n:Nat}{e:TypeId}{cs:List Value}{xs:List AV}(h:typedC P n e xs)(hr:RepC fz cs xs):∃ x:AV,x.cells=xs∧((rowT P e=true→∃ ys,x=.agg ys)∧(rowT P e=false→x.cells=[x]))∧avB x=avBs xs+(if rowT P e then 1 else 0):=by
 cases hq:rowT P e with
 | true=>exact⟨.agg xs,rfl,⟨fun _=>⟨xs,rfl⟩,fun h=>by cases h⟩,by rw[avB];rfl⟩
 | false=>
  obtain⟨x,rfl,hx⟩:=typedC_one h hq
  exact⟨x,hx,⟨fun h=>(by cases h),fun _=>hx⟩,by rw[avBs_one];rfl⟩
theorem open_typed{bk:DataW H→Nat}{ba:List (DataW H)→Nat}(hb:Bk bk ba){S:List TypeId}(hS:closedT P S=true):∀ (n:Nat) (t:TypeId) (cs:List Value) (y:DataW H×List MemPlace),t∈S→DataW.trod enc P w 0 spare held n t cs=some y→∃ xs,typedC P n t xs∧RepC (fzW w) cs xs∧avBs xs+(if rowT P t then 1 else 0)≤bk y.1:=by
 have nr:∀ {t:TypeId},rowT P t=false→(if rowT P t then 1 else 0)=0:=fun h=>by rw[h];rfl
 intro n
 induction n with
 | zero=>intro t cs y _ h;simp[DataW.trod] at h
 | succ n ih=>
  intro t cs y ht h
  have hc:=List.all_eq_true.1 hS t ht
  cases hu:P.underlying t with
  | none=>rw[hu] at hc;simp at hc
  | some d=>
   rw[hu] at hc
   cases d with
   | bool=>
    obtain⟨b,rfl,rfl⟩:=DataW.trod_bool hu h
    exact⟨[.imm (.bool b)],by simp only[typedC,hu];exact⟨b,rfl⟩,.one rfl (.imm _ rfl),by rw[nr (by simp[rowT,hu]),avBs_one];exact Nat.le_of_eq (hb.bool b).symm⟩
   | int k=>
    obtain⟨m,rfl,rfl,hw⟩:=DataW.trod_int hu h
    exact⟨[.imm (.int k m)],by simp only[typedC,hu];exact⟨m,rfl,hw⟩,.one rfl (.imm _ rfl),by rw[nr (by simp[rowT,hu]),avBs_one];exact Nat.le_of_eq (hb.int k m).symm⟩
   | string=>
    obtain⟨s,rfl,rfl,hw⟩:=DataW.trod_string hu h
    exact⟨[.imm (.string s)],by simp only[typedC,hu];exact⟨s,rfl,hw⟩,.one rfl (.imm _ rfl),by rw[nr (by simp[rowT,hu]),avBs_one];exact Nat.le_of_eq (hb.str _).symm⟩
   | slice e=>
    have he:e∈S:=by simpa using hc
    rcases DataW.trod_slice hu h with ⟨rfl,rfl⟩ | ⟨a,len,cap,elems,rest,m,hm,rfl,rfl,_,hl,hcap,hel,hat,_⟩
    ·exact⟨[.slice (P.cellsOf e) []],by simp only[typedC,hu];exact⟨[],rfl,by simp,by simp⟩,.one rfl (.slice none 0 0 _ [] [] rfl (Nat.le_refl _) (by omega) (by simp) (by simp[Ones]) (by intro i v hv;simp at hv) rfl (by intro i v x hv;simp at hv)),by rw[nr (by simp[rowT,hu]),avBs_one,avB,avBs];exact Nat.le_of_eq hb.nil.symm⟩
    ·cases hm
     have hx:∀ i,i<len→∃ x:AV,(x.cells.length=P.cellsOf e∧((rowT P e=true→∃ ys,x=.agg ys)∧(rowT P e=false→x.cells=[x]))∧typedC P n e x.cells)∧∃ cs',w.cells? 0 (a.add (i*P.cellsOf e)) (P.cellsOf e)=some cs'∧RepC (fzW w) cs' x.cells∧∀ b,(elems.map fun y=>bk y.1)[i]?=some b→avB x≤b:=fun i hi=>by
      have hi':=hat i hi
      have hlt:i<elems.length:=by omega
      rw[List.getElem?_eq_getElem hlt,Option.bind_eq_some_iff] at hi'
      obtain⟨cs',h1,h2⟩:=hi'
      obtain⟨xs,h3,h4,h5⟩:=ih e cs' _ he h2
      obtain⟨x,hx1,hx2,hx3⟩:=elem_of h3 h4
      refine⟨x,⟨?_,hx2,hx1▸h3⟩,cs',h1,hx1▸h4,fun b hb'=>?_⟩
      rotate_left
      ·rw[List.getElem?_map,List.getElem?_eq_getElem hlt] at hb'
       cases hb'
       dsimp only
       omega
      rw[hx1,h4.1];exact(World.cells?_some h1).2.1
     obtain⟨es,hes,hg⟩:=list_of hx
     have hsz:∀ x∈es,x.cells.length=P.cellsOf e:=fun x hx=>by
      obtain⟨i,hi⟩:=List.getElem?_of_mem hx
      exact(hg i x hi).1.1
     refine⟨[.slice (P.cellsOf e) es],?_,.one rfl ?_,?_⟩
     ·simp only[typedC,hu]
      refine⟨es,rfl,by omega,fun x hx=>?_⟩
      obtain⟨i,hi⟩:=List.getElem?_of_mem hx
      exact(hg i x hi).1
     ·
      have hfl:=flat_length hsz
      have hcell:∀ q,q<len*P.cellsOf e→∃ v,(∃ y,(flat es)[q]?=some y∧Rep (fzW w) v y)∧w.cell? (a.add q)=some v∧v.oneCell'=true:=fun q hq=>by
       have h0:0<P.cellsOf e:=by
        rcases Nat.eq_zero_or_pos (P.cellsOf e) with h0 | h0
        ·rw[h0] at hq;omega
        ·exact h0
       have hqi:q / P.cellsOf e<len:=(Nat.div_lt_iff_lt_mul h0).2 hq
       have hqj:q % P.cellsOf e<P.cellsOf e:=Nat.mod_lt _ h0
       have heq:q / P.cellsOf e*P.cellsOf e+q % P.cellsOf e=q:=by rw[Nat.mul_comm];exact Nat.div_add_mod _ _
       have hlt:q / P.cellsOf e<es.length:=by omega
       obtain⟨_,cs',h1,h2,_⟩:=hg _ _ (List.getElem?_eq_getElem hlt)
       obtain⟨_,hcl,hca⟩:=World.cells?_some h1
       have hv:q % P.cellsOf e<cs'.length:=by omega
       refine⟨cs'[q % P.cellsOf e],⟨(es[q / P.cellsOf e]).cells[q % P.cellsOf e]'(by rw[hsz _ (List.getElem_mem hlt)];exact hqj),?_,h2.2.2 _ _ _ (List.getElem?_eq_getElem hv) (List.getElem?_eq_getElem _)⟩,?_,h2.2.1 _ (List.getElem_mem hv)⟩
       ·have:=flat_get hsz (List.getElem?_eq_getElem hlt) hqj
        rw[heq] at this
        rw[this]
        exact List.getElem?_eq_getElem _
       ·have:=hca _ hqj
        rw[Go.Deep.add_add,heq] at this
        rw[this]
        exact List.getElem?_eq_getElem hv
      obtain⟨vs,hvs,hvg⟩:=list_of hcell
      refine .slice (some a) len cap _ es vs hes.symm hl (by have:maxLen=9223372036854775807:=rfl;omega) hsz (fun v hv=>?_) (fun i v hv=>?_) (by rw[hvs,hfl,hes]) fun i v x hv hx=>?_
      ·obtain⟨i,hi⟩:=List.getElem?_of_mem hv
       exact(hvg i v hi).2.2
      ·have hh:=(hvg i v hv).2.1
       have hz:∃ v0,w.cell? (a.add 0)=some v0:=by
        have h0:0<vs.length:=by have:=(List.getElem?_eq_some_iff.1 hv).1;omega
        exact⟨_,(hvg 0 _ (List.getElem?_eq_getElem h0)).2.1⟩
       obtain⟨v0,hz⟩:=hz
       have hsp:=spot_none hz rfl
       obtain⟨b,off,sp⟩:=a
       dsimp only at hsp
       subst hsp
       exact⟨b,off,rfl,by rw[Addr.add_mid] at hh;exact cell_pk hh (hvg i v hv).2.2⟩
      ·obtain⟨⟨y,h1,h2⟩,_⟩:=hvg i v hv
       rw[hx] at h1;cases h1
       exact h2
     ·rw[nr (by simp[rowT,hu]),avBs_one,avB]
      show _≤bk (.slice _ _)
      rw[hb.slice,hb.sum]
      have hle:=avBs_le (l:=es) (bs:=elems.map fun y=>bk y.1) (by rw[hes,List.length_map,hel]) fun i x b hx hb'=>by
       obtain⟨_,cs',_,_,h5⟩:=hg i x hx
       exact h5 b hb'
      rw[List.map_map]
      have e0:(List.map (bk∘fun x=>x.1) elems).sum=(elems.map fun y=>bk y.1).sum:=rfl
      omega
   | struct fs=>
    obtain⟨xs,m,hm,rfl,hl,hxl,hat⟩:=DataW.trod_struct hu h
    cases hm
    simp only[Bool.and_eq_true] at hc
    obtain⟨ys,h1,h3,h2⟩:=struct_build (fz:=fzW w) (n:=n) (ds:=xs.map fun y=>bk y.1) hl hc.1 (by simpa using hxl) fun i f d hi hd=>by
     have hf:=List.mem_of_getElem? hi
     have hi':fs[i]?=some f:=by simpa using hi
     have hlt:i<xs.length:=by rw[hxl];exact(Array.getElem?_eq_some_iff.1 hi').1
     have hfS:f.type∈S:=by simpa using List.all_eq_true.1 hc.2 f hf
     obtain⟨zs,q1,q2,q3⟩:=ih f.type _ _ hfS ((hat i f hi').trans (List.getElem?_eq_getElem hlt))
     rw[List.getElem?_map,List.getElem?_eq_getElem hlt] at hd
     cases hd
     exact⟨zs,q1,q2,by dsimp only;omega⟩
    refine⟨ys,?_,by simpa using h1,?_⟩
    ·simp only[typedC,hu]
     exact⟨by rw[h1.1];simpa using hl,fun f hf=>by simpa using h2 f hf⟩
    ·rw[if_pos (by simp[rowT,hu])]
     show _≤bk (.agg _)
     rw[hb.agg,hb.sum,List.map_map]
     have e0:(List.map (bk∘fun x=>x.1) xs).sum=(xs.map fun y=>bk y.1).sum:=rfl
     omega
   | _=>simp at hc
def TypedV(P:Program)(t:TypeId)(x:AV):Prop:=(∃ n,typedC P n t x.cells)∧(rowT P t=true→∃ ys,x=.agg ys)∧(rowT P t=false→x.cells=[x])
theorem open_val{bk:DataW H→Nat}{ba:List (DataW H)→Nat}(hb:Bk bk ba){S:List TypeId}(hS:closedT P S=true){r:Reach}{b0:Nat}{t:TypeId}(ht:t∈S){v:Value}{d:DataW H}{ps:List MemPlace}(hval:Value.okWide P w r b0 t v)(h:DataW.Trod enc P w 0 spare held t v d ps):∃ x,TypedV P t x∧Rep (fzW w) v x∧avB x≤bk d:=by
 obtain⟨n,hn⟩:=h
 obtain⟨xs,h1,h2,h3⟩:=open_typed hb hS n t _ _ ht hn
 have hc:=List.all_eq_true.1 hS t ht
 have single:v.cells=#[v]→rowT P t=false→∃ x,TypedV P t x∧Rep (fzW w) v x∧avB x≤bk d:=fun hv hr=>by
  obtain⟨x,rfl,hx⟩:=typedC_one h1 hr
  rw[hv] at h2
  exact⟨x,⟨⟨n,by rw[hx];exact h1⟩,⟨fun h0=>(by rw[hr] at h0;cases h0),fun _=>hx⟩⟩,h2.2.2 0 v x rfl rfl,by rw[avBs_one] at h3;dsimp only at h3;omega⟩
 cases hu:P.underlying t with
 | none=>rw[hu] at hc;simp at hc
 | some d=>
  rw[hu] at hc
  cases d with
  | bool=>obtain⟨b,rfl⟩:=okWide_bool hu hval;exact single rfl (by simp[rowT,hu])
  | int k=>obtain⟨b,rfl⟩:=okWide_int hu hval;exact single rfl (by simp[rowT,hu])
  | string=>obtain⟨b,rfl⟩:=okWide_string hu hval;exact single rfl (by simp[rowT,hu])
  | slice e=>obtain⟨a,l,c,rfl⟩:=okWide_slice hu hval;exact single rfl (by simp[rowT,hu])
  | struct fs=>
   obtain⟨cs,rfl,_⟩:=okWide_struct hu hval
   refine⟨.agg xs,⟨⟨n,h1⟩,⟨fun _=>⟨xs,rfl⟩,fun h0=>(by simp[rowT,hu] at h0)⟩⟩,?_,by rw[avB];rw[if_pos (by simp[rowT,hu])] at h3;exact h3⟩
   have:=Rep.agg (fz:=fzW w) cs.toList xs h2.2.1 h2.1.symm h2.2.2
   simpa using this
  | _=>simp at hc
theorem open_all{bk:DataW H→Nat}{ba:List (DataW H)→Nat}(hb:Bk bk ba){S:List TypeId}(hS:closedT P S=true){r:Reach}{b0:Nat}:∀ {ts:List TypeId} {vs:List Value} {ds:List (DataW H)} {ps:List MemPlace},(∀ t∈ts,t∈S)→(∀ (j:Nat) t v,ts[j]?=some t→vs[j]?=some v→Value.okWide P w r b0 t v)→DataW.TrodAll enc P w 0 spare held ts vs ds ps →
 ∃ ys,RepsL (fzW w) vs ys∧ts.length=ys.length∧avBs ys≤ba ds∧∀ (i:Nat) t y,ts[i]?=some t→ys[i]?=some y→TypedV P t y
 | [],vs,ds,ps,_,_,h=>by
  obtain⟨rfl,_,_⟩:=trodAll_nil h
  exact⟨[],⟨rfl,by intro i v x hv;simp at hv⟩,rfl,by rw[avBs];omega,by intro i t y h;simp at h⟩
 | t::ts,vs,ds,ps,hS',hval,h=>by
  obtain⟨v,vs',d,ds',p,q,rfl,rfl,rfl,h1,h2⟩:=trodAll_cons h
  obtain⟨x,hx1,hx2,hx3⟩:=open_val hb hS (hS' t (by simp)) (hval 0 t v rfl rfl) h1
  obtain⟨ys,⟨r1,r2⟩,r3,r5,r4⟩:=open_all hb hS (fun u hu=>hS' u (by simp[hu])) (fun j u y hj hy=>hval (j+1) u y (by simpa using hj) (by simpa using hy)) h2
  refine⟨x::ys,⟨by simp[r1],fun i v x hv hx=>?_⟩,by simp[r3],by rw[avBs,hb.more];omega,fun i u y hu hy=>?_⟩
  ·cases i with
   | zero=>simp at hv hx;subst hv;subst hx;exact hx2
   | succ i=>exact r2 i v x (by simpa using hv) (by simpa using hx)
  ·cases i with
   | zero=>simp at hu hy;subst hu;subst hy;exact hx1
   | succ i=>exact r4 i u y (by simpa using hu) (by simpa using hy)
theorem AFun.row{bk:DataW H→Nat}{ba:List (DataW H)→Nat}(hb:Bk bk ba){S:List TypeId}(hS:closedT P S=true){f:FuncId}{ts:List TypeId}(hts:∀ t∈ts,t∈S){ds:List (DataW H)}(hf:∀ ys:List AV,ts.length=ys.length→(∀ (i:Nat) t y,ts[i]?=some t→ys[i]?=some y→TypedV P t y)→avBs ys≤ba ds→AFun P f ys (.p (.imm (.bool true))))
 {r:Reach}{b0:Nat}{args:Array Value}{ps:List MemPlace}(hval:∀ (j:Nat) t v,ts[j]?=some t→args[j]?=some v→Value.okWide P w r b0 t v)(h:DataW.TrodAll enc P w 0 spare held ts args.toList ds ps):
 Calls P f args w fun e w'=>e=.returned (.bool true)∧Below w.heap.size w w':=by
 obtain⟨ys,h1,h2,h4,h3⟩:=open_all hb hS hts (fun j t v hj hv=>hval j t v hj (by simpa using hv)) h
 have:=(hf ys h2 h3 h4).2 (fzW w) w args.toList (fun b o v hv=>hv) h1
 rw[Array.toArray_toList] at this
 refine this.mono fun e w' ⟨v,fz',he,hk,_,_,hr⟩=>?_
 have hv:=(hr ⟨fz',fun _=>0,fun _=>0,fun _=>0,fun _=>False⟩ rfl).val
 subst hv
 exact⟨he,hk.below⟩
end
end Go.Ab
namespace Go.Ab
open Go Go.Proofs
abbrev eI(n:Int):AV:=.imm (.int .i64 n)
abbrev eB(b:Bool):AV:=.imm (.bool b)
abbrev eS(s:ByteArray):AV:=.imm (.string s)
abbrev eU8(n:Int):AV:=.imm (.int .u8 n)
structure Scope where
 atoms:List Int
 steps:Int
structure Srt where
 name:ByteArray
 ordered:Bool
structure Fld where
 name:ByteArray
 sorts:List Int
 var:Bool
structure Param where
 name:ByteArray
 sort:Int
inductive Nd where
 | mk (op:Int) (name:ByteArray) (n:Int) (kids:List Nd) (at_:Int)
structure Prd where
 name:ByteArray
 params:List Param
 body:Nd
structure Fct where
 name:ByteArray
 body:Nd
structure Spc where
 sorts:List Srt
 fields:List Fld
 preds:List Prd
 facts:List Fct
structure Rl where
 arity:Int
 tuples:List Int
structure Mdl where
 scope:Scope
 states:List (List Rl)
 loop:Int
def ints(l:List Int):AV:=.slice 1 (l.map eI)
def Scope.cs(s:Scope):List AV:=[ints s.atoms,eI s.steps]
def Scope.av(s:Scope):AV:=.agg s.cs
def Srt.av(s:Srt):AV:=.agg [eS s.name,eB s.ordered]
def Fld.av(f:Fld):AV:=.agg [eS f.name,ints f.sorts,eB f.var]
def Param.av(p:Param):AV:=.agg [eS p.name,eI p.sort]
mutual
def Nd.cs:Nd→List AV
 | .mk op name n kids a=>[eI op,eS name,eI n,.slice 5 (Nd.avs kids),eI a]
def Nd.avs:List Nd→List AV
 | []=>[]
 | x::r=>.agg (Nd.cs x)::Nd.avs r
end
def Nd.av(n:Nd):AV:=.agg n.cs
def Prd.av(p:Prd):AV:=.agg (eS p.name::.slice 2 (p.params.map Param.av)::p.body.cs)
def Fct.av(f:Fct):AV:=.agg (eS f.name::f.body.cs)
def Spc.cs(s:Spc):List AV:=[.slice 2 (s.sorts.map Srt.av),.slice 3 (s.fields.map Fld.av),.slice 7 (s.preds.map Prd.av),.slice 6 (s.facts.map Fct.av)]
def Spc.av(s:Spc):AV:=.agg s.cs
def Rl.cs(r:Rl):List AV:=[eI r.arity,ints r.tuples]
def Rl.av(r:Rl):AV:=.agg r.cs
def Mdl.cs(m:Mdl):List AV:=m.scope.cs++[.slice 1 (m.states.map fun l=>.slice 2 (l.map Rl.av)),eI m.loop]
def Mdl.av(m:Mdl):AV:=.agg m.cs
theorem Nd.avs_map:∀ l:List Nd,Nd.avs l=l.map Nd.av
 | []=>rfl
 | x::r=>by simp only[Nd.avs,List.map_cons,Nd.avs_map r,Nd.av]
def Nd.op:Nd→Int | .mk op _ _ _ _=>op
def Nd.name:Nd→ByteArray | .mk _ s _ _ _=>s
def Nd.n:Nd→Int | .mk _ _ n _ _=>n
def Nd.kids:Nd→List Nd | .mk _ _ _ k _=>k
def Nd.at_:Nd→Int | .mk _ _ _ _ a=>a
end Go.Ab
namespace Go.Ab
open Go Go.Proofs
set_option maxRecDepth 10000
def sumI(l:List Int):Int:=l.foldl (·+·) 0
def sortGo(i:Int):List Int→Int→Int
 | [],_=>-1
 | k::r,x=>if x<k then i else sortGo (i+1) r (x - k)
def small(l:List Int):Prop:=l.length≤4∧∀ k∈l,0≤k∧k≤5
theorem small.at{l:List Int}(h:small l){i:Nat}(hi:i<l.length):0≤l[i]∧l[i]≤5:=h.2 _ (List.getElem_mem hi)
theorem sumI_snoc(l:List Int){i:Nat}(hi:i<l.length):sumI (l.take (i+1))=sumI (l.take i)+l[i]:=by
 rw[List.take_succ_eq_append_getElem hi,sumI,sumI,List.foldl_append];rfl
theorem small.sum{l:List Int}(h:small l)(i:Nat)(hi:i≤l.length):0≤sumI (l.take i)∧sumI (l.take i)≤5*i:=by
 induction i with
 | zero=>simp[sumI]
 | succ i ih=>
  have h1:=h.at (show i<l.length by omega)
  have h2:=ih (by omega)
  rw[sumI_snoc l (by omega)]
  omega
theorem atoms07(s:Scope)(h:small s.atoms):AFun Tryz.prog 50 [s.av] (.p (eI (sumI s.atoms))):=by
 refine AFun.of hT Tryz.func50 rfl rfl (by simp) (AD.run hT hmix ?_)
 refine AD.loopI (fun i:Nat=>i≤s.atoms.length) (fun i=>s.atoms.length - i) (fun i=>[(1,.loc 1 0),(3,eint .i64 (sumI (s.atoms.take i))),(4,eint .i64 i)]) (fun _=>[(1,.box 30 (s.cs.map .p))]) 0 (Nat.zero_le _) .of fun i hi=>AD.run hT hmix ?_
 have hs:=h.sum i hi
 have hl:=h.1
 intro hlen
 simp only[List.length_map] at hlen ⊢
 refine bgs (fun hb=>?_) (fun hb=>?_)
 ·replace hb:=odt hb
  have ha:=h.at (show i<s.atoms.length by omega)
  refine igo_map i rfl (by omega) (ngo_in (by omega) (by omega) (ngo_in (by omega) (by omega) ?_))
  rw[← sumI_snoc s.atoms (by omega)]
  exact⟨i+1,by omega,by omega,.of⟩
 ·replace hb:=of_decide_eq_false hb
  obtain rfl:i=s.atoms.length:=by omega
  exact⟨_,_,rfl,rfl,by rw[List.take_length];rfl⟩
def Gate(f:FuncId)(ys:List AV)(F:Prop):Prop:=∃ b:Bool,(b=true→F)∧AFun Tryz.prog f ys (.p (eB b))
theorem Gate.of{f : FuncId}{fn : Func}{c : Code}{ys : List AV}{F : Prop}(hf : Tryz.prog.funcs[f]? = some fn)(hb : fn.body = some c)(hname : (fn.name == "runtime.NumGoroutine") = false)(hn : ys.length ≤ fn.ntmps)
 (hh:AD Tryz.prog fn.ntmps noH false c (FinQ T fn.results.toList fun y=>∃ b:Bool,y=.p (eB b)∧(b=true→F)) (mkEnv 0 ys) []):Gate f ys F:=by
 obtain⟨y,⟨b,rfl,h1⟩,h2⟩:=AFunE.intro hT hf hb hname hn ⟨_,false,rfl,by simp⟩ hh
 exact⟨b,h1,h2⟩
structure Perm11(s:Scope)(p:List Int):Prop where
 small:small s.atoms
 most:sumI s.atoms≤12
 len:(p.length:Int)=sumI s.atoms
 rng:∀ (i:Nat) (h:i<p.length),0≤p[i]∧p[i]<p.length
 sort:∀ (i:Nat) (h:i<p.length),sortGo 0 s.atoms p[i]=sortGo 0 s.atoms i
 inj:∀ (i k:Nat) (hi:i<p.length) (hk:k<i),p[k]≠p[i]
structure SizedP(s:Scope):Prop where
 small:small s.atoms
 pos:∀ k∈s.atoms,1≤k
 sum:sumI s.atoms≤12
 steps:1≤s.steps∧s.steps≤4
theorem sized05(s:Scope):Gate 163 [s.av] (SizedP s):=by
 refine Gate.of Tryz.func163 rfl rfl (by simp) (AD.run hT hmix ?_)
 have hl:(s.atoms.map eI).length=s.atoms.length:=List.length_map _
 intro _
 refine bgs (fun hb=>⟨_,_,rfl,rfl,false,rfl,by simp⟩) (fun hb=>bgs (fun hc=>⟨_,_,rfl,rfl,false,rfl,by simp⟩) (fun hc=>bgs (fun hd=>⟨_,_,rfl,rfl,false,rfl,by simp⟩) (fun hd=>?_)))
 replace hb:=of_decide_eq_false hb
 replace hc:=of_decide_eq_false hc
 replace hd:=of_decide_eq_false hd
 refine AD.loopI (fun i:Nat=>i≤s.atoms.length∧(∀ k∈s.atoms.take i,1≤k∧k≤5)∧0≤sumI (s.atoms.take i)∧sumI (s.atoms.take i)≤5*i) (fun i=>s.atoms.length - i) (fun i=>[(1,.loc 1 0),(3,eint .i64 (sumI (s.atoms.take i))),(4,eint .i64 i)]) (fun _=>[(1,.box 30 (s.cs.map .p))]) 0 ⟨Nat.zero_le _,by simp,Int.le_refl _,Int.le_refl _⟩ .of fun i ⟨hi,hk,h0,h5⟩=>AD.run hT hmix ?_
 intro _
 refine bgs (fun hb2=>?_) (fun hb2=>?_)
 ·replace hb2:=odt hb2
  have hlt:i<s.atoms.length:=by omega
  refine igo_map i rfl hlt (bgs (fun he=>⟨_,_,rfl,rfl,false,rfl,by simp⟩) (fun he=>igo_map i rfl hlt (bgs (fun hf=>⟨_,_,rfl,rfl,false,rfl,by simp⟩) (fun hf=>?_))))
  replace he:=of_decide_eq_false he
  replace hf:=of_decide_eq_false hf
  refine igo_map i rfl hlt (ngo_in (by omega) (by omega) (ngo_in (by omega) (by omega) ?_))
  have hsn:=sumI_snoc s.atoms hlt
  rw[← hsn]
  refine⟨i+1,⟨by omega,fun k hk'=>?_,by omega,by omega⟩,by omega,.of⟩
  rw[List.take_succ_eq_append_getElem hlt,List.mem_append] at hk'
  rcases hk' with hk' | hk'
  ·exact hk k hk'
  ·rw[List.mem_singleton] at hk';omega
 ·replace hb2:=of_decide_eq_false hb2
  obtain rfl:i=s.atoms.length:=by omega
  rw[List.take_length] at hk
  exact⟨_,_,rfl,rfl,_,rfl,fun h=>⟨⟨by omega,fun k hk'=>by have:=hk k hk';omega⟩,fun k hk'=>(hk k hk').1,by have:=odt h;rwa [List.take_length] at this,by omega,by omega⟩⟩
theorem valid05(sp:Spc)(s:Scope):Gate 99 [sp.av,s.av] (SizedP s∧sp.sorts.length=s.atoms.length):=by
 refine Gate.of Tryz.func99 rfl rfl (by simp) (AD.run hT hmix ?_)
 have hl:(s.atoms.map eI).length=s.atoms.length:=List.length_map _
 have hls:(sp.sorts.map Srt.av).length=sp.sorts.length:=List.length_map _
 obtain⟨b,hF,hU⟩:=sized05 s
 intro _ _
 refine bgs (fun hb=>.pure _ _ rfl hU ⟨_,_,rfl,rfl,_,rfl,fun h=>⟨hF h,?_⟩⟩) (fun hb=>⟨_,_,rfl,rfl,false,rfl,by simp⟩)
 have:((sp.sorts.map Srt.av).length:Int)=(s.atoms.map eI).length:=by simpa using hb
 omega
theorem first05(s:Scope)(h:small s.atoms)(k:Nat)(hk:k≤1000):AFun Tryz.prog 228 [s.av,eI k] (.p (eI (sumI (s.atoms.take k)))):=by
 refine AFun.of hT Tryz.func228 rfl rfl (by simp) (AD.run hT hmix ?_)
 have hl:(s.atoms.map eI).length=s.atoms.length:=List.length_map _
 have h4:=h.1
 refine AD.loopI (fun i:Nat=>i≤s.atoms.length∧i≤k) (fun i=>s.atoms.length - i) (fun i=>[(1,eint .i64 k),(2,.loc 2 0),(5,eint .i64 (sumI (s.atoms.take i))),(6,eint .i64 i)]) (fun _=>[(2,.box 30 (s.cs.map .p))]) 0 ⟨Nat.zero_le _,Nat.zero_le _⟩ .of fun i ⟨hi,hik⟩=>AD.run hT hmix ?_
 have hs:=h.sum i hi
 refine bgs (fun hb=>?_) (fun hb=>?_)
 ·replace hb:=odt hb
  intro _
  refine bgs (fun hc=>?_) (fun hc=>?_)
  ·replace hc:=odt hc
   have hlt:i<s.atoms.length:=by omega
   have ha:=h.at hlt
   refine igo_map i rfl hlt (ngo_in (by omega) (by omega) (ngo_in (by omega) (by omega) ?_))
   rw[← sumI_snoc s.atoms hlt]
   exact⟨i+1,⟨by omega,by omega⟩,by omega,.of⟩
  ·replace hc:=of_decide_eq_false hc
   obtain rfl:i=s.atoms.length:=by omega
   exact⟨_,_,rfl,rfl,by rw[List.take_length,List.take_of_length_le (by omega)];rfl⟩
 ·replace hb:=of_decide_eq_false hb
  obtain rfl:i=k:=by omega
  exact⟨_,_,rfl,rfl,rfl⟩
theorem atoms05(s:Scope)(h:small s.atoms):AFun Tryz.prog 176 [s.av] (.p (eI (sumI s.atoms))):=by
 refine AFun.of hT Tryz.func176 rfl rfl (by simp) (AD.run hT hmix ?_)
 have hl:(s.atoms.map eI).length=s.atoms.length:=List.length_map _
 intro _
 have hf:=first05 s h s.atoms.length (by have:=h.1;omega)
 rw[List.take_length] at hf
 exact .pure _ _ (by rw[hl];rfl) hf ⟨_,_,rfl,rfl,rfl⟩
theorem sort05(s:Scope)(h:small s.atoms)(x:Int)(hx:0≤x∧x≤1000):AFun Tryz.prog 177 [s.av,eI x] (.p (eI (sortGo 0 s.atoms x))):=by
 refine AFun.of hT Tryz.func177 rfl rfl (by simp) (AD.run hT hmix ?_)
 have hl:(s.atoms.map eI).length=s.atoms.length:=List.length_map _
 have h4:=h.1
 refine AD.loopI (fun i:Nat=>i≤s.atoms.length∧sumI (s.atoms.take i)≤x∧sortGo 0 s.atoms x=sortGo i (s.atoms.drop i) (x - sumI (s.atoms.take i))) (fun i=>s.atoms.length - i)
  (fun i=>[(1,eint .i64 x),(2,.loc 2 0),(5,eint .i64 i)]) (fun _=>[(2,.box 30 (s.cs.map .p))]) 0 ⟨Nat.zero_le _,hx.1,by show _=sortGo 0 s.atoms (x - 0);rw[Int.sub_zero]⟩ .of fun i ⟨hi,h1,h2⟩=>AD.run hT hmix ?_
 intro _
 refine bgs (fun hb=>?_) (fun hb=>?_)
 ·replace hb:=odt hb
  have hlt:i<s.atoms.length:=by omega
  have hsn:=sumI_snoc s.atoms hlt
  have hd:sortGo i (s.atoms.drop i) (x - sumI (s.atoms.take i))=if x - sumI (s.atoms.take i)<s.atoms[i] then (i:Int) else sortGo (i+1) (s.atoms.drop (i+1)) (x - sumI (s.atoms.take i) - s.atoms[i]):=by
   rw[List.drop_eq_getElem_cons hlt];rfl
  refine .pure _ _ rfl (first05 s h i (by omega)) (bgs (fun hc=>?_) (fun hc=>by have:=of_decide_eq_false hc;omega))
  refine ngo_in (by omega) (by omega) (.pure _ _ rfl (first05 s h (i+1) (by omega)) (bgs (fun he=>?_) (fun he=>?_)))
  ·replace he:=odt he
   rw[if_pos (by omega)] at hd
   exact⟨_,_,rfl,rfl,by rw[h2,hd];rfl⟩
  ·replace he:=of_decide_eq_false he
   rw[if_neg (by omega)] at hd
   refine ngo_in (by omega) (by omega) ⟨i+1,⟨by omega,by omega,?_⟩,by omega,.of⟩
   rw[h2,hd,hsn]
   show sortGo _ _ _=sortGo _ _ _
   rw[show x - sumI (s.atoms.take i) - s.atoms[i]=x - (sumI (s.atoms.take i)+s.atoms[i]) by omega];rfl
 ·replace hb:=of_decide_eq_false hb
  obtain rfl:i=s.atoms.length:=by omega
  exact⟨_,_,rfl,rfl,by rw[h2,List.drop_length];rfl⟩
theorem pow_most{N:Nat}(hN:N≤12){i:Nat}(hi:i≤3):N ^ i≤1728:=Nat.le_trans (Nat.pow_le_pow_left hN i) (Nat.pow_le_pow_right (by omega) hi)
theorem ranks05(s:Scope)(h:small s.atoms)(N:Nat)(hN:sumI s.atoms=N)(h12:N≤12)(k:Nat)(hk:k≤1000):AFun Tryz.prog 109 [s.av,eI k] (.p (eI ((N ^ min k 3:Nat)))):=by
 refine AFun.of hT Tryz.func109 rfl rfl (by simp) (AD.run hT hmix ?_)
 have hA:AFun Tryz.prog 176 [s.av] (.p (eI N)):=hN▸atoms05 s h
 refine AD.loopI (fun i:Nat=>i≤k∧i≤3) (fun i=>3 - i) (fun i=>[(1,eint .i64 k),(2,.loc 2 0),(5,eint .i64 ((N ^ i:Nat))),(6,eint .i64 i)]) (fun _=>[(2,.box 30 (s.cs.map .p))]) 0 ⟨Nat.zero_le _,Nat.zero_le _⟩ .of fun i ⟨hi,h3⟩=>AD.run hT hmix ?_
 refine bgs (fun hb=>?_) (fun hb=>?_)
 ·replace hb:=odt hb
  refine bgs (fun hc=>?_) (fun hc=>?_)
  ·replace hc:=odt hc
   have hp:=pow_most h12 (show i+1≤3 by omega)
   refine .pure _ _ rfl hA ⟨((N ^ (i+1):Nat)),?_,ngo_in (by omega) (by omega) ⟨i+1,⟨by omega,by omega⟩,by omega,.of⟩⟩
   rw[← Int.natCast_mul,show N ^ i*N=N ^ (i+1) from (Nat.pow_succ ..).symm]
   exact wrap64_in (by omega) (by omega)
  ·replace hc:=of_decide_eq_false hc
   obtain rfl:i=3:=by omega
   exact⟨_,_,rfl,rfl,by rw[Nat.min_eq_right hi];rfl⟩
 ·replace hb:=of_decide_eq_false hb
  obtain rfl:i=k:=by omega
  exact⟨_,_,rfl,rfl,by rw[Nat.min_eq_left h3];rfl⟩
def colsOk(atoms:List Int)(tuple sorts:List Int):Bool:=(List.range sorts.length).all fun i=>decide (sortGo 0 atoms (tuple.getD i 0)=sorts.getD i 0)
theorem fits05(s:Scope)(h:small s.atoms)(tuple sorts:List Int)(hl:sorts.length≤tuple.length)(ht:∀ x∈tuple,0≤x∧x≤1000):AFun Tryz.prog 111 [s.av,ints tuple,ints sorts] (.p (eB (colsOk s.atoms tuple sorts))):=by
 refine AFun.of hT Tryz.func111 rfl rfl (by simp) (AD.run hT hmix ?_)
 have hm:(sorts.map eI).length=sorts.length:=List.length_map _
 refine AD.loopI (fun i:Nat=>i≤sorts.length∧∀ j<i,sortGo 0 s.atoms (tuple.getD j 0)=sorts.getD j 0) (fun i=>sorts.length - i)
  (fun i=>[(1,.p (ints tuple)),(2,.p (ints sorts)),(3,.loc 3 0),(7,eint .i64 i)]) (fun _=>[(3,.box 30 (s.cs.map .p))]) 0 ⟨Nat.zero_le _,fun _ h=>by omega⟩ .of fun i ⟨hi,hg⟩=>AD.run hT hmix ?_
 intro hlen
 refine bgs (fun hb=>?_) (fun hb=>?_)
 ·replace hb:=odt hb
  have hlt:i<sorts.length:=by omega
  have htl:i<tuple.length:=by omega
  refine igo_map i rfl htl (.pure _ _ rfl (sort05 s h tuple[i] (ht _ (List.getElem_mem htl))) (igo_map i rfl hlt ⟨by kernel_rfl,bgs (fun hc=>?_) (fun hc=>?_)⟩))
  ·refine⟨_,_,rfl,rfl,?_⟩
   have hne:sortGo 0 s.atoms tuple[i]≠sorts[i]:=by simpa using hc
   have:colsOk s.atoms tuple sorts=false:=by
    rw[colsOk,List.all_eq_false]
    exact⟨i,by simpa using hlt,by simpa[List.getD_eq_getElem?_getD,htl,hlt] using hne⟩
   rw[this];rfl
  ·have he:sortGo 0 s.atoms tuple[i]=sorts[i]:=by simpa using hc
   refine ngo_in (by omega) (by omega) ⟨i+1,⟨by omega,fun j hj=>?_⟩,by omega,.of⟩
   by_cases hji:j=i
   ·subst hji;simpa[List.getD_eq_getElem?_getD,htl,hlt] using he
   ·exact hg j (by omega)
 ·replace hb:=of_decide_eq_false hb
  obtain rfl:i=sorts.length:=by omega
  refine⟨_,_,rfl,rfl,?_⟩
  have:colsOk s.atoms tuple sorts=true:=by
   rw[colsOk,List.all_eq_true]
   exact fun j hj=>decide_eq_true (hg j (by simpa using hj))
  rw[this];rfl
def digs(N k r:Nat):List Int:=(List.range k).map fun j=>((r / N ^ (k - 1 - j) % N:Nat):Int)
theorem flat_eI(l:List Int):flat (l.map eI)=l.map eI:=by
 induction l with
 | nil=>rfl
 | cons x r ih=>simp only[List.map_cons,flat,AV.cells,ih];rfl
theorem cells_eI{l:List Int}:∀ e∈l.map eI,e.cells.length=1:=fun e he=>by
 obtain⟨x,_,rfl⟩:=List.mem_map.1 he;rfl
theorem setSeg_eI(l:List Int)(n:Nat)(v:Int):setSeg ((l.map eI).map EV.p) (0+n*1) [.p (eI v)]=((l.set n v).map eI).map .p:=by
 simp[setSeg,List.map_set]
theorem tuple05(s:Scope)(h:small s.atoms)(N:Nat)(hN:sumI s.atoms=N)(h12:N≤12)(k:Nat)(hk:1≤k∧k≤3)(r:Nat)(hr:r<N ^ k):
 AFun Tryz.prog 110 [s.av,eI k,eI r] (.p (ints (digs N k r))):=by
 have hA:AFun Tryz.prog 176 [s.av] (.p (eI N)):=hN▸atoms05 s h
 have hR:=ranks05 s h N hN h12 k (by omega)
 rw[Nat.min_eq_left hk.2] at hR
 have hp:=pow_most h12 hk.2
 have h0:0<N:=by
  rcases Nat.eq_zero_or_pos N with h0 | h0
  ·subst h0;rw[Nat.zero_pow (by omega)] at hr;omega
  ·exact h0
 refine AFun.of hT Tryz.func110 rfl rfl (by simp) (AD.cut hT hmix 11 (fun xs:List Int=>xs.length=3∧∀ q,q<k→xs[q]?=some ((r / N ^ (k - 1 - q) % N:Nat):Int)) (fun xs=>[(1,eint .i64 k),(7,.p (ints xs))]) (fun _=>[]) ?_ fun xs ⟨hx,hq⟩=>AD.run hT hmix ?_)
 ·refine bgo_false (decide_eq_false (by omega)) (.pure _ _ rfl hR (bgo_false (decide_eq_false (by omega)) ?_))
  refine .arr 3 rfl rfl (by decide) (by decide) (.pure _ _ rfl hA (ngo_in (by omega) (by omega) ?_))
  refine AD.loopI (fun x:Nat×Nat×Int×List Int=>x.1≤k∧x.2.1=r / N ^ (k - x.1)∧x.2.2.1=(x.1:Int) - 1∧x.2.2.2.length=3∧∀ q,x.1≤q→q<k→x.2.2.2[q]?=some ((r / N ^ (k - 1 - q) % N:Nat):Int)) (fun x=>x.1)
   (fun x=>[(1,eint .i64 k),(7,.arr 1 28 0 3),(8,eint .i64 N),(9,eint .i64 (x.2.1:Nat)),(10,eint .i64 x.2.2.1)]) (fun x=>[(28,.box 3 ((x.2.2.2.map eI).map .p))])
   (k,r,k - 1,[0,0,0]) ⟨Nat.le_refl _,by simp,rfl,rfl,fun q h1 h2=>absurd h2 (Nat.not_lt.2 h1)⟩ .of fun ⟨j,m,i,xs⟩ ⟨g1,g4,g5,g2,g3⟩=>AD.run hT hmix ?_
  dsimp only at g1 g2 g3 g4 g5 ⊢
  have hmr:m≤r:=by rw[g4];exact Nat.div_le_self _ _
  refine bgs (fun hb=>?_) (fun hb=>?_)
  ·replace hb:=odt hb
   have hd:=Nat.div_le_self m N
   have hd0:(0:Int)≤((m / N:Nat):Int):=Int.natCast_nonneg _
   have hd2:m / N≤1728:=by omega
   have hd1:((m / N:Nat):Int)≤1728:=Int.ofNat_le.2 hd2
   refine⟨by omega,((m % N:Nat):Int),rfl,⟨j - 1,by omega,by omega,bgo_true (by simp[g2];exact⟨rfl,by omega⟩) ⟨by omega,((m / N:Nat):Int),wrap64_in (n:=((m / N:Nat):Int)) (Int.le_trans (by decide) hd0) (Int.le_trans hd1 (by decide)),ngo_in (by omega) (by omega) ?_⟩⟩⟩
   refine⟨(j - 1,m / N,i - 1,xs.set (j - 1) ((m % N:Nat):Int)),⟨?_,?_,?_,?_,?_⟩,?_,.of (h2:=⟨⟨rfl,.inr ⟨setSeg_eI ..,okL_p _ _⟩⟩,trivial⟩)⟩ <;> dsimp only
   ·omega
   ·rw[g4,Nat.div_div_eq_div_mul,← Nat.pow_succ];congr 2;omega
   ·omega
   ·simpa using g2
   ·intro q h1 h2
    by_cases hq:q=j - 1
    ·subst hq
     rw[List.getElem?_set_self (by omega),g4]
     congr 5;omega
    ·rw[List.getElem?_set_ne (by omega)]
     exact g3 q (by omega) h2
   ·omega
  ·replace hb:=of_decide_eq_false hb
   obtain rfl:j=0:=by omega
   exact⟨xs,⟨g2,fun q hq=>g3 q (Nat.zero_le _) hq⟩,.sealB 28 (hx:=toPs_p _) (h1:=⟨⟨.inl rfl,rfl⟩,⟨.inr (.inr (.inr (.inl ⟨_,_,rfl,.inr ⟨1,0,3,xs.map eI,rfl,rfl,by rw[flat_eI,List.drop_zero,List.take_of_length_le (by simp[g2])],cells_eI,by simp[g2]⟩⟩))),rfl⟩,trivial⟩) (h2:=trivial)⟩
 ·have hm:(xs.map eI).length=xs.length:=List.length_map _
  refine⟨0,k,rfl,rfl,by omega,by omega,?_⟩
  refine⟨_,_,rfl,rfl,?_⟩
  have:xs.take k=digs N k r:=by
   refine List.ext_getElem? fun q=>?_
   rw[List.getElem?_take,digs,List.getElem?_map]
   by_cases hqk:q<k
   ·rw[if_pos hqk,hq q hqk];simp[hqk]
   ·rw[if_neg hqk];simp[hqk]
  show _=EV.p (.slice 1 (((xs.map eI).drop 0).take (k - 0)))
  rw[List.drop_zero,Nat.sub_zero,← List.map_take,this];rfl
def fullT(atoms:List Int)(N:Nat)(sorts:List Int)(m:Nat):List Int:=((List.range m).filter fun r=>colsOk atoms (digs N sorts.length r) sorts).map fun r:Nat=>(r:Int)
theorem fullT_le(atoms:List Int)(N:Nat)(sorts:List Int)(m:Nat):(fullT atoms N sorts m).length≤m:=by
 rw[fullT,List.length_map]
 exact Nat.le_trans (List.length_filter_le _ _) (by simp)
theorem fullT_succ(atoms:List Int)(N:Nat)(sorts:List Int)(m:Nat):fullT atoms N sorts (m+1)=fullT atoms N sorts m++(if colsOk atoms (digs N sorts.length m) sorts then [(m:Int)] else []):=by
 rw[fullT,fullT,List.range_succ,List.filter_append,List.map_append]
 congr 1
 by_cases h:colsOk atoms (digs N sorts.length m) sorts=true <;> simp[h]
theorem digs_small{N k r:Nat}(h0:0<N)(h12:N≤12):∀ x∈digs N k r,0≤x∧x≤1000:=fun x hx=>by
 simp only[digs,List.mem_map] at hx
 obtain⟨j,_,rfl⟩:=hx
 have:=Nat.mod_lt (r / N ^ (k - 1 - j)) h0
 omega
theorem full05(s:Scope)(h:small s.atoms)(N:Nat)(hN:sumI s.atoms=N)(h0:0<N)(h12:N≤12)(sorts:List Int)(hk:1≤sorts.length∧sorts.length≤3)(hs:∀ x∈sorts,0≤x∧x<s.atoms.length):
 AFun Tryz.prog 58 [s.av,ints sorts] (.p (Rl.av ⟨sorts.length,fullT s.atoms N sorts (N ^ sorts.length)⟩)):=by
 have hR:=ranks05 s h N hN h12 sorts.length (by omega)
 rw[Nat.min_eq_left hk.2] at hR
 have hp:=pow_most h12 hk.2
 have hl:(sorts.map eI).length=sorts.length:=List.length_map _
 have hla:(s.atoms.map eI).length=s.atoms.length:=List.length_map _
 refine AFun.of hT Tryz.func58 rfl rfl (by simp) (AD.run hT hmix ?_)
 intro _
 refine bgo_false (decide_eq_false (by omega)) (bgo_false (decide_eq_false (by omega)) ?_)
 refine AD.loopI (fun i:Nat=>i≤sorts.length) (fun i=>sorts.length - i) (fun i=>[(1,.p (ints sorts)),(2,.loc 2 0),(4,.loc 4 0),(5,eint .i64 (sorts.map eI).length),(6,eint .i64 i)])
  (fun _=>[(2,.box 30 (s.cs.map .p)),(4,.box 50 [.p (eI 0),.full 1 []])]) 0 (Nat.zero_le _) .of fun i hi=>AD.run hT hmix ?_
 refine bgs (fun hb=>?_) (fun hb=>?_)
 ·replace hb:=odt hb
  have hlt:i<sorts.length:=by omega
  have hx:=hs _ (List.getElem_mem hlt)
  refine igo_map i rfl hlt (bgo_false (decide_eq_false (by omega)) (igo_map i rfl hlt ?_))
  intro _
  exact⟨by kernel_rfl,bgo_false (decide_eq_false (by omega)) (ngo_in (by omega) (by omega) ⟨i+1,by omega,by omega,.of⟩)⟩
 ·refine AD.loopI (fun x:Nat×List AV=>x.1≤N ^ sorts.length∧x.2=(fullT s.atoms N sorts x.1).map eI) (fun x=>N ^ sorts.length - x.1)
   (fun x=>[(1,.p (ints sorts)),(2,.loc 2 0),(4,.loc 4 0),(5,eint .i64 (sorts.map eI).length),(7,.loc 7 0),(8,eint .i64 (x.1:Nat))])
   (fun x=>[(2,.box 30 (s.cs.map .p)),(4,.box 50 [.p (eI 0),.full 1 []]),(7,.box 50 [eint .i64 (sorts.map eI).length,.own 1 x.2 61]),(61,.tail x.2.length)])
   (0,[]) ⟨Nat.zero_le _,rfl⟩ .of fun ⟨m,es⟩ ⟨g1,g2⟩=>AD.run hT hmix ?_
  dsimp only at g1 g2 ⊢
  have hfl:=fullT_le s.atoms N sorts m
  have hes:es.length≤m:=by rw[g2];simpa using hfl
  rw[hl]
  refine .pure _ _ rfl hR (bgs (fun hc=>?_) (fun hc=>?_))
  ·replace hc:=odt hc
   have hm:m<N ^ sorts.length:=by omega
   have hsucc:=fullT_succ s.atoms N sorts m
   refine .pure _ _ rfl (tuple05 s h N hN h12 sorts.length hk m hm) (.pure _ _ rfl (fits05 s h (digs N sorts.length m) sorts (by simp[digs]) (digs_small h0 h12)) (bgs (fun hd=>?_) (fun hd=>?_)))
   ·rw[if_pos hd] at hsucc
    refine⟨rfl,⟨by simp;omega,by simp;omega⟩,ngo_in (by omega) (by omega) ⟨(m+1,_),⟨by dsimp only;omega,?_⟩,by dsimp only;omega,.of⟩⟩
    dsimp only
    rw[hsucc,List.map_append,← g2];rfl
   ·rw[if_neg (by simp[hd])] at hsucc
    refine ngo_in (by omega) (by omega) ⟨(m+1,es),⟨by dsimp only;omega,?_⟩,by dsimp only;omega,.of⟩
    dsimp only
    rw[hsucc,List.append_nil,← g2]
  ·replace hc:=of_decide_eq_false hc
   obtain rfl:m=N ^ sorts.length:=by omega
   exact⟨_,_,rfl,rfl,by rw[g2];rfl⟩
structure Bnd where
 lower:Rl
 upper:Rl
def Bnd.av(b:Bnd):AV:=.agg (b.lower.cs++b.upper.cs)
structure ScopeOk(s:Scope)(N:Nat):Prop where
 small:small s.atoms
 sum:sumI s.atoms=N
 pos:0<N
 most:N≤12
structure FieldsOk(sp:Spc)(s:Scope):Prop where
 few:sp.fields.length≤6
 cols:∀ f∈sp.fields,(1≤f.sorts.length∧f.sorts.length≤3)∧∀ x∈f.sorts,0≤x∧x<s.atoms.length
def fullR(s:Scope)(N:Nat)(f:Fld):Rl:=⟨f.sorts.length,fullT s.atoms N f.sorts (N ^ f.sorts.length)⟩
def dflt(s:Scope)(N:Nat)(l:List Fld):List Bnd:=l.map fun f=>⟨⟨f.sorts.length,[]⟩,fullR s N f⟩
theorem default09(sp:Spc)(s:Scope)(N:Nat)(h:ScopeOk s N)(hf:FieldsOk sp s):AFun Tryz.prog 23 [sp.av,s.av] (.p (.slice 4 ((dflt s N sp.fields).map Bnd.av))):=by
 have hl:(sp.fields.map Fld.av).length=sp.fields.length:=List.length_map _
 have hfew:=hf.few
 refine AFun.of hT Tryz.func23 rfl rfl (by simp) (AD.run hT hmix ?_)
 refine AD.loopI (fun x:Nat×List AV=>x.1≤sp.fields.length∧x.2=(dflt s N (sp.fields.take x.1)).map Bnd.av) (fun x=>sp.fields.length - x.1)
  (fun x=>[(2,.loc 2 0),(3,.loc 3 0),(5,.own 4 x.2 5),(6,eint .i64 (x.1:Nat))])
  (fun x=>[(2,.box 27 (sp.cs.map .p)),(3,.box 30 (s.cs.map .p)),(5,.tail x.2.length)]) (0,[]) ⟨Nat.zero_le _,rfl⟩ .of fun ⟨i,es⟩ ⟨g1,g2⟩=>AD.run hT hmix ?_
 dsimp only at g1 g2 ⊢
 have hes:es.length=i:=by rw[g2];simp[dflt];omega
 intro _
 refine bgs (fun hb=>?_) (fun hb=>?_)
 ·replace hb:=odt hb
  have hlt:i<sp.fields.length:=by omega
  have hc:=hf.cols _ (List.getElem_mem hlt)
  refine igo_map i rfl hlt ?_
  intro _
  refine igo_map i rfl hlt (.pure _ _ rfl (full05 s h.small N h.sum h.pos h.most _ hc.1 hc.2) ⟨rfl,⟨by simp;omega,by simp;omega⟩,by kernel_rfl,ngo_in (by omega) (by omega) ⟨(i+1,_),⟨by dsimp only;omega,?_⟩,by dsimp only;omega,.of⟩⟩)
  dsimp only
  rw[List.take_succ_eq_append_getElem hlt,dflt,List.map_append,List.map_append,g2]
  congr 1
  show _=[Bnd.av _]
  simp only[Bnd.av,Rl.cs,fullR,List.length_map]
  rfl
 ·replace hb:=of_decide_eq_false hb
  obtain rfl:i=sp.fields.length:=by omega
  rw[List.take_length] at g2
  exact⟨_,_,rfl,rfl,by rw[g2];rfl⟩
theorem has06_nil(a x:Int):AFun Tryz.prog 227 [Rl.av ⟨a,[]⟩,eI x] (.p (eB false)):=by
 refine AFun.of hT Tryz.func227 rfl rfl (by simp) (AD.run hT hmix ?_)
 intro _
 refine AD.loopI (fun _:Unit=>True) (fun _=>0) (fun _=>[(1,.p (eI x)),(2,.loc 2 0),(5,eint .i64 0),(6,eint .i64 0)]) (fun _=>[(2,.box 50 [.p (eI a),.p (ints [])])]) () trivial .of fun _ _=>AD.run hT hmix ?_
 intro _
 exact⟨_,_,rfl,rfl,rfl⟩
theorem diff06_one(a b t:Int):AFun Tryz.prog 175 [Rl.av ⟨a,[t]⟩,Rl.av ⟨b,[]⟩] (.p (Rl.av ⟨a,[t]⟩)):=by
 refine AFun.of hT Tryz.func175 rfl rfl (by simp) (AD.run hT hmix ?_)
 refine AD.loopI (fun i:Nat=>i≤1) (fun i=>1 - i) (fun i=>[(2,.loc 2 0),(3,.loc 3 0),(4,.loc 4 0),(5,.loc 5 0),(6,eint .i64 i)])
  (fun i=>[(2,.box 50 [.p (eI a),.p (ints [t])]),(3,.box 50 [.p (eI b),.p (ints [])]),(4,.box 50 [.p (eI 0),.full 1 []]),(5,.box 50 [.p (eI a),.own 1 (([t].take i).map eI) 61]),(61,.tail (([t].take i).map eI).length)]) 0 (Nat.zero_le _) .of fun i hi=>AD.run hT hmix ?_
 intro _
 refine bgs (fun hb=>?_) (fun hb=>?_)
 ·replace hb:=odt hb
  obtain rfl:i=0:=by simp at hb;omega
  refine⟨0,eI t,rfl,rfl,.pure _ _ rfl (has06_nil b t) ⟨by kernel_rfl,⟨0,eI t,rfl,rfl,⟨rfl,⟨by simp,by simp⟩,by kernel_rfl,ngo_in (by omega) (by omega) ⟨1,Nat.le_refl _,by omega,.of⟩⟩⟩⟩⟩
 ·replace hb:=of_decide_eq_false hb
  obtain rfl:i=1:=by simp at hb;omega
  exact⟨_,_,rfl,rfl,rfl⟩
theorem in06_nil(a b t:Int):AFun Tryz.prog 108 [Rl.av ⟨a,[t]⟩,Rl.av ⟨b,[]⟩] (.p (eB false)):=by
 refine AFun.of hT Tryz.func108 rfl rfl (by simp) (AD.run hT hmix ?_)
 refine .pure _ _ rfl (diff06_one a b t) ?_
 intro _
 exact⟨_,_,rfl,rfl,rfl⟩
end Go.Ab
namespace Go.Ab
open Go Go.RowKit
abbrev tt:AV:=.imm (.bool true)
abbrev dE:AV×AV:=(tt,tt)
theorem range_map{l:List (AV×AV)}:(List.range l.length).map (fun i=>l.getD i dE)=l:=by
 refine List.ext_getElem? fun i=>?_
 rw[List.getElem?_map]
 by_cases h:i<l.length
 ·rw[List.getElem?_range h];simp[h]
 ·rw[List.getElem?_eq_none (by simpa using h),List.getElem?_eq_none (by omega)];rfl
theorem born_lt{ents:Array MapEntry}{clk:Nat}(hb:Born ents clk){i j:Nat}(hi:i<ents.size)(hj:j<ents.size)(h:ents[i].born=ents[j].born):i=j:=by
 have hp:=List.pairwise_iff_getElem.1 hb.2
 rcases Nat.lt_trichotomy i j with h1 | h1 | h1
 ·have:=hp i j (by simpa using hi) (by simpa using hj) h1
  simp at this;omega
 ·exact h1
 ·have:=hp j i (by simpa using hj) (by simpa using hi) h1
  simp at this;omega
theorem IterIs.next{P:Program}{fz:Fz}{w:World}(hz:∀ b o v,fz b o=some v→w.pk b o=some v){b:Nat}{kp:KP}{tot done:List (AV×AV)}(h:IterIs fz w b ((.mp kp tot,tt)::done))(ty:TypeId):
 (done.Perm tot∧(Instr.next (.pointer (some ⟨b,0,none⟩)) false ty).run P w=.ok (.tuple #[.bool false]) w) ∨
 ∃ x rest vk vv w',(x::done++rest).Perm tot∧Rep fz vk x.1∧Rep fz vv x.2∧(Instr.next (.pointer (some ⟨b,0,none⟩)) false ty).run P w=.ok (.tuple #[.bool true,vk,vv]) w'∧(∀ j,j≠b→w'.heap[j]?=w.heap[j]?)∧Kept (fun j=>j=b) w w'∧IterIs fz w' b ((.mp kp tot,tt)::x::done):=by
 obtain⟨kp',tot',idxs,m,ents,clk,es0,seen,a1,a2,a3,hb,a5,a6,a7,a8,a9,c1,c2,c3⟩:=h
 simp only[List.cons.injEq,Prod.mk.injEq,AV.mp.injEq,and_true] at a1
 obtain⟨⟨rfl,rfl⟩,rfl⟩:=a1
 have hobj:=pk_map (hz _ _ _ a3)
 have hseen:∀ x,x∈seen.toList↔∃ i∈idxs,(ents.toList.map (·.born)).getD i 0=x:=fun x=>by
  rw[← List.mem_reverse,c1,List.mem_map]
 have hold:∀ x∈ents.toList,x.born<clk:=hb.1
 rcases run_next_at (P:=P) w ty b m clk clk seen ents clk a2 hobj hold (Nat.le_refl _) with ⟨h1,h2⟩ | ⟨e,he,w1,hw1,h2⟩
 ·refine .inl ⟨?_,h2⟩
  have hall:∀ i,i<es0.length→i∈idxs:=fun i hi=>by
   have hi2:i<ents.size:=by omega
   have hnl:ents[i]∉(leftOf ents seen).toList:=by
    have:(leftOf ents seen).toList=[]:=by
     have:=h1
     rw[← Array.length_toList] at this
     exact List.eq_nil_of_length_eq_zero this
    rw[this];simp
   have hin:ents[i].born∈seen.toList:=by
    simp only[leftOf,Array.toList_filter,List.mem_filter,Array.mem_toList_iff,Array.getElem_mem,true_and,Bool.not_eq_true',Array.contains_eq_mem,decide_eq_false_iff_not,Decidable.not_not] at hnl
    simpa using hnl
   obtain⟨j,hj,hjb⟩:=(hseen _).1 hin
   have hjl:j<ents.size:=by have:=a9 j hj;omega
   have:ents[j].born=ents[i].born:=by simpa[hjl] using hjb
   rw[← born_lt hb hjl hi2 this];exact hj
  have:idxs.Perm (List.range es0.length):=(List.perm_ext_iff_of_nodup a8 List.nodup_range).2 fun i=>by
   rw[List.mem_range];exact⟨fun h=>a9 i h,fun h=>hall i h⟩
  exact((this.map _).trans (by rw[range_map])).trans a6
 ·right
  simp only[leftOf,Array.toList_filter,List.mem_filter,Bool.not_eq_true',Array.contains_eq_mem,decide_eq_false_iff_not] at he
  obtain⟨he1,he2⟩:=he
  obtain⟨i,hi,rfl⟩:=List.mem_iff_getElem.1 he1
  have hi2:i<ents.size:=by simpa using hi
  have hi3:i<es0.length:=by omega
  simp only[Array.getElem_toList] at he2 h2
  have hni:i∉idxs:=fun hm=>he2 (by
   have:ents[i].born∈seen.toList:=(hseen _).2 ⟨i,hm,by simp[hi2]⟩
   simpa using this)
  have hbw:b<w.heap.size:=lt_of_heap a2
  have hw1h:w1.heap=w.heap:=by rcases hw1 with rfl | rfl <;> rfl
  have hk1:Kept (fun _=>False) w w1:=by rcases hw1 with rfl | rfl;exact Kept.refl _ _;exact Kept.drew _ _
  have hoth:∀ j,j≠b→(ChangeMaps.setBlock w1 b (.mapIter (some m) clk (seen.push ents[i].born) clk)).heap[j]?=w.heap[j]?:=fun j hj=>by
   simp[ChangeMaps.setBlock,hw1h,Ne.symm hj]
  refine⟨es0[i],((List.range es0.length).filter (fun j=>!(i::idxs).contains j)).map (fun j=>es0.getD j dE),ents[i].key,ents[i].val,_,?_,c2 i _ _ (by simp[hi2]) (by simp[hi3]),c3 i _ _ (by simp[hi2]) (by simp[hi3]),h2,hoth,?_,?_⟩
  ·have e1:es0[i]::idxs.map (fun i=>es0.getD i dE)++((List.range es0.length).filter (fun j=>!(i::idxs).contains j)).map (fun j=>es0.getD j dE)=((i::idxs)++(List.range es0.length).filter (fun j=>!(i::idxs).contains j)).map (fun j=>es0.getD j dE):=by
    rw[List.map_append,List.map_cons];simp[hi3]
   rw[e1]
   have:((i::idxs)++(List.range es0.length).filter (fun j=>!(i::idxs).contains j)).Perm (List.range es0.length):=by
    refine(List.perm_ext_iff_of_nodup ?_ List.nodup_range).2 fun j=>?_
    ·rw[List.nodup_append]
     refine⟨List.nodup_cons.2 ⟨hni,a8⟩,List.nodup_range.filter _,fun a ha c hc=>?_⟩
     rintro rfl
     simp only[List.mem_filter,Bool.not_eq_true',List.contains_eq_mem,decide_eq_false_iff_not] at hc
     exact hc.2 ha
    ·simp only[List.mem_append,List.mem_filter,List.mem_range,Bool.not_eq_true',List.contains_eq_mem,decide_eq_false_iff_not]
     constructor
     ·rintro (h | h)
      ·rcases List.mem_cons.1 h with rfl | h
       ·exact hi3
       ·exact a9 j h
      ·exact h.1
     ·intro h
      by_cases hm:j∈i::idxs
      ·exact .inl hm
      ·exact .inr ⟨h,hm⟩
   exact((this.map _).trans (by rw[range_map])).trans a6
  ·refine(hk1.mono fun _ _ h=>h.elim).trans (Y:=fun j=>j=b) ?_ (fun _ _ h=>h)
   exact⟨rfl,rfl,rfl,by simp[ChangeMaps.setBlock],fun k hk hx=>by simp[ChangeMaps.setBlock,Ne.symm (show k≠b from hx)]⟩
  ·refine⟨kp,tot,i::idxs,m,ents,clk,es0,seen.push ents[i].born,by simp[hi3],?_,a3,hb,a5,a6,a7,List.nodup_cons.2 ⟨hni,a8⟩,fun j hj=>?_,?_,c2,c3⟩
   ·simp[ChangeMaps.setBlock,hw1h,hbw]
   ·rcases List.mem_cons.1 hj with rfl | hj
    ·exact hi3
    ·exact a9 j hj
   ·simp[c1,hi2]
theorem WInv.setIter{g H w}(h:WInv g H w){k:Nat}{es es':List (AV×AV)}(hk:H k=.map .iter es){w':World}(hw:∀ b,b≠g.blk k→w'.heap[b]?=w.heap[b]?)(hn:IterIs g.fz w' (g.blk k) es'):
 WInv g (upd H k (.map .iter es')) w'∧GLe g H g (upd H k (.map .iter es')):=by
 have hle:GLe g H g (upd H k (.map .iter es')):=by
  refine⟨FzLe.refl _,fun j u ds hj=>.inr ⟨rfl,rfl,ds,?_,rfl⟩,fun j hj=>?_,fun j m hj=>⟨m,?_,Nat.le_refl _,fun _=>⟨rfl,rfl,rfl⟩⟩,fun j kp' es0 hj=>.inr ⟨rfl,?_⟩⟩
  ·by_cases hjk:j=k
   ·subst hjk;rw[hk] at hj;cases hj
   ·rw[upd_ne hjk];exact hj
  ·by_cases hjk:j=k
   ·subst hjk;rw[hk] at hj;cases hj
   ·rw[upd_ne hjk];exact hj
  ·by_cases hjk:j=k
   ·subst hjk;rw[hk] at hj;cases hj
   ·rw[upd_ne hjk];exact hj
  ·by_cases hjk:j=k
   ·subst hjk;rw[hk] at hj;cases hj;exact⟨es',by simp⟩
   ·exact⟨es0,by rw[upd_ne hjk];exact hj⟩
 have hob:=h.obj k
 rw[hk] at hob
 have hB:∀ j b,Bset g j (upd H k (.map .iter es') j) b→Bset g j (H j) b:=fun j b hb=>by
  by_cases hjk:j=k
  ·subst hjk;rw[upd_same] at hb;rw[hk];exact hb
  ·rwa [upd_ne hjk] at hb
 refine⟨⟨fun b o v hz=>?_,fun j=>?_,fun i j b h1 h2=>h.inj i j b (hB i b h1) (hB j b h2)⟩,hle⟩
 ·have hne:b≠g.blk k:=fun e=>by rw[e,hob.2] at hz;cases hz
  rw[pk_congr (hw b hne)];exact h.fz b o v hz
 ·by_cases hjk:j=k
  ·subst hjk;rw[upd_same];obtain⟨_,_,_,_,_,_,_,_,_,hx,_⟩:=id hn;exact⟨⟨fun e=>absurd rfl e,fun _=>hn,_,hx⟩,hob.2⟩
  ·rw[upd_ne hjk]
   exact(h.obj j).mono hle rfl rfl rfl (fun b hb=>hw b fun e=>hjk (h.inj j k b hb (by rw[hk];exact e))) fun _ _ _=>rfl
def nextB(ops:Array Oper)(it tn t:Nat):Bool:=
 match ops.toList with
 | [o1,o2]=>
  (match o1.dst,o1.op,o1.guard with | some a,.next (.tmp x) false,none=>Nat.beq a tn&&Nat.beq x it | _,_,_=>false) &&
  (match o2.dst,o2.op,o2.guard with | some b,.extract (.tmp y) 0,none=>Nat.beq b t&&Nat.beq y tn | _,_,_=>false)
 | _=>false
theorem nextB_out{ops:Array Oper}{it tn t:Nat}(h:nextB ops it tn t=true):∃ o1 o2,ops=#[o1,o2]∧o1.dst=some tn∧o1.op=.next (.tmp it) false∧o1.guard=none∧o2.dst=some t∧o2.op=.extract (.tmp tn) 0∧o2.guard=none:=by
 unfold nextB at h
 split at h
 ·rename_i o1 o2 ho
  rw[Bool.and_eq_true] at h
  obtain⟨h1,h2⟩:=h
  split at h1
  ·rename_i a x q1 q2 q3
   split at h2
   ·rename_i b y q4 q5 q6
    rw[Bool.and_eq_true] at h1 h2
    obtain⟨e1,e2⟩:=h1
    obtain⟨e3,e4⟩:=h2
    have e1:=nbt e1
    have e2:=nbt e2
    have e3:=nbt e3
    have e4:=nbt e4
    subst e1;subst e2;subst e3;subst e4
    exact⟨o1,o2,Array.ext' ho,q1,q2,q3,q4,q5,q6⟩
   ·cases h2
  ·cases h1
 ·cases h
theorem wpOps_one{P:Program}{F:Fence}{n:Nat}{ops:Array Oper}{Q:Exit→Act→World→Prop}{i:Nat}{rest:List Nat}{o:Oper}{a:Act}{w:World}(ho:ops[i]?=some o)(hg:o.guard=none)(h:o.wpIn F n P a w (wpOpsIn F n P ops Q rest) Q):wpOpsIn F n P ops Q (i::rest) a w:=by
 simp only[wpOpsIn,ho,Region.wanted,hg,if_true]
 exact h
theorem AW.next{P:Program}{Γ:Ctx}{K:Kc}{env:Env}{h:AHp}{id it tn t k:Nat}{ops:Array Oper}(hops:nextB ops it tn t=true)(hN1:tn<Γ.ntmps)(hN2:t<Γ.ntmps){kp:KP}{tot done:List (AV×AV)}(h1:lk env it=.mtok k)(h2:hp h k=.map .iter ((.mp kp tot,tt)::done))
 (hend:done.Perm tot→K .normal ((t,ebool false)::(tn,.tup [ebool false])::env) h)
 (hstep:∀ x rest,(x::done++rest).Perm tot→K .normal ((t,ebool true)::(tn,.tup [ebool true,.p x.1,.p x.2])::env) ((k,.map .iter ((.mp kp tot,tt)::x::done))::h)):AW P Γ (.region id ops false) K env h:=by
 obtain⟨o1,o2,rfl,d1,p1,g1,d2,p2,g2⟩:=nextB_out hops
 refine⟨fun g a w hs nn=>wpIn_region ?_⟩
 have hob:=hs.inv.obj k
 rw[h2] at hob
 have hit:=hs.tmps it
 rw[h1] at hit
 have hv:a.eval (.tmp it)=.pointer (some ⟨g.blk k,0,none⟩):=by
  show a.tmps.getD it undef=_
  generalize a.tmps.getD it undef=u at hit
  cases hit with
  | mtok _ r' hr'=>
   rcases hr' with h0 | ⟨rfl,kp',_,hn,h0⟩
   ·rw[h2] at h0;cases h0
   ·rw[h2] at h0;exact absurd (AObj.map.inj h0).1.symm hn
  | itok _ r' hr'=>
   rcases hr' with h0 | ⟨rfl,_,_⟩
   ·rw[h2] at h0;cases h0
   ·rfl
 have fin:∀ (b:Bool) (vs:List Value) (es:List EV) (h':AHp) (w':World),GLe g (hp h) g (hp h')→WInv g (hp h') w'→Fr ⟨w,g,hp h,0,[],none⟩ g (hp h') w'→vs.length=es.length→(∀ (i:Nat) v x,vs[i]?=some v→es[i]?=some x→ERep g (hp h') v x) →
  K .normal ((t,ebool b)::(tn,.tup (ebool b::es))::env) h'→wpOpsIn Γ.F nn P #[o1,o2] (Real Γ K) [1] (a.put (some tn) (.tuple (Value.bool b::vs).toArray)) w':=fun b vs es h' w' l1 l2 l3 hl hr hK=>by
  have htup:ERep g (hp h') (.tuple (Value.bool b::vs).toArray) (.tup (ebool b::es)):=.tup _ _ (by simp[hl]) fun i v x hv hx=>by
   cases i with
   | zero=>simp at hv hx;subst hv;subst hx;exact .p _ _ (.imm _ rfl)
   | succ i=>exact hr i v x (by simpa using hv) (by simpa using hx)
  have hs1:=hs.put (d:=some tn) (fun s e=>by cases e;exact hN1) l1 l2 l3 htup
  have hev:(a.put (some tn) (.tuple (Value.bool b::vs).toArray)).eval (.tmp tn)=.tuple (Value.bool b::vs).toArray:=by
   have:tn<a.tmps.size:=by rw[hs.size];exact hN1
   show(a.tmps.setIfInBounds tn _).getD tn undef=_
   simp[this]
  have hs2:=hs1.put (d:=some t) (v:=.bool b) (x:=ebool b) (fun s e=>by cases e;exact hN2) (GLe.refl _ _) l2 (Fr.start g (hp h') w' 0 [] none) (.p _ _ (.imm _ rfl))
  have hrun:(execOp (a.put (some tn) (.tuple (Value.bool b::vs).toArray)).eval o2).run P w'=.ok (.value (.bool b)) w':=by
   simp only[execOp,p2,hev]
   simp[Instr.extract]
  refine wpOps_one (o:=o2) rfl g2 (toIn (fun c hc=>by rw[p2] at hc;cases hc) ?_)
  unfold Oper.wp
  rw[hrun]
  show wpOpsIn Γ.F nn P #[o1,o2] (Real Γ K) [] (Act.put _ o2.dst _) w'
  rw[d2]
  refine⟨.normal,_,h',g,trivial,hK,?_⟩
  have e:lk ((t,ebool b)::(tn,.tup (ebool b::es))::env)=putF (some t) (ebool b) (putF (some tn) (.tup (ebool b::es)) (lk env)):=by
   funext s
   simp only[lk_cons,putF,upd]
  rw[e]
  exact hs2
 have hr2:List.range (#[o1,o2]:Array Oper).size=[0,1]:=rfl
 rw[hr2]
 refine wpOps_one (o:=o1) rfl g1 (toIn (fun c hc=>by rw[p1] at hc;cases hc) ?_)
 unfold Oper.wp
 have hex:∀ r,(Instr.next (.pointer (some ⟨g.blk k,0,none⟩)) false o1.type).run P w=r→(execOp a.eval o1).run P w=r.andThen fun v w'=>.ok (.value v) w':=fun r hr=>by
  simp only[execOp,p1,hv,Sem.run_bind,hr]
  rfl
 rcases (hob.1.2.1 rfl).next (P:=P) hs.inv.fz o1.type with ⟨hp1,hrun⟩ | ⟨x,rest,vk,vv,w',q1,q2,q3,hrun,q4,q5,q6⟩
 ·rw[hex _ hrun]
  show wpOpsIn Γ.F nn P #[o1,o2] (Real Γ K) [1] (Act.put _ o1.dst _) w
  rw[d1]
  exact fin false [] [] h w (GLe.refl _ _) hs.inv (Fr.start g (hp h) w 0 [] none) rfl (by intro i v x hv;simp at hv) (hend hp1)
 ·rw[hex _ hrun]
  show wpOpsIn Γ.F nn P #[o1,o2] (Real Γ K) [1] (Act.put _ o1.dst _) w'
  rw[d1]
  have hw:=hs.inv.setIter h2 q4 q6
  have eH:hp ((k,.map .iter ((.mp kp tot,tt)::x::done))::h)=upd (hp h) k (.map .iter ((.mp kp tot,tt)::x::done)):=by
   funext j;rw[hp_cons];simp[upd]
  refine fin true [vk,vv] [.p x.1,.p x.2] ((k,.map .iter ((.mp kp tot,tt)::x::done))::h) w' (by rw[eH];exact hw.2) (by rw[eH];exact hw.1) (by rw[eH];exact(Fr.start g (hp h) w 0 [] none).setMap h2 q5) rfl (fun i v y hv hy=>?_) (hstep x rest q1)
  cases i with
  | zero=>simp at hv hy;subst hv;subst hy;exact .p _ _ q2
  | succ i=>cases i with
   | zero=>simp at hv hy;subst hv;subst hy;exact .p _ _ q3
   | succ i=>simp at hv
theorem AW.subEnd{P:Program}{Γ:Ctx}{K:Kc}{env:Env}{h:AHp}{c:Code}(hh:AW P Γ c (fun e en hh=>∃ en' hh',Sub Γ en hh en' hh'∧K e en' hh') env h):AW P Γ c K env h:=
 ⟨fun g a w hs nn=>wpIn_mono (hh.out g a w hs nn) fun e a' w' ⟨ae,env1,h1,g1,he,⟨en',hh',hsub,hk⟩,hs'⟩=>let ⟨g2,hs2⟩:=hsub g1 a' w' hs';⟨ae,en',hh',g2,he,hk,hs2⟩⟩
theorem Live.goes{P:Program}{N:Nat}{O:Hp}{ro:Bool}{c:Code}{env env':Env}{h h':AHp}{ae:AExit}(hl:Live N O ro env h)(hg:Goes P N O ro c env h ae env' h'):Live N O ro env' h':=by
 obtain⟨Γ,g,a,w,hc,hr⟩:=hl
 obtain⟨e,a',w',⟨ae',en,hh,g',he,⟨rfl,rfl,rfl⟩,hs⟩,_⟩:=(hg Γ hc (fun e en hh=>e=ae∧en=env'∧hh=h') ⟨rfl,rfl,rfl⟩).out g a w hr 0 { (default:Frame) with roundOf:=Γ.rd } [] [] rfl trivial (fun _ h=>by simp[Ctx.F,fenceOf,Fence.wide] at h)
 exact⟨Γ,g',a',w',hc,hs⟩
theorem AD.toAW{P:Program}{N:Nat}{O:Hp}{ro:Bool}{c:Code}{Q:Kc}{env:Env}{h:AHp}(hh:AD P N O ro c Q env h){Γ:Ctx}(hc:CtxR N O ro Γ){K:Kc}(hK:∀ e en hh,Q e en hh→K e en hh):AW P Γ c K env h:=
 ⟨fun g a w hs nn=>let ⟨ae,e1,h1,hq,_,hg⟩:=hh.out ⟨Γ,g,a,w,hc,hs⟩;(hg Γ hc K (hK _ _ _ hq)).out g a w hs nn⟩
theorem AD.mapLoop{P:Program}{T:Tab}{N:Nat}{O:Hp}{ro:Bool}{Q:Kc}{env:Env}{h:AHp}{id it tn t bid k:Nat}{ops:Array Oper}{body:Code}{kp:KP}{tot:List (AV×AV)}(E:List (AV×AV)→Env)(H:List (AV×AV)→AHp)(env':Env)(h':AHp)
 (h0:SubAll N O env h (E []) (H []))
 (hend:∀ done,done.Perm tot→SubAll N O ((t,ebool false)::(tn,.tup [ebool false])::E done) (H done) env' h')(hQ:Q (.exit bid) env' h')
 (hstep:∀ done x rest,(x::done++rest).Perm tot→AD P N O ro body (AExit.thn (fun env1 h1=>SubAll N O env1 h1 (E (x::done)) (H (x::done))) (fun _ _ _=>False)) ((t,ebool true)::(tn,.tup [ebool true,.p x.1,.p x.2])::E done) ((k,.map .iter ((.mp kp tot,tt)::x::done))::H done))
 (hops:nextB ops it tn t=true:=by rfl)(hN1:Nat.blt tn N=true:=by rfl)(hN2:Nat.blt t N=true:=by rfl)
 (hE:∀ done,lk (E done) it=.mtok k:=by intro _;rfl)(hH:∀ done,hp (H done) k=.map .iter ((.mp kp tot,tt)::done):=by intro _;rfl):
 AD P N O ro (.loop (.seq (.region id ops false) (.seq (.cond (.tmp t) .skip (.exit bid)) body))) Q env h:=by
 have hn1:tn<N:=Nat.le_of_ble_eq_true hN1
 have hn2:t<N:=Nat.le_of_ble_eq_true hN2
 have goes:Goes P N O ro (.loop (.seq (.region id ops false) (.seq (.cond (.tmp t) .skip (.exit bid)) body))) env h (.exit bid) env' h':=by
  intro Γ hc K hK
  refine AW.loop (fun n en hh=>∃ done rest,n=tot.length - done.length∧(done++rest).Perm tot∧en=E done∧hh=H done) ⟨_,_,_,h0 Γ hc.toCtxOk,[],tot,rfl,List.Perm.refl _,rfl,rfl⟩ ?_
  rintro n en hh ⟨done,rest,rfl,hp,rfl,rfl⟩
  refine AW.seq (AW.next hops (by rw[hc.n];exact hn1) (by rw[hc.n];exact hn2) (hE done) (hH done) (fun hd=>?_) fun x more hx=>?_)
  ·show AW P Γ (.seq (.cond (.tmp t) .skip (.exit bid)) body) _ _ _
   refine AW.seq (AW.cond (T:=([]:Tab)) (b:=false) ?_ (AW.subEnd (AW.exit ⟨env',h',hend done hd Γ hc.toCtxOk,hK⟩)))
   show lk _ t=_
   rw[lk_cons,if_pos rfl]
  ·show AW P Γ (.seq (.cond (.tmp t) .skip (.exit bid)) body) _ _ _
   refine AW.seq (AW.cond (T:=([]:Tab)) (b:=true) ?_ (AW.skip ?_))
   ·show lk _ t=_
    rw[lk_cons,if_pos rfl]
   ·show AW P Γ body _ _ _
    refine(hstep done x more hx).toAW hc fun e en hh hq=>?_
    cases e with
    | normal=>
     have hl:=hx.length_eq
     simp only[List.length_append,List.length_cons] at hl
     exact⟨tot.length - (x::done).length,_,_,by simp only[List.length_cons];omega,hq Γ hc.toCtxOk,x::done,more,rfl,hx,rfl,rfl⟩
    | exit i=>exact hq.elim
    | ret=>exact hq.elim
 exact⟨fun hl=>⟨.exit bid,env',h',hQ,hl.goes goes,goes⟩⟩
abbrev xk:Nat:=90000
def yv(l:Nat):AV:=.fn (.yield l) [] []
def IterP(P:Program)(f:FuncId)(first caps:List AV)(items:List (List AV)):Prop:=
 callable P f∧∀ (l:Nat) (J:Nat→Ext) (stop:Nat) (fin:Bool),stop≤items.length→(fin=true→stop=items.length)→(fin=false→0<stop) →
  (∀ i xs,i<stop→items[i]?=some xs→YFun P l xs (J i) (fin||Nat.blt (i+1) stop) (J (i+1))) →
  EFun P f ((first++yv l::caps).map .p) [(xk,.ext (J 0))] (.tup []) [(xk,.ext (J stop))]
def frE(h:AHp):EV→Bool
 | .own _ _ _=>false
 | .loc k _=>(match hp h k with | .box _ _=>true | _=>false)
 | .arr _ k _ _=>(match hp h k with | .box _ _=>true | _=>false)
 | .mtok k=>(match hp h k with | .map _ _=>true | _=>false)
 | .agg cs=>frL h cs
 | .fn _ a b=>frL h a&&frL h b
 | .tup cs=>frL h cs
 | _=>true
where frL (h:AHp):List EV→Bool
 | []=>true
 | x::r=>frE h x&&frL h r
theorem frL_mem{h:AHp}:∀ {l:List EV},frE.frL h l=true→∀ x∈l,frE h x=true
 | [],_,x,hx=>by cases hx
 | a::r,hl,x,hx=>by
  simp only[frE.frL,Bool.and_eq_true] at hl
  rcases List.mem_cons.1 hx with rfl | hx
  ·exact hl.1
  ·exact frL_mem hl.2 x hx
def frEnv(h:AHp):Env→Bool
 | []=>true
 | (_,x)::r=>frE h x&&frEnv h r
theorem frEnv_at{h:AHp}:∀ {l:Env},frEnv h l=true→∀ t,frE h (lk l t)=true
 | [],_,t=>rfl
 | (j,x)::r,hl,t=>by
  simp only[frEnv,Bool.and_eq_true] at hl
  rw[lk_cons]
  by_cases ht:t=j
  ·rw[if_pos ht];exact hl.1
  ·rw[if_neg ht];exact frEnv_at hl.2 t
theorem ERep.fr{w0 g0 n ds ro g' H' w'}{h0:AHp}(hf:Fr ⟨w0,g0,hp h0,n,ds,ro⟩ g' H' w'){v:Value}{x:EV}(h:ERep g0 (hp h0) v x)(hx:frE h0 x=true):ERep g' H' v x:=by
 induction h with
 | dead v=>exact .dead v
 | p v x h=>exact .p v x (h.mono hf.fz)
 | loc k off b h=>
  simp only[frE] at hx
  cases hk:hp h0 k with
  | box t cs=>
   rcases h with h | ⟨rfl,t',cs',h⟩
   ·rw[hk] at h;cases h
   ·rcases hf.box k t cs hk with h1 | ⟨cs1,h1,h2,h3,h4⟩
    ·exact .loc k off _ (.inl h1)
    ·exact .loc k off _ (.inr ⟨h3.symm,t,cs1,h1⟩)
  | _=>rw[hk] at hx;simp at hx
 | own=>simp[frE] at hx
 | full p n sz es h=>exact .full p n sz es (h.mono hf.fz)
 | eptr b o sz x hs h=>exact .eptr b o sz x hs (h.mono hf.fz)
 | arr p sz k off n cap hc hm hn h=>
  simp only[frE] at hx
  cases hk:hp h0 k with
  | box t cs=>
   refine .arr p sz k off n cap hc hm hn ?_
   rcases h with h | ⟨t',cs',h,hb,hp'⟩
   ·rw[hk] at h;cases h
   ·rw[hk] at h;cases h
    rcases hf.box k t cs hk with h1 | ⟨cs1,h1,h2,h3,h4⟩
    ·exact .inl h1
    ·exact .inr ⟨t,cs1,h1,by omega,by rw[h3,h4];exact hp'⟩
  | _=>rw[hk] at hx;simp at hx
 | agg vs cs h1 hl _ ih=>exact .agg vs cs h1 hl fun i v x hv hx'=>ih i v x hv hx' (frL_mem (by simpa[frE] using hx) x (List.mem_of_getElem? hx'))
 | fn f vf vc first caps h1 h2 _ _ ih1 ih2=>
  simp only[frE,Bool.and_eq_true] at hx
  exact .fn f vf vc first caps h1 h2 (fun i v x hv hx'=>ih1 i v x hv hx' (frL_mem hx.1 x (List.mem_of_getElem? hx'))) fun i v x hv hx'=>ih2 i v x hv hx' (frL_mem hx.2 x (List.mem_of_getElem? hx'))
 | tup vs xs h1 _ ih=>exact .tup vs xs h1 fun i v x hv hx'=>ih i v x hv hx' (frL_mem (by simpa[frE] using hx) x (List.mem_of_getElem? hx'))
 | mtok k r h=>
  simp only[frE] at hx
  cases hk:hp h0 k with
  | map kp es=>
   rcases h with h | ⟨rfl,kp',es',hn,h⟩
   ·rw[hk] at h;cases h
   ·rw[hk] at h;cases h
    rcases hf.map k kp es hk with h1 | ⟨cs1,h1,h2⟩
    ·exact .mtok k _ (.inl h1)
    ·exact .mtok k _ (.inr ⟨h2.symm,kp,cs1,hn,h1⟩)
  | _=>rw[hk] at hx;simp at hx
 | itok k r h=>
  simp only[frE] at hx
  cases hk:hp h0 k with
  | map kp es=>
   rcases h with h | ⟨rfl,es',h⟩
   ·rw[hk] at h;cases h
   ·rw[hk] at h;cases h
    rcases hf.map k .iter es hk with h1 | ⟨cs1,h1,h2⟩
    ·exact .itok k _ (.inl h1)
    ·exact .itok k _ (.inr ⟨h2.symm,cs1,h1⟩)
  | _=>rw[hk] at hx;simp at hx
theorem WInv.putO{g H w}(h:WInv g H w){l:Nat}{o:Obj}(hl:∀ k,¬ Bset g k (H k) l)(hz:∀ o,g.fz l o=none):WInv g H (w.putObj l o):=by
 have e:∀ b,b≠l→(w.putObj l o).heap[b]?=w.heap[b]?:=fun b hb=>World.putObj_heap_other hb
 refine⟨fun b x v hv=>?_,fun k=>(h.obj k).mono (GLe.refl _ _) rfl rfl rfl (fun b hb=>e b fun e'=>hl k (e'▸hb)) fun _ _ _=>rfl,h.inj⟩
 have hb:b≠l:=fun e'=>by rw[e',hz] at hv;cases hv
 rw[pk_congr (e b hb)];exact h.fz b x v hv
theorem WInv.fz_loop{g H w}(h:WInv g H w){l:Nat}{r:Loop}(hl:w.heap[l]?=some (.loop r))(o:Nat):g.fz l o=none:=by
 cases hz:g.fz l o with
 | none=>rfl
 | some v=>
  have:=h.fz l o v hz
  unfold World.pk at this
  rw[hl] at this;cases this
theorem Kept.putO{X w w'}(h:Kept X w w'){l:Nat}{o:Obj}(hl:w.heap.size≤l):Kept X w (w'.putObj l o):=
 ⟨h.os,h.tape,h.output,by simpa[World.putObj] using h.size,fun k hk hx=>(World.putObj_heap_other (by omega)).trans (h.block k hk hx)⟩
theorem Fr.putO{Γ g H w}(h:Fr Γ g H w){l:Nat}{o:Obj}(hl:Γ.w0.heap.size≤l):Fr Γ g H (w.putObj l o):=⟨h.kept.putO hl,h.fz,h.low,h.own,h.box,h.map,h.tail⟩
theorem SR.turn{w0 g0 os0 n ds ro g env H a w}(hs:SR ⟨w0,g0,os0,n,ds,ro⟩ g env H a w){l:Nat}{o:Obj}{r:Loop}(h0:w0.heap[l]?=some (.loop r))(hX:∀ k,¬ Bset g0 k (os0 k) l):
 w.heap[l]?=some (.loop r)∧(∀ k,¬ Bset g k (H k) l)∧SR ⟨w0.putObj l o,g0,os0,n,a.defers,ro⟩ g env H a (w.putObj l o):=by
 have hlt:=lt_of_heap h0
 have hxl:¬ Ctx.X ⟨w0,g0,os0,n,ds,ro⟩ l:=fun ⟨k,hk⟩=>hX k hk
 have h1:w.heap[l]?=some (.loop r):=(hs.fr.kept.block l hlt hxl).trans h0
 have h2:∀ k,¬ Bset g k (H k) l:=fun k hk=>by
  rcases hs.fr.own k l hk with h | h
  ·exact hxl h
  ·have h:w0.heap.size≤l:=h
   omega
 refine⟨h1,h2,hs.size,DfOk.start rfl,hs.tmps,hs.inv.putO h2 (hs.inv.fz_loop h1),⟨⟨hs.fr.kept.os,hs.fr.kept.tape,hs.fr.kept.output,by simpa[World.putObj] using hs.fr.kept.size,fun k hk hx=>?_⟩,hs.fr.fz,?_,?_,hs.fr.box,hs.fr.map,hs.fr.tail⟩⟩
 ·by_cases hkl:k=l
  ·subst hkl;rw[World.putObj_heap_same (lt_of_heap h1)];exact(World.putObj_heap_same hlt).symm
  ·show(w.putObj l o).heap[k]?=(w0.putObj l o).heap[k]?
   rw[World.putObj_heap_other hkl,World.putObj_heap_other hkl]
   exact hs.fr.kept.block k (by simpa[World.putObj] using hk) hx
 ·intro b hb hx;exact hs.fr.low b (by simpa[World.putObj] using hb) hx
 ·intro k b hb
  rcases hs.fr.own k b hb with h | h
  ·exact .inl h
  ·exact .inr (by simpa[World.putObj] using h)
end Go.Ab
