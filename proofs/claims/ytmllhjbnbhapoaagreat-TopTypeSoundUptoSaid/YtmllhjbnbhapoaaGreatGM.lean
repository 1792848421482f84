/- Texts QD, QE, QF, QG, QH, QI, QJ, QL, QK, QM, QN, Ab0, QQ, QS, F1, F2, QO, QP. Conditions: none. -/
import Derived.Test.YtmllhjbnbhapoaaGreatGL
import Derived.Test.YtmllhjbnbhapoaaGreatGH
import Derived.Sort.LotA
import Derived.Test.YtmllhjbnbhapoaaGreatGJ
import Derived.Tactics
import Derived.WalkKit
set_option linter.unusedSimpArgs false
set_option linter.unusedVariables false
namespace Go.Ab
open Go Go.Proofs
set_option maxRecDepth 10000
def dg(c:Nat):Nat→Nat
 | 0=>c / 16
 | 1=>c / 4 % 4
 | 2=>c % 4
 | _=>0
abbrev jbA(k:Int)(A:Nat→Bool):AHp:=[(9003,.box 101 [.p (eI k),.mtok 9002]),(9002,.map K3 (kset A))]
abbrev kcaps(n m:Nat)(P Q:Nat→Bool):List EV:=[.p (.ref [eI n,.mp K3 (kset P)]),.loc 9003 0,.p (.ref [eI m,.mp K3 (kset Q)])]
def addJ(n c d jc e:Nat):Bool:=(((dg c (n - 1):Nat):Int)==((dg d 0:Nat):Int))&&e==jc
theorem join1G(n m:Nat)(hn:n=1∨n=2∨n=3)(k:Int)(P Q A:Nat→Bool)(c d jc:Nat)(hjc:jc<64)(hcat:AFun Tryz.prog 205 [tp c,eI n,tp d,eI m,eI 1] (.p (tp jc))):
 EFun Tryz.prog 204 (.p (tp c)::.p (tp d)::kcaps n m P Q) (jbA k A) (.tup []) (jbA k fun e=>A e||addJ n c d jc e):=by
 rcases hn with rfl | rfl | rfl
 ·refine EFun.of hT Tryz.func204 rfl rfl (by simp) rfl (AD.run hT hmix ?_)
  refine ngo_in (by decide) (by decide) ⟨0,rfl,by decide,⟨0,rfl,by decide,⟨by kernel_rfl,?_⟩⟩⟩
  refine bgs (fun hb=>?_) (fun hb=>?_)
  ·refine .pure [tp c,eI 1,tp d,eI m,eI 1] _ rfl hcat ⟨by kernel_rfl,?_⟩
   have e:(fun e=>A e||addJ 1 c d jc e)=fun e=>A e||e==jc:=by funext e;show(A e||((_==_)&&_))=_;rw[show((((dg c (1 - 1):Nat):Int)==((dg d 0:Nat):Int))=true) from hb,Bool.true_and]
   rw[e]
   exact⟨_,[],_,rfl,(SubAll.mperm 9002 (mset_kset A hjc)).trans .of,rfl,rfl,rfl⟩
  ·have e:(fun e=>A e||addJ 1 c d jc e)=A:=by funext e;show(A e||((_==_)&&_))=_;rw[show((((dg c (1 - 1):Nat):Int)==((dg d 0:Nat):Int))=false) from hb,Bool.false_and,Bool.or_false]
   rw[e]
   exact⟨_,[],_,rfl,.of,rfl,rfl,rfl⟩
 ·refine EFun.of hT Tryz.func204 rfl rfl (by simp) rfl (AD.run hT hmix ?_)
  refine ngo_in (by decide) (by decide) ⟨1,rfl,by decide,⟨0,rfl,by decide,⟨by kernel_rfl,?_⟩⟩⟩
  refine bgs (fun hb=>?_) (fun hb=>?_)
  ·refine .pure [tp c,eI 2,tp d,eI m,eI 1] _ rfl hcat ⟨by kernel_rfl,?_⟩
   have e:(fun e=>A e||addJ 2 c d jc e)=fun e=>A e||e==jc:=by funext e;show(A e||((_==_)&&_))=_;rw[show((((dg c (2 - 1):Nat):Int)==((dg d 0:Nat):Int))=true) from hb,Bool.true_and]
   rw[e]
   exact⟨_,[],_,rfl,(SubAll.mperm 9002 (mset_kset A hjc)).trans .of,rfl,rfl,rfl⟩
  ·have e:(fun e=>A e||addJ 2 c d jc e)=A:=by funext e;show(A e||((_==_)&&_))=_;rw[show((((dg c (2 - 1):Nat):Int)==((dg d 0:Nat):Int))=false) from hb,Bool.false_and,Bool.or_false]
   rw[e]
   exact⟨_,[],_,rfl,.of,rfl,rfl,rfl⟩
 ·refine EFun.of hT Tryz.func204 rfl rfl (by simp) rfl (AD.run hT hmix ?_)
  refine ngo_in (by decide) (by decide) ⟨2,rfl,by decide,⟨0,rfl,by decide,⟨by kernel_rfl,?_⟩⟩⟩
  refine bgs (fun hb=>?_) (fun hb=>?_)
  ·refine .pure [tp c,eI 3,tp d,eI m,eI 1] _ rfl hcat ⟨by kernel_rfl,?_⟩
   have e:(fun e=>A e||addJ 3 c d jc e)=fun e=>A e||e==jc:=by funext e;show(A e||((_==_)&&_))=_;rw[show((((dg c (3 - 1):Nat):Int)==((dg d 0:Nat):Int))=true) from hb,Bool.true_and]
   rw[e]
   exact⟨_,[],_,rfl,(SubAll.mperm 9002 (mset_kset A hjc)).trans .of,rfl,rfl,rfl⟩
  ·have e:(fun e=>A e||addJ 3 c d jc e)=A:=by funext e;show(A e||((_==_)&&_))=_;rw[show((((dg c (3 - 1):Nat):Int)==((dg d 0:Nat):Int))=false) from hb,Bool.false_and,Bool.or_false]
   rw[e]
   exact⟨_,[],_,rfl,.of,rfl,rfl,rfl⟩
abbrev kdP(n:Int)(P:Nat→Bool):AV:=.agg [eI n,.mp K3 (kset P)]
theorem eachG(f:FuncId)(n m:Nat)(k:Int)(P Q A0:Nat→Bool)(add:Nat→Nat→Nat→Bool)
 (hf:∀ c d A,c<64→P c=true→d<64→Q d=true→EFun Tryz.prog f (.p (tp c)::.p (tp d)::kcaps n m P Q) (jbA k A) (.tup []) (jbA k fun e=>A e||add c d e)):
 EFun Tryz.prog 203 [.p (kdP n P),.p (kdP m Q),.fn (.func f) [] (kcaps n m P Q)] (jbA k A0) (.tup []) (jbA k fun e=>A0 e||(canon P).any fun c=>(canon Q).any fun d=>add c d e):=by
 refine EFun.of hT Tryz.func203 rfl rfl (by simp) rfl (AD.run hT hmix ?_)
 refine AD.setLoop (T:=T) (it:=10) (tn:=11) (k:=10) (m:=9002) A0 (fun c e=>(canon Q).any fun d=>add c d e) P [(2,.fn (.func f) [] (kcaps n m P Q)),(4,.loc 4 0),(10,.mtok 10)] [(4,.box 101 [.p (eI m),.p (.mp K3 (kset Q))]),(9003,.box 101 [.p (eI k),.mtok 9002])]
  [] [(9003,.box 101 [.p (eI k),.mtok 9002])] .of (fun done A=>.of) ?_ (fun done c A hc hP=>?_)
 ·exact⟨_,[],_,rfl,.of,rfl,rfl,rfl⟩
 ·refine AD.run hT hmix ?_
  refine AD.setLoop (T:=T) (it:=17) (tn:=18) (k:=17) (m:=9002) A (fun d e=>add c d e) Q [(2,.fn (.func f) [] (kcaps n m P Q)),(4,.loc 4 0),(6,.loc 6 0),(10,.mtok 10),(17,.mtok 17)]
   [(6,.box 112 [.p (e8 ((c / 16:Nat):Int)),.p (e8 ((c / 4 % 4:Nat):Int)),.p (e8 ((c % 4:Nat):Int))]),(10,.map .iter ((.mp K3 (kset P),tt)::tpe c::done)),(4,.box 101 [.p (eI m),.p (.mp K3 (kset Q))]),(9003,.box 101 [.p (eI k),.mtok 9002])]
   [(2,.fn (.func f) [] (kcaps n m P Q)),(4,.loc 4 0),(10,.mtok 10)] [(10,.map .iter ((.mp K3 (kset P),tt)::tpe c::done)),(4,.box 101 [.p (eI m),.p (.mp K3 (kset Q))]),(9003,.box 101 [.p (eI k),.mtok 9002])] .of (fun done A=>.of) ?_ (fun done2 d A2 hd hQ=>?_)
  ·exact .of
  ·refine AD.run hT hmix ?_
   refine .eff (jbA k A2) (jbA k fun e=>A2 e||add c d e) _ ((hf c d A2 hc hP hd hQ).le (args':=.agg [.p (e8 ((c / 16:Nat):Int)),.p (e8 ((c / 4 % 4:Nat):Int)),.p (e8 ((c % 4:Nat):Int))]::.agg [.p (e8 ((d / 16:Nat):Int)),.p (e8 ((d / 4 % 4:Nat):Int)),.p (e8 ((d % 4:Nat):Int))]::kcaps n m P Q) ⟨.inr ⟨_,rfl,rfl⟩,.inr ⟨_,rfl,rfl⟩,.inl rfl,.inl rfl,.inl rfl,trivial⟩) ⟨rfl,rfl,trivial⟩ rfl rfl rfl rfl ?_
   exact .of
def cod(l:List Nat):Nat:=16*l.getD 0 0+4*l.getD 1 0+l.getD 2 0
def jcd(n m s c d:Nat):Nat:=cod ((List.range (n - s)).map (dg c)++((List.range m).map (dg d)).drop s)
def CatP(n m s:Nat):Prop:=∀ c d,c<64→d<64→jcd n m s c d<64∧AFun Tryz.prog 205 [tp c,eI n,tp d,eI m,eI s] (.p (tp (jcd n m s c d)))
theorem dg_lt{c:Nat}(hc:c<64)(i:Nat):dg c i<4:=by
 match i with
 | 0=>show c / 16<4;omega
 | 1=>show c / 4 % 4<4;omega
 | 2=>show c % 4<4;omega
 | i+3=>show(0:Nat)<4;omega
theorem tp_cod{a b c:Nat}(ha:a<4)(hb:b<4)(hc:c<4):cod [a,b,c]<64∧tp (cod [a,b,c])=t8 (a:Int) (b:Int) (c:Int):=by
 have e:cod [a,b,c]=16*a+4*b+c:=rfl
 refine⟨by omega,?_⟩
 rw[e]
 show t8 (((16*a+4*b+c) / 16:Nat):Int) (((16*a+4*b+c) / 4 % 4:Nat):Int) (((16*a+4*b+c) % 4:Nat):Int)=_
 rw[show(16*a+4*b+c) / 16=a by omega,show(16*a+4*b+c) / 4 % 4=b by omega,show(16*a+4*b+c) % 4=c by omega]
theorem catP211:CatP 2 1 1:=fun c d hc hd=>by
 obtain⟨h1,h2⟩:=tp_cod (dg_lt hc 0) (show 0<4 by decide) (show 0<4 by decide)
 have e:jcd 2 1 1 c d=cod [dg c 0,0,0]:=rfl
 rw[e,h2]
 exact⟨h1,cat211 _ _ _ _ _ _⟩
theorem catP221:CatP 2 2 1:=fun c d hc hd=>by
 obtain⟨h1,h2⟩:=tp_cod (dg_lt hc 0) (dg_lt hd 1) (show 0<4 by decide)
 have e:jcd 2 2 1 c d=cod [dg c 0,dg d 1,0]:=rfl
 rw[e,h2]
 exact⟨h1,cat221 _ _ _ _ _ _⟩
theorem catP231:CatP 2 3 1:=fun c d hc hd=>by
 obtain⟨h1,h2⟩:=tp_cod (dg_lt hc 0) (dg_lt hd 1) (dg_lt hd 2)
 have e:jcd 2 3 1 c d=cod [dg c 0,dg d 1,dg d 2]:=rfl
 rw[e,h2]
 exact⟨h1,cat231 _ _ _ _ _ _⟩
theorem catP311:CatP 3 1 1:=fun c d hc hd=>by
 obtain⟨h1,h2⟩:=tp_cod (dg_lt hc 0) (dg_lt hc 1) (show 0<4 by decide)
 have e:jcd 3 1 1 c d=cod [dg c 0,dg c 1,0]:=rfl
 rw[e,h2]
 exact⟨h1,cat311 _ _ _ _ _ _⟩
theorem catP321:CatP 3 2 1:=fun c d hc hd=>by
 obtain⟨h1,h2⟩:=tp_cod (dg_lt hc 0) (dg_lt hc 1) (dg_lt hd 1)
 have e:jcd 3 2 1 c d=cod [dg c 0,dg c 1,dg d 1]:=rfl
 rw[e,h2]
 exact⟨h1,cat321 _ _ _ _ _ _⟩
theorem catP110:CatP 1 1 0:=fun c d hc hd=>by
 obtain⟨h1,h2⟩:=tp_cod (dg_lt hc 0) (dg_lt hd 0) (show 0<4 by decide)
 have e:jcd 1 1 0 c d=cod [dg c 0,dg d 0,0]:=rfl
 rw[e,h2]
 exact⟨h1,cat110 _ _ _ _ _ _⟩
theorem catP120:CatP 1 2 0:=fun c d hc hd=>by
 obtain⟨h1,h2⟩:=tp_cod (dg_lt hc 0) (dg_lt hd 0) (dg_lt hd 1)
 have e:jcd 1 2 0 c d=cod [dg c 0,dg d 0,dg d 1]:=rfl
 rw[e,h2]
 exact⟨h1,cat120 _ _ _ _ _ _⟩
theorem catP210:CatP 2 1 0:=fun c d hc hd=>by
 obtain⟨h1,h2⟩:=tp_cod (dg_lt hc 0) (dg_lt hc 1) (dg_lt hd 0)
 have e:jcd 2 1 0 c d=cod [dg c 0,dg c 1,dg d 0]:=rfl
 rw[e,h2]
 exact⟨h1,cat210 _ _ _ _ _ _⟩
theorem joinG(n m:Nat)(hn:n=1∨n=2∨n=3)(hm:m≤3)(h2:2≤n+m)(hcat:CatP n m 1)(P Q:Nat→Bool):
 AFun Tryz.prog 151 [kdP n P,kdP m Q] (.p (kdP ((n+m - 2:Nat):Int) fun e=>(canon P).any fun c=>(canon Q).any fun d=>addJ n c d (jcd n m 1 c d) e)):=by
 have hea:=eachG 204 n m ((n+m - 2:Nat):Int) P Q (fun _=>false) (fun c d e=>addJ n c d (jcd n m 1 c d) e) (fun c d A hc _ hd _=>join1G n m hn _ P Q A c d _ (hcat c d hc hd).1 (hcat c d hc hd).2)
 rw[show jbA ((n+m - 2:Nat):Int) (fun _=>false)=[(9003,.box 101 [.p (eI ((n+m - 2:Nat):Int)),.mtok 9002]),(9002,.map K3 [])] by rw[jbA,kset_none]] at hea
 have hfun:(fun e=>false||(canon P).any fun c=>(canon Q).any fun d=>addJ n c d (jcd n m 1 c d) e)=fun e=>(canon P).any fun c=>(canon Q).any fun d=>addJ n c d (jcd n m 1 c d) e:=by funext e;rw[Bool.false_or]
 rw[hfun] at hea
 refine AFun.of hT Tryz.func151 rfl rfl (by simp) (AD.finSub ?_)
 refine AD.cut hT hmix 2 (fun _:Unit=>True) (fun _=>[(2,.p (.ref [eI n,.mp K3 (kset P)])),(3,.p (.ref [eI m,.mp K3 (kset Q)])),(4,.loc 4 0),(5,.loc 9003 0)])
  (fun _=>[(4,.box 101 [eint .i64 0,.p (.imm (.map none))]),(9003,.box 101 [.p (eI ((n+m - 2:Nat):Int)),.mtok 9002]),(9002,.map K3 [])]) ?_ fun _ _=>?_
 ·refine ngo_in (by omega) (by omega) ⟨((n+m - 2:Nat):Int),by rw[wrap64_in (by omega) (by omega)];omega,?_⟩
  refine .eff [] [(9002,.map K3 [])] _ (emptyP ((n+m - 2:Nat):Int)) ⟨rfl,trivial⟩ rfl rfl rfl rfl ?_
  exact⟨(),trivial,(SubAll.sealB (env':=[(2,.p (.ref [eI n,.mp K3 (kset P)])),(3,.loc 3 0),(4,.loc 4 0),(5,.loc 5 0)])
   (h':=[(3,.box 101 [.p (eI m),.p (.mp K3 (kset Q))]),(4,.box 101 [eint .i64 0,.p (.imm (.map none))]),(5,.box 101 [.p (eI ((n+m - 2:Nat):Int)),.mtok 9002]),(9002,.map K3 [])]) 2).trans
   ((SubAll.sealB (env':=[(2,.p (.ref [eI n,.mp K3 (kset P)])),(3,.p (.ref [eI m,.mp K3 (kset Q)])),(4,.loc 4 0),(5,.loc 5 0)])
   (h':=[(4,.box 101 [eint .i64 0,.p (.imm (.map none))]),(5,.box 101 [.p (eI ((n+m - 2:Nat):Int)),.mtok 9002]),(9002,.map K3 [])]) 3).trans ((SubAll.ren 9003 5).trans .of))⟩
 ·refine AD.run hT hmix ?_
  refine .eff _ _ _ hea ⟨rfl,rfl,trivial⟩ rfl rfl rfl rfl ?_
  exact⟨[(4,.loc 4 0)],[(4,.box 101 [.p (eI ((n+m - 2:Nat):Int)),.p (.mp K3 _)])],.mseal 9002,_,_,rfl,rfl,rfl⟩
abbrev kcapsP(n m:Nat)(P Q:Nat→Bool):List EV:=[.loc 9003 0,.p (.ref [eI n,.mp K3 (kset P)]),.p (.ref [eI m,.mp K3 (kset Q)])]
theorem product1G(n m:Nat)(k:Int)(P Q A:Nat→Bool)(c d jc:Nat)(hjc:jc<64)(hcat:AFun Tryz.prog 205 [tp c,eI n,tp d,eI m,eI 0] (.p (tp jc))):
 EFun Tryz.prog 206 (.p (tp c)::.p (tp d)::kcapsP n m P Q) (jbA k A) (.tup []) (jbA k fun e=>A e||e==jc):=by
 refine EFun.of hT Tryz.func206 rfl rfl (by simp) rfl (AD.run hT hmix ?_)
 refine .pure [tp c,eI n,tp d,eI m,eI 0] _ rfl hcat ⟨by kernel_rfl,?_⟩
 exact⟨_,[],_,rfl,(SubAll.mperm 9002 (mset_kset A hjc)).trans .of,rfl,rfl,rfl⟩
theorem eachP2(f:FuncId)(n m:Nat)(k:Int)(P Q A0:Nat→Bool)(add:Nat→Nat→Nat→Bool)
 (hf:∀ c d A,c<64→P c=true→d<64→Q d=true→EFun Tryz.prog f (.p (tp c)::.p (tp d)::kcapsP n m P Q) (jbA k A) (.tup []) (jbA k fun e=>A e||add c d e)):
 EFun Tryz.prog 203 [.p (kdP n P),.p (kdP m Q),.fn (.func f) [] (kcapsP n m P Q)] (jbA k A0) (.tup []) (jbA k fun e=>A0 e||(canon P).any fun c=>(canon Q).any fun d=>add c d e):=by
 refine EFun.of hT Tryz.func203 rfl rfl (by simp) rfl (AD.run hT hmix ?_)
 refine AD.setLoop (T:=T) (it:=10) (tn:=11) (k:=10) (m:=9002) A0 (fun c e=>(canon Q).any fun d=>add c d e) P [(2,.fn (.func f) [] (kcapsP n m P Q)),(4,.loc 4 0),(10,.mtok 10)] [(4,.box 101 [.p (eI m),.p (.mp K3 (kset Q))]),(9003,.box 101 [.p (eI k),.mtok 9002])]
  [] [(9003,.box 101 [.p (eI k),.mtok 9002])] .of (fun done A=>.of) ?_ (fun done c A hc hP=>?_)
 ·exact⟨_,[],_,rfl,.of,rfl,rfl,rfl⟩
 ·refine AD.run hT hmix ?_
  refine AD.setLoop (T:=T) (it:=17) (tn:=18) (k:=17) (m:=9002) A (fun d e=>add c d e) Q [(2,.fn (.func f) [] (kcapsP n m P Q)),(4,.loc 4 0),(6,.loc 6 0),(10,.mtok 10),(17,.mtok 17)]
   [(6,.box 112 [.p (e8 ((c / 16:Nat):Int)),.p (e8 ((c / 4 % 4:Nat):Int)),.p (e8 ((c % 4:Nat):Int))]),(10,.map .iter ((.mp K3 (kset P),tt)::tpe c::done)),(4,.box 101 [.p (eI m),.p (.mp K3 (kset Q))]),(9003,.box 101 [.p (eI k),.mtok 9002])]
   [(2,.fn (.func f) [] (kcapsP n m P Q)),(4,.loc 4 0),(10,.mtok 10)] [(10,.map .iter ((.mp K3 (kset P),tt)::tpe c::done)),(4,.box 101 [.p (eI m),.p (.mp K3 (kset Q))]),(9003,.box 101 [.p (eI k),.mtok 9002])] .of (fun done A=>.of) ?_ (fun done2 d A2 hd hQ=>?_)
  ·exact .of
  ·refine AD.run hT hmix ?_
   refine .eff (jbA k A2) (jbA k fun e=>A2 e||add c d e) _ ((hf c d A2 hc hP hd hQ).le (args':=.agg [.p (e8 ((c / 16:Nat):Int)),.p (e8 ((c / 4 % 4:Nat):Int)),.p (e8 ((c % 4:Nat):Int))]::.agg [.p (e8 ((d / 16:Nat):Int)),.p (e8 ((d / 4 % 4:Nat):Int)),.p (e8 ((d % 4:Nat):Int))]::kcapsP n m P Q) ⟨.inr ⟨_,rfl,rfl⟩,.inr ⟨_,rfl,rfl⟩,.inl rfl,.inl rfl,.inl rfl,trivial⟩) ⟨rfl,rfl,trivial⟩ rfl rfl rfl rfl ?_
   exact .of
theorem productG(n m:Nat)(hnm:n+m≤3)(hcat:CatP n m 0)(P Q:Nat→Bool):
 AFun Tryz.prog 152 [kdP n P,kdP m Q] (.p (kdP ((n+m:Nat):Int) fun e=>(canon P).any fun c=>(canon Q).any fun d=>e==jcd n m 0 c d)):=by
 have hea:=eachP2 206 n m ((n+m:Nat):Int) P Q (fun _=>false) (fun c d e=>e==jcd n m 0 c d) (fun c d A hc _ hd _=>product1G n m _ P Q A c d _ (hcat c d hc hd).1 (hcat c d hc hd).2)
 rw[show jbA ((n+m:Nat):Int) (fun _=>false)=[(9003,.box 101 [.p (eI ((n+m:Nat):Int)),.mtok 9002]),(9002,.map K3 [])] by rw[jbA,kset_none]] at hea
 have hfun:(fun e=>false||(canon P).any fun c=>(canon Q).any fun d=>e==jcd n m 0 c d)=fun e=>(canon P).any fun c=>(canon Q).any fun d=>e==jcd n m 0 c d:=by funext e;rw[Bool.false_or]
 rw[hfun] at hea
 refine AFun.of hT Tryz.func152 rfl rfl (by simp) (AD.finSub ?_)
 refine AD.cut hT hmix 2 (fun _:Unit=>True) (fun _=>[(2,.p (.ref [eI n,.mp K3 (kset P)])),(3,.p (.ref [eI m,.mp K3 (kset Q)])),(4,.loc 4 0),(5,.loc 9003 0)])
  (fun _=>[(4,.box 101 [eint .i64 0,.p (.imm (.map none))]),(9003,.box 101 [.p (eI ((n+m:Nat):Int)),.mtok 9002]),(9002,.map K3 [])]) ?_ fun _ _=>?_
 ·refine⟨((n+m:Nat):Int),by rw[wrap64_in (by omega) (by omega)];omega,?_⟩
  refine .eff [] [(9002,.map K3 [])] _ (emptyP ((n+m:Nat):Int)) ⟨rfl,trivial⟩ rfl rfl rfl rfl ?_
  exact⟨(),trivial,(SubAll.sealB (env':=[(2,.p (.ref [eI n,.mp K3 (kset P)])),(3,.loc 3 0),(4,.loc 4 0),(5,.loc 5 0)])
   (h':=[(3,.box 101 [.p (eI m),.p (.mp K3 (kset Q))]),(4,.box 101 [eint .i64 0,.p (.imm (.map none))]),(5,.box 101 [.p (eI ((n+m:Nat):Int)),.mtok 9002]),(9002,.map K3 [])]) 2).trans
   ((SubAll.sealB (env':=[(2,.p (.ref [eI n,.mp K3 (kset P)])),(3,.p (.ref [eI m,.mp K3 (kset Q)])),(4,.loc 4 0),(5,.loc 5 0)])
   (h':=[(4,.box 101 [eint .i64 0,.p (.imm (.map none))]),(5,.box 101 [.p (eI ((n+m:Nat):Int)),.mtok 9002]),(9002,.map K3 [])]) 3).trans ((SubAll.ren 9003 5).trans .of))⟩
 ·refine AD.run hT hmix ?_
  refine .eff _ _ _ hea ⟨rfl,rfl,trivial⟩ rfl rfl rfl rfl ?_
  exact⟨[(4,.loc 4 0)],[(4,.box 101 [.p (eI ((n+m:Nat):Int)),.p (.mp K3 _)])],.mseal 9002,_,_,rfl,rfl,rfl⟩
theorem kset_congr{P Q:Nat→Bool}(h:∀ c,c<64→P c=Q c):kset P=kset Q:=by
 rw[kset,kset,canon,canon,List.filter_congr fun c hc=>h c (List.mem_range.1 hc)]
theorem kset_copy(A S:Nat→Bool):kset (fun c=>A c||(canon S).any fun d=>c==d)=kset fun c=>A c||S c:=kset_congr fun c hc=>by
 congr 1
 cases hs:S c with
 | true=>exact List.any_eq_true.2 ⟨c,mem_canon.2 ⟨hc,hs⟩,beq_self_eq_true c⟩
 | false=>
  refine List.any_eq_false.2 fun d hd h=>?_
  have:=(mem_canon.1 hd).2
  rw[← eq_of_beq h,hs] at this
  cases this
abbrev sumA(P Q:Nat→Bool):Nat→List (AV×AV)
 | 0=>[]
 | 1=>kset P
 | _=>kset fun e=>P e||Q e
theorem sum2G(n:Int)(P Q:Nat→Bool):AFun Tryz.prog 201 [kdP n P,.slice 2 [kdP n Q]] (.p (kdP n fun e=>P e||Q e)):=by
 refine AFun.of hT Tryz.func201 rfl rfl (by simp) (AD.finSub (AD.run hT hmix ?_))
 refine .eff [] [(9002,.map K3 [])] _ (emptyP n) ⟨rfl,trivial⟩ rfl rfl rfl rfl ?_
 refine⟨⟨(show(1+1)*16≤140737488355328 by decide),(show 1+1≤140737488355328 by decide)⟩,?_⟩
 intro _
 have bz:∀ A:Nat→Bool,kset (fun c=>false||A c)=kset A:=fun A=>kset_congr fun c _=>Bool.false_or _
 refine AD.loopI (fun i:Nat=>i≤2) (fun i=>2 - i) (fun i=>[(4,.loc 4 0),(5,.loc 5 0),(15,.p (.slice 2 [kdP n P,kdP n Q])),(16,eint .i64 2),(17,eint .i64 i)])
  (fun i=>[(4,.box 101 [eint .i64 0,.p (.imm (.map none))]),(5,.box 101 [.p (eI n),.mtok 9002]),(9002,.map K3 (sumA P Q i))]) 0 (by decide) .of fun i hi=>?_
 match i,hi with
 | 0,_=>
  refine AD.run hT hmix ?_
  refine⟨0,_,rfl,rfl,?_⟩
  refine AD.setLoop (T:=T) (it:=23) (tn:=24) (k:=23) (m:=9002) (fun _=>false) (fun c e=>e==c) P [(4,.loc 4 0),(5,.loc 5 0),(15,.p (.slice 2 [kdP n P,kdP n Q])),(16,eint .i64 2),(17,eint .i64 0),(23,.mtok 23)]
   [(4,.box 101 [eint .i64 0,.p (.imm (.map none))]),(5,.box 101 [.p (eI n),.mtok 9002])] [(4,.loc 4 0),(5,.loc 5 0),(15,.p (.slice 2 [kdP n P,kdP n Q])),(16,eint .i64 2),(17,eint .i64 0)]
   [(4,.box 101 [eint .i64 0,.p (.imm (.map none))]),(5,.box 101 [.p (eI n),.mtok 9002])] (by rw[kset_none];exact .of) (fun done A=>.of) ?_ (fun done c A hc hP=>?_)
  ·rw[kset_copy,bz]
   exact ngo_in (by decide) (by decide) ⟨1,by decide,by decide,.of⟩
  ·exact AD.run hT hmix ((SubAll.mperm 9002 (mset_kset A hc)).trans .of)
 | 1,_=>
  refine AD.run hT hmix ?_
  refine⟨1,_,rfl,rfl,?_⟩
  refine AD.setLoop (T:=T) (it:=23) (tn:=24) (k:=23) (m:=9002) P (fun c e=>e==c) Q [(4,.loc 4 0),(5,.loc 5 0),(15,.p (.slice 2 [kdP n P,kdP n Q])),(16,eint .i64 2),(17,eint .i64 1),(23,.mtok 23)]
   [(4,.box 101 [eint .i64 0,.p (.imm (.map none))]),(5,.box 101 [.p (eI n),.mtok 9002])] [(4,.loc 4 0),(5,.loc 5 0),(15,.p (.slice 2 [kdP n P,kdP n Q])),(16,eint .i64 2),(17,eint .i64 1)]
   [(4,.box 101 [eint .i64 0,.p (.imm (.map none))]),(5,.box 101 [.p (eI n),.mtok 9002])] .of (fun done A=>.of) ?_ (fun done c A hc hP=>?_)
  ·rw[kset_copy]
   exact ngo_in (by decide) (by decide) ⟨2,by decide,by decide,.of⟩
  ·exact AD.run hT hmix ((SubAll.mperm 9002 (mset_kset A hc)).trans .of)
 | 2,_=>
  refine AD.run hT hmix ?_
  exact⟨[(4,.loc 4 0)],[(4,.box 101 [.p (eI n),.p (.mp K3 (kset fun e=>P e||Q e))])],.mseal 9002,_,_,rfl,rfl,rfl⟩
def joinS(P:Nat→Bool)(e:Nat):Bool:=(canon P).any fun c=>(canon P).any fun d=>addJ 2 c d (jcd 2 2 1 c d) e
theorem canon_len(P:Nat→Bool):(canon P).length≤64:=by
 have:=List.length_filter_le P (List.range 64)
 rwa [List.length_range] at this
theorem canon_eq{P Q:Nat→Bool}(h:∀ c,c<64→P c=true→Q c=true)(hl:(canon Q).length≤(canon P).length):∀ c,c<64→Q c=true→P c=true:=by
 have hs:(canon P).Sublist (canon Q):=by
  have:canon P=(canon Q).filter P:=by
   rw[canon,canon,List.filter_filter]
   refine List.filter_congr fun c hc=>?_
   have hc:=List.mem_range.1 hc
   cases hp:P c with
   | false=>rw[Bool.false_and]
   | true=>rw[h c hc hp];rfl
  rw[this]
  exact List.filter_sublist
 have he:=hs.eq_of_length_le hl
 intro c hc hq
 have:c∈canon Q:=mem_canon.2 ⟨hc,hq⟩
 rw[← he] at this
 exact(mem_canon.1 this).2
def Closed(P0 R:Nat→Bool):Prop:=(∀ c,c<64→P0 c=true→R c=true)∧∀ c,c<64→joinS R c=true→R c=true
theorem closureG(P0:Nat→Bool):∃ R,Closed P0 R∧AFun Tryz.prog 207 [kdP 2 P0] (.p (kdP 2 R)):=by
 suffices hh:∃ y,(∃ R,y=.p (kdP 2 R)∧Closed P0 R)∧AFun Tryz.prog 207 [kdP 2 P0] y by
  obtain⟨y,⟨R,rfl,h⟩,hf⟩:=hh
  exact⟨R,h,hf⟩
 refine AFunE.intro hT Tryz.func207 rfl rfl (by simp) ⟨_,fun _=>true,rfl,fun _ _ _=>rfl,fun _ _ _=>rfl⟩ (AD.run hT hmix ?_)
 refine AD.loopI (fun x:Nat×(Nat→Bool)=>(∀ c,c<64→P0 c=true→x.2 c=true)∧(x.1=0∨∃ A',(∀ c,x.2 c=(A' c||joinS A' c))∧x.1=(canon A').length)) (fun x=>64 - x.1)
  (fun x=>[(1,.loc 1 0),(2,.loc 2 0),(3,.p (eI x.1))]) (fun x=>[(1,.box 101 [.p (eI 2),.p (.mp K3 (kset x.2))]),(2,.box 101 [eint .i64 0,.p (.imm (.map none))])]) (0,P0) ⟨fun _ _ h=>h,.inl rfl⟩ .of fun ⟨n,A⟩ ⟨h1,h2⟩=>AD.run hT hmix ?_
 dsimp only at h1 h2 ⊢
 have hlen:(kset A).length=(canon A).length:=List.length_map _
 have h64:=canon_len A
 refine bgs (fun hb=>?_) (fun hb=>?_)
 ·replace hb:=odt hb
  rw[hlen] at hb
  have hj:=joinG 2 2 (.inr (.inl rfl)) (by decide) (by decide) catP221 A A
  refine .pure [kdP 2 A,kdP 2 A] _ rfl hj ?_
  refine .pure [kdP 2 A,.slice 2 [kdP 2 (joinS A)]] _ rfl (sum2G 2 A (joinS A)) ⟨by kernel_rfl,?_⟩
  refine⟨((canon A).length,fun e=>A e||joinS A e),⟨fun c hc hp=>?_,.inr ⟨A,fun c=>rfl,rfl⟩⟩,?_,?_⟩
  ·dsimp only;rw[h1 c hc hp];rfl
  ·dsimp only;omega
  ·rw[hlen];exact .of
 ·replace hb:=of_decide_eq_false hb
  rw[hlen] at hb
  refine⟨_,_,rfl,rfl,A,rfl,h1,fun c hc hj=>?_⟩
  rcases h2 with rfl | ⟨A',hA,hn⟩
  ·have h0:canon A=[]:=List.length_eq_zero_iff.1 (by omega)
   unfold joinS at hj
   rw[h0] at hj
   cases hj
  ·have hsub:∀ c,c<64→A c=true→A' c=true:=canon_eq (P:=A') (Q:=A) (fun c _ h=>by rw[hA,h];rfl) (by omega)
   have hc':canon A=canon A':=by
    rw[canon,canon]
    refine List.filter_congr fun c hc=>?_
    have hc:=List.mem_range.1 hc
    cases ha:A c with
    | true=>exact(hsub c hc ha).symm
    | false=>
     cases ha':A' c with
     | false=>rfl
     | true=>rw[hA,ha'] at ha;cases ha
   rw[hA]
   unfold joinS at hj ⊢
   rw[hc'] at hj
   rw[hj,Bool.or_true]
theorem mgo_kset{Q:Nat→Bool}{c:Nat}(hc:c<64){A:AV×AV→Prop}{B:Prop}(hA:Q c=true→A (tpe c))(hB:Q c=false→B):List.rec (motive:=fun _=>Prop) B (fun x _ ih=>bgo (keyB x.1 (tp c)) (A x) ih) (kset Q):=by
 have key:∀ l:List Nat,(∀ d∈l,d<64)→(c∈l→A (tpe c))→(c∉l→B)→List.rec (motive:=fun _=>Prop) B (fun x _ ih=>bgo (keyB x.1 (tp c)) (A x) ih) (l.map tpe):=by
  intro l
  induction l with
  | nil=>exact fun _ _ h=>h (by simp)
  | cons d r ih=>
   intro hl h1 h2
   show bgo (keyB (tp d) (tp c)) (A (tpe d)) _
   have hk:=key_tp d (hl d (List.mem_cons_self ..)) c hc
   by_cases e:d=c
   ·subst e
    exact bgo_true (by rw[hk];exact decide_eq_true rfl) (h1 (List.mem_cons_self ..))
   ·refine bgo_false (by rw[hk];exact decide_eq_false e) (ih (fun x hx=>hl x (List.mem_cons_of_mem _ hx)) (fun h=>h1 (List.mem_cons_of_mem _ h)) fun h=>h2 fun h3=>?_)
    rcases List.mem_cons.1 h3 with h3 | h3
    ·exact e h3.symm
    ·exact h h3
 refine key (canon Q) (fun d hd=>(mem_canon.1 hd).1) (fun h=>hA (mem_canon.1 h).2) fun h=>hB ?_
 cases hq:Q c with
 | false=>rfl
 | true=>exact absurd (mem_canon.2 ⟨hc,hq⟩) h
theorem kset_cut(P Q:Nat→Bool):kset (fun c=>false||(canon P).any fun d=>Q d&&c==d)=kset fun c=>P c&&Q c:=kset_congr fun c hc=>by
 rw[Bool.false_or]
 cases hp:P c&&Q c with
 | true=>
  rw[Bool.and_eq_true] at hp
  exact List.any_eq_true.2 ⟨c,mem_canon.2 ⟨hc,hp.1⟩,by rw[hp.2,beq_self_eq_true];rfl⟩
 | false=>
  refine List.any_eq_false.2 fun d hd h=>?_
  rw[Bool.and_eq_true] at h
  obtain rfl:=eq_of_beq h.2
  rw[(mem_canon.1 hd).2,h.1] at hp
  cases hp
theorem alikeI(n:Int)(P Q:Nat→Bool):AFun Tryz.prog 150 [eI 7,kdP n P,kdP n Q] (.p (kdP n fun c=>P c&&Q c)):=by
 refine AFun.of hT Tryz.func150 rfl rfl (by simp) (AD.finSub (AD.run hT hmix ?_))
 refine .eff [] [(9002,.map K3 [])] _ (emptyP n) ⟨rfl,trivial⟩ rfl rfl rfl rfl ?_
 refine AD.setLoop (T:=T) (it:=24) (tn:=25) (k:=24) (m:=9002) (fun _=>false) (fun c e=>Q c&&e==c) P [(5,.loc 5 0),(6,.loc 6 0),(7,.loc 7 0),(24,.mtok 24)]
  [(5,.box 101 [.p (eI n),.p (.mp K3 (kset Q))]),(6,.box 101 [eint .i64 0,.p (.imm (.map none))]),(7,.box 101 [.p (eI n),.mtok 9002])]
  [(6,.loc 6 0),(7,.loc 7 0)] [(6,.box 101 [eint .i64 0,.p (.imm (.map none))]),(7,.box 101 [.p (eI n),.mtok 9002])] (by rw[kset_none];exact .of) (fun done A=>.of) ?_ (fun done c A hc hP=>?_)
 ·rw[kset_cut]
  exact⟨[(6,.loc 6 0)],[(6,.box 101 [.p (eI n),.p (.mp K3 (kset fun c=>P c&&Q c))])],.mseal 9002,_,_,rfl,rfl,rfl⟩
 ·refine AD.run hT hmix ?_
  refine mgo_kset hc (fun hq=>?_) (fun hq=>?_)
  ·have e:(fun x=>A x||(Q c&&x==c))=fun x=>A x||x==c:=by funext x;rw[hq,Bool.true_and]
   rw[e]
   exact(SubAll.mperm 9002 (mset_kset A hc)).trans .of
  ·have e:(fun x=>A x||(Q c&&x==c))=A:=by funext x;rw[hq,Bool.false_and,Bool.or_false]
   rw[e]
   exact .of
theorem alikeU(op n:Int)(ho:op=6∨op=14)(P Q:Nat→Bool):AFun Tryz.prog 150 [eI op,kdP n P,kdP n Q] (.p (kdP n fun c=>P c||Q c)):=by
 rcases ho with rfl | rfl <;>
 ·refine AFun.of hT Tryz.func150 rfl rfl (by simp) (AD.run hT hmix ?_)
  exact .pure [kdP n P,.slice 2 [kdP n Q]] _ rfl (sum2G n P Q) ⟨_,_,rfl,rfl,rfl⟩
theorem alikeO(op n:Int)(ho:op=8∨op=32∨op=33)(P Q:Nat→Bool):AFun Tryz.prog 150 [eI op,kdP n P,kdP n Q] (.p (kdP n P)):=by
 rcases ho with rfl | rfl | rfl <;> exact AFun.of hT Tryz.func150 rfl rfl (by simp) (AD.run hT hmix ⟨_,_,rfl,rfl,rfl⟩)
def swc(c:Nat):Nat:=cod [dg c 1,dg c 0,0]
theorem transG(ck:AV)(P:Nat→Bool):AFun Tryz.prog 153 [ck,eI 11,kdP 2 P] (.p (kdP 2 fun e=>(canon P).any fun c=>e==swc c)):=by
 refine AFun.of hT Tryz.func153 rfl rfl (by simp) (AD.finSub (AD.run hT hmix ?_))
 refine .eff [] [(9002,.map K3 [])] _ (emptyP 2) ⟨rfl,trivial⟩ rfl rfl rfl rfl ?_
 refine AD.setLoop (T:=T) (it:=25) (tn:=26) (k:=25) (m:=9002) (fun _=>false) (fun c e=>e==swc c) P [(6,.loc 6 0),(7,.loc 7 0),(25,.mtok 25)]
  [(6,.box 101 [eint .i64 0,.p (.imm (.map none))]),(7,.box 101 [.p (eI 2),.mtok 9002])]
  [(6,.loc 6 0),(7,.loc 7 0)] [(6,.box 101 [eint .i64 0,.p (.imm (.map none))]),(7,.box 101 [.p (eI 2),.mtok 9002])] (by rw[kset_none];exact .of) (fun done A=>.of) ?_ (fun done c A hc hP=>?_)
 ·have e:(fun c=>false||(canon P).any fun d=>c==swc d)=fun c=>(canon P).any fun d=>c==swc d:=by funext c;rw[Bool.false_or]
  rw[e]
  exact⟨[(6,.loc 6 0)],[(6,.box 101 [.p (eI 2),.p (.mp K3 (kset fun c=>(canon P).any fun d=>c==swc d))])],.mseal 9002,_,_,rfl,rfl,rfl⟩
 ·obtain⟨h1,h2⟩:=tp_cod (dg_lt hc 1) (dg_lt hc 0) (show 0<4 by decide)
  refine AD.run hT hmix ?_
  refine⟨1,rfl,by decide,0,rfl,by decide,?_⟩
  have h3:=mset_kset A (x:=swc c) h1
  rw[show tp (swc c)=t8 ((dg c 1:Nat):Int) ((dg c 0:Nat):Int) ((0:Nat):Int) from h2] at h3
  exact(SubAll.mperm 9002 h3).trans .of
theorem of3(a b c:Int)(h:0≤a∧a<100)(h':0≤b∧b<100)(h'':0≤c∧c<100):AFun Tryz.prog 94 [ints [a,b,c]] (.p (kd 3 (t8 a b c))):=by
 refine AFun.of hT Tryz.func94 rfl rfl (by simp) (AD.finSub (AD.run hT hmix ?_))
 intro _
 refine AD.loopI (fun i:Nat=>i≤3) (fun i=>3 - i) (fun i=>[(0,.p (ints [a,b,c])),(2,.loc 2 0),(3,.loc 3 0),(6,.p (ints [a,b,c])),(7,eint .i64 3),(8,eint .i64 i)]) (fun i=>[(3,.box 112 (ofc [a,b,c] i)),(2,.box 101 [eint .i64 0,.p (.imm (.map none))])]) 0 (Nat.zero_le _) .of fun i hi=>?_
 match i,hi with
 | 0,_=>exact AD.run hT hmix (igo_map 0 rfl (by simp) ⟨a,IntWalk.i8_in _ (show -128≤a∧a≤127 by omega),⟨0,rfl,by decide,ngo_in (by omega) (by omega) ⟨1,by omega,by omega,.of⟩⟩⟩)
 | 1,_=>exact AD.run hT hmix (igo_map 1 rfl (by simp) ⟨b,IntWalk.i8_in _ (show -128≤b∧b≤127 by omega),⟨1,rfl,by decide,ngo_in (by omega) (by omega) ⟨2,by omega,by omega,.of⟩⟩⟩)
 | 2,_=>exact AD.run hT hmix (igo_map 2 rfl (by simp) ⟨c,IntWalk.i8_in _ (show -128≤c∧c≤127 by omega),⟨2,rfl,by decide,ngo_in (by omega) (by omega) ⟨3,by omega,by omega,.of⟩⟩⟩)
 | 3,_=>
  refine AD.run hT hmix ?_
  intro _
  exact⟨[(2,.loc 2 0)],[(2,.box 101 [.p (eI 3),.p (.mp K3 [(t8 a b c,eB true)])])],.mseal 20,_,_,rfl,rfl,rfl⟩
theorem kdP_one(n:Int){c:Nat}(hc:c<64){t:AV}(ht:tp c=t):kdP n (fun e=>e==c)=kd n t:=by rw[kdP,kset_one hc,← ht]
theorem ofG(l:List Nat)(h:1≤l.length∧l.length≤3)(hl:∀ x∈l,x<4):AFun Tryz.prog 94 [ints (l.map fun x:Nat=>(x:Int))] (.p (kdP l.length fun e=>e==cod l))∧cod l<64:=by
 match l,h with
 | [a],_=>
  have ha:=hl a (by simp)
  obtain⟨h1,h2⟩:=tp_cod ha (show 0<4 by decide) (show 0<4 by decide)
  refine⟨?_,h1⟩
  rw[show kdP (([a]:List Nat).length:Int) (fun e=>e==cod [a])=_ from kdP_one 1 h1 h2]
  exact of1 a (by omega)
 | [a,b],_=>
  have ha:=hl a (by simp)
  have hb:=hl b (by simp)
  obtain⟨h1,h2⟩:=tp_cod ha hb (show 0<4 by decide)
  refine⟨?_,h1⟩
  rw[show kdP (([a,b]:List Nat).length:Int) (fun e=>e==cod [a,b])=_ from kdP_one 2 h1 h2]
  exact of2 a b (by omega) (by omega)
 | [a,b,c],_=>
  have ha:=hl a (by simp)
  have hb:=hl b (by simp)
  have hc:=hl c (by simp)
  obtain⟨h1,h2⟩:=tp_cod ha hb hc
  refine⟨?_,h1⟩
  rw[show kdP (([a,b,c]:List Nat).length:Int) (fun e=>e==cod [a,b,c])=_ from kdP_one 3 h1 h2]
  exact of3 a b c (by omega) (by omega) (by omega)
def kOne(l:List Nat):AV:=kdP l.length fun e=>e==cod l
def mF(nm:ByteArray)(f:Fld):List AV:=if sEq f.name nm=true then [kOne (f.sorts.map Int.toNat)] else []
def mS(nm:ByteArray)(s:Srt×Nat):List AV:=(if sEq s.1.name nm=true then [kOne [s.2]] else [])++((if (s.1.ordered&&sEq (s.1.name++sFirst) nm)=true then [kOne [s.2]] else [])++(if (s.1.ordered&&sEq (s.1.name++sNext) nm)=true then [kOne [s.2,s.2]] else []))
def mean(s:Spc)(nm:ByteArray):List AV:=s.fields.flatMap (mF nm)++s.sorts.zipIdx.flatMap (mS nm)
theorem cast_back{l:List Int}{m:Nat}(hl:∀ x∈l,0≤x∧x<m):(l.map Int.toNat).map (fun x:Nat=>(x:Int))=l:=by
 rw[List.map_map]
 conv=>rhs;rw[← List.map_id l]
 refine List.map_congr_left fun x hx=>?_
 have:=hl x hx
 show((x.toNat:Nat):Int)=x
 omega
theorem meanG(s:Spc)(hs4:s.sorts.length≤4)(hf6:s.fields.length≤6)(hso:∀ f∈s.fields,SortsOk s.sorts.length f.sorts)(hnm:∀ x∈s.sorts,x.name.size≤1048576)(nm:ByteArray):
 AFun Tryz.prog 145 [s.ex,eS nm] (.p (.slice 2 (mean s nm))):=by
 have hf1:(s.fields.map Fld.av).length=s.fields.length:=List.length_map _
 have hs1:(s.sorts.map Srt.av).length=s.sorts.length:=List.length_map _
 refine AFun.of hT Tryz.func145 rfl rfl (by simp) (AD.run hT hmix ?_)
 intro _
 refine AD.loopI (fun x:Nat×List AV=>x.1≤s.fields.length∧x.2=(s.fields.take x.1).flatMap (mF nm)∧x.2.length≤x.1) (fun x=>s.fields.length - x.1)
  (fun x=>[(1,.p (eS nm)),(2,.loc 2 0),(5,.own 2 x.2 300),(11,.p (.slice 3 (s.fields.map Fld.av))),(12,eint .i64 (s.fields.map Fld.av).length),(13,eint .i64 x.1)])
  (fun x=>[(2,.box 27 (s.cx.map .p)),(300,.tail x.2.length)]) (0,[]) ⟨Nat.zero_le _,by simp,Nat.zero_le _⟩ .of fun ⟨i,es⟩ ⟨g1,g2,g3⟩=>AD.run hT hmix ?_
 dsimp only at g1 g2 g3 ⊢
 refine bgs (fun hb=>?_) (fun hb=>?_)
 ·replace hb:=odt hb
  have hlt:i<s.fields.length:=by omega
  have hsn:=fm_take (mF nm) s.fields (i:=i) hlt
  rw[mF] at hsn
  have hok:=hso _ (List.getElem_mem hlt)
  obtain⟨f,hf⟩:∃ f,s.fields[i]=f:=⟨_,rfl⟩
  refine igo_map i rfl hlt ?_
  rw[hf] at hsn hok ⊢
  refine bgs (fun hc=>?_) (fun hc=>?_)
  ·rw[if_pos hc] at hsn
   have ho:=ofG (f.sorts.map Int.toNat) (by rw[List.length_map];exact hok.1) (fun x hx=>by
    obtain⟨y,hy,rfl⟩:=List.mem_map.1 hx
    have:=hok.2 y hy
    omega)
   have ho1:=ho.1
   rw[cast_back hok.2] at ho1
   refine .pure [ints f.sorts] _ rfl ho1 ?_
   refine⟨rfl,⟨by simp;omega,by simp;omega⟩,ngo_in (by omega) (by omega) ⟨(i+1,es++[kOne (f.sorts.map Int.toNat)]),⟨by dsimp only;omega,by dsimp only;rw[hsn,← g2],by dsimp only;rw[List.length_append,List.length_singleton];omega⟩,by dsimp only;omega,?_⟩⟩
   dsimp only
   rw[List.length_append]
   exact .of
  ·rw[if_neg (fun e=>Bool.false_ne_true (hc.symm.trans e)),List.append_nil] at hsn
   exact ngo_in (by omega) (by omega) ⟨(i+1,es),⟨by dsimp only;omega,by dsimp only;rw[hsn];exact g2,by dsimp only;omega⟩,by dsimp only;omega,.of⟩
 ·replace hb:=of_decide_eq_false hb
  obtain rfl:i=s.fields.length:=by omega
  rw[List.take_length] at g2
  intro _
  refine AD.loopI (fun x:Nat×List AV=>x.1≤s.sorts.length∧x.2=es++(s.sorts.zipIdx.take x.1).flatMap (mS nm)∧x.2.length≤s.fields.length+3*x.1) (fun x=>s.sorts.length - x.1)
   (fun x=>[(1,.p (eS nm)),(5,.own 2 x.2 300),(29,.p (.slice 2 (s.sorts.map Srt.av))),(30,eint .i64 (s.sorts.map Srt.av).length),(31,eint .i64 x.1)])
   (fun x=>[(300,.tail x.2.length)]) (0,es) ⟨Nat.zero_le _,by simp,g3⟩ .of fun ⟨i,es0⟩ ⟨f1,f2,f3⟩=>?_
  dsimp only at f1 f2 f3 ⊢
  by_cases hb:i<s.sorts.length
  case neg=>
   obtain rfl:i=s.sorts.length:=by omega
   have hft2:s.sorts.zipIdx.take s.sorts.length=s.sorts.zipIdx:=List.take_of_length_le (by simp)
   rw[hft2,g2] at f2
   refine AD.run hT hmix (bgo_false (decide_eq_false (by omega)) ?_)
   exact⟨_,_,rfl,rfl,by rw[f2];rfl⟩
  case pos=>
   have hsn:=fm_take (mS nm) s.sorts.zipIdx (i:=i) (by simpa using hb)
   rw[List.getElem_zipIdx,Nat.zero_add,mS] at hsn
   dsimp only at hsn
   obtain⟨srt,hsrt⟩:∃ srt,s.sorts[i]=srt:=⟨_,rfl⟩
   have hnl:srt.name.size≤1048576:=by rw[← hsrt];exact hnm _ (List.getElem_mem hb)
   rw[hsrt] at hsn
   have ho1:=(ofG [i] ⟨by simp,by simp⟩ (fun x hx=>by obtain rfl:=List.mem_singleton.1 hx;omega)).1
   have ho2:=(ofG [i,i] ⟨by simp,by simp⟩ (fun x hx=>by simp at hx;omega)).1
   refine AD.cut hT hmix 13 (fun es1:List AV=>es1=es0++(if sEq srt.name nm=true then [kOne [i]] else [])∧es1.length≤es0.length+1)
    (fun es1=>[(1,.p (eS nm)),(5,.own 2 es1 300),(8,.p (eI i)),(9,.loc 9 0),(29,.p (.slice 2 (s.sorts.map Srt.av))),(30,eint .i64 (s.sorts.map Srt.av).length),(31,eint .i64 i)])
    (fun es1=>[(9,.box 78 [.p (eS srt.name),.p (eB srt.ordered)]),(300,.tail es1.length)]) ?_ fun es1 ⟨k1,k2⟩=>?_
   ·refine bgo_true (decide_eq_true (by omega)) (igo_map i rfl hb ?_)
    rw[hsrt]
    refine bgs (fun hc=>?_) (fun hc=>?_)
    ·refine .pure [ints [(i:Int)]] _ rfl ho1 ⟨rfl,⟨by simp;omega,by simp;omega⟩,es0++[kOne [i]],⟨by rw[if_pos hc],by rw[List.length_append,List.length_singleton];omega⟩,?_⟩
     dsimp only
     rw[List.length_append]
     exact .of
    ·exact⟨es0,⟨by rw[if_neg (fun e=>Bool.false_ne_true (hc.symm.trans e)),List.append_nil],by omega⟩,.of⟩
   ·refine AD.cut hT hmix 15 (fun es2:List AV=>es2=es1++(if (srt.ordered&&sEq (srt.name++sFirst) nm)=true then [kOne [i]] else [])∧es2.length≤es1.length+1)
     (fun es2=>[(1,.p (eS nm)),(5,.own 2 es2 300),(8,.p (eI i)),(9,.loc 9 0),(29,.p (.slice 2 (s.sorts.map Srt.av))),(30,eint .i64 (s.sorts.map Srt.av).length),(31,eint .i64 i)])
     (fun es2=>[(9,.box 78 [.p (eS srt.name),.p (eB srt.ordered)]),(300,.tail es2.length)]) ?_ fun es2 ⟨k3,k4⟩=>?_
    ·refine bgs (fun o1=>?_) (fun o1=>?_)
     ·refine⟨str_add hnl (by decide),bgs (fun hc=>?_) (fun hc=>?_)⟩
      ·have hc2:(srt.ordered&&sEq (srt.name++sFirst) nm)=true:=by rw[o1];exact hc
       refine .pure [ints [(i:Int)]] _ rfl ho1 ⟨rfl,⟨by simp;omega,by simp;omega⟩,es1++[kOne [i]],⟨by rw[if_pos hc2],by rw[List.length_append,List.length_singleton];omega⟩,?_⟩
       dsimp only
       rw[List.length_append]
       exact .of
      ·have hc2:(srt.ordered&&sEq (srt.name++sFirst) nm)=false:=by rw[o1];exact hc
       exact⟨es1,⟨by rw[hc2];simp,by omega⟩,.of⟩
     ·have hc2:(srt.ordered&&sEq (srt.name++sFirst) nm)=false:=by rw[o1];rfl
      exact⟨es1,⟨by rw[hc2];simp,by omega⟩,.of⟩
    ·have hfin:∀ es3:List AV,es3=es2++(if (srt.ordered&&sEq (srt.name++sNext) nm)=true then [kOne [i,i]] else [])→es3=es++(s.sorts.zipIdx.take (i+1)).flatMap (mS nm):=fun es3 h=>by
      rw[h,k3,k1,hsn,f2]
      simp only[List.append_assoc]
     refine AD.run hT hmix (bgs (fun o1=>?_) (fun o1=>?_))
     ·refine⟨str_add hnl (by decide),bgs (fun hc=>?_) (fun hc=>?_)⟩
      ·have hc2:(srt.ordered&&sEq (srt.name++sNext) nm)=true:=by rw[o1];exact hc
       rw[if_pos hc2] at hfin
       refine .pure [ints [(i:Int),(i:Int)]] _ rfl ho2 ⟨rfl,⟨by simp;omega,by simp;omega⟩,?_⟩
       refine AD.run hT hmix (ngo_in (by omega) (by omega) ⟨(i+1,es2++[kOne [i,i]]),⟨by dsimp only;omega,hfin _ rfl,by dsimp only;rw[List.length_append,List.length_singleton];omega⟩,by dsimp only;omega,?_⟩)
       dsimp only
       rw[List.length_append]
       exact .of
      ·have hc2:(srt.ordered&&sEq (srt.name++sNext) nm)=false:=by rw[o1];exact hc
       rw[if_neg (by rw[hc2];exact Bool.false_ne_true),List.append_nil] at hfin
       exact AD.run hT hmix (ngo_in (by omega) (by omega) ⟨(i+1,es2),⟨by dsimp only;omega,hfin _ rfl,by dsimp only;omega⟩,by dsimp only;omega,.of⟩)
     ·have hc2:(srt.ordered&&sEq (srt.name++sNext) nm)=false:=by rw[o1];rfl
      rw[if_neg (by rw[hc2];exact Bool.false_ne_true),List.append_nil] at hfin
      exact AD.run hT hmix (ngo_in (by omega) (by omega) ⟨(i+1,es2),⟨by dsimp only;omega,hfin _ rfl,by dsimp only;omega⟩,by dsimp only;omega,.of⟩)
abbrev Scp:=List (ByteArray×Int×(Nat→Bool))
def scp:Scp→AV
 | []=>nilP
 | x::r=>.ref [eS x.1,eI x.2.1,.mp K3 (kset x.2.2),scp r]
def scFrom(nm:ByteArray):Scp→Scp
 | []=>[]
 | x::r=>if sEq x.1 nm=true then x::r else scFrom nm r
theorem findG(l0:Scp)(nm:ByteArray):AFun Tryz.prog 144 [scp l0,eS nm] (.p (scp (scFrom nm l0))):=by
 refine AFun.of hT Tryz.func144 rfl rfl (by simp) (AD.run hT hmix ?_)
 refine AD.loopI (fun l:Scp=>scFrom nm l0=scFrom nm l) (fun l=>l.length) (fun l=>[(0,.p (scp l)),(1,.p (eS nm))]) (fun _=>[]) l0 rfl .of fun l hl=>?_
 rw[hl]
 match l with
 | []=>exact AD.run hT hmix ⟨_,_,rfl,rfl,rfl⟩
 | x::r=>
  rw[show scp (x::r)=.ref [eS x.1,eI x.2.1,.mp K3 (kset x.2.2),scp r] from rfl]
  refine AD.run hT hmix (bgs (fun hb=>?_) (fun hb=>?_))
  ·have hq:sEq x.1 nm=false:=by
    cases h:sEq x.1 nm with
    | false=>rfl
    | true=>rw[show(x.1.toList==nm.toList)=true from h] at hb;cases hb
   have e:scFrom nm (x::r)=scFrom nm r:=by rw[scFrom,if_neg (by rw[hq];exact Bool.false_ne_true)]
   rw[e]
   exact⟨r,rfl,by simp,.of⟩
  ·have hq:sEq x.1 nm=true:=by
    cases h:sEq x.1 nm with
    | true=>rfl
    | false=>rw[show(x.1.toList==nm.toList)=false from h] at hb;cases hb
   have e:scFrom nm (x::r)=x::r:=by rw[scFrom,if_pos hq]
   rw[e]
   exact⟨_,_,rfl,rfl,rfl⟩
abbrev ckG(s:Spc)(c:Int)(ts:List Bool):AV:=.ref (s.cx++[eI c,.slice 1 (ts.map eB)])
theorem nameScope(s:Spc)(c:Int)(ts:List Bool)(l:Scp)(nm:ByteArray)(m a:Int)(ks:List AV){x:ByteArray×Int×(Nat→Bool)}{r:Scp}(h:scFrom nm l=x::r):
 AFun Tryz.prog 91 [ckG s c ts,scp l,.agg [eI 1,eS nm,eI m,.slice 5 ks,eI a]] (.p (kdP x.2.1 x.2.2)):=by
 have hf:=findG l nm
 rw[h,show scp (x::r)=.ref [eS x.1,eI x.2.1,.mp K3 (kset x.2.2),scp r] from rfl] at hf
 refine AFun.of hT Tryz.func91 rfl rfl (by simp) (AD.run hT hmix ?_)
 refine .pure [scp l,eS nm] _ rfl hf ?_
 exact⟨_,_,rfl,rfl,rfl⟩
theorem nameMean(s:Spc)(c:Int)(ts:List Bool)(l:Scp)(nm:ByteArray)(m a:Int)(ks:List AV)(h:scFrom nm l=[]){n:Int}{P:Nat→Bool}(hm:AFun Tryz.prog 145 [s.ex,eS nm] (.p (.slice 2 [kdP n P]))):
 AFun Tryz.prog 91 [ckG s c ts,scp l,.agg [eI 1,eS nm,eI m,.slice 5 ks,eI a]] (.p (kdP n P)):=by
 have hf:=findG l nm
 rw[h] at hf
 refine AFun.of hT Tryz.func91 rfl rfl (by simp) (AD.run hT hmix ?_)
 refine .pure [scp l,eS nm] _ rfl hf ?_
 refine .pure [s.ex,eS nm] _ rfl hm ⟨by kernel_rfl,?_⟩
 intro _
 refine .pure [eB true,eI 40,.agg [eI 1,eS nm,eI m,.slice 5 ks,eI a]] _ rfl (needP _ _ _ rfl rfl) ?_
 intro _
 refine .pure [eB true,eI 44,.agg [eI 1,eS nm,eI m,.slice 5 ks,eI a]] _ rfl (needP _ _ _ rfl rfl) ?_
 exact⟨0,_,rfl,rfl,_,_,rfl,rfl,rfl⟩
theorem clone80v(p:Option Addr)(cap:Nat):AFunO Tryz.prog 236 [.imm (.slice p 0 cap)] 1 []:=by
 suffices hh:∃ rs,rs=[]∧AFunO Tryz.prog 236 [.imm (.slice p 0 cap)] 1 rs by
  obtain⟨rs,rfl,h⟩:=hh
  exact h
 cases p with
 | none=>exact AFunOE.intro hT Tryz.func236 rfl rfl (by simp) ⟨_,rfl⟩ (AD.run hT hmix ⟨by decide,_,[],rfl,.inl rfl,rfl⟩)
 | some a=>
  refine AFunOE.intro hT Tryz.func236 rfl rfl (by simp) ⟨_,rfl⟩ (AD.run hT hmix ?_)
  refine⟨⟨by decide,by decide⟩,?_⟩
  exact⟨by decide,_,[],rfl,.inr ⟨7,rfl,rfl⟩,rfl⟩
theorem clone80:AFunO Tryz.prog 236 [.slice 1 []] 1 []:=by
 refine⟨⟨_,Tryz.func236,rfl,rfl⟩,fun fz w vs hz hr=>?_⟩
 obtain⟨v,rfl⟩:∃ v,vs=[v]:=by
  match vs,hr.1 with
  | [v],_=>exact⟨v,rfl⟩
 obtain⟨p,cap,rfl,_⟩:=(hr.2 0 v _ rfl rfl).slice_len
 exact(clone80v p cap).2 fz w _ hz ⟨rfl,fun i v x hv hx=>by
  match i with
  | 0=>cases hv;cases hx;exact .imm _ rfl
  | i+1=>simp at hv⟩
theorem cat121(a0 a1 a2 b0 b1 b2:Int):AFun Tryz.prog 205 [t8 a0 a1 a2,eI 1,t8 b0 b1 b2,eI 2,eI 1] (.p (t8 b1 0 0)):=by
 refine AFun.of hT Tryz.func205 rfl rfl (by simp) ?_
 refine AD.cut hT hmix 2 (fun _:Unit=>True) (fun _=>[(1,.p (eI 1)),(3,.p (eI 2)),(4,.p (eI 1)),(5,.p (.ref [e8 a0,e8 a1,e8 a2])),(7,.p (.ref [e8 b0,e8 b1,e8 b2])),(10,.loc 10 0),(11,.loc 11 0)])
  (fun _=>[(10,.box 112 [.p (e8 0),.p (e8 0),.p (e8 0)]),(11,.box 112 [.p (e8 0),.p (e8 0),.p (e8 0)])]) ?_ fun _ _=>?_
 ·exact⟨(),trivial,(SubAll.sealB (env':=[(1,.p (eI 1)),(3,.p (eI 2)),(4,.p (eI 1)),(5,.p (.ref [e8 a0,e8 a1,e8 a2])),(7,.loc 7 0),(10,.loc 10 0),(11,.loc 11 0)]) (h':=[(7,.box 112 [.p (e8 b0),.p (e8 b1),.p (e8 b2)]),(10,.box 112 [.p (e8 0),.p (e8 0),.p (e8 0)]),(11,.box 112 [.p (e8 0),.p (e8 0),.p (e8 0)])]) 5).trans (.sealB 7)⟩
 refine AD.run hT hmix ?_
 refine⟨rfl,0,3,rfl,rfl,by decide,by decide,by decide,by decide,by decide,?_⟩
 refine ngo_in (by decide) (by decide) ⟨rfl,0,0,rfl,rfl,by decide,by decide,by decide,(show 3≤3 by decide),by decide,?_⟩
 refine .own [.slice 1 []] 1 [] 17 rfl clone80 rfl rfl ?_
 refine⟨rfl,1,2,rfl,rfl,by decide,by decide,by decide,(show 3≤3 by decide),by decide,?_⟩
 refine⟨rfl,⟨(show(0+1)*1≤140737488355328 by decide),(show 0+1≤140737488355328 by decide)⟩,?_⟩
 refine⟨by decide,by decide,?_⟩
 exact⟨by kernel_rfl,_,_,rfl,rfl,rfl⟩
theorem cat131(a0 a1 a2 b0 b1 b2:Int):AFun Tryz.prog 205 [t8 a0 a1 a2,eI 1,t8 b0 b1 b2,eI 3,eI 1] (.p (t8 b1 b2 0)):=by
 refine AFun.of hT Tryz.func205 rfl rfl (by simp) ?_
 refine AD.cut hT hmix 2 (fun _:Unit=>True) (fun _=>[(1,.p (eI 1)),(3,.p (eI 3)),(4,.p (eI 1)),(5,.p (.ref [e8 a0,e8 a1,e8 a2])),(7,.p (.ref [e8 b0,e8 b1,e8 b2])),(10,.loc 10 0),(11,.loc 11 0)])
  (fun _=>[(10,.box 112 [.p (e8 0),.p (e8 0),.p (e8 0)]),(11,.box 112 [.p (e8 0),.p (e8 0),.p (e8 0)])]) ?_ fun _ _=>?_
 ·exact⟨(),trivial,(SubAll.sealB (env':=[(1,.p (eI 1)),(3,.p (eI 3)),(4,.p (eI 1)),(5,.p (.ref [e8 a0,e8 a1,e8 a2])),(7,.loc 7 0),(10,.loc 10 0),(11,.loc 11 0)]) (h':=[(7,.box 112 [.p (e8 b0),.p (e8 b1),.p (e8 b2)]),(10,.box 112 [.p (e8 0),.p (e8 0),.p (e8 0)]),(11,.box 112 [.p (e8 0),.p (e8 0),.p (e8 0)])]) 5).trans (.sealB 7)⟩
 refine AD.run hT hmix ?_
 refine⟨rfl,0,3,rfl,rfl,by decide,by decide,by decide,by decide,by decide,?_⟩
 refine ngo_in (by decide) (by decide) ⟨rfl,0,0,rfl,rfl,by decide,by decide,by decide,(show 3≤3 by decide),by decide,?_⟩
 refine .own [.slice 1 []] 1 [] 17 rfl clone80 rfl rfl ?_
 refine⟨rfl,1,3,rfl,rfl,by decide,by decide,by decide,(show 3≤3 by decide),by decide,?_⟩
 refine⟨rfl,⟨(show(0+2)*1≤140737488355328 by decide),(show 0+2≤140737488355328 by decide)⟩,?_⟩
 refine⟨by decide,by decide,?_⟩
 exact⟨by kernel_rfl,_,_,rfl,rfl,rfl⟩
theorem catP121:CatP 1 2 1:=fun c d hc hd=>by
 obtain⟨h1,h2⟩:=tp_cod (dg_lt hd 1) (show 0<4 by decide) (show 0<4 by decide)
 have e:jcd 1 2 1 c d=cod [dg d 1,0,0]:=rfl
 rw[e,h2]
 exact⟨h1,cat121 _ _ _ _ _ _⟩
theorem catP131:CatP 1 3 1:=fun c d hc hd=>by
 obtain⟨h1,h2⟩:=tp_cod (dg_lt hd 1) (dg_lt hd 2) (show 0<4 by decide)
 have e:jcd 1 3 1 c d=cod [dg d 1,dg d 2,0]:=rfl
 rw[e,h2]
 exact⟨h1,cat131 _ _ _ _ _ _⟩
theorem catJ(n m:Nat)(hn:1≤n∧n≤3)(hm:1≤m∧m≤3)(h:1≤n+m - 2∧n+m - 2≤3):CatP n m 1:=by
 have hc:(n=1∧m=2)∨(n=1∧m=3)∨(n=2∧m=1)∨(n=2∧m=2)∨(n=2∧m=3)∨(n=3∧m=1)∨(n=3∧m=2):=by omega
 rcases hc with ⟨rfl,rfl⟩ | ⟨rfl,rfl⟩ | ⟨rfl,rfl⟩ | ⟨rfl,rfl⟩ | ⟨rfl,rfl⟩ | ⟨rfl,rfl⟩ | ⟨rfl,rfl⟩
 ·exact catP121
 ·exact catP131
 ·exact catP211
 ·exact catP221
 ·exact catP231
 ·exact catP311
 ·exact catP321
theorem catX(n m:Nat)(hn:1≤n)(hm:1≤m)(h:n+m≤3):CatP n m 0:=by
 have hc:(n=1∧m=1)∨(n=1∧m=2)∨(n=2∧m=1):=by omega
 rcases hc with ⟨rfl,rfl⟩ | ⟨rfl,rfl⟩ | ⟨rfl,rfl⟩
 ·exact catP110
 ·exact catP120
 ·exact catP210
abbrev ndA(op:Int)(nm:ByteArray)(m:Int)(ks:List AV)(a:Int):AV:=.agg [eI op,eS nm,eI m,.slice 5 ks,eI a]
abbrev Ap(op:Int)(ck:AV)(l:List AV)(k:AV):Prop:=∀ (nm:ByteArray) (m:Int) (ks:List AV) (a:Int),AFun Tryz.prog 93 [ck,ndA op nm m ks a,.slice 2 l] (.p k)
theorem apply2(ck:AV)(l:List AV)(nm:ByteArray)(m:Int)(ks:List AV)(a:Int):AFun Tryz.prog 93 [ck,ndA 2 nm m ks a,.slice 2 l] (.p (kdP m fun _=>false)):=by
 refine AFun.of hT Tryz.func93 rfl rfl (by simp) (AD.finSub (AD.run hT hmix ?_))
 refine .eff [] [(9002,.map K3 [])] _ (emptyP m) ⟨rfl,trivial⟩ rfl rfl rfl rfl ?_
 rw[kdP,kset_none]
 exact⟨[(6,.loc 6 0)],[(6,.box 101 [.p (eI m),.p (.mp K3 [])])],.mseal 9002,_,_,rfl,rfl,rfl⟩
theorem apply5(ck:AV)(n:Int)(P:Nat→Bool):Ap 5 ck [kdP n P] (kdP n P):=fun nm m ks a=>
 AFun.of hT Tryz.func93 rfl rfl (by simp) (AD.run hT hmix ⟨0,_,rfl,rfl,_,_,rfl,rfl,rfl⟩)
theorem apply_alike(ck:AV)(op n:Int)(ho:op=6∨op=14∨op=7∨op=8∨op=32∨op=33)(P Q R:Nat→Bool)(h:AFun Tryz.prog 150 [eI op,kdP n P,kdP n Q] (.p (kdP n R))):Ap op ck [kdP n P,kdP n Q] (kdP n R):=fun nm m ks a=>by
 rcases ho with rfl | rfl | rfl | rfl | rfl | rfl <;>
 ·refine AFun.of hT Tryz.func93 rfl rfl (by simp) (AD.run hT hmix ?_)
  refine⟨0,_,rfl,rfl,1,_,rfl,rfl,?_⟩
  refine .pure [eB (n==n),eI 42,ndA _ nm m ks a] _ rfl (by rw[beq_self_eq_true];exact needP _ _ _ rfl rfl) ⟨by kernel_rfl,?_⟩
  refine⟨0,_,rfl,rfl,1,_,rfl,rfl,?_⟩
  exact .pure [eI _,kdP n P,kdP n Q] _ rfl h ⟨by kernel_rfl,_,_,rfl,rfl,rfl⟩
theorem apply9(ck:AV)(n k:Nat)(hn:1≤n∧n≤3)(hk:1≤k∧k≤3)(h:1≤n+k - 2∧n+k - 2≤3)(P Q:Nat→Bool):Ap 9 ck [kdP n P,kdP k Q] (kdP ((n+k - 2:Nat):Int) fun e=>(canon P).any fun c=>(canon Q).any fun d=>addJ n c d (jcd n k 1 c d) e):=fun nm m ks a=>by
 have hj:=joinG n k (by omega) hk.2 (by omega) (catJ n k hn hk h) P Q
 refine AFun.of hT Tryz.func93 rfl rfl (by simp) (AD.run hT hmix ?_)
 refine⟨0,_,rfl,rfl,1,_,rfl,rfl,ngo_in (by omega) (by omega) (ngo_in (by omega) (by omega) ⟨by kernel_rfl,?_⟩)⟩
 refine bgo_true (decide_eq_true (by omega)) ?_
 refine .pure [eB _,eI 42,ndA 9 nm m ks a] _ rfl (by rw[decide_eq_true (by omega)];exact needP _ _ _ rfl rfl) ?_
 refine⟨0,_,rfl,rfl,1,_,rfl,rfl,?_⟩
 exact .pure [kdP n P,kdP k Q] _ rfl hj ⟨by kernel_rfl,_,_,rfl,rfl,rfl⟩
theorem apply10(ck:AV)(n k:Nat)(hn:1≤n)(hk:1≤k)(h:n+k≤3)(P Q:Nat→Bool):Ap 10 ck [kdP n P,kdP k Q] (kdP ((n+k:Nat):Int) fun e=>(canon P).any fun c=>(canon Q).any fun d=>e==jcd n k 0 c d):=fun nm m ks a=>by
 have hj:=productG n k h (catX n k hn hk h) P Q
 refine AFun.of hT Tryz.func93 rfl rfl (by simp) (AD.run hT hmix ?_)
 refine⟨0,_,rfl,rfl,1,_,rfl,rfl,ngo_in (by omega) (by omega) ?_⟩
 refine .pure [eB _,eI 42,ndA 10 nm m ks a] _ rfl (by rw[decide_eq_true (by omega)];exact needP _ _ _ rfl rfl) ⟨by kernel_rfl,?_⟩
 refine⟨0,_,rfl,rfl,1,_,rfl,rfl,?_⟩
 exact .pure [kdP n P,kdP k Q] _ rfl hj ⟨by kernel_rfl,_,_,rfl,rfl,rfl⟩
theorem apply_bin(ck:AV)(op:Int)(ho:op=11∨op=12∨op=13)(P R:Nat→Bool)(h:AFun Tryz.prog 153 [ck,eI op,kdP 2 P] (.p (kdP 2 R))):Ap op ck [kdP 2 P] (kdP 2 R):=fun nm m ks a=>by
 rcases ho with rfl | rfl | rfl <;>
 ·refine AFun.of hT Tryz.func93 rfl rfl (by simp) (AD.run hT hmix ?_)
  refine⟨0,_,rfl,rfl,?_⟩
  refine .pure [eB true,eI 42,ndA _ nm m ks a] _ rfl (needP _ _ _ rfl rfl) ⟨by kernel_rfl,?_⟩
  refine⟨0,_,rfl,rfl,?_⟩
  exact .pure [ck,eI _,kdP 2 P] _ rfl h ⟨by kernel_rfl,_,_,rfl,rfl,rfl⟩
theorem closB(ck:AV)(P R:Nat→Bool)(h:AFun Tryz.prog 207 [kdP 2 P] (.p (kdP 2 R))):AFun Tryz.prog 153 [ck,eI 12,kdP 2 P] (.p (kdP 2 R)):=
 AFun.of hT Tryz.func153 rfl rfl (by simp) (AD.run hT hmix (.pure [kdP 2 P] _ rfl h ⟨_,_,rfl,rfl,rfl⟩))
abbrev kZ:AV:=.agg [eI 0,.imm (.map none)]
theorem apply_none(ck:AV)(op:Int)(ho:op≠2∧op≠3∧op≠4∧op≠5∧op≠6∧op≠14∧op≠7∧op≠8∧op≠32∧op≠33∧op≠9∧op≠10∧op≠11∧op≠12∧op≠13)(l:List AV):Ap op ck l kZ:=fun nm m ks a=>by
 obtain⟨h1,h2,h3,h4,h5,h6,h7,h8,h9,h10,h11,h12,h13,h14,h15⟩:=ho
 refine AFun.of hT Tryz.func93 rfl rfl (by simp) (AD.run hT hmix ?_)
 repeat' first
  | refine bgo_false (beq_false_of_ne (by assumption)) ?_
  | exact⟨_,_,rfl,rfl,rfl⟩
def timeB(op:Int):Bool:=decide (op=5∨op=48∨op=49∨op=50∨op=51)
theorem timeOfG(ck:AV)(op:Int)(h47:op≠47)(nm:ByteArray)(m:Int)(ks:List AV)(a:Int):AFun Tryz.prog 90 [ck,ndA op nm m ks a] (.p (eB (timeB op))):=by
 by_cases h:op=5∨op=48∨op=49∨op=50∨op=51
 ·rw[show timeB op=true from decide_eq_true h]
  rcases h with rfl | rfl | rfl | rfl | rfl <;> exact AFun.of hT Tryz.func90 rfl rfl (by simp) (AD.run hT hmix ⟨_,_,rfl,rfl,rfl⟩)
 ·rw[show timeB op=false from decide_eq_false h]
  have h1:op≠5:=fun e=>h (.inl e)
  have h2:op≠48:=fun e=>h (.inr (.inl e))
  have h3:op≠49:=fun e=>h (.inr (.inr (.inl e)))
  have h4:op≠50:=fun e=>h (.inr (.inr (.inr (.inl e))))
  have h5:op≠51:=fun e=>h (.inr (.inr (.inr (.inr e))))
  refine AFun.of hT Tryz.func90 rfl rfl (by simp) (AD.run hT hmix ?_)
  repeat' first
   | refine bgo_false (beq_false_of_ne (by assumption)) ?_
   | exact⟨_,_,rfl,rfl,rfl⟩
abbrev Exa(ck:AV)(l:Scp)(n:AV)(ins:Bool)(k:AV):Prop:=AFun Tryz.prog 41 [ck,scp l,n,eB ins] (.p k)
theorem exaN(s:Spc)(c:Int)(ts:List Bool)(l:Scp)(ins:Bool)(nm:ByteArray)(m a:Int)(ks:List AV)(n:Int)(P:Nat→Bool)(h:AFun Tryz.prog 91 [ckG s c ts,scp l,ndA 1 nm m ks a] (.p (kdP n P))):Exa (ckG s c ts) l (ndA 1 nm m ks a) ins (kdP n P):=by
 have ht:=timeOfG (ckG s c ts) 1 (by decide) nm m ks a
 rw[show timeB 1=false by decide] at ht
 cases ins with
 | false=>
  refine AFun.of hT Tryz.func41 rfl rfl (by simp) (AD.run hT hmix ?_)
  refine .pure [eB true,eI 46,ndA 1 nm m ks a] _ rfl (needP _ _ _ rfl rfl) ⟨by kernel_rfl,?_⟩
  exact .pure [ckG s c ts,scp l,ndA 1 nm m ks a] _ rfl h ⟨_,_,rfl,rfl,rfl⟩
 | true=>
  refine AFun.of hT Tryz.func41 rfl rfl (by simp) (AD.run hT hmix ?_)
  refine .pure [ckG s c ts,ndA 1 nm m ks a] _ rfl ht ?_
  refine .pure [eB true,eI 46,ndA 1 nm m ks a] _ rfl (needP _ _ _ rfl rfl) ⟨by kernel_rfl,?_⟩
  exact .pure [ckG s c ts,scp l,ndA 1 nm m ks a] _ rfl h ⟨_,_,rfl,rfl,rfl⟩
end Go.Ab
namespace Go.Ab
open Go Go.RowKit
theorem FzOk.keep{fz:Fz}{w w':World}(h:FzOk fz w)(hk:Kept (fun _=>False) w w'):FzOk fz w':=fun b o v hz=>by
 have h1:=h b o v hz
 rw[pk_congr (hk.block b (pk_lt h1) (fun h=>h))]
 exact h1
theorem AFun.loc{P:Program}{f:FuncId}{k:Nat}{t:TypeId}{h0:AHp}{cs:List EV}{xs ys:List AV}{y:AV}(hf:AFun P f (.ref xs::ys) (.p y))(hy:flatImm y=true)(hk:hp h0 k=.box t cs)(hx:toPs cs=some xs)(hne:cs≠[]):RFun P f (.loc k 0::ys.map .p) h0 (.p y):=by
 refine⟨hf.1,fun g w vs hi hlen hr=>?_⟩
 have hob:=hi.obj k
 rw[hk] at hob
 have hpos:0<g.hi k:=by
  rcases Nat.eq_zero_or_pos (g.hi k) with h | h
  ·exact absurd (hob.1 h) hne
  ·exact h
 obtain⟨cur,hh,⟨hl1,hl2⟩,ho1,hre,hfz⟩:=hob.2 hpos
 have htk:(cur.take cs.length).length=cs.length:=by rw[List.length_take];omega
 have hxr:=toPs_reps (g:=g) (H:=hp h0) hx htk (fun i v x hv hx=>by
  rw[List.getElem?_take] at hv
  split at hv
  ·exact hre i v x hv hx
  ·cases hv)
 let fz1:Fz:=fun b o=>if b=g.blk k then cur[o]? else g.fz b o
 have hle:FzLe g.fz fz1:=fun b o v hv=>by
  show(if b=g.blk k then _ else _)=_
  by_cases e:b=g.blk k
  ·subst e;rw[hfz] at hv;cases hv
  ·rw[if_neg e];exact hv
 have hz1:FzOk fz1 w:=fun b o v hv=>by
  have hv:(if b=g.blk k then cur[o]? else g.fz b o)=some v:=hv
  by_cases e:b=g.blk k
  ·subst e
   rw[if_pos rfl] at hv
   refine cell_pk ?_ (ho1 v (List.mem_of_getElem? hv))
   simp only[World.cell?,hh]
   simp only[Option.isSome_none,Bool.false_eq_true,if_false]
   simpa using hv
  ·rw[if_neg e] at hv
   exact hi.fz b o v hv
 have hrl:RepsL fz1 vs (.ref xs::ys):=by
  refine⟨by simpa using hlen,fun i v x hv hx=>?_⟩
  cases i with
  | zero=>
   simp at hx
   subst hx
   have h1:=hr 0 v _ hv rfl
   cases h1 with
   | loc k off b hb=>
    obtain rfl:b=g.blk k:=by
     rcases hb with hb | ⟨hb,_⟩
     ·rw[hk] at hb;cases hb
     ·exact hb
    refine .ref (g.blk k) 0 xs (cur.take cs.length) (fun v hv=>ho1 v (List.mem_of_mem_take hv)) (fun i v hv=>?_) hxr.1 (fun i v x hv hx=>(hxr.2 i v x hv hx).mono hle)
    refine⟨g.blk k,0,rfl,?_⟩
    rw[List.getElem?_take] at hv
    split at hv
    ·show(if g.blk k=g.blk k then _ else _)=_
     rw[if_pos rfl,Nat.zero_add];exact hv
    ·cases hv
  | succ i=>
   simp at hx
   have:=hr (i+1) v (.p x) hv (by simp[hx])
   cases this with
   | p _ _ h=>exact h.mono hle
 refine(hf.2 fz1 w vs hz1 hrl).mono ?_
 rintro e w' ⟨v,fz',rfl,hkp,hst,hok,hrep⟩
 have h2:=hrep ⟨fz',fun _=>0,fun _=>0,fun _=>0,fun _=>False⟩ rfl
 have h3:Rep g.fz v y:=by
  cases h2 with
  | p _ _ h=>exact h.flat hy _
 exact⟨v,g.fz,rfl,hkp,FzStep.refl _ _,FzOk.keep hi.fz hkp,fun g' hg'=>.p _ _ (hg'▸h3)⟩
theorem RFun.le{P:Program}{f:FuncId}{args:List EV}{h0:AHp}{y:EV}(h:RFun P f args h0 y){args':List EV}(ha:argLe args' args):RFun P f args' h0 y:=by
 obtain⟨hl,hle⟩:=argLe_at ha
 refine⟨h.1,fun g w vs hi hlen hr=>h.2 g w vs hi (by omega) fun i v x hv hx=>?_⟩
 obtain⟨x',hx',e⟩:=hle i x hx
 have h1:=hr i v x' hv hx'
 rcases e with rfl | ⟨z,hz,rfl⟩
 ·exact h1
 ·exact .p _ _ (toP_rep hz h1)
theorem AFun.sealAt{P:Program}{f:FuncId}{k:Nat}{t:TypeId}{cs:List EV}{xs:List AV}(pre post:List AV){y:EV}(hf:AFun P f (pre++.ref xs::post) y)(hx:toPs cs=some xs)(hne:cs≠[]):
 EFun P f (pre.map .p++.loc k 0::post.map .p) [(k,.box t cs)] y [(k,.lost)]:=by
 refine⟨hf.1,fun g w vs hi hlen hr=>?_⟩
 have hk:hp [(k,AObj.box t cs)] k=.box t cs:=by rw[hp_cons,if_pos rfl]
 have hko:∀ j,j≠k→hp [(k,AObj.box t cs)] j=.gone:=fun j hj=>by rw[hp_cons,if_neg hj];rfl
 have hob:=hi.obj k
 rw[hk] at hob
 have hpos:0<g.hi k:=by
  rcases Nat.eq_zero_or_pos (g.hi k) with h | h
  ·exact absurd (hob.1 h) hne
  ·exact h
 obtain⟨cur,hh,⟨hl1,hl2⟩,ho1,hre,hfz⟩:=hob.2 hpos
 have htk:(cur.take cs.length).length=cs.length:=by rw[List.length_take];omega
 have hxr:=toPs_reps (g:=g) (H:=hp [(k,AObj.box t cs)]) hx htk (fun i v x hv hx=>by
  rw[List.getElem?_take] at hv
  split at hv
  ·exact hre i v x hv hx
  ·cases hv)
 let fz1:Fz:=fun b o=>if b=g.blk k then cur[o]? else g.fz b o
 have hle:FzLe g.fz fz1:=fun b o v hv=>by
  show(if b=g.blk k then _ else _)=_
  by_cases e:b=g.blk k
  ·subst e;rw[hfz] at hv;cases hv
  ·rw[if_neg e];exact hv
 have hz1:FzOk fz1 w:=fun b o v hv=>by
  have hv:(if b=g.blk k then cur[o]? else g.fz b o)=some v:=hv
  by_cases e:b=g.blk k
  ·subst e
   rw[if_pos rfl] at hv
   refine cell_pk ?_ (ho1 v (List.mem_of_getElem? hv))
   simp only[World.cell?,hh]
   simp only[Option.isSome_none,Bool.false_eq_true,if_false]
   simpa using hv
  ·rw[if_neg e] at hv
   exact hi.fz b o v hv
 have hrl:RepsL fz1 vs (pre++.ref xs::post):=by
  refine⟨by simpa using hlen,fun i v x hv hx=>?_⟩
  rcases Nat.lt_trichotomy i pre.length with hi1 | hi1 | hi1
  ·rw[List.getElem?_append_left hi1] at hx
   have:=hr i v (.p x) hv (by rw[List.getElem?_append_left (by simpa using hi1),List.getElem?_map,hx];rfl)
   cases this with
   | p _ _ h=>exact h.mono hle
  ·subst hi1
   rw[List.getElem?_append_right (Nat.le_refl _),Nat.sub_self] at hx
   cases hx
   have h1:=hr pre.length v (.loc k 0) hv (by rw[List.getElem?_append_right (by simp),List.length_map,Nat.sub_self];rfl)
   cases h1 with
   | loc k off b hb=>
    obtain rfl:b=g.blk k:=by
     rcases hb with hb | ⟨hb,_⟩
     ·rw[hk] at hb;cases hb
     ·exact hb
    refine .ref (g.blk k) 0 xs (cur.take cs.length) (fun v hv=>ho1 v (List.mem_of_mem_take hv)) (fun i v hv=>?_) hxr.1 (fun i v x hv hx=>(hxr.2 i v x hv hx).mono hle)
    refine⟨g.blk k,0,rfl,?_⟩
    rw[List.getElem?_take] at hv
    split at hv
    ·show(if g.blk k=g.blk k then _ else _)=_
     rw[if_pos rfl,Nat.zero_add];exact hv
    ·cases hv
  ·obtain⟨j,rfl⟩:∃ j,i=pre.length+1+j:=⟨i - pre.length - 1,by omega⟩
   rw[List.getElem?_append_right (by omega),show pre.length+1+j - pre.length=j+1 by omega,List.getElem?_cons_succ] at hx
   have:=hr (pre.length+1+j) v (.p x) hv (by rw[List.getElem?_append_right (by simp;omega),List.length_map,show pre.length+1+j - pre.length=j+1 by omega,List.getElem?_cons_succ,List.getElem?_map,hx];rfl)
   cases this with
   | p _ _ h=>exact h.mono hle
 refine(hf.2 fz1 w vs hz1 hrl).mono ?_
 rintro e w' ⟨v,fz',rfl,hkp,hst,hok,hrep⟩
 have hbs:∀ j b,¬ Bset { g with fz:=fz' } j (hp [(k,AObj.lost)] j) b:=fun j b hb=>by
  by_cases hj:j=k
  ·subst hj;rw[hp_cons,if_pos rfl] at hb;exact hb
  ·rw[hp_cons,if_neg hj] at hb;exact hb
 have hlost:hp [(k,AObj.lost)] k=.lost:=by rw[hp_cons,if_pos rfl]
 have hle2:FzLe g.fz fz':=hle.trans hst.le
 refine⟨v,{ g with fz:=fz' },rfl,⟨hle2,fun j t' cs' hj=>?_,fun j hj=>?_,fun j m hj=>?_,fun j kp es hj=>?_⟩,⟨hok,fun j=>?_,fun j j' b hb _=>absurd hb (hbs j b)⟩,⟨?_,hle2,fun b hb hX=>?_,fun j b hb=>absurd hb (hbs j b),fun j t' cs' hj=>?_,fun j kp es hj=>?_,fun j m hj=>?_⟩,(hrep { g with fz:=fz' } rfl).of_noH _⟩
 ·by_cases e:j=k
  ·subst e;exact .inl hlost
  ·rw[hko j e] at hj;cases hj
 ·by_cases e:j=k
  ·subst e;exact hlost
  ·rw[hko j e] at hj;cases hj
 ·by_cases e:j=k
  ·subst e;rw[hk] at hj;cases hj
  ·rw[hko j e] at hj;cases hj
 ·by_cases e:j=k
  ·subst e;exact .inl hlost
  ·rw[hko j e] at hj;cases hj
 ·by_cases e:j=k
  ·subst e;rw[hlost];trivial
  ·rw[hp_cons,if_neg e];trivial
 ·exact⟨hkp.os,hkp.tape,hkp.output,hkp.size,fun b hb _=>hkp.block b hb (fun h=>h)⟩
 ·show fz' b=g.fz b
  rw[hst.low b hb]
  funext o
  show(if b=g.blk k then _ else _)=_
  rw[if_neg]
  intro e
  exact hX ⟨k,by
   show Bset g k (hp [(k,AObj.box t cs)] k) b
   rw[hk]
   exact⟨hpos,e⟩⟩
 ·by_cases e:j=k
  ·subst e;exact .inl hlost
  ·have:hp [(k,AObj.box t cs)] j=.box t' cs':=hj
   rw[hko j e] at this;cases this
 ·by_cases e:j=k
  ·subst e;exact .inl hlost
  ·have:hp [(k,AObj.box t cs)] j=.map kp es:=hj
   rw[hko j e] at this;cases this
 ·by_cases e:j=k
  ·subst e
   have:hp [(j,AObj.box t cs)] j=.tail m:=hj
   rw[hk] at this;cases this
  ·have:hp [(k,AObj.box t cs)] j=.tail m:=hj
   rw[hko j e] at this;cases this
end Go.Ab
namespace Go.Ab
open Go Go.Proofs
set_option maxRecDepth 10000
theorem calleeC(p:Prd)(nm:ByteArray):AFun Tryz.prog 200 [p.ex,.ref [eS nm]] (.p (eB (sEq p.name nm))):=by
 refine AFun.of hT Tryz.func200 rfl rfl (by simp) (AD.run hT hmix ?_)
 exact⟨_,_,rfl,rfl,rfl⟩
theorem idxPred(ps:List Prd)(hl:ps.length≤1000)(nm:ByteArray):∃ r:Int,(-1≤r∧r<ps.length)∧AFun Tryz.prog 199 [.slice 7 (ps.map Prd.ex),.fn (.func 200) [] [.ref [eS nm]]] (.p (eI r)):=by
 suffices hh:∃ y,(∃ r:Int,y=.p (eI r)∧-1≤r∧r<ps.length)∧AFun Tryz.prog 199 [.slice 7 (ps.map Prd.ex),.fn (.func 200) [] [.ref [eS nm]]] y by
  obtain⟨y,⟨r,rfl,h1,h2⟩,h⟩:=hh
  exact⟨r,⟨h1,h2⟩,h⟩
 have hm:(ps.map Prd.ex).length=ps.length:=List.length_map _
 refine AFunE.intro hT Tryz.func199 rfl rfl (by simp) ⟨_,-1,rfl,by omega,by omega⟩ (AD.run hT hmix ?_)
 intro _
 refine AD.loopI (fun i:Nat=>i≤ps.length) (fun i=>ps.length - i) (fun i=>[(0,.p (.slice 7 (ps.map Prd.ex))),(1,.p (.fn (.func 200) [] [.ref [eS nm]])),(7,eint .i64 (ps.map Prd.ex).length),(8,eint .i64 i)]) (fun _=>[]) 0 (Nat.zero_le _) .of fun i hi=>AD.run hT hmix ?_
 refine bgs (fun h1=>?_) (fun h1=>?_)
 ·replace h1:=odt h1
  have hlt:i<ps.length:=by omega
  refine igo_map i rfl hlt ?_
  refine .pure [ps[i].ex,.ref [eS nm]] _ rfl (calleeC ps[i] nm) ?_
  refine bgs (fun h2=>?_) (fun h2=>?_)
  ·exact⟨_,_,rfl,rfl,(i:Int),rfl,by omega,by omega⟩
  ·exact ngo_in (by omega) (by omega) ⟨i+1,by omega,by omega,.of⟩
 ·exact⟨_,_,rfl,rfl,-1,rfl,by omega,by omega⟩
theorem calleeP(s:Spc)(c:Nat)(hc:c≤s.preds.length)(hp:s.preds.length≤1000)(ts:List Bool)(nm:ByteArray):∃ r:Int,(-1≤r∧r<c)∧AFun Tryz.prog 143 [ckG s c ts,eS nm] (.p (eI r)):=by
 have ht:(s.preds.take c).length=c:=by rw[List.length_take];omega
 obtain⟨r,hr,h⟩:=idxPred (s.preds.take c) (by omega) nm
 rw[ht,List.map_take] at *
 refine⟨r,hr,?_⟩
 refine AFun.of hT Tryz.func143 rfl rfl (by simp) ?_
 refine AD.cut hT hmix 1 (fun _:Unit=>True) (fun _=>[(0,.p (ckG s c ts)),(3,.p (.ref [eS nm]))]) (fun _=>[]) ?_ fun _ _=>AD.run hT hmix ?_
 ·exact⟨(),trivial,.sealB 3⟩
 ·refine⟨0,c,rfl,rfl,Nat.zero_le _,by rw[List.length_map];exact hc,?_⟩
  refine .pure [.slice 7 ((s.preds.map Prd.ex).take c),.fn (.func 200) [] [.ref [eS nm]]] _ rfl h ⟨by kernel_rfl,_,_,rfl,rfl,rfl⟩
theorem timeOfC(s:Spc)(c:Nat)(hc:c≤s.preds.length)(hp:s.preds.length≤1000)(ts:List Bool)(hts:ts.length=c)(op:Int)(nm:ByteArray)(m:Int)(ks:List AV)(a:Int):∃ b,AFun Tryz.prog 90 [ckG s c ts,ndA op nm m ks a] (.p (eB b)):=by
 by_cases h47:op=47
 ·subst h47
  obtain⟨r,⟨r1,r2⟩,hr⟩:=calleeP s c hc hp ts nm
  rcases (show r<0∨0≤r by omega) with h0 | h0
  ·refine⟨false,AFun.of hT Tryz.func90 rfl rfl (by simp) (AD.run hT hmix ?_)⟩
   refine .pure [ckG s c ts,eS nm] _ rfl hr ?_
   refine bgo_false (decide_eq_false (by omega)) ?_
   exact⟨_,_,rfl,rfl,rfl⟩
  ·obtain⟨i,rfl⟩:=Int.eq_ofNat_of_zero_le h0
   have hi:i<ts.length:=by omega
   refine⟨ts[i],AFun.of hT Tryz.func90 rfl rfl (by simp) (AD.run hT hmix ?_)⟩
   refine .pure [ckG s c ts,eS nm] _ rfl hr ?_
   refine igo_map i rfl hi ?_
   exact⟨_,_,rfl,rfl,rfl⟩
 ·exact⟨_,timeOfG _ op h47 nm m ks a⟩
theorem idxNode(ck:AV)(ks:List Nd)(hl:ks.length≤100000)(H:∀ k∈ks,∃ b,AFun Tryz.prog 88 [ck,k.ex] (.p (eB b))):∃ r:Int,AFun Tryz.prog 198 [.slice 5 (ks.map Nd.ex),.fn (.func 88) [ck] []] (.p (eI r)):=by
 suffices hh:∃ y,(∃ r:Int,y=.p (eI r))∧AFun Tryz.prog 198 [.slice 5 (ks.map Nd.ex),.fn (.func 88) [ck] []] y by
  obtain⟨y,⟨r,rfl⟩,h⟩:=hh
  exact⟨r,h⟩
 have hm:(ks.map Nd.ex).length=ks.length:=List.length_map _
 refine AFunE.intro hT Tryz.func198 rfl rfl (by simp) ⟨_,-1,rfl⟩ (AD.run hT hmix ?_)
 intro _
 refine AD.loopI (fun i:Nat=>i≤ks.length) (fun i=>ks.length - i) (fun i=>[(0,.p (.slice 5 (ks.map Nd.ex))),(1,.p (.fn (.func 88) [ck] [])),(7,eint .i64 (ks.map Nd.ex).length),(8,eint .i64 i)]) (fun _=>[]) 0 (Nat.zero_le _) .of fun i hi=>AD.run hT hmix ?_
 refine bgs (fun h1=>?_) (fun h1=>?_)
 ·replace h1:=odt h1
  have hlt:i<ks.length:=by omega
  obtain⟨b,hb⟩:=H _ (List.getElem_mem hlt)
  refine igo_map i rfl hlt ?_
  refine .pure [ck,ks[i].ex] _ rfl hb ?_
  refine bgs (fun h2=>?_) (fun h2=>?_)
  ·exact⟨_,_,rfl,rfl,(i:Int),rfl⟩
  ·exact ngo_in (by omega) (by omega) ⟨i+1,by omega,by omega,.of⟩
 ·exact⟨_,_,rfl,rfl,-1,rfl⟩
theorem containsN(ck:AV)(ks:List Nd)(hl:ks.length≤100000)(H:∀ k∈ks,∃ b,AFun Tryz.prog 88 [ck,k.ex] (.p (eB b))):∃ b,AFun Tryz.prog 141 [.slice 5 (ks.map Nd.ex),.fn (.func 88) [ck] []] (.p (eB b)):=by
 obtain⟨r,h⟩:=idxNode ck ks hl H
 refine⟨decide (r≥0),AFun.of hT Tryz.func141 rfl rfl (by simp) (AD.run hT hmix ?_)⟩
 exact .pure [.slice 5 (ks.map Nd.ex),.fn (.func 88) [ck] []] _ rfl h ⟨_,_,rfl,rfl,rfl⟩
theorem temporalP(s:Spc)(c:Nat)(hc:c≤s.preds.length)(hp:s.preds.length≤1000)(ts:List Bool)(hts:ts.length=c)(n:Nd):n.WF→∃ b,AFun Tryz.prog 88 [ckG s c ts,n.ex] (.p (eB b)):=by
 induction n using Nd.ind with
 | h n ih=>
  intro hw
  have hk:=((Nd.WF_iff n).1 hw).2
  have hfew:=WF_few hw
  obtain⟨b1,h1⟩:=timeOfC s c hc hp ts hts n.op n.name n.n (n.kids.map Nd.ex) n.at_
  obtain⟨b2,h2⟩:=containsN (ckG s c ts) n.kids (by omega) fun k hkm=>ih k hkm (hk k hkm)
  have he:n.ex=ndA n.op n.name n.n (n.kids.map Nd.ex) n.at_:=by
   show AV.agg [_,_,_,.slice 5 (n.kids.map Nd.av),_]=_
   rw[Nd.av_ex]
  rw[he]
  cases b1 with
  | true=>
   refine⟨true,AFun.of hT Tryz.func88 rfl rfl (by simp) (AD.run hT hmix ?_)⟩
   exact .pure [ckG s c ts,ndA n.op n.name n.n (n.kids.map Nd.ex) n.at_] _ rfl h1 ⟨_,_,rfl,rfl,rfl⟩
  | false=>
   refine⟨b2,AFun.of hT Tryz.func88 rfl rfl (by simp) (AD.run hT hmix ?_)⟩
   refine .pure [ckG s c ts,ndA n.op n.name n.n (n.kids.map Nd.ex) n.at_] _ rfl h1 ?_
   exact .pure [.slice 5 (n.kids.map Nd.ex),.fn (.func 88) [ckG s c ts] []] _ rfl h2 ⟨_,_,rfl,rfl,rfl⟩
end Go.Ab
namespace Go.Ab
open Go Go.Proofs Go.RowKit
set_option maxRecDepth 10000
theorem newCheckerG(s:Spc)(hp:s.preds.length≤1000)(hw:∀ p∈s.preds,p.body.WF):∃ ts:List Bool,AFun Tryz.prog 40 [s.ex,eI s.preds.length] (.p (ckG s s.preds.length ts)):=by
 suffices hh:∃ y,(∃ ts:List Bool,y=.p (ckG s s.preds.length ts))∧AFun Tryz.prog 40 [s.ex,eI s.preds.length] y by
  obtain⟨y,⟨ts,rfl⟩,h⟩:=hh
  exact⟨ts,h⟩
 have hm:(s.preds.map Prd.ex).length=s.preds.length:=List.length_map _
 refine AFunE.intro hT Tryz.func40 rfl rfl (by simp) ⟨_,[],rfl⟩ (AD.finSub (AD.run hT hmix ?_))
 refine AD.loopI (fun ts:List Bool=>ts.length≤s.preds.length) (fun ts=>s.preds.length - ts.length) (fun ts=>[(1,.p (eI s.preds.length)),(2,.loc 2 0),(5,.loc 9 0)])
  (fun ts=>[(2,.box 27 (s.cx.map .p)),(9,.box 158 (s.cx.map .p++[.p (eI ts.length),.own 1 (ts.map eB) 34])),(34,.tail (ts.map eB).length)]) [] (Nat.zero_le _) .of fun ts hts=>AD.run hT hmix ?_
 refine bgs (fun h1=>?_) (fun h1=>?_)
 ·replace h1:=odt h1
  have hlt:ts.length<s.preds.length:=by omega
  obtain⟨b,hb⟩:=temporalP s ts.length (by omega) hp ts rfl s.preds[ts.length].body (hw _ (List.getElem_mem hlt))
  refine igo_map ts.length rfl hlt ?_
  refine⟨by kernel_rfl,?_⟩
  have he:=AFun.loc (k:=9) (t:=158) (h0:=[(9,.box 158 (s.cx.map .p++[.p (eI ts.length),.own 1 (ts.map eB) 34])),(34,.tail (ts.map eB).length)]) (cs:=s.cx.map .p++[.p (eI ts.length),.own 1 (ts.map eB) 34]) (ys:=[s.preds[ts.length].body.ex]) hb rfl rfl rfl (by simp)
  refine .read _ _ (he.le ⟨.inl rfl,.inr ⟨_,rfl,rfl⟩,trivial⟩) ⟨rfl,rfl,trivial⟩ rfl rfl ?_
  have e1:(((ts++[b]).length:Nat):Int)=ts.length+1:=by simp
  refine⟨rfl,⟨by simp;omega,by simp;omega⟩,by kernel_rfl,ngo_in (by omega) (by omega) ⟨ts++[b],by simp;omega,by simp;omega,?_⟩⟩
  rw[List.map_append,e1]
  exact .of
 ·replace h1:=of_decide_eq_false h1
  have:ts.length=s.preds.length:=by omega
  rw[this]
  refine⟨[(4,.p (ckG s s.preds.length ts))],[],.sealB 9,_,_,rfl,rfl,ts,rfl⟩
end Go.Ab
namespace Go.Ab
open Go Go.Proofs
set_option maxRecDepth 10000
def sn(sc:Scope)(x:Int):Nat:=(sortGo 0 sc.atoms x).toNat
def dig(N t:Int)(e:Nat):Int:=t / N ^ e % N
def scode(sc:Scope)(a:Nat)(t:Int):Nat:=cod ((List.range a).map fun i=>sn sc (dig (sumI sc.atoms) t (a - 1 - i)))
theorem sortGo_rng:∀ (l:List Int) (j x:Int),(∀ k∈l,1≤k)→0≤x→x<sumI l→j≤sortGo j l x∧sortGo j l x<j+l.length
 | [],j,x,_,h0,h1=>by simp[sumI] at h1;omega
 | k::r,j,x,h,h0,h1=>by
  rw[sumI_cons] at h1
  rw[sortGo,List.length_cons]
  split
  ·omega
  ·have:=sortGo_rng r (j+1) (x - k) (fun y hy=>h y (List.mem_cons_of_mem _ hy)) (by omega) (by omega)
   omega
section
variable {s:Spc} {m:Mdl}
theorem sn_lt(hm:MOk s m)(h4:s.sorts.length≤4){x:Int}(h0:0≤x)(h1:x<m.n):sn m.scope x<s.sorts.length:=by
 have:=sortGo_rng m.scope.atoms 0 x hm.at1 h0 h1
 rw[hm.sl] at this
 unfold sn
 omega
theorem dig_rng{N:Int}(hN:0<N)(t:Int)(e:Nat):0≤dig N t e∧dig N t e<N:=mod_rng hN _
theorem dig_hi{N h l:Int}(hN:0<N){B:Nat}(l0:0≤l)(l1:l<N ^ B)(e:Nat):dig N (h*N ^ B+l) (B+e)=dig N h e:=by
 unfold dig
 rw[Int.pow_add,← Int.ediv_ediv_of_nonneg (Int.le_of_lt (ipow_pos hN B)),comb_div l0 l1]
theorem dig_lo{N h l:Int}(hN:0<N){B e:Nat}(he:e<B):dig N (h*N ^ B+l) e=dig N l e:=by
 unfold dig
 obtain⟨j,rfl⟩:∃ j,B=e+(j+1):=⟨B - e - 1,by omega⟩
 have hp:=ipow_pos hN e
 rw[Int.pow_add,show h*(N ^ e*N ^ (j+1))+l=l+h*N ^ (j+1)*N ^ e by rw[Int.mul_comm (N ^ e),← Int.mul_assoc,Int.add_comm],Int.add_mul_ediv_right _ _ (by omega),Int.pow_succ,← Int.mul_assoc,Int.add_mul_emod_self_right]
theorem dig_div{N:Int}(hN:0<N)(t:Int)(e:Nat):dig N (t / N) e=dig N t (e+1):=by
 unfold dig
 rw[div_pow hN]
theorem dig_mod{N:Int}(hN:0<N){B e:Nat}(he:e<B)(t:Int):dig N (t % N ^ B) e=dig N t e:=by
 conv=>rhs;rw[← div_comb t (N ^ B)]
 rw[dig_lo hN he]
theorem dig_id{N t:Int}(h0:0≤t)(h1:t<N):dig N t 0=t:=by
 unfold dig
 rw[Int.pow_zero,Int.ediv_one,Int.emod_eq_of_lt h0 h1]
theorem sd_lt(hm:MOk s m)(h4:s.sorts.length≤4)(t:Int)(e:Nat):sn m.scope (dig m.n t e)<4:=by
 obtain⟨a,b⟩:=dig_rng hm.pos t e
 have:=sn_lt hm h4 a b
 omega
theorem sc1(sc:Scope)(t:Int):scode sc 1 t=cod [sn sc (dig (sumI sc.atoms) t 0),0,0]:=rfl
theorem sc2(sc:Scope)(t:Int):scode sc 2 t=cod [sn sc (dig (sumI sc.atoms) t 1),sn sc (dig (sumI sc.atoms) t 0),0]:=rfl
theorem sc3(sc:Scope)(t:Int):scode sc 3 t=cod [sn sc (dig (sumI sc.atoms) t 2),sn sc (dig (sumI sc.atoms) t 1),sn sc (dig (sumI sc.atoms) t 0)]:=rfl
theorem dg_cod{a b c:Nat}(ha:a<4)(hb:b<4)(hc:c<4):cod [a,b,c]<64∧dg (cod [a,b,c]) 0=a∧dg (cod [a,b,c]) 1=b∧dg (cod [a,b,c]) 2=c:=by
 have e:cod [a,b,c]=16*a+4*b+c:=rfl
 rw[e]
 refine⟨by omega,?_,?_,?_⟩
 ·show(16*a+4*b+c) / 16=a;omega
 ·show(16*a+4*b+c) / 4 % 4=b;omega
 ·show(16*a+4*b+c) % 4=c;omega
theorem scode_dg(hm:MOk s m)(h4:s.sorts.length≤4){a:Nat}(ha:1≤a∧a≤3)(t:Int):scode m.scope a t<64∧∀ i,i<a→dg (scode m.scope a t) i=sn m.scope (dig m.n t (a - 1 - i)):=by
 have h:=sd_lt hm h4 t
 have z:0<4:=by decide
 have ha':a=1∨a=2∨a=3:=by omega
 rcases ha' with rfl | rfl | rfl
 ·obtain⟨g,g0,g1,g2⟩:=dg_cod (h 0) z z
  rw[sc1]
  refine⟨g,fun i hi=>?_⟩
  match i,hi with
  | 0,_=>exact g0
 ·obtain⟨g,g0,g1,g2⟩:=dg_cod (h 1) (h 0) z
  rw[sc2]
  refine⟨g,fun i hi=>?_⟩
  match i,hi with
  | 0,_=>exact g0
  | 1,_=>exact g1
 ·obtain⟨g,g0,g1,g2⟩:=dg_cod (h 2) (h 1) (h 0)
  rw[sc3]
  refine⟨g,fun i hi=>?_⟩
  match i,hi with
  | 0,_=>exact g0
  | 1,_=>exact g1
  | 2,_=>exact g2
def Snd(sc:Scope)(P:Nat→Bool)(a:Nat)(r:Rl):Prop:=∀ t∈r.tuples,P (scode sc a t)=true
theorem snd_union{P Q:Nat→Bool}{k:Nat}{a b:Rl}(h1:Snd m.scope P k a)(h2:Snd m.scope Q k b):Snd m.scope (fun e=>P e||Q e) k (rUnion a b):=fun t ht=>by
 rw[Bool.or_eq_true]
 rcases (mem_cl.1 ht).2 with h | h
 ·exact .inl (h1 t h)
 ·exact .inr (h2 t h)
theorem snd_inter{P Q:Nat→Bool}{k:Nat}{a b:Rl}(h1:Snd m.scope P k a)(h2:Snd m.scope Q k b):Snd m.scope (fun e=>P e&&Q e) k (rInter a b):=fun t ht=>by
 rw[Bool.and_eq_true]
 exact⟨h1 t (mem_cl.1 ht).2.1,h2 t (mem_cl.1 ht).2.2⟩
theorem snd_diff{P:Nat→Bool}{k:Nat}{a b:Rl}(h1:Snd m.scope P k a):Snd m.scope P k (rDiff a b):=fun t ht=>h1 t (mem_cl.1 ht).2.1
theorem snd_over{P Q:Nat→Bool}{k:Nat}{a b:Rl}(h1:Snd m.scope P k a)(h2:Snd m.scope Q k b):Snd m.scope (fun e=>P e||Q e) k (rOver m.n a b):=fun t ht=>by
 rw[Bool.or_eq_true]
 rcases (mem_cl.1 ht).2 with h | h
 ·exact .inr (h2 t h)
 ·exact .inl (h1 t h.1)
theorem snd_filter{P:Nat→Bool}{k:Nat}{a:Rl}(q:Int→Bool)(h1:Snd m.scope P k a):Snd m.scope P k ⟨1,a.tuples.filter q⟩:=fun t ht=>h1 t (List.mem_filter.1 ht).1
theorem snd_product(hm:MOk s m)(h4:s.sorts.length≤4){P Q:Nat→Bool}{j k:Nat}{a b:Rl}(ha:a.Ok m.n)(hb:b.Ok m.n)(e1:a.arity=j)(e2:b.arity=k)(h3:j+k≤3)(h1:Snd m.scope P j a)(h2:Snd m.scope Q k b):
 Snd m.scope (fun e=>(canon P).any fun c=>(canon Q).any fun d=>e==jcd j k 0 c d) (j+k) (rProduct m.n a b):=fun t ht=>by
 obtain⟨u,hu,v,hv,rfl⟩:=(mem_cl.1 ht).2
 have hj:=ha.a
 have hk:=hb.a
 have hvr:=hb.rng v hv
 rw[e2,Int.toNat_natCast] at hvr
 obtain⟨c1,c2⟩:=scode_dg hm h4 (a:=j) (by omega) u
 obtain⟨d1,d2⟩:=scode_dg hm h4 (a:=k) (by omega) v
 refine List.any_eq_true.2 ⟨_,mem_canon.2 ⟨c1,h1 u hu⟩,List.any_eq_true.2 ⟨_,mem_canon.2 ⟨d1,h2 v hv⟩,beq_iff_eq.2 ?_⟩⟩
 rw[pw_eq,e2,Int.toNat_natCast]
 have hi:=fun e=>dig_hi (h:=u) hm.pos hvr.1 hvr.2 e
 have lo:=fun e (he:e<k)=>dig_lo (h:=u) (l:=v) hm.pos he
 have hcase:(j=1∧k=1)∨(j=1∧k=2)∨(j=2∧k=1):=by omega
 rcases hcase with ⟨rfl,rfl⟩ | ⟨rfl,rfl⟩ | ⟨rfl,rfl⟩
 ·rw[sc2,show jcd 1 1 0 (scode m.scope 1 u) (scode m.scope 1 v)=cod [dg (scode m.scope 1 u) 0,dg (scode m.scope 1 v) 0,0] from rfl,c2 0 (by omega),d2 0 (by omega)]
  have x1:=hi 0
  have x0:=lo 0 (by omega)
  rw[show sumI m.scope.atoms=m.n from rfl,x1,x0]
 ·rw[sc3,show jcd 1 2 0 (scode m.scope 1 u) (scode m.scope 2 v)=cod [dg (scode m.scope 1 u) 0,dg (scode m.scope 2 v) 0,dg (scode m.scope 2 v) 1] from rfl,c2 0 (by omega),d2 0 (by omega),d2 1 (by omega)]
  have x2:=hi 0
  have x1:=lo 1 (by omega)
  have x0:=lo 0 (by omega)
  rw[show sumI m.scope.atoms=m.n from rfl,x2,x1,x0]
 ·rw[sc3,show jcd 2 1 0 (scode m.scope 2 u) (scode m.scope 1 v)=cod [dg (scode m.scope 2 u) 0,dg (scode m.scope 2 u) 1,dg (scode m.scope 1 v) 0] from rfl,c2 0 (by omega),c2 1 (by omega),d2 0 (by omega)]
  have x2:=hi 1
  have x1:=hi 0
  have x0:=lo 0 (by omega)
  rw[show sumI m.scope.atoms=m.n from rfl,x2,x1,x0]
theorem snd_join(hm:MOk s m)(h4:s.sorts.length≤4){P Q:Nat→Bool}{j k:Nat}{a b:Rl}(ha:a.Ok m.n)(hb:b.Ok m.n)(e1:a.arity=j)(e2:b.arity=k)(h3:1≤j+k - 2∧j+k - 2≤3)(h1:Snd m.scope P j a)(h2:Snd m.scope Q k b):
 Snd m.scope (fun e=>(canon P).any fun c=>(canon Q).any fun d=>addJ j c d (jcd j k 1 c d) e) (j+k - 2) (rJoin m.n a b):=fun t ht=>by
 obtain⟨u,hu,v,hv,huv,rfl⟩:=(mem_cl.1 ht).2
 have hj:=ha.a
 have hk:=hb.a
 have hvr:=hb.rng v hv
 rw[e2,Int.toNat_natCast] at hvr
 obtain⟨c1,c2⟩:=scode_dg hm h4 (a:=j) (by omega) u
 obtain⟨d1,d2⟩:=scode_dg hm h4 (a:=k) (by omega) v
 rw[pw_eq,e2,show((k:Int) - 1).toNat=k - 1 by omega] at huv ⊢
 have hp:=ipow_pos hm.pos (k - 1)
 obtain⟨m0,m1⟩:=mod_rng hp v
 have hmid:dg (scode m.scope j u) (j - 1)=dg (scode m.scope k v) 0:=by
  rw[c2 (j - 1) (by omega),d2 0 (by omega)]
  congr 1
  rw[show j - 1 - (j - 1)=0 by omega,show k - 1 - 0=k - 1 by omega]
  unfold dig
  rw[Int.pow_zero,Int.ediv_one,huv]
  obtain⟨q0,q1⟩:=div_lt_pow hm.pos (k:=0) (t:=v / m.n ^ (k - 1)) (Int.ediv_nonneg hvr.1 (Int.le_of_lt hp)) (by
   rw[Int.pow_succ,Int.pow_zero,Int.one_mul]
   refine Int.ediv_lt_of_lt_mul hp ?_
   rw[Int.mul_comm,← Int.pow_succ,show(k - 1).succ=k by omega]
   exact hvr.2)
  rw[Int.emod_eq_of_lt (Int.ediv_nonneg hvr.1 (Int.le_of_lt hp)) (by
   refine Int.ediv_lt_of_lt_mul hp ?_
   rw[Int.mul_comm,← Int.pow_succ,show(k - 1).succ=k by omega]
   exact hvr.2)]
 refine List.any_eq_true.2 ⟨_,mem_canon.2 ⟨c1,h1 u hu⟩,List.any_eq_true.2 ⟨_,mem_canon.2 ⟨d1,h2 v hv⟩,?_⟩⟩
 unfold addJ
 rw[hmid,beq_self_eq_true,Bool.true_and,beq_iff_eq]
 have hi:=fun e=>(dig_hi (h:=u / m.n) hm.pos m0 m1 e).trans (dig_div hm.pos u e)
 have lo:=fun e (he:e<k - 1)=>(dig_lo (h:=u / m.n) (l:=v % m.n ^ (k - 1)) hm.pos he).trans (dig_mod hm.pos he v)
 have hcase:(j=1∧k=2)∨(j=1∧k=3)∨(j=2∧k=1)∨(j=2∧k=2)∨(j=2∧k=3)∨(j=3∧k=1)∨(j=3∧k=2):=by omega
 rcases hcase with ⟨rfl,rfl⟩ | ⟨rfl,rfl⟩ | ⟨rfl,rfl⟩ | ⟨rfl,rfl⟩ | ⟨rfl,rfl⟩ | ⟨rfl,rfl⟩ | ⟨rfl,rfl⟩
 ·show scode m.scope 1 _=cod [dg (scode m.scope 2 v) 1,0,0]
  have x0:=lo 0 (by omega)
  rw[sc1,d2 1 (by omega),show sumI m.scope.atoms=m.n from rfl,x0]
 ·show scode m.scope 2 _=cod [dg (scode m.scope 3 v) 1,dg (scode m.scope 3 v) 2,0]
  have x0:=lo 0 (by omega)
  have x1:=lo 1 (by omega)
  rw[sc2,d2 1 (by omega),d2 2 (by omega),show sumI m.scope.atoms=m.n from rfl,x0,x1]
 ·show scode m.scope 1 _=cod [dg (scode m.scope 2 u) 0,0,0]
  have x0:=hi 0
  rw[sc1,c2 0 (by omega),show sumI m.scope.atoms=m.n from rfl,x0]
 ·show scode m.scope 2 _=cod [dg (scode m.scope 2 u) 0,dg (scode m.scope 2 v) 1,0]
  have x1:=hi 0
  have x0:=lo 0 (by omega)
  rw[sc2,c2 0 (by omega),d2 1 (by omega),show sumI m.scope.atoms=m.n from rfl,x1,x0]
 ·show scode m.scope 3 _=cod [dg (scode m.scope 2 u) 0,dg (scode m.scope 3 v) 1,dg (scode m.scope 3 v) 2]
  have x2:=hi 0
  have x1:=lo 1 (by omega)
  have x0:=lo 0 (by omega)
  rw[sc3,c2 0 (by omega),d2 1 (by omega),d2 2 (by omega),show sumI m.scope.atoms=m.n from rfl,x2,x1,x0]
 ·show scode m.scope 2 _=cod [dg (scode m.scope 3 u) 0,dg (scode m.scope 3 u) 1,0]
  have x1:=hi 1
  have x0:=hi 0
  rw[sc2,c2 0 (by omega),c2 1 (by omega),show sumI m.scope.atoms=m.n from rfl,x1,x0]
 ·show scode m.scope 3 _=cod [dg (scode m.scope 3 u) 0,dg (scode m.scope 3 u) 1,dg (scode m.scope 2 v) 1]
  have x2:=hi 1
  have x1:=hi 0
  have x0:=lo 0 (by omega)
  rw[sc3,c2 0 (by omega),c2 1 (by omega),d2 1 (by omega),show sumI m.scope.atoms=m.n from rfl,x2,x1,x0]
theorem sc_pair(hm:MOk s m){x y:Int}(x0:0≤x)(x1:x<m.n)(y0:0≤y)(y1:y<m.n):scode m.scope 2 (x*m.n+y)=cod [sn m.scope x,sn m.scope y,0]:=by
 have h1:=dig_hi (h:=x) (B:=1) hm.pos y0 (by rw[Int.pow_succ,Int.pow_zero,Int.one_mul];exact y1) 0
 have h0:=dig_lo (h:=x) (l:=y) (B:=1) (e:=0) hm.pos (by omega)
 rw[Int.pow_succ,Int.pow_zero,Int.one_mul] at h1 h0
 rw[sc2,show sumI m.scope.atoms=m.n from rfl,h0,show(1:Nat)=1+0 from rfl,h1,dig_id x0 x1,dig_id y0 y1]
theorem snd_trans(hm:MOk s m)(h4:s.sorts.length≤4){P:Nat→Bool}{a:Rl}(ha:a.Ok m.n)(e:a.arity=2)(h1:Snd m.scope P 2 a):Snd m.scope (fun e=>(canon P).any fun c=>e==swc c) 2 (rTrans m.n a):=fun t ht=>by
 obtain⟨u,hu,rfl⟩:=(mem_cl.1 ht).2
 have hr:=ha.rng u hu
 rw[e,sq hm.pos hm.n12] at hr
 obtain⟨a0,a1⟩:=mod_rng hm.pos u
 have b0:=Int.ediv_nonneg hr.1 (Int.le_of_lt hm.pos)
 have b1:=Int.ediv_lt_of_lt_mul hm.pos hr.2
 obtain⟨c1,c2⟩:=scode_dg hm h4 (a:=2) (by omega) u
 refine List.any_eq_true.2 ⟨_,mem_canon.2 ⟨c1,h1 u hu⟩,beq_iff_eq.2 ?_⟩
 rw[sc_pair hm a0 a1 b0 b1]
 unfold swc
 rw[c2 1 (by omega),c2 0 (by omega)]
 have d1:dig m.n u (2 - 1 - 1)=u % m.n:=by unfold dig;rw[show 2 - 1 - 1=0 from rfl,Int.pow_zero,Int.ediv_one]
 have d0:dig m.n u (2 - 1 - 0)=u / m.n:=by unfold dig;rw[show 2 - 1 - 0=1 from rfl,Int.pow_succ,Int.pow_zero,Int.one_mul,Int.emod_eq_of_lt b0 b1]
 rw[d1,d0]
theorem snd_clos(hm:MOk s m)(h4:s.sorts.length≤4){P R:Nat→Bool}{a:Rl}(hC:Closed P R)(h1:Snd m.scope P 2 a):Snd m.scope R 2 (rClos m.n a):=by
 have key:∀ x y,TC (fun x y=>(0≤x∧x<m.n)∧(0≤y∧y<m.n)∧x*m.n+y∈a.tuples) x y→(0≤x∧x<m.n)∧(0≤y∧y<m.n)∧R (cod [sn m.scope x,sn m.scope y,0])=true:=by
  intro x y h
  have lt:∀ {x:Int},0≤x∧x<m.n→sn m.scope x<4:=fun {x} hx=>by have:=sn_lt hm h4 hx.1 hx.2;omega
  have z:0<4:=by decide
  induction h with
  | one h=>
   obtain⟨hx,hy,ht⟩:=h
   have:=h1 _ ht
   rw[sc_pair hm hx.1 hx.2 hy.1 hy.2] at this
   exact⟨hx,hy,hC.1 _ (dg_cod (lt hx) (lt hy) z).1 this⟩
  | more h k ih=>
   obtain⟨hx,hy,hR⟩:=ih
   obtain⟨_,hz,ht⟩:=k
   have hp:=h1 _ ht
   rw[sc_pair hm hy.1 hy.2 hz.1 hz.2] at hp
   refine⟨hx,hz,hC.2 _ (dg_cod (lt hx) (lt hz) z).1 ?_⟩
   obtain⟨p1,p2,p3,_⟩:=dg_cod (lt hx) (lt hy) z
   obtain⟨q1,q2,q3,_⟩:=dg_cod (lt hy) (lt hz) z
   refine List.any_eq_true.2 ⟨_,mem_canon.2 ⟨p1,hR⟩,List.any_eq_true.2 ⟨_,mem_canon.2 ⟨q1,hC.1 _ q1 hp⟩,?_⟩⟩
   unfold addJ
   rw[show 2 - 1=1 from rfl,p3,q2,beq_self_eq_true,Bool.true_and,beq_iff_eq]
   show _=cod [dg _ 0,dg _ 1,0]
   rw[p2,q3]
 intro t ht
 obtain⟨⟨t0,_⟩,t1,hT⟩:=mem_cl.1 ht
 obtain⟨hx,hy,hR⟩:=key _ _ hT
 rw[← sc_pair hm hx.1 hx.2 hy.1 hy.2,div_comb] at hR
 exact hR
def diagP(k a:Nat)(e:Nat):Bool:=(List.range k).any fun i=>e==cod (List.replicate a i)
theorem snd_univ(hm:MOk s m)(h4:s.sorts.length≤4):Snd m.scope (diagP s.sorts.length 1) 1 (rUniv m.n):=fun t ht=>by
 have h:=(mem_cl.1 ht).2
 refine List.any_eq_true.2 ⟨sn m.scope t,List.mem_range.2 (sn_lt hm h4 h.1 h.2),beq_iff_eq.2 ?_⟩
 rw[sc1,show sumI m.scope.atoms=m.n from rfl,dig_id h.1 h.2]
 rfl
theorem snd_iden(hm:MOk s m)(h4:s.sorts.length≤4):Snd m.scope (diagP s.sorts.length 2) 2 (rIden m.n):=fun t ht=>by
 obtain⟨y,h0,h1,rfl⟩:=(mem_cl.1 ht).2
 refine List.any_eq_true.2 ⟨sn m.scope y,List.mem_range.2 (sn_lt hm h4 h0 h1),beq_iff_eq.2 ?_⟩
 rw[sc_pair hm h0 h1 h0 h1]
 rfl
theorem snd_one(hm:MOk s m){x:Int}{P:Nat→Bool}(h0:0≤x)(h1:x<m.n)(h:P (16*sn m.scope x)=true):Snd m.scope P 1 ⟨1,[x]⟩:=fun t ht=>by
 obtain rfl:=List.mem_singleton.1 ht
 rw[sc1,show sumI m.scope.atoms=m.n from rfl,dig_id h0 h1]
 exact h
theorem sc_one(hm:MOk s m){x:Int}(h0:0≤x)(h1:x<m.n):scode m.scope 1 x=16*sn m.scope x:=by
 rw[sc1,show sumI m.scope.atoms=m.n from rfl,dig_id h0 h1];rfl
end
def FTy(s:Spc)(m:Mdl):Prop:=∀ st∈m.states,∀ (f:Nat) (h:f<st.length) (h':f<s.fields.length),∀ t∈st[f].tuples,scode m.scope s.fields[f].sorts.length t=cod (s.fields[f].sorts.map Int.toNat)
theorem full_scode{sc:Scope}{N:Nat}(hN:sumI sc.atoms=N){sorts:List Int}{M:Nat}{t:Int}(h:t∈fullT sc.atoms N sorts M):scode sc sorts.length t=cod (sorts.map Int.toNat):=by
 obtain⟨r,hr,rfl⟩:=List.mem_map.1 h
 have hc:=(List.mem_filter.1 hr).2
 unfold colsOk at hc
 unfold scode
 congr 1
 refine List.ext_getElem (by simp) fun i h1 h2=>?_
 have hi:i<sorts.length:=by simpa using h1
 have:=odt (List.all_eq_true.1 hc i (List.mem_range.2 hi))
 simp only[List.getElem_map,List.getElem_range]
 unfold sn dig
 rw[hN]
 have hd:(digs N sorts.length r).getD i 0=(r:Int) / (N:Int) ^ (sorts.length - 1 - i) % N:=by
  rw[List.getD_eq_getElem?_getD,List.getElem?_eq_getElem (by simp[digs];omega)]
  simp[digs]
 rw[hd] at this
 rw[this,List.getD_eq_getElem?_getD,List.getElem?_eq_getElem hi]
 rfl
def AllP{α β:Type}(R:α→β→Prop):List α→List β→Prop
 | [],[]=>True
 | a::l,b::r=>R a b∧AllP R l r
 | _,_=>False
theorem AllP.app{α β:Type}{R:α→β→Prop}:∀ {a:List α} {b:List β} {c:List α} {d:List β},AllP R a b→AllP R c d→AllP R (a++c) (b++d)
 | [],[],_,_,_,h=>h
 | _::_,_::_,_,_,h,k=>⟨h.1,h.2.app k⟩
 | [],_::_,_,_,h,_=>h.elim
 | _::_,[],_,_,h,_=>h.elim
theorem AllP.flat{α β γ δ:Type}{R:α→β→Prop}(f:γ→List α)(g:δ→List β):∀ {l:List γ} {l':List δ},AllP (fun x y=>AllP R (f x) (g y)) l l'→AllP R (l.flatMap f) (l'.flatMap g)
 | [],[],_=>trivial
 | x::l,y::r,h=>by
  rw[List.flatMap_cons,List.flatMap_cons]
  exact h.1.app (AllP.flat f g h.2)
 | [],_::_,h=>h.elim
 | _::_,[],h=>h.elim
theorem AllP.len{α β:Type}{R:α→β→Prop}:∀ {a:List α} {b:List β},AllP R a b→a.length=b.length
 | [],[],_=>rfl
 | _::_,_::_,h=>by rw[List.length_cons,List.length_cons,h.2.len]
 | [],_::_,h=>h.elim
 | _::_,[],h=>h.elim
theorem AllP.zip{α:Type}{R:α→α×Nat→Prop}:∀ (l:List α) (k:Nat),(∀ (i:Nat) (h:i<l.length),R l[i] (l[i],k+i))→AllP R l (l.zipIdx k)
 | [],_,_=>trivial
 | x::r,k,h=>by
  rw[List.zipIdx_cons]
  refine⟨h 0 (Nat.zero_lt_succ _),AllP.zip r (k+1) fun i hi=>?_⟩
  have:=h (i+1) (Nat.succ_lt_succ hi)
  rw[show k+(i+1)=k+1+i by omega] at this
  exact this
theorem AllP.same{α:Type}{R:α→α→Prop}:∀ {l:List α},(∀ x∈l,R x x)→AllP R l l
 | [],_=>trivial
 | x::r,h=>⟨h x (List.mem_cons_self ..),AllP.same fun y hy=>h y (List.mem_cons_of_mem _ hy)⟩
abbrev Kn:=Nat×(Nat→Bool)
abbrev Kn.av(k:Kn):AV:=kdP (k.1:Int) k.2
def knO(l:List Nat):Kn:=(l.length,fun e=>e==cod l)
def pF(nm:ByteArray)(f:Fld):List Kn:=if sEq f.name nm=true then [knO (f.sorts.map Int.toNat)] else []
def pS(nm:ByteArray)(s:Srt×Nat):List Kn:=(if sEq s.1.name nm=true then [knO [s.2]] else [])++((if (s.1.ordered&&sEq (s.1.name++sFirst) nm)=true then [knO [s.2]] else [])++(if (s.1.ordered&&sEq (s.1.name++sNext) nm)=true then [knO [s.2,s.2]] else []))
def meanK(s:Spc)(nm:ByteArray):List Kn:=s.fields.flatMap (pF nm)++s.sorts.zipIdx.flatMap (pS nm)
theorem mean_K(s:Spc)(nm:ByteArray):mean s nm=(meanK s nm).map Kn.av:=by
 have h1:∀ f,mF nm f=(pF nm f).map Kn.av:=fun f=>by
  unfold mF pF
  split <;> rfl
 have h2:∀ f,mS nm f=(pS nm f).map Kn.av:=fun f=>by
  unfold mS pS
  rw[List.map_append,List.map_append]
  congr 1
  ·split <;> rfl
  ·congr 1
   ·split <;> rfl
   ·split <;> rfl
 unfold mean meanK
 rw[List.map_append,List.map_flatMap,List.map_flatMap,funext h1,funext h2]
def Is(m:Mdl)(k:Kn)(r:Rl):Prop:=r.arity=k.1∧Snd m.scope k.2 k.1 r
section
variable {s:Spc} {m:Mdl}
theorem sn_of(hm:MOk s m){i:Nat}(hi:i<s.sorts.length){x:Int}(h:firstOf m.scope i≤x∧x<firstOf m.scope i+atomsOf m.scope i):(0≤x∧x<m.n)∧sn m.scope x=i:=by
 have:=(firstOf_iff hm (by rw[hm.sl];exact hi) x).1 h
 refine⟨⟨this.1,this.2.1⟩,?_⟩
 unfold sn
 rw[this.2.2]
 rfl
theorem meanK_is(hm:MOk s m)(hf:FTy s m){st:Int}(h0:0≤st)(h1:st<m.states.length)(nm:ByteArray):AllP (Is m) (meanK s nm) (foundR s m st nm):=by
 have hlt:st.toNat<m.states.length:=by omega
 have hst:m.states[st.toNat]?.getD []=m.states[st.toNat]:=by rw[List.getElem?_eq_getElem hlt];rfl
 have hmem:=List.getElem_mem hlt
 obtain⟨hlen,hok⟩:=hm.st _ hmem
 unfold meanK foundR
 refine AllP.app (AllP.flat _ _ (AllP.zip _ 0 fun i hi=>?_)) (AllP.flat _ _ (AllP.same fun x hx=>?_))
 ·unfold pF fRels
  rw[hst,Nat.zero_add]
  dsimp only
  have hi':i<m.states[st.toNat].length:=by rw[hlen];exact hi
  rw[List.getElem?_eq_getElem hi',Option.getD_some]
  split
  ·refine⟨⟨(hok i hi' hi).2.trans ?_,fun t ht=>?_⟩,trivial⟩
   ·show _=((((s.fields[i].sorts.map Int.toNat).length:Nat)):Int)
    rw[List.length_map]
   ·show(scode m.scope (s.fields[i].sorts.map Int.toNat).length t==cod (s.fields[i].sorts.map Int.toNat))=true
    rw[List.length_map,hf _ hmem i hi' hi t ht]
    exact beq_self_eq_true _
  ·trivial
 ·obtain⟨i,hi,rfl⟩:=mem_zip hx
  unfold pS sRels
  dsimp only
  have at1:=atoms_pos hm hi
  refine AllP.app ?_ (AllP.app ?_ ?_)
  ·split
   ·refine⟨⟨rfl,fun t ht=>?_⟩,trivial⟩
    obtain⟨h2,h3⟩:=sn_of hm hi (mem_cl.1 ht).2
    show(scode m.scope 1 t==cod [i])=true
    rw[sc_one hm h2.1 h2.2,h3]
    exact beq_iff_eq.2 rfl
   ·trivial
  ·split
   ·refine⟨⟨rfl,fun t ht=>?_⟩,trivial⟩
    obtain rfl:=List.mem_singleton.1 ht
    obtain⟨h2,h3⟩:=sn_of hm hi (x:=firstOf m.scope i) ⟨Int.le_refl _,by omega⟩
    show(scode m.scope 1 _==cod [i])=true
    rw[sc_one hm h2.1 h2.2,h3]
    exact beq_iff_eq.2 rfl
   ·trivial
  ·split
   ·refine⟨⟨rfl,fun t ht=>?_⟩,trivial⟩
    obtain⟨k,h2,h3,rfl⟩:=(mem_cl.1 ht).2
    obtain⟨h4,h5⟩:=sn_of hm hi (x:=k) ⟨h2,by omega⟩
    obtain⟨h6,h7⟩:=sn_of hm hi (x:=k+1) ⟨by omega,h3⟩
    show(scode m.scope 2 _==cod [i,i])=true
    rw[show sumI m.scope.atoms=m.n from rfl,sc_pair hm h4.1 h4.2 h6.1 h6.2,h5,h7]
    exact beq_iff_eq.2 rfl
   ·trivial
theorem mean_one(hm:MOk s m)(hf:FTy s m){nm:ByteArray}{a:Int}(h:s.found nm=[a]):∃ k:Kn,meanK s nm=[k]∧(k.1:Int)=a∧∀ st:Int,0≤st→st<m.states.length→Snd m.scope k.2 k.1 ((foundR s m st nm).head?.getD ⟨0,[]⟩):=by
 have hne:=hm.ne
 have h0:=meanK_is hm hf (st:=0) (by omega) (by omega) nm
 obtain⟨_,f2⟩:=foundR_ok hm (st:=0) (by omega) (by omega) nm
 rw[h] at f2
 have hl:=h0.len
 have hl2:=congrArg List.length f2
 rw[List.length_map,List.length_singleton] at hl2
 rw[hl2] at hl
 obtain⟨k,hk⟩:=List.length_eq_one_iff.1 hl
 rw[hk] at h0
 obtain⟨r,hr⟩:=List.length_eq_one_iff.1 hl2
 rw[hr] at h0 f2
 refine⟨k,hk,?_,fun st s0 s1=>?_⟩
 ·rw[← h0.1.1]
  simpa using f2
 ·have h1:=meanK_is hm hf s0 s1 nm
  rw[hk] at h1
  cases hq:foundR s m st nm with
  | nil=>rw[hq] at h1;exact h1.elim
  | cons y l=>rw[hq] at h1;exact h1.1.2
end
def fl{α:Type}(nm:ByteArray):List (ByteArray×α)→Option α
 | []=>none
 | x::r=>if sEq x.1 nm=true then some x.2 else fl nm r
theorem fl_app{α:Type}(nm:ByteArray):∀ (l:List (ByteArray×α)) (x:ByteArray×α),fl nm (l++[x])=match fl nm l with | some b=>some b | none=>if sEq x.1 nm=true then some x.2 else none
 | [],x=>rfl
 | y::r,x=>by
  rw[List.cons_append,fl,fl]
  split
  ·rfl
  ·exact fl_app nm r x
theorem envLook_fl{α:Type}(nm:ByteArray):∀ (l:List (ByteArray×α)),envLook l nm=fl nm l.reverse
 | []=>rfl
 | x::r=>by
  rw[List.reverse_cons,fl_app,← envLook_fl nm r,envLook]
  cases envLook r nm <;> rfl
def ScT(l:Scp)(ty:List (ByteArray×Int)):Prop:=l.map (fun x=>(x.1,x.2.1))=ty.reverse∧∀ x∈l,x.2.1=1
def FitE(m:Mdl)(l:Scp)(env:List (ByteArray×Int)):Prop:=AllP (fun (x:ByteArray×Int×(Nat→Bool)) (y:ByteArray×Int)=>x.1=y.1∧x.2.2 (16*sn m.scope y.2)=true) l env.reverse
theorem ScT.snoc{l:Scp}{ty:List (ByteArray×Int)}(h:ScT l ty)(nm:ByteArray)(P:Nat→Bool):ScT ((nm,1,P)::l) (ty++[(nm,1)]):=by
 refine⟨by rw[List.map_cons,h.1,List.reverse_append];rfl,fun x hx=>?_⟩
 rcases List.mem_cons.1 hx with rfl | hx
 ·rfl
 ·exact h.2 x hx
theorem FitE.snoc{m:Mdl}{l:Scp}{env:List (ByteArray×Int)}(h:FitE m l env)(nm:ByteArray){P:Nat→Bool}{a:Int}(ha:P (16*sn m.scope a)=true):FitE m ((nm,1,P)::l) (env++[(nm,a)]):=by
 unfold FitE
 rw[List.reverse_append]
 exact⟨⟨rfl,ha⟩,h⟩
theorem fl_scFrom(nm:ByteArray):∀ (l:Scp),fl nm (l.map fun x=>(x.1,x.2.1))=match scFrom nm l with | []=>none | x::_=>some x.2.1
 | []=>rfl
 | x::r=>by
  rw[List.map_cons,fl,scFrom]
  dsimp only
  split
  ·rfl
  ·exact fl_scFrom nm r
theorem scFrom_mem{nm:ByteArray}:∀ {l:Scp} {x r},scFrom nm l=x::r→x∈l
 | y::q,x,r,h=>by
  rw[scFrom] at h
  split at h
  ·cases h;exact List.mem_cons_self ..
  ·exact List.mem_cons_of_mem _ (scFrom_mem h)
theorem fit_look{m:Mdl}(nm:ByteArray):∀ {l:Scp} {e:List (ByteArray×Int)},AllP (fun (x:ByteArray×Int×(Nat→Bool)) (y:ByteArray×Int)=>x.1=y.1∧x.2.2 (16*sn m.scope y.2)=true) l e→(match scFrom nm l with | []=>fl nm e=none | x::_=>∃ a,fl nm e=some a∧x.2.2 (16*sn m.scope a)=true)
 | [],[],_=>rfl
 | x::l,y::e,h=>by
  obtain⟨⟨h1,h2⟩,h3⟩:=h
  rw[scFrom,fl,h1]
  by_cases hb:sEq y.1 nm=true
  ·rw[if_pos hb,if_pos hb]
   exact⟨_,rfl,h2⟩
  ·rw[if_neg hb,if_neg hb]
   exact fit_look nm h3
 | [],_::_,h=>h.elim
 | _::_,[],h=>h.elim
theorem name_snd{s:Spc}{m:Mdl}(hm:MOk s m)(hf:FTy s m){ty:List (ByteArray×Int)}{l:Scp}(hl:ScT l ty){nm:ByteArray}{a:Int}(ht:NameTy s ty nm a):
 ∃ k:Kn,(k.1:Int)=a∧((∃ x r,scFrom nm l=x::r∧(k.1:Int)=x.2.1∧k.2=x.2.2)∨(scFrom nm l=[]∧meanK s nm=[k]))∧∀ (st:Int) (env:List (ByteArray×Int)),0≤st→st<m.states.length→(∀ x∈env,0≤x.2∧x.2<m.n)→FitE m l env→Snd m.scope k.2 k.1 (nameVal s m st env nm):=by
 unfold NameTy at ht
 rw[envLook_fl,← hl.1,fl_scFrom] at ht
 cases hq:scFrom nm l with
 | nil=>
  rw[hq] at ht
  obtain⟨k,h1,h2,h3⟩:=mean_one hm hf (show s.found nm=[a] from ht)
  refine⟨k,h2,.inr ⟨rfl,h1⟩,fun st env s0 s1 he hfe=>?_⟩
  have:=fit_look (m:=m) nm hfe
  rw[hq] at this
  have:fl nm env.reverse=none:=this
  unfold nameVal
  rw[envLook_fl,this]
  exact h3 st s0 s1
 | cons x r=>
  rw[hq] at ht
  have h1:=hl.2 x (scFrom_mem hq)
  refine⟨(1,x.2.2),by rw[show a=x.2.1 from ht,h1];rfl,.inl ⟨x,r,rfl,by rw[h1];rfl,rfl⟩,fun st env s0 s1 he hfe=>?_⟩
  have:=fit_look (m:=m) nm hfe
  rw[hq] at this
  obtain⟨b,h2,h3⟩:∃ b,fl nm env.reverse=some b∧x.2.2 (16*sn m.scope b)=true:=this
  unfold nameVal
  rw[envLook_fl,h2]
  rw[← envLook_fl] at h2
  obtain⟨y,hy,rfl⟩:=envLook_mem h2
  exact snd_one hm (he y hy).1 (he y hy).2 h3
theorem exa0(s:Spc)(c:Int)(ts:List Bool)(l:Scp)(ins:Bool)(op:Int)(ho:op≠1∧op≠47∧op≠15∧op≠45∧op≠46)(hi:ins=true→timeB op=false)(nm:ByteArray)(m a:Int)  (u v:AV)
 (hap:AFun Tryz.prog 93 [ckG s c ts,ndA op nm m [] a,.slice 2 []] (.p (.agg [u,v])))  :
 Exa (ckG s c ts) l (ndA op nm m [] a) ins (.agg [u,v]):=by
 obtain⟨e1,e2,e3,e4,e5⟩:=ho
 have ht:=timeOfG (ckG s c ts) op e2 nm m [] a
 obtain⟨jb,hjb⟩:∃ jb,(ins||decide (op=12∨op=13))=jb:=⟨_,rfl⟩
 refine AFun.of hT Tryz.func41 rfl rfl (by simp) ?_
 refine AD.cut hT hmix 2 (fun _:Unit=>True) (fun _=>[(0,.p (ckG s c ts)),(1,.p (scp l)),(3,.p (eB ins)),(6,.loc 6 0),(8,.loc 8 0)])
  (fun _=>[(6,.box 35 [.p (eI op),.p (eS nm),.p (eI m),.p (.slice 5 []),.p (eI a)]),(8,.box 101 [eint .i64 0,.p (.imm (.map none))])]) ?_ fun _ _=>?_
 ·cases ins with
  | false=>exact .pure [eB true,eI 46,ndA op nm m [] a] _ rfl (needP _ _ _ rfl rfl) ⟨by kernel_rfl,(),trivial,.of⟩
  | true=>
   rw[hi rfl] at ht
   refine .pure [ckG s c ts,ndA op nm m [] a] _ rfl ht ?_
   exact .pure [eB true,eI 46,ndA op nm m [] a] _ rfl (needP _ _ _ rfl rfl) ⟨by kernel_rfl,(),trivial,.of⟩
 refine AD.cut hT hmix 19 (fun _:Unit=>True) (fun _=>[(0,.p (ckG s c ts)),(1,.p (scp l)),(3,.p (eB jb)),(6,.loc 6 0),(8,.loc 8 0)])
  (fun _=>[(6,.box 35 [.p (eI op),.p (eS nm),.p (eI m),.p (.slice 5 []),.p (eI a)]),(8,.box 101 [eint .i64 0,.p (.imm (.map none))])]) ?_ fun _ _=>?_
 ·refine bgo_false (beq_false_of_ne e1) ?_
  refine bgo_false (beq_false_of_ne e2) ?_
  refine bgo_false (beq_false_of_ne e3) ?_
  refine bgo_false (beq_false_of_ne e4) ?_
  refine bgo_false (beq_false_of_ne e5) ?_
  refine bgs (fun q1=>?_) (fun q1=>?_)
  ·have:jb=true:=by rw[← hjb,decide_eq_true (.inl (eq_of_beq q1)),Bool.or_true]
   subst this
   exact bgo_true q1 ⟨(),trivial,.of⟩
  ·refine bgs (fun q2=>?_) (fun q2=>?_)
   ·have:jb=true:=by rw[← hjb,decide_eq_true (.inr (eq_of_beq q2)),Bool.or_true]
    subst this
    exact⟨(),trivial,.of⟩
   ·have:jb=ins:=by rw[← hjb,decide_eq_false (fun h=>h.elim (ne_of_beq_false q1) (ne_of_beq_false q2)),Bool.or_false]
    subst this
    exact⟨(),trivial,.of⟩
 refine AD.run hT hmix ?_
 intro _
 refine AD.loopI (fun i:Nat=>i≤0) (fun i=>0 - i) (fun i=>[(0,.p (ckG s c ts)),(1,.p (scp l)),(3,.p (eB jb)),(6,.loc 6 0),(8,.loc 8 0),(10,if i=0 then .full 2 [] else .own 2 ([].take i) 92),(79,.p (.slice 5 [])),(80,eint .i64 0),(81,eint .i64 i)])
  (fun i=>(6,.box 35 [.p (eI op),.p (eS nm),.p (eI m),.p (.slice 5 []),.p (eI a)])::(8,.box 101 [eint .i64 0,.p (.imm (.map none))])::if i=0 then [] else [(92,.tail i)]) 0 (by decide) .of fun i hi=>?_
 match i,hi with
 | 0,_=>
  refine AD.run hT hmix ?_
  refine .pure [ckG s c ts,ndA op nm m [] a,.slice 2 []] _ rfl hap ?_
  exact⟨_,_,rfl,rfl,rfl⟩
theorem exa1(s:Spc)(c:Int)(ts:List Bool)(l:Scp)(ins:Bool)(op:Int)(ho:op≠1∧op≠47∧op≠15∧op≠45∧op≠46)(hi:ins=true→timeB op=false)(nm:ByteArray)(m a:Int)(o0 m0 a0:Int)(nm0:ByteArray)(ks0:List AV)(x0 y0:AV)(u v:AV)
 (hap:AFun Tryz.prog 93 [ckG s c ts,ndA op nm m [ndA o0 nm0 m0 ks0 a0] a,.slice 2 [.agg [x0,y0]]] (.p (.agg [u,v])))(h0:Exa (ckG s c ts) l (ndA o0 nm0 m0 ks0 a0) (ins||decide (op=12∨op=13)) (.agg [x0,y0])):
 Exa (ckG s c ts) l (ndA op nm m [ndA o0 nm0 m0 ks0 a0] a) ins (.agg [u,v]):=by
 obtain⟨e1,e2,e3,e4,e5⟩:=ho
 have ht:=timeOfG (ckG s c ts) op e2 nm m [ndA o0 nm0 m0 ks0 a0] a
 obtain⟨jb,hjb⟩:∃ jb,(ins||decide (op=12∨op=13))=jb:=⟨_,rfl⟩
 rw[hjb] at h0
 refine AFun.of hT Tryz.func41 rfl rfl (by simp) ?_
 refine AD.cut hT hmix 2 (fun _:Unit=>True) (fun _=>[(0,.p (ckG s c ts)),(1,.p (scp l)),(3,.p (eB ins)),(6,.loc 6 0),(8,.loc 8 0)])
  (fun _=>[(6,.box 35 [.p (eI op),.p (eS nm),.p (eI m),.p (.slice 5 [ndA o0 nm0 m0 ks0 a0]),.p (eI a)]),(8,.box 101 [eint .i64 0,.p (.imm (.map none))])]) ?_ fun _ _=>?_
 ·cases ins with
  | false=>exact .pure [eB true,eI 46,ndA op nm m [ndA o0 nm0 m0 ks0 a0] a] _ rfl (needP _ _ _ rfl rfl) ⟨by kernel_rfl,(),trivial,.of⟩
  | true=>
   rw[hi rfl] at ht
   refine .pure [ckG s c ts,ndA op nm m [ndA o0 nm0 m0 ks0 a0] a] _ rfl ht ?_
   exact .pure [eB true,eI 46,ndA op nm m [ndA o0 nm0 m0 ks0 a0] a] _ rfl (needP _ _ _ rfl rfl) ⟨by kernel_rfl,(),trivial,.of⟩
 refine AD.cut hT hmix 19 (fun _:Unit=>True) (fun _=>[(0,.p (ckG s c ts)),(1,.p (scp l)),(3,.p (eB jb)),(6,.loc 6 0),(8,.loc 8 0)])
  (fun _=>[(6,.box 35 [.p (eI op),.p (eS nm),.p (eI m),.p (.slice 5 [ndA o0 nm0 m0 ks0 a0]),.p (eI a)]),(8,.box 101 [eint .i64 0,.p (.imm (.map none))])]) ?_ fun _ _=>?_
 ·refine bgo_false (beq_false_of_ne e1) ?_
  refine bgo_false (beq_false_of_ne e2) ?_
  refine bgo_false (beq_false_of_ne e3) ?_
  refine bgo_false (beq_false_of_ne e4) ?_
  refine bgo_false (beq_false_of_ne e5) ?_
  refine bgs (fun q1=>?_) (fun q1=>?_)
  ·have:jb=true:=by rw[← hjb,decide_eq_true (.inl (eq_of_beq q1)),Bool.or_true]
   subst this
   exact bgo_true q1 ⟨(),trivial,.of⟩
  ·refine bgs (fun q2=>?_) (fun q2=>?_)
   ·have:jb=true:=by rw[← hjb,decide_eq_true (.inr (eq_of_beq q2)),Bool.or_true]
    subst this
    exact⟨(),trivial,.of⟩
   ·have:jb=ins:=by rw[← hjb,decide_eq_false (fun h=>h.elim (ne_of_beq_false q1) (ne_of_beq_false q2)),Bool.or_false]
    subst this
    exact⟨(),trivial,.of⟩
 refine AD.run hT hmix ?_
 intro _
 refine AD.loopI (fun i:Nat=>i≤1) (fun i=>1 - i) (fun i=>[(0,.p (ckG s c ts)),(1,.p (scp l)),(3,.p (eB jb)),(6,.loc 6 0),(8,.loc 8 0),(10,if i=0 then .full 2 [] else .own 2 ([.agg [x0,y0]].take i) 92),(79,.p (.slice 5 [ndA o0 nm0 m0 ks0 a0])),(80,eint .i64 1),(81,eint .i64 i)])
  (fun i=>(6,.box 35 [.p (eI op),.p (eS nm),.p (eI m),.p (.slice 5 [ndA o0 nm0 m0 ks0 a0]),.p (eI a)])::(8,.box 101 [eint .i64 0,.p (.imm (.map none))])::if i=0 then [] else [(92,.tail i)]) 0 (by decide) .of fun i hi=>?_
 match i,hi with
 | 0,_=>
  refine AD.run hT hmix ?_
  refine⟨0,_,rfl,rfl,?_⟩
  refine .pure [ckG s c ts,scp l,ndA o0 nm0 m0 ks0 a0,eB jb] _ rfl h0 ?_
  exact⟨⟨(show(0+1)*16≤140737488355328 by decide),(show 0+1≤140737488355328 by decide)⟩,ngo_in (by decide) (by decide) ⟨1,by decide,by decide,.of⟩⟩
 | 1,_=>
  refine AD.run hT hmix ?_
  refine .pure [ckG s c ts,ndA op nm m [ndA o0 nm0 m0 ks0 a0] a,.slice 2 [.agg [x0,y0]]] _ rfl hap ?_
  exact⟨_,_,rfl,rfl,rfl⟩
theorem exa2(s:Spc)(c:Int)(ts:List Bool)(l:Scp)(ins:Bool)(op:Int)(ho:op≠1∧op≠47∧op≠15∧op≠45∧op≠46)(hi:ins=true→timeB op=false)(nm:ByteArray)(m a:Int)(o0 m0 a0:Int)(nm0:ByteArray)(ks0:List AV)(x0 y0:AV)(o1 m1 a1:Int)(nm1:ByteArray)(ks1:List AV)(x1 y1:AV)(u v:AV)
 (hap:AFun Tryz.prog 93 [ckG s c ts,ndA op nm m [ndA o0 nm0 m0 ks0 a0,ndA o1 nm1 m1 ks1 a1] a,.slice 2 [.agg [x0,y0],.agg [x1,y1]]] (.p (.agg [u,v])))(h0:Exa (ckG s c ts) l (ndA o0 nm0 m0 ks0 a0) (ins||decide (op=12∨op=13)) (.agg [x0,y0]))(h1:Exa (ckG s c ts) l (ndA o1 nm1 m1 ks1 a1) (ins||decide (op=12∨op=13)) (.agg [x1,y1])):
 Exa (ckG s c ts) l (ndA op nm m [ndA o0 nm0 m0 ks0 a0,ndA o1 nm1 m1 ks1 a1] a) ins (.agg [u,v]):=by
 obtain⟨e1,e2,e3,e4,e5⟩:=ho
 have ht:=timeOfG (ckG s c ts) op e2 nm m [ndA o0 nm0 m0 ks0 a0,ndA o1 nm1 m1 ks1 a1] a
 obtain⟨jb,hjb⟩:∃ jb,(ins||decide (op=12∨op=13))=jb:=⟨_,rfl⟩
 rw[hjb] at h0
 rw[hjb] at h1
 refine AFun.of hT Tryz.func41 rfl rfl (by simp) ?_
 refine AD.cut hT hmix 2 (fun _:Unit=>True) (fun _=>[(0,.p (ckG s c ts)),(1,.p (scp l)),(3,.p (eB ins)),(6,.loc 6 0),(8,.loc 8 0)])
  (fun _=>[(6,.box 35 [.p (eI op),.p (eS nm),.p (eI m),.p (.slice 5 [ndA o0 nm0 m0 ks0 a0,ndA o1 nm1 m1 ks1 a1]),.p (eI a)]),(8,.box 101 [eint .i64 0,.p (.imm (.map none))])]) ?_ fun _ _=>?_
 ·cases ins with
  | false=>exact .pure [eB true,eI 46,ndA op nm m [ndA o0 nm0 m0 ks0 a0,ndA o1 nm1 m1 ks1 a1] a] _ rfl (needP _ _ _ rfl rfl) ⟨by kernel_rfl,(),trivial,.of⟩
  | true=>
   rw[hi rfl] at ht
   refine .pure [ckG s c ts,ndA op nm m [ndA o0 nm0 m0 ks0 a0,ndA o1 nm1 m1 ks1 a1] a] _ rfl ht ?_
   exact .pure [eB true,eI 46,ndA op nm m [ndA o0 nm0 m0 ks0 a0,ndA o1 nm1 m1 ks1 a1] a] _ rfl (needP _ _ _ rfl rfl) ⟨by kernel_rfl,(),trivial,.of⟩
 refine AD.cut hT hmix 19 (fun _:Unit=>True) (fun _=>[(0,.p (ckG s c ts)),(1,.p (scp l)),(3,.p (eB jb)),(6,.loc 6 0),(8,.loc 8 0)])
  (fun _=>[(6,.box 35 [.p (eI op),.p (eS nm),.p (eI m),.p (.slice 5 [ndA o0 nm0 m0 ks0 a0,ndA o1 nm1 m1 ks1 a1]),.p (eI a)]),(8,.box 101 [eint .i64 0,.p (.imm (.map none))])]) ?_ fun _ _=>?_
 ·refine bgo_false (beq_false_of_ne e1) ?_
  refine bgo_false (beq_false_of_ne e2) ?_
  refine bgo_false (beq_false_of_ne e3) ?_
  refine bgo_false (beq_false_of_ne e4) ?_
  refine bgo_false (beq_false_of_ne e5) ?_
  refine bgs (fun q1=>?_) (fun q1=>?_)
  ·have:jb=true:=by rw[← hjb,decide_eq_true (.inl (eq_of_beq q1)),Bool.or_true]
   subst this
   exact bgo_true q1 ⟨(),trivial,.of⟩
  ·refine bgs (fun q2=>?_) (fun q2=>?_)
   ·have:jb=true:=by rw[← hjb,decide_eq_true (.inr (eq_of_beq q2)),Bool.or_true]
    subst this
    exact⟨(),trivial,.of⟩
   ·have:jb=ins:=by rw[← hjb,decide_eq_false (fun h=>h.elim (ne_of_beq_false q1) (ne_of_beq_false q2)),Bool.or_false]
    subst this
    exact⟨(),trivial,.of⟩
 refine AD.run hT hmix ?_
 intro _
 refine AD.loopI (fun i:Nat=>i≤2) (fun i=>2 - i) (fun i=>[(0,.p (ckG s c ts)),(1,.p (scp l)),(3,.p (eB jb)),(6,.loc 6 0),(8,.loc 8 0),(10,if i=0 then .full 2 [] else .own 2 ([.agg [x0,y0],.agg [x1,y1]].take i) 92),(79,.p (.slice 5 [ndA o0 nm0 m0 ks0 a0,ndA o1 nm1 m1 ks1 a1])),(80,eint .i64 2),(81,eint .i64 i)])
  (fun i=>(6,.box 35 [.p (eI op),.p (eS nm),.p (eI m),.p (.slice 5 [ndA o0 nm0 m0 ks0 a0,ndA o1 nm1 m1 ks1 a1]),.p (eI a)])::(8,.box 101 [eint .i64 0,.p (.imm (.map none))])::if i=0 then [] else [(92,.tail i)]) 0 (by decide) .of fun i hi=>?_
 match i,hi with
 | 0,_=>
  refine AD.run hT hmix ?_
  refine⟨0,_,rfl,rfl,?_⟩
  refine .pure [ckG s c ts,scp l,ndA o0 nm0 m0 ks0 a0,eB jb] _ rfl h0 ?_
  exact⟨⟨(show(0+1)*16≤140737488355328 by decide),(show 0+1≤140737488355328 by decide)⟩,ngo_in (by decide) (by decide) ⟨1,by decide,by decide,.of⟩⟩
 | 1,_=>
  refine AD.run hT hmix ?_
  refine⟨1,_,rfl,rfl,?_⟩
  refine .pure [ckG s c ts,scp l,ndA o1 nm1 m1 ks1 a1,eB jb] _ rfl h1 ?_
  exact⟨rfl,⟨(show(1+1)*16≤140737488355328 by decide),(show 1+1≤140737488355328 by decide)⟩,ngo_in (by decide) (by decide) ⟨2,by decide,by decide,.of⟩⟩
 | 2,_=>
  refine AD.run hT hmix ?_
  refine .pure [ckG s c ts,ndA op nm m [ndA o0 nm0 m0 ks0 a0,ndA o1 nm1 m1 ks1 a1] a,.slice 2 [.agg [x0,y0],.agg [x1,y1]]] _ rfl hap ?_
  exact⟨_,_,rfl,rfl,rfl⟩
theorem exaB(s:Spc)(c:Int)(ts:List Bool)(l:Scp)(ins:Bool)(op:Int)(ho:op=15∨op=45∨op=46)(nm:ByteArray)(m a:Int)(o0 m0 a0:Int)(nm0:ByteArray)(ks0:List AV)(o1 m1 a1:Int)(nm1:ByteArray)(ks1:List AV)(P:Nat→Bool)(z:AV)
 (h0:Exa (ckG s c ts) l (ndA o0 nm0 m0 ks0 a0) (ins||decide (op=15)) (kdP 1 P))(h1:Exa (ckG s c ts) ((nm,1,P)::l) (ndA o1 nm1 m1 ks1 a1) (ins||decide (op=15)) z)(hz:∃ u v,z=.agg [u,v]):
 Exa (ckG s c ts) l (ndA op nm m [ndA o0 nm0 m0 ks0 a0,ndA o1 nm1 m1 ks1 a1] a) ins (kdP 1 P):=by
 obtain⟨zu,zv,rfl⟩:=hz
 have ht:=timeOfG (ckG s c ts) op (by omega) nm m [ndA o0 nm0 m0 ks0 a0,ndA o1 nm1 m1 ks1 a1] a
 rw[show timeB op=false from decide_eq_false (by omega)] at ht
 obtain⟨jb,hjb⟩:∃ jb,(ins||decide (op=15))=jb:=⟨_,rfl⟩
 rw[hjb] at h0 h1
 refine AFun.of hT Tryz.func41 rfl rfl (by simp) ?_
 refine AD.cut hT hmix 2 (fun _:Unit=>True) (fun _=>[(0,.p (ckG s c ts)),(1,.p (scp l)),(3,.p (eB ins)),(6,.loc 6 0),(8,.loc 8 0)])
  (fun _=>[(6,.box 35 [.p (eI op),.p (eS nm),.p (eI m),.p (.slice 5 [ndA o0 nm0 m0 ks0 a0,ndA o1 nm1 m1 ks1 a1]),.p (eI a)]),(8,.box 101 [eint .i64 0,.p (.imm (.map none))])]) ?_ fun _ _=>?_
 ·cases ins with
  | false=>exact .pure [eB true,eI 46,ndA op nm m [ndA o0 nm0 m0 ks0 a0,ndA o1 nm1 m1 ks1 a1] a] _ rfl (needP _ _ _ rfl rfl) ⟨by kernel_rfl,(),trivial,.of⟩
  | true=>
   refine .pure [ckG s c ts,ndA op nm m [ndA o0 nm0 m0 ks0 a0,ndA o1 nm1 m1 ks1 a1] a] _ rfl ht ?_
   exact .pure [eB true,eI 46,ndA op nm m [ndA o0 nm0 m0 ks0 a0,ndA o1 nm1 m1 ks1 a1] a] _ rfl (needP _ _ _ rfl rfl) ⟨by kernel_rfl,(),trivial,.of⟩
 refine AD.cut hT hmix 12 (fun _:Unit=>True) (fun _=>[(0,.p (ckG s c ts)),(1,.p (scp l)),(3,.p (eB jb)),(6,.loc 6 0),(8,.loc 8 0)])
  (fun _=>[(6,.box 35 [.p (eI op),.p (eS nm),.p (eI m),.p (.slice 5 [ndA o0 nm0 m0 ks0 a0,ndA o1 nm1 m1 ks1 a1]),.p (eI a)]),(8,.box 101 [eint .i64 0,.p (.imm (.map none))])]) ?_ fun _ _=>?_
 ·rcases ho with rfl | rfl | rfl <;> cases ins <;> (subst hjb;exact⟨(),trivial,.of⟩)
 have hl:(∃ v,scp l=.imm v)∨∃ cs,scp l=.ref cs:=by
  cases l with
  | nil=>exact .inl ⟨_,rfl⟩
  | cons x r=>exact .inr ⟨_,rfl⟩
 have hcons:scp ((nm,1,P)::l)=.ref [eS nm,eI 1,.mp K3 (kset P),scp l]:=rfl
 unfold Exa at h0 h1
 rw[hcons] at h1
 rcases hl with ⟨q,hq⟩ | ⟨q,hq⟩
 ·rw[hq] at h0 h1 ⊢
  have h1':=AFun.sealAt (k:=67) (t:=165) (cs:=[.p (eS nm),.p (eI 1),.p (.mp K3 (kset P)),.p (.imm q)]) [ckG s c ts] [ndA o1 nm1 m1 ks1 a1,eB jb] h1 rfl (by simp)
  refine AD.run hT hmix ?_
  refine⟨0,_,rfl,rfl,?_⟩
  refine .pure [ckG s c ts,_,ndA o0 nm0 m0 ks0 a0,eB jb] _ rfl h0 ?_
  refine .pure [eB true,eI 42,ndA op nm m [ndA o0 nm0 m0 ks0 a0,ndA o1 nm1 m1 ks1 a1] a] _ rfl (needP _ _ _ rfl rfl) ?_
  refine⟨1,_,rfl,rfl,?_⟩
  refine .eff _ _ _ h1' ⟨rfl,trivial⟩ rfl rfl rfl rfl ⟨by kernel_rfl,?_⟩
  exact⟨_,_,rfl,rfl,rfl⟩
 ·rw[hq] at h0 h1 ⊢
  have h1':=AFun.sealAt (k:=67) (t:=165) (cs:=[.p (eS nm),.p (eI 1),.p (.mp K3 (kset P)),.p (.ref q)]) [ckG s c ts] [ndA o1 nm1 m1 ks1 a1,eB jb] h1 rfl (by simp)
  refine AD.run hT hmix ?_
  refine⟨0,_,rfl,rfl,?_⟩
  refine .pure [ckG s c ts,_,ndA o0 nm0 m0 ks0 a0,eB jb] _ rfl h0 ?_
  refine .pure [eB true,eI 42,ndA op nm m [ndA o0 nm0 m0 ks0 a0,ndA o1 nm1 m1 ks1 a1] a] _ rfl (needP _ _ _ rfl rfl) ?_
  refine⟨1,_,rfl,rfl,?_⟩
  refine .eff _ _ _ h1' ⟨rfl,trivial⟩ rfl rfl rfl rfl ⟨by kernel_rfl,?_⟩
  exact⟨_,_,rfl,rfl,rfl⟩
end Go.Ab
namespace Go.Ab
open Go Go.Proofs Go.RowKit
set_option maxRecDepth 10000
set_option maxHeartbeats 1000000 in
theorem mul64_w(k:Int)(hk:k=1∨k=2)(w:World):Calls Tryz.prog 249 #[.int .u64 1,.int .u64 k] w fun e w'=>e=.returned (.tuple #[.int .u64 0,.int .u64 k])∧w'=w:=by
 rcases hk with rfl | rfl
 ·go_enter Tryz.func249,Tryz.ntmps249
  go_wp2_with fail
  refine bodyPost_ret (results_tmp2 rfl _ _ _) rfl ?_
  exact⟨rfl,rfl⟩
 ·go_enter Tryz.func249,Tryz.ntmps249
  go_wp2_with fail
  refine bodyPost_ret (results_tmp2 rfl _ _ _) rfl ?_
  exact⟨rfl,rfl⟩
theorem mul64P(k:Int)(hk:k=1∨k=2):AFun Tryz.prog 249 [.imm (.int .u64 1),.imm (.int .u64 k)] (.tup [.p (.imm (.int .u64 0)),.p (.imm (.int .u64 k))]):=by
 refine⟨⟨_,Tryz.func249,rfl,rfl⟩,fun fz w vs hz hr=>?_⟩
 obtain⟨v,u,rfl⟩:∃ v u,vs=[v,u]:=by
  match vs,hr.1 with
  | [v,u],_=>exact⟨v,u,rfl⟩
 have e0:=hr.2 0 v _ rfl rfl
 have e1:=hr.2 1 u _ rfl rfl
 cases e0;cases e1
 refine(mul64_w k hk w).mono ?_
 rintro e w' ⟨rfl,rfl⟩
 refine⟨_,fz,rfl,Kept.refl _ _,⟨fun _ _ _ h=>h,fun _ _=>rfl⟩,hz,fun g hg=>.tup [.int .u64 0,.int .u64 k] _ rfl fun i v x hv hx=>?_⟩
 match i with
 | 0=>cases hv;cases hx;exact .p _ _ (.imm _ rfl)
 | 1=>cases hv;cases hx;exact .p _ _ (.imm _ rfl)
 | i+2=>cases hv
theorem mulP(k:Int)(hk:k=1∨k=2):AFun Tryz.prog 235 [.imm (.int .u64 1),.imm (.int .u64 k)] (.tup [.p (.imm (.int .u64 0)),.p (.imm (.int .u64 k))]):=by
 refine AFun.of hT Tryz.func235 rfl rfl (by simp) (AD.run hT hmix ?_)
 exact .pure [.imm (.int .u64 1),.imm (.int .u64 k)] _ rfl (mul64P k hk) ⟨_,_,rfl,rfl,rfl⟩
theorem repeat1(x:Int):AFun Tryz.prog 202 [ints [x],eI 1] (.p (ints [x])):=by
 refine AFun.of hT Tryz.func202 rfl rfl (by simp) (AD.finSub (AD.run hT hmix ?_))
 intro _
 refine⟨1,rfl,1,rfl,?_⟩
 refine .pure [.imm (.int .u64 1),.imm (.int .u64 1)] _ rfl (mulP 1 (.inl rfl)) ?_
 refine⟨1,rfl,.arr 1 rfl rfl (by decide) (by decide) ?_⟩
 refine⟨by decide,by decide,?_⟩
 refine AD.loopI (fun _:Unit=>True) (fun _=>0) (fun _=>[(7,.arr 1 30 0 1),(8,eint .i64 1)]) (fun _=>[(30,.box 3 [.p (eI x)])]) () trivial .of fun _ _=>AD.run hT hmix ?_
 intro _
 exact⟨[(4,.p (ints [x]))],[],.sealB 30 (h1:=⟨⟨.inr (.inr (.inr (.inl ⟨_,_,rfl,.inr ⟨1,0,1,[eI x],rfl,rfl,rfl,fun e he=>by obtain rfl:=List.mem_singleton.1 he;rfl,rfl⟩⟩))),rfl⟩,trivial⟩),_,_,rfl,rfl,rfl⟩
theorem repeat2(x:Int):AFun Tryz.prog 202 [ints [x],eI 2] (.p (ints [x,x])):=by
 refine AFun.of hT Tryz.func202 rfl rfl (by simp) (AD.finSub (AD.run hT hmix ?_))
 intro _
 refine⟨1,rfl,2,rfl,?_⟩
 refine .pure [.imm (.int .u64 1),.imm (.int .u64 2)] _ rfl (mulP 2 (.inr rfl)) ?_
 refine⟨2,rfl,.arr 2 rfl rfl (by decide) (by decide) ?_⟩
 refine⟨by decide,by decide,?_⟩
 refine AD.loopI (fun i:Nat=>i≤1) (fun i=>1 - i) (fun i=>[(7,.arr 1 30 0 2),(8,eint .i64 (1+i))]) (fun i=>[(30,.box 3 [.p (eI x),.p (eI (if i=0 then 0 else x))])]) 0 (by decide) .of fun i hi=>?_
 match i,hi with
 | 0,_=>
  refine AD.run hT hmix ?_
  intro _
  refine⟨rfl,1,2,rfl,rfl,by decide,by decide,by decide,rfl,0,1,rfl,rfl,by decide,by decide,by decide,by decide,by decide,(show(2:Nat)≤2 by decide),(show(1:Nat)≤2 by decide),?_⟩
  exact ngo_in (by decide) (by decide) ⟨by kernel_rfl,1,by decide,by decide,.of⟩
 | 1,_=>
  refine AD.run hT hmix ?_
  intro _
  exact⟨[(4,.p (ints [x,x]))],[],.sealB 30 (h1:=⟨⟨.inr (.inr (.inr (.inl ⟨_,_,rfl,.inr ⟨1,0,2,[eI x,eI x],rfl,rfl,rfl,fun e he=>by(rcases List.mem_cons.1 he with rfl | he);rfl;(obtain rfl:=List.mem_singleton.1 he);rfl,rfl⟩⟩))),rfl⟩,trivial⟩),_,_,rfl,rfl,rfl⟩
theorem diagP_succ(k a:Nat):(fun e=>diagP k a e||e==cod (List.replicate a k))=diagP (k+1) a:=funext fun e=>by
 simp[diagP,List.range_succ]
theorem diagP_zero(a:Nat):diagP 0 a=fun _=>false:=rfl
theorem diagG(s:Spc)(h4:s.sorts.length≤4)(c:Int)(ts:List Bool)(a:Nat)(ha:a=1∨a=2):AFun Tryz.prog 149 [ckG s c ts,eI a] (.p (kdP a (diagP s.sorts.length a))):=by
 have hs1:(s.sorts.map Srt.av).length=s.sorts.length:=List.length_map _
 have hRp:∀ i:Nat,AFun Tryz.prog 202 [ints [(i:Int)],eI a] (.p (ints ((List.replicate a i).map fun x:Nat=>(x:Int)))):=fun i=>by
  rcases ha with rfl | rfl
  ·exact repeat1 i
  ·exact repeat2 i
 have hlen:∀ i:Nat,(List.replicate a i).length=a:=fun i=>List.length_replicate
 refine AFun.of hT Tryz.func149 rfl rfl (by simp) (AD.run hT hmix ?_)
 refine .eff [] [(9002,.map K3 [])] _ (emptyP a) ⟨rfl,trivial⟩ rfl rfl rfl rfl ?_
 intro _
 refine AD.loopI (fun i:Nat=>i≤s.sorts.length) (fun i=>s.sorts.length - i) (fun i=>[(0,.p (ckG s c ts)),(1,.p (eI a)),(4,.loc 4 0),(5,.loc 5 0),(14,eint .i64 (s.sorts.map Srt.av).length),(15,eint .i64 i)])
  (fun i=>[(4,.box 101 [eint .i64 0,.p (.imm (.map none))]),(5,.box 101 [.p (eI a),.p (.mp K3 (kset (diagP i a)))])]) 0 (Nat.zero_le _) (by rw[diagP_zero,kset_none];exact .mseal 9002) fun i hi=>AD.run hT hmix ?_
 refine bgs (fun h1=>?_) (fun h1=>?_)
 ·replace h1:=odt h1
  have hlt:i<s.sorts.length:=by omega
  have hof:=(ofG (List.replicate a i) (by rw[hlen];omega) (fun x hx=>by have:=List.eq_of_mem_replicate hx;omega)).1
  rw[hlen] at hof
  have hsum:=sum2G a (diagP i a) (fun e=>e==cod (List.replicate a i))
  rw[diagP_succ] at hsum
  refine .pure [ints [(i:Int)],eI a] _ rfl (hRp i) ?_
  refine .pure [ints ((List.replicate a i).map fun x:Nat=>(x:Int))] _ rfl hof ?_
  refine .pure [kdP a (diagP i a),.slice 2 [kdP a (fun e=>e==cod (List.replicate a i))]] _ rfl hsum ⟨by kernel_rfl,?_⟩
  exact ngo_in (by omega) (by omega) ⟨i+1,by omega,by omega,.of⟩
 ·replace h1:=of_decide_eq_false h1
  obtain rfl:i=s.sorts.length:=by omega
  exact⟨_,_,rfl,rfl,rfl⟩
theorem reflB(s:Spc)(h4:s.sorts.length≤4)(c:Int)(ts:List Bool)(P R:Nat→Bool)(h:AFun Tryz.prog 207 [kdP 2 P] (.p (kdP 2 R))):AFun Tryz.prog 153 [ckG s c ts,eI 13,kdP 2 P] (.p (kdP 2 fun e=>R e||diagP s.sorts.length 2 e)):=by
 refine AFun.of hT Tryz.func153 rfl rfl (by simp) (AD.run hT hmix ?_)
 refine .pure [kdP 2 P] _ rfl h ?_
 refine .pure [ckG s c ts,eI 2] _ rfl (diagG s h4 c ts 2 (.inr rfl)) ?_
 exact .pure [kdP 2 R,.slice 2 [kdP 2 (diagP s.sorts.length 2)]] _ rfl (sum2G 2 R (diagP s.sorts.length 2)) ⟨_,_,rfl,rfl,rfl⟩
theorem apply3(s:Spc)(h4:s.sorts.length≤4)(c:Int)(ts:List Bool)(nm:ByteArray)(m:Int)(ks:List AV)(a:Int):AFun Tryz.prog 93 [ckG s c ts,ndA 3 nm m ks a,.slice 2 []] (.p (kdP 1 (diagP s.sorts.length 1))):=by
 refine AFun.of hT Tryz.func93 rfl rfl (by simp) (AD.run hT hmix ?_)
 exact .pure [ckG s c ts,eI 1] _ rfl (diagG s h4 c ts 1 (.inl rfl)) ⟨_,_,rfl,rfl,rfl⟩
theorem apply4(s:Spc)(h4:s.sorts.length≤4)(c:Int)(ts:List Bool)(nm:ByteArray)(m:Int)(ks:List AV)(a:Int):AFun Tryz.prog 93 [ckG s c ts,ndA 4 nm m ks a,.slice 2 []] (.p (kdP 2 (diagP s.sorts.length 2))):=by
 refine AFun.of hT Tryz.func93 rfl rfl (by simp) (AD.run hT hmix ?_)
 exact .pure [ckG s c ts,eI 2] _ rfl (diagG s h4 c ts 2 (.inr rfl)) ⟨_,_,rfl,rfl,rfl⟩
end Go.Ab
