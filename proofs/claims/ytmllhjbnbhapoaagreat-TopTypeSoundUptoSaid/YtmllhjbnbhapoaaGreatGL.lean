/- Texts E7, PR, PS, PT, PU, PV, AbY, PX, PY, QR, Sh3, QT, AbX, QA, QB, QC. Conditions: none. -/
import Derived.Test.YtmllhjbnbhapoaaGreatGJ
import Derived.Test.YtmllhjbnbhapoaaGreatGK
import Derived.Test.YtmllhjbnbhapoaaGreatGF
import Derived.Test.YtmllhjbnbhapoaaGreatGH
import Derived.Tactics
import Derived.Test.YtmllhjbnbhapoaaGreatGI
import Derived.Shelf.SlSortCmp.Whole1
import Derived.Ground.SlsfProg
import Derived.Test.YtmllhjbnbhapoaaGreatProg
import Derived.Sort.LotA
import Derived.Shelf.SlSortCmp.NoneTotal
import Derived.Test.YtmllhjbnbhapoaaGreatGE
set_option linter.unusedSimpArgs false
set_option linter.unusedVariables false
namespace Go.Ab
open Go Go.Proofs
structure Same(n:Int)(π:Int→Int)(k:Nd)(v w:Val):Prop where
 r:k.isR→w.r=imgR n π v.r
 i:k.isI→w.i=v.i
 b:k.isF→w.b=v.b
section
end
end Go.Ab
namespace Go.Ab
open Go Go.Proofs
set_option maxRecDepth 10000
theorem fullT_up(atoms:List Int)(N:Nat)(sorts:List Int)(m:Nat):Up (fullT atoms N sorts m):=by
 unfold fullT
 refine List.pairwise_map.2 ?_
 refine List.Pairwise.filter _ ?_
 exact List.pairwise_lt_range.imp fun h=>by omega
theorem fullT_rng{atoms:List Int}{N:Nat}{sorts:List Int}{m:Nat}{x:Int}(h:x∈fullT atoms N sorts m):0≤x∧x<m:=by
 unfold fullT at h
 obtain⟨r,hr,rfl⟩:=List.mem_map.1 h
 have:=List.mem_range.1 (List.mem_filter.1 hr).1
 omega
theorem mok_of{x:Cse}{m:Mdl}(hf:x.sp.Fit)(hf9:x.sp.Fit9 x.sc)(hm:AnyM x m):MOk x.sp m∧small m.scope.atoms∧m.states.length≤4:=by
 obtain⟨h1,h2,h3,h4⟩:=hm
 have hso:=scopeOk hf9
 have hst:=hf9.sz.steps
 have hn:m.n=sumI x.sc.atoms:=by rw[Mdl.n,h1]
 have hN:=hso.sum
 refine⟨⟨by rw[hn];have:=hso.pos;omega,by rw[hn];have:=hso.most;omega,by rw[h1];exact hf9.sz.pos,by rw[h1];exact hf9.len.symm,hf.fld,fun st hs=>?_,by omega,by omega⟩,by rw[h1];exact hso.small,by omega⟩
 obtain⟨e1,e2⟩:=h4 st hs
 have hdl:(dflt x.sc (sumI x.sc.atoms).toNat x.sp.fields).length=x.sp.fields.length:=List.length_map _
 refine⟨by rw[e1,hdl],fun f h h'=>?_⟩
 obtain⟨e3,e4⟩:=e2 f (by rw[hdl];exact h') h
 have hd:(dflt x.sc (sumI x.sc.atoms).toNat x.sp.fields)[f]'(by rw[hdl];exact h')=⟨⟨x.sp.fields[f].sorts.length,[]⟩,fullR x.sc (sumI x.sc.atoms).toNat x.sp.fields[f]⟩:=by simp[dflt]
 rw[hd] at e3 e4
 have ha:st[f].arity=x.sp.fields[f].sorts.length:=e3
 have hs:=(hf.fld _ (List.getElem_mem h')).1
 refine⟨⟨by rw[ha];omega,(fullT_up _ _ _ _).sublist e4,fun t ht=>?_⟩,ha⟩
 have hr:=fullT_rng (e4.subset ht)
 rw[ha,Int.toNat_natCast,hn,hN]
 simpa using hr
theorem tree_of{x:Cse}{n:Nd}{m:Mdl}(h:Usable (x.wn (someN n)) m):n.WF∧(n.op<20∨30≤n.op)∧∃ a,Ty x.sp [] n a:=by
 obtain⟨h30,a,⟨hty,_,_⟩⟩:=h.form
 have hw:=h.wf
 change 30≤(someN n).op at h30
 change Ty x.sp [] (someN n) a at hty
 change (someN n).WF at hw
 by_cases hn:n.op<20
 ·rw[someN,if_pos hn] at hty hw
  refine⟨((Nd.WF_iff _).1 hw).2 n (by simp[Nd.kids]),.inl hn,?_⟩
  obtain⟨a0,h0,_⟩:=hty.inv_1 (k0:=n) (by simp[Nd.op]) rfl
  exact⟨a0,h0⟩
 ·rw[someN,if_neg hn] at hty hw h30
  exact⟨hw,.inr h30,a,hty⟩
theorem wf_low{n:Nd}(h:n.WF)(hn:n.op<20):n.isR:=by
 rcases WF_op h with h | h | h
 ·exact h
 ·unfold Nd.isI at h;omega
 ·unfold Nd.isF at h;omega
abbrev K3:KP:=.ints [.i8,.i8,.i8]
abbrev e8(n:Int):AV:=.imm (.int .i8 n)
abbrev t8(a b c:Int):AV:=.agg [e8 a,e8 b,e8 c]
abbrev kd(n:Int)(t:AV):AV:=.agg [eI n,.mp K3 [(t,eB true)]]
def ofc(l:List Int)(i:Nat):List EV:=[.p (e8 (if 0<i then l.getD 0 0 else 0)),.p (e8 (if 1<i then l.getD 1 0 else 0)),.p (e8 (if 2<i then l.getD 2 0 else 0))]
theorem of1(a:Int)(h:0≤a∧a<100):AFun Tryz.prog 94 [ints [a]] (.p (kd 1 (t8 a 0 0))):=by
 refine AFun.of hT Tryz.func94 rfl rfl (by simp) (AD.finSub (AD.run hT hmix ?_))
 intro _
 refine AD.loopI (fun i:Nat=>i≤1) (fun i=>1 - i) (fun i=>[(0,.p (ints [a])),(2,.loc 2 0),(3,.loc 3 0),(6,.p (ints [a])),(7,eint .i64 1),(8,eint .i64 i)]) (fun i=>[(3,.box 112 (ofc [a] i)),(2,.box 101 [eint .i64 0,.p (.imm (.map none))])]) 0 (Nat.zero_le _) .of fun i hi=>?_
 match i,hi with
 | 0,_=>exact AD.run hT hmix (igo_map 0 rfl (by simp) ⟨a,IntWalk.i8_in _ (show -128≤a∧a≤127 by omega),⟨0,rfl,by decide,ngo_in (by omega) (by omega) ⟨1,by omega,by omega,.of⟩⟩⟩)
 | 1,_=>
  refine AD.run hT hmix ?_
  intro _
  exact⟨[(2,.loc 2 0)],[(2,.box 101 [.p (eI 1),.p (.mp K3 [(t8 a 0 0,eB true)])])],.mseal 20,_,_,rfl,rfl,rfl⟩
theorem of2(a b:Int)(h:0≤a∧a<100)(h':0≤b∧b<100):AFun Tryz.prog 94 [ints [a,b]] (.p (kd 2 (t8 a b 0))):=by
 refine AFun.of hT Tryz.func94 rfl rfl (by simp) (AD.finSub (AD.run hT hmix ?_))
 intro _
 refine AD.loopI (fun i:Nat=>i≤2) (fun i=>2 - i) (fun i=>[(0,.p (ints [a,b])),(2,.loc 2 0),(3,.loc 3 0),(6,.p (ints [a,b])),(7,eint .i64 2),(8,eint .i64 i)]) (fun i=>[(3,.box 112 (ofc [a,b] i)),(2,.box 101 [eint .i64 0,.p (.imm (.map none))])]) 0 (Nat.zero_le _) .of fun i hi=>?_
 match i,hi with
 | 0,_=>exact AD.run hT hmix (igo_map 0 rfl (by simp) ⟨a,IntWalk.i8_in _ (show -128≤a∧a≤127 by omega),⟨0,rfl,by decide,ngo_in (by omega) (by omega) ⟨1,by omega,by omega,.of⟩⟩⟩)
 | 1,_=>exact AD.run hT hmix (igo_map 1 rfl (by simp) ⟨b,IntWalk.i8_in _ (show -128≤b∧b≤127 by omega),⟨1,rfl,by decide,ngo_in (by omega) (by omega) ⟨2,by omega,by omega,.of⟩⟩⟩)
 | 2,_=>
  refine AD.run hT hmix ?_
  intro _
  exact⟨[(2,.loc 2 0)],[(2,.box 101 [.p (eI 2),.p (.mp K3 [(t8 a b 0,eB true)])])],.mseal 20,_,_,rfl,rfl,rfl⟩
theorem emptyP(n:Int):EFun Tryz.prog 148 [.p (eI n)] [] (.agg [.p (eI n),.mtok 9002]) [(9002,.map K3 [])]:=by
 refine EFun.of hT Tryz.func148 rfl rfl (by simp) rfl (AD.run hT hmix ?_)
 exact⟨_,[.agg [.p (eI n),.mtok 9002]],_,rfl,(SubAll.ren 9002 4).trans .of,rfl,rfl,rfl⟩
theorem clone8(x:AV)(r:List AV)(hl:r.length≤1000):AFunO Tryz.prog 236 [.slice 1 (x::r)] 1 (x::r):=by
 suffices hh:∃ rs,rs=x::r∧AFunO Tryz.prog 236 [.slice 1 (x::r)] 1 rs by
  obtain⟨rs,rfl,h⟩:=hh
  exact h
 refine AFunOE.intro hT Tryz.func236 rfl rfl (by simp) ⟨_,rfl⟩ (AD.run hT hmix ?_)
 have hl2:(x::r).length≤1001:=by simp;omega
 refine⟨⟨by simp;omega,by simp;omega⟩,?_⟩
 exact⟨by decide,_,x::r,rfl,.inr ⟨7,rfl,by rw[List.length_nil,Nat.zero_add];rfl⟩,rfl⟩
theorem concat211:AFun Tryz.prog 205 [t8 0 1 0,eI 2,t8 1 0 0,eI 1,eI 1] (.p (t8 0 0 0)):=by
 refine AFun.of hT Tryz.func205 rfl rfl (by simp) ?_
 refine AD.cut hT hmix 2 (fun _:Unit=>True) (fun _=>[(1,.p (eI 2)),(3,.p (eI 1)),(4,.p (eI 1)),(5,.p (.ref [e8 0,e8 1,e8 0])),(7,.p (.ref [e8 1,e8 0,e8 0])),(10,.loc 10 0),(11,.loc 11 0)])
  (fun _=>[(10,.box 112 [.p (e8 0),.p (e8 0),.p (e8 0)]),(11,.box 112 [.p (e8 0),.p (e8 0),.p (e8 0)])]) ?_ fun _ _=>?_
 ·exact⟨(),trivial,(SubAll.sealB (env':=[(1,.p (eI 2)),(3,.p (eI 1)),(4,.p (eI 1)),(5,.p (.ref [e8 0,e8 1,e8 0])),(7,.loc 7 0),(10,.loc 10 0),(11,.loc 11 0)]) (h':=[(7,.box 112 [.p (e8 1),.p (e8 0),.p (e8 0)]),(10,.box 112 [.p (e8 0),.p (e8 0),.p (e8 0)]),(11,.box 112 [.p (e8 0),.p (e8 0),.p (e8 0)])]) 5).trans (.sealB 7)⟩
 refine AD.run hT hmix ?_
 refine⟨rfl,0,3,rfl,rfl,by decide,by decide,by decide,by decide,by decide,?_⟩
 refine ngo_in (by decide) (by decide) ⟨rfl,0,1,rfl,rfl,by decide,by decide,by decide,by decide,by decide,?_⟩
 refine .own [.slice 1 [e8 0]] 1 [e8 0] 17 rfl (clone8 _ [] (by decide)) rfl rfl ?_
 refine⟨rfl,1,1,rfl,rfl,by decide,by decide,by decide,by decide,by decide,?_⟩
 refine⟨rfl,⟨by decide,by decide⟩,?_⟩
 refine⟨by decide,by decide,?_⟩
 exact⟨by kernel_rfl,_,_,rfl,rfl,rfl⟩
abbrev jb(es:List (AV×AV)):AHp:=[(9003,.box 101 [.p (eI 1),.mtok 9002]),(9002,.map K3 es)]
abbrev jcaps:List EV:=[.p (.ref [eI 2,.mp K3 [(t8 0 1 0,eB true)]]),.loc 9003 0,.p (.ref [eI 1,.mp K3 [(t8 1 0 0,eB true)]])]
theorem join1:EFun Tryz.prog 204 (.p (t8 0 1 0)::.p (t8 1 0 0)::jcaps) (jb []) (.tup []) (jb [(t8 0 0 0,eB true)]):=by
 refine EFun.of hT Tryz.func204 rfl rfl (by simp) rfl (AD.run hT hmix ?_)
 refine⟨1,rfl,1,rfl,by decide,⟨0,rfl,by decide,⟨by kernel_rfl,?_⟩⟩⟩
 refine .pure [t8 0 1 0,eI 2,t8 1 0 0,eI 1,eI 1] _ rfl concat211 ⟨by kernel_rfl,?_⟩
 exact⟨_,[],_,rfl,.of,rfl,rfl,rfl⟩
abbrev jfn:EV:=.fn (.func 204) [] jcaps
abbrev k010:AV×AV:=(t8 0 1 0,eB true)
abbrev k100:AV×AV:=(t8 1 0 0,eB true)
abbrev k000:AV×AV:=(t8 0 0 0,eB true)
abbrev ejb:List (AV×AV)→AHp
 | []=>jb []
 | _=>jb [k000]
theorem one_perm{x:AV×AV}{l:List (AV×AV)}(h:l.Perm [x]):l=[x]:=List.perm_singleton.1 h
theorem one_step{x y:AV×AV}{d r:List (AV×AV)}(h:(y::d++r).Perm [x]):d=[]∧r=[]∧y=x:=by
 have hl:=h.length_eq
 simp only[List.length_append,List.length_cons,List.length_nil] at hl
 have h1:d.length=0∧r.length=0:=by omega
 obtain rfl:d=[]:=List.length_eq_zero_iff.1 h1.1
 obtain rfl:r=[]:=List.length_eq_zero_iff.1 h1.2
 refine⟨rfl,rfl,?_⟩
 have:=one_perm h
 simpa using this
theorem eachJ:EFun Tryz.prog 203 [.p (kd 2 (t8 0 1 0)),.p (kd 1 (t8 1 0 0)),jfn] (jb []) (.tup []) (jb [k000]):=by
 refine EFun.of hT Tryz.func203 rfl rfl (by simp) rfl (AD.run hT hmix ?_)
 refine AD.mapLoop (T:=T) (it:=10) (tn:=11) (k:=10) (kp:=K3) (tot:=[k010]) (fun _=>[(2,jfn),(4,.loc 4 0),(10,.mtok 10)]) (fun done=>(10,.map .iter ((.mp K3 [k010],tt)::done))::(4,.box 101 [.p (eI 1),.p (.mp K3 [k100])])::ejb done)
  [] (jb [k000]) .of (fun done hd=>?_) ?_ (fun done x rest hp=>?_)
 ·obtain rfl:=one_perm hd
  exact .of
 ·exact⟨_,[],_,rfl,.of,rfl,rfl,rfl⟩
 ·obtain⟨rfl,rfl,rfl⟩:=one_step hp
  refine AD.run hT hmix ?_
  refine AD.mapLoop (T:=T) (it:=17) (tn:=18) (k:=17) (kp:=K3) (tot:=[k100]) (fun _=>[(2,jfn),(4,.loc 4 0),(6,.loc 6 0),(10,.mtok 10),(17,.mtok 17)])
   (fun done=>(17,.map .iter ((.mp K3 [k100],tt)::done))::(6,.box 112 [.p (e8 0),.p (e8 1),.p (e8 0)])::(10,.map .iter [(.mp K3 [k010],tt),k010])::(4,.box 101 [.p (eI 1),.p (.mp K3 [k100])])::ejb done)
   [(2,jfn),(4,.loc 4 0),(10,.mtok 10)] ((10,.map .iter [(.mp K3 [k010],tt),k010])::(4,.box 101 [.p (eI 1),.p (.mp K3 [k100])])::jb [k000]) .of (fun done hd=>?_) ?_ (fun done x rest hp=>?_)
  ·obtain rfl:=one_perm hd
   exact .of
  ·exact .of
  ·obtain⟨rfl,rfl,rfl⟩:=one_step hp
   refine AD.run hT hmix ?_
   refine .eff (jb []) (jb [k000]) _ (join1.le (args':=.agg [.p (e8 0),.p (e8 1),.p (e8 0)]::.agg [.p (e8 1),.p (e8 0),.p (e8 0)]::jcaps) ⟨.inr ⟨_,rfl,rfl⟩,.inr ⟨_,rfl,rfl⟩,.inl rfl,.inl rfl,.inl rfl,trivial⟩) ⟨rfl,rfl,trivial⟩ rfl rfl rfl rfl ?_
   exact .of
abbrev kJ:AV:=kd 1 (t8 0 0 0)
theorem joinT:AFun Tryz.prog 151 [kd 2 (t8 0 1 0),kd 1 (t8 1 0 0)] (.p kJ):=by
 refine AFun.of hT Tryz.func151 rfl rfl (by simp) (AD.finSub ?_)
 refine AD.cut hT hmix 2 (fun _:Unit=>True) (fun _=>[(2,.p (.ref [eI 2,.mp K3 [k010]])),(3,.p (.ref [eI 1,.mp K3 [k100]])),(4,.loc 4 0),(5,.loc 9003 0)])
  (fun _=>[(4,.box 101 [eint .i64 0,.p (.imm (.map none))]),(9003,.box 101 [.p (eI 1),.mtok 9002]),(9002,.map K3 [])]) ?_ fun _ _=>?_
 ·refine ngo_in (by decide) (by decide) (ngo_in (by decide) (by decide) ?_)
  refine .eff [] [(9002,.map K3 [])] _ (emptyP 1) ⟨rfl,trivial⟩ rfl rfl rfl rfl ?_
  refine⟨(),trivial,(SubAll.sealB (env':=[(2,.p (.ref [eI 2,.mp K3 [k010]])),(3,.loc 3 0),(4,.loc 4 0),(5,.loc 5 0)])
   (h':=[(3,.box 101 [.p (eI 1),.p (.mp K3 [k100])]),(4,.box 101 [eint .i64 0,.p (.imm (.map none))]),(5,.box 101 [.p (eI 1),.mtok 9002]),(9002,.map K3 [])]) 2).trans ((SubAll.sealB (env':=[(2,.p (.ref [eI 2,.mp K3 [k010]])),(3,.p (.ref [eI 1,.mp K3 [k100]])),(4,.loc 4 0),(5,.loc 5 0)])
   (h':=[(4,.box 101 [eint .i64 0,.p (.imm (.map none))]),(5,.box 101 [.p (eI 1),.mtok 9002]),(9002,.map K3 [])]) 3).trans ((SubAll.ren 9003 5).trans .of))⟩
 ·refine AD.run hT hmix ?_
  refine .eff (jb []) (jb [k000]) _ eachJ ⟨rfl,rfl,trivial⟩ rfl rfl rfl rfl ?_
  exact⟨[(4,.loc 4 0)],[(4,.box 101 [.p (eI 1),.p (.mp K3 [k000])])],.mseal 9002,_,_,rfl,rfl,rfl⟩
def sS:Spc:=⟨[⟨⟨#[65]⟩,false⟩,⟨⟨#[66]⟩,true⟩],[⟨⟨#[102]⟩,[0,1],true⟩],[],[]⟩
def sSc:Scope:=⟨[2,1],1⟩
abbrev nmF:ByteArray:=⟨#[102]⟩
abbrev nmB:ByteArray:=⟨#[66]⟩
def nF:Nd:=.mk 1 nmF 0 [] 0
def nB:Nd:=.mk 1 nmB 0 [] 0
def nJ:Nd:=.mk 9 ⟨#[]⟩ 0 [nF,nB] 0
theorem smallP:AFun Tryz.prog 18 [] (.tup [.p sS.ex,.p sSc.av]):=
 AFun.of hT Tryz.func18 rfl rfl (by simp) (AD.run hT hmix ⟨_,_,rfl,rfl,rfl⟩)
theorem useF:AFun Tryz.prog 19 [eS nmF] (.p nF.ex):=
 AFun.of hT Tryz.func19 rfl rfl (by simp) (AD.run hT hmix ⟨_,_,rfl,rfl,rfl⟩)
theorem useB:AFun Tryz.prog 19 [eS nmB] (.p nB.ex):=
 AFun.of hT Tryz.func19 rfl rfl (by simp) (AD.run hT hmix ⟨_,_,rfl,rfl,rfl⟩)
theorem sortOfP:AFun Tryz.prog 16 [sSc.av,eI 2] (.p (eI 1)):=by
 refine AFun.of hT Tryz.func16 rfl rfl (by simp) (AD.run hT hmix ?_)
 intro _
 refine AD.loopI (fun i:Nat=>i≤1) (fun i=>2 - i) (fun i=>[(1,.p (eI (2 - 2*i))),(4,.p (eI 0)),(10,.p (ints [2,1])),(11,eint .i64 2),(12,eint .i64 i)]) (fun _=>[]) 0 (by decide) .of fun i hi=>?_
 match i,hi with
 | 0,_=>
  refine AD.run hT hmix (igo_map 0 rfl (by simp) (ngo_in (by decide) (by decide) (ngo_in (by decide) (by decide) ⟨1,by decide,by decide,.of⟩)))
 | 1,_=>exact AD.run hT hmix (igo_map 1 rfl (by simp) ⟨_,_,rfl,rfl,rfl⟩)
abbrev nilP:AV:=.imm (.pointer none)
theorem findP(nm:ByteArray):AFun Tryz.prog 144 [nilP,eS nm] (.p nilP):=by
 refine AFun.of hT Tryz.func144 rfl rfl (by simp) (AD.run hT hmix ?_)
 refine AD.loopI (fun _:Unit=>True) (fun _=>0) (fun _=>[(0,.p nilP),(1,.p (eS nm))]) (fun _=>[]) () trivial .of fun _ _=>AD.run hT hmix ?_
 exact⟨_,_,rfl,rfl,rfl⟩
theorem needP(e:Int)(n:AV)(c:List AV)(hn:n=.agg c)(hc:c.length=5):AFun Tryz.prog 89 [eB true,eI e,n] (.tup []):=by
 match c,hc with
 | [c0,c1,c2,c3,c4],_=>
  subst hn
  exact AFun.of hT Tryz.func89 rfl rfl (by simp) (AD.run hT hmix ⟨_,_,rfl,rfl,rfl⟩)
abbrev kF:AV:=kd 2 (t8 0 1 0)
abbrev kB:AV:=kd 1 (t8 1 0 0)
abbrev sfl:List AV:=[.agg [eS nmF,ints [0,1],eB true]]
abbrev ssr:List AV:=[.agg [eS ⟨#[65]⟩,eB false],.agg [eS nmB,eB true]]
abbrev sbx:AHp:=[(2,.box 27 (sS.cx.map .p))]
theorem meanF:AFun Tryz.prog 145 [sS.ex,eS nmF] (.p (.slice 2 [kF])):=by
 refine AFun.of hT Tryz.func145 rfl rfl (by simp) (AD.run hT hmix ?_)
 intro _
 refine AD.loopI (fun i:Nat=>i≤1) (fun i=>2 - i) (fun i=>[(1,.p (eS nmF)),(2,.loc 2 0),(5,if i=0 then .full 2 [] else .p (.slice 2 [kF])),(11,.p (.slice 3 sfl)),(12,eint .i64 1),(13,eint .i64 i)]) (fun _=>sbx) 0 (by decide) .of fun i hi=>?_
 match i,hi with
 | 0,_=>
  refine AD.run hT hmix ?_
  refine⟨0,_,rfl,rfl,?_⟩
  refine bgo_true (by kernel_rfl) ?_
  refine .pure [ints [0,1]] _ rfl (of2 0 1 (by decide) (by decide)) ?_
  refine⟨⟨by decide,by decide⟩,ngo_in (by decide) (by decide) ⟨1,by decide,by decide,.of⟩⟩
 | 1,_=>
  refine AD.run hT hmix ?_
  intro _
  refine AD.loopI (fun i:Nat=>i≤2) (fun i=>2 - i) (fun i=>[(1,.p (eS nmF)),(2,.loc 2 0),(5,.p (.slice 2 [kF])),(29,.p (.slice 2 ssr)),(30,eint .i64 2),(31,eint .i64 i)]) (fun _=>sbx) 0 (by decide) .of fun i hi=>?_
  match i,hi with
  | 0,_=>
   refine AD.run hT hmix ?_
   refine⟨0,_,rfl,rfl,?_⟩
   exact bgo_false (by kernel_rfl) (ngo_in (by decide) (by decide) ⟨1,by decide,by decide,.of⟩)
  | 1,_=>
   refine AD.run hT hmix ?_
   refine⟨1,_,rfl,rfl,?_⟩
   refine bgo_false (by kernel_rfl) ?_
   refine⟨by decide,bgo_false (by kernel_rfl) ?_⟩
   refine⟨by decide,bgo_false (by kernel_rfl) ?_⟩
   exact ngo_in (by decide) (by decide) ⟨2,by decide,by decide,.of⟩
  | 2,_=>exact AD.run hT hmix ⟨_,_,rfl,rfl,rfl⟩
theorem meanB:AFun Tryz.prog 145 [sS.ex,eS nmB] (.p (.slice 2 [kB])):=by
 refine AFun.of hT Tryz.func145 rfl rfl (by simp) (AD.run hT hmix ?_)
 intro _
 refine AD.loopI (fun i:Nat=>i≤1) (fun i=>2 - i) (fun i=>[(1,.p (eS nmB)),(2,.loc 2 0),(5,.full 2 []),(11,.p (.slice 3 sfl)),(12,eint .i64 1),(13,eint .i64 i)]) (fun _=>sbx) 0 (by decide) .of fun i hi=>?_
 match i,hi with
 | 0,_=>
  refine AD.run hT hmix ?_
  refine⟨0,_,rfl,rfl,?_⟩
  exact bgo_false (by kernel_rfl) (ngo_in (by decide) (by decide) ⟨1,by decide,by decide,.of⟩)
 | 1,_=>
  refine AD.run hT hmix ?_
  intro _
  refine AD.loopI (fun i:Nat=>i≤2) (fun i=>2 - i) (fun i=>[(1,.p (eS nmB)),(2,.loc 2 0),(5,if i<2 then .full 2 [] else .p (.slice 2 [kB])),(29,.p (.slice 2 ssr)),(30,eint .i64 2),(31,eint .i64 i)]) (fun _=>sbx) 0 (by decide) .of fun i hi=>?_
  match i,hi with
  | 0,_=>
   refine AD.run hT hmix ?_
   refine⟨0,_,rfl,rfl,?_⟩
   exact bgo_false (by kernel_rfl) (ngo_in (by decide) (by decide) ⟨1,by decide,by decide,.of⟩)
  | 1,_=>
   refine AD.run hT hmix ?_
   refine⟨1,_,rfl,rfl,?_⟩
   refine bgo_true (by kernel_rfl) ?_
   refine .pure [ints [1]] _ rfl (of1 1 (by decide)) ?_
   refine⟨⟨by decide,by decide⟩,?_⟩
   refine⟨by decide,bgo_false (by kernel_rfl) ?_⟩
   refine⟨by decide,bgo_false (by kernel_rfl) ?_⟩
   exact ngo_in (by decide) (by decide) ⟨2,by decide,by decide,.of⟩
  | 2,_=>exact AD.run hT hmix ⟨_,_,rfl,rfl,rfl⟩
abbrev ckP:AV:=.ref (sS.cx++[eI 0,.slice 1 []])
theorem nameP(n:AV)(nm:ByteArray)(k:AV)(hn:n=.agg [eI 1,eS nm,eI 0,.slice 5 [],eI 0])(hm:AFun Tryz.prog 145 [sS.ex,eS nm] (.p (.slice 2 [k])))(hk:∃ a t,k=kd a t):
 AFun Tryz.prog 91 [ckP,nilP,n] (.p k):=by
 obtain⟨a,t,rfl⟩:=hk
 subst hn
 refine AFun.of hT Tryz.func91 rfl rfl (by simp) (AD.run hT hmix ?_)
 refine .pure [nilP,eS nm] _ rfl (findP nm) ?_
 refine .pure [sS.ex,eS nm] _ rfl hm ⟨by kernel_rfl,?_⟩
 intro _
 refine .pure [eB true,eI 40,.agg [eI 1,eS nm,eI 0,.slice 5 [],eI 0]] _ rfl (needP _ _ _ rfl rfl) ?_
 intro _
 refine .pure [eB true,eI 44,.agg [eI 1,eS nm,eI 0,.slice 5 [],eI 0]] _ rfl (needP _ _ _ rfl rfl) ?_
 exact⟨0,_,rfl,rfl,_,_,rfl,rfl,rfl⟩
theorem examineL(n:AV)(nm:ByteArray)(k:AV)(hn:n=.agg [eI 1,eS nm,eI 0,.slice 5 [],eI 0])(hm:AFun Tryz.prog 145 [sS.ex,eS nm] (.p (.slice 2 [k])))(hk:∃ a t,k=kd a t):
 AFun Tryz.prog 41 [ckP,nilP,n,eB false] (.p k):=by
 have h:=nameP n nm k hn hm hk
 obtain⟨a,t,rfl⟩:=hk
 subst hn
 refine AFun.of hT Tryz.func41 rfl rfl (by simp) (AD.run hT hmix ?_)
 refine .pure [eB true,eI 46,.agg [eI 1,eS nm,eI 0,.slice 5 [],eI 0]] _ rfl (needP _ _ _ rfl rfl) ⟨by kernel_rfl,?_⟩
 refine .pure [ckP,nilP,.agg [eI 1,eS nm,eI 0,.slice 5 [],eI 0]] _ rfl h ?_
 exact⟨_,_,rfl,rfl,rfl⟩
theorem applyJ:AFun Tryz.prog 93 [ckP,nJ.ex,.slice 2 [kF,kB]] (.p kJ):=by
 refine AFun.of hT Tryz.func93 rfl rfl (by simp) (AD.run hT hmix ?_)
 refine⟨0,_,rfl,rfl,1,_,rfl,rfl,ngo_in (by decide) (by decide) (ngo_in (by decide) (by decide) ⟨by kernel_rfl,?_⟩)⟩
 refine .pure [eB true,eI 42,nJ.ex] _ rfl (needP _ _ _ rfl rfl) ?_
 refine⟨0,_,rfl,rfl,1,_,rfl,rfl,?_⟩
 refine .pure [kF,kB] _ rfl joinT ⟨by kernel_rfl,?_⟩
 exact⟨_,_,rfl,rfl,rfl⟩
theorem examineJ:AFun Tryz.prog 41 [ckP,nilP,nJ.ex,eB false] (.p kJ):=by
 have hF:=examineL nF.ex nmF kF rfl meanF ⟨_,_,rfl⟩
 have hB:=examineL nB.ex nmB kB rfl meanB ⟨_,_,rfl⟩
 refine AFun.of hT Tryz.func41 rfl rfl (by simp) (AD.run hT hmix ?_)
 refine .pure [eB true,eI 46,nJ.ex] _ rfl (needP _ _ _ rfl rfl) ⟨by kernel_rfl,?_⟩
 intro _
 refine AD.loopI (fun i:Nat=>i≤2) (fun i=>2 - i) (fun i=>[(0,.p ckP),(1,.p nilP),(3,.p (eB false)),(6,.loc 6 0),(8,.loc 8 0),(10,if i=0 then .full 2 [] else .own 2 ([kF,kB].take i) 92),(79,.p (.slice 5 [nF.ex,nB.ex])),(80,eint .i64 2),(81,eint .i64 i)])
  (fun i=>(6,.box 35 (nJ.ecs.map .p))::(8,.box 101 [eint .i64 0,.p (.imm (.map none))])::if i=0 then [] else [(92,.tail i)]) 0 (by decide) .of fun i hi=>?_
 match i,hi with
 | 0,_=>
  refine AD.run hT hmix ?_
  refine⟨0,_,rfl,rfl,?_⟩
  refine .pure [ckP,nilP,nF.ex,eB false] _ rfl hF ?_
  exact⟨⟨by decide,by decide⟩,ngo_in (by decide) (by decide) ⟨1,by decide,by decide,.of⟩⟩
 | 1,_=>
  refine AD.run hT hmix ?_
  refine⟨1,_,rfl,rfl,?_⟩
  refine .pure [ckP,nilP,nB.ex,eB false] _ rfl hB ?_
  exact⟨rfl,⟨by decide,by decide⟩,ngo_in (by decide) (by decide) ⟨2,by decide,by decide,.of⟩⟩
 | 2,_=>
  refine AD.run hT hmix ?_
  refine .pure [ckP,nJ.ex,.slice 2 [kF,kB]] _ rfl applyJ ?_
  exact⟨_,_,rfl,rfl,rfl⟩
theorem newCheckerP:AFun Tryz.prog 40 [sS.ex,eI 0] (.p ckP):=by
 refine AFun.of hT Tryz.func40 rfl rfl (by simp) (AD.finSub (AD.run hT hmix ?_))
 refine AD.loopI (fun _:Unit=>True) (fun _=>0) (fun _=>[(1,.p (eI 0)),(5,.loc 9 0)]) (fun _=>[(9,.box 158 ((sS.cx++[eI 0,.slice 1 []]).map .p))]) () trivial .of fun _ _=>AD.run hT hmix ?_
 exact⟨[(4,.p ckP)],[],.sealB 9,_,_,rfl,rfl,rfl⟩
theorem bindP:AFun Tryz.prog 42 [.slice 2 []] (.p nilP):=by
 refine AFun.of hT Tryz.func42 rfl rfl (by simp) (AD.run hT hmix ?_)
 intro _
 refine AD.loopI (fun _:Unit=>True) (fun _=>0) (fun _=>[(3,.p nilP),(6,.p (.slice 2 [])),(7,eint .i64 0),(8,eint .i64 0)]) (fun _=>[]) () trivial .of fun _ _=>AD.run hT hmix ?_
 exact⟨_,_,rfl,rfl,rfl⟩
abbrev tcaps:List EV:=[.p (.ref sS.cx),.p (.ref [.slice 2 []]),.p (.ref nJ.ecs),.loc 9003 0]
abbrev tb0:AHp:=[(9003,.box 101 [.p (eI 0),.p (.imm (.map none))])]
abbrev tb1:AHp:=[(9003,.box 101 [.p (eI 1),.p (.mp K3 [k000])])]
theorem type1:EFun Tryz.prog 39 tcaps tb0 (.tup []) tb1:=by
 refine EFun.of hT Tryz.func39 rfl rfl (by simp) rfl (AD.run hT hmix ?_)
 intro _
 refine .pure [sS.ex,eI 0] _ rfl newCheckerP ?_
 refine .pure [.slice 2 []] _ rfl bindP ?_
 refine .pure [ckP,nilP,nJ.ex,eB false] _ rfl examineJ ⟨by kernel_rfl,?_⟩
 exact⟨_,[],_,rfl,.of,rfl,rfl,rfl⟩
end Go.Ab
namespace Go.Ab
open Go Go.RowKit
theorem leaves_quietC{P:Program}{fn:Func}{tmps:Array Value}{R:Ending→World→Prop}{f:FuncId}{args cap:Array Value}(hq:DQuiet P f (args++cap).size){w:World}(h:∃ v,(results fn tmps).run P w=.ok v w∧R (.returned v) w):
 LeavesInM Fence.wide 0 P fn tmps R [{ target:=.fn (.func f) cap,args }] .returning w:=by
 refine⟨nofun,.inr ⟨fun e=>by simp[Fence.wide] at e,_,_,f,args++cap,rfl,?_,fun _ _=>trivial,?_⟩⟩
 ·simp only[invoke]
  rw[run_callFunc hq.1]
 ·obtain⟨h1,h2⟩:=hq.2 (args++cap) w rfl
  refine⟨h1,fun c cs hc hr=>?_⟩
  obtain⟨e,u',w',fr,⟨⟨v,rfl⟩,rfl,rfl⟩,h4,h5⟩:=h2 c cs hc hr
  exact⟨.returned v,.returning,w',fr,h,h4,h5⟩
theorem tr_textT{P:Program}{N:Nat}{Γ:Ctx}(hN:Γ.ntmps=N){D:List Deferred}{ops:Array Oper}{l:List Oper}{E:Nat→EV}{H:Hp}{steps E' H'}(ht:Tr P N ops.toList l E H steps E' H')(tl:List Oper):∀ (i:Nat) (g:Gh) (a:Act) (w:World),ops.toList.drop i=l++tl→SR Γ g E H a w→a.defers=D →
 ∀ (n:Nat) (Q:Exit→Act→World→Prop),(∀ g' a' w',SR Γ g' E' H' a' w'→a'.defers=D→wpOpsIn Γ.F n P ops Q (List.range' (i+l.length) tl.length) a' w')→wpOpsIn Γ.F n P ops Q (List.range' i (l.length+tl.length)) a w:=by
 have put:∀ (a:Act) (d:Option Tmp) (v:Value),(a.put d v).defers=a.defers:=fun a d v=>by cases d <;> rfl
 have at0:∀ {i:Nat} {o:Oper} {r:List Oper},ops.toList.drop i=o::r→ops[i]?=some o∧ops.toList.drop (i+1)=r:=fun {i o r} hl=>by
  refine⟨?_,by rw[← List.drop_drop,hl];rfl⟩
  have:(ops.toList.drop i)[0]?=some o:=by rw[hl];rfl
  rw[List.getElem?_drop] at this
  simpa using this
 induction ht with
 | nil E H=>
  intro i g a w _ hs hd n Q hQ
  have:=hQ g a w hs hd
  simpa using this
 | @run o l' _ _ _ _ _ _ _ _ _ hd hg ho _ ih=>
  intro i g a w hl hs hdd n Q hQ
  obtain⟨hoi,hr⟩:=at0 hl
  rw[List.length_cons,Nat.add_right_comm,List.range'_succ,wpOpsIn_cons]
  unfold wpOpIn
  rw[hoi]
  dsimp only
  rw[if_pos (GTake.wanted hg hs.tmps)]
  refine ho.2.2 Γ.rd g a w _ _ (fun _ _=>rfl) (fun _ _=>rfl) hs.tmps hs.inv n _ _ fun v g' w' hle hi hf hx=>?_
  have e:=ovr_self ho.1
  rw[e] at hle hi hf hx
  refine ih (i+1) g' _ w' hr (hs.put (hN▸hd) hle hi hf hx) ((put ..).trans hdd) n Q fun g2 a2 w2 h1 h2=>?_
  have:=hQ g2 a2 w2 h1 h2
  rw[List.length_cons] at this
  rw[show i+1+l'.length=i+(l'.length+1) by omega]
  exact this
 | @pass o l' _ _ _ _ _ hd hg _ ih=>
  intro i g a w hl hs hdd n Q hQ
  obtain⟨hoi,hr⟩:=at0 hl
  rw[List.length_cons,Nat.add_right_comm,List.range'_succ,wpOpsIn_cons]
  unfold wpOpIn
  rw[hoi]
  dsimp only
  rw[GPass.wanted hg hs.tmps]
  simp only[Bool.false_eq_true,if_false]
  refine⟨fun _ _=>trivial,ih (i+1) g _ w hr (hs.pass (hN▸hd)) ((put ..).trans hdd) n Q fun g2 a2 w2 h1 h2=>?_⟩
  have:=hQ g2 a2 w2 h1 h2
  rw[List.length_cons] at this
  rw[show i+1+l'.length=i+(l'.length+1) by omega]
  exact this
theorem EFun.introC{P:Program}{T:Tab}(hT:TabOk P T){f:FuncId}{fn:Func}{id0 id1:Nat}{ops0:Array Oper}{om od:Oper}{rest:Code}{args:List EV}{h0:AHp}{y:EV}{h1:AHp}(hf:P.funcs[f]?=some fn)(hb:fn.body=some (.seq (.region id0 ops0 false) (.seq (.region id1 #[om,od] false) rest)))
 (hname : (fn.name == "runtime.NumGoroutine") = false)(hn : args.length ≤ fn.ntmps)(hbm : onlyBM h0 = true){t3 : Tmp}{c : Call}{fq : FuncId}(hod : od.op = .defer c)(hgd : od.guard = none)(hdst : od.dst = none)(hc : c.callee = .value (.tmp t3))(hca : c.args = #[])(hq : DQuiet P fq 1)
 (hh:aops P T fn.ntmps ops0.toList ops0.toList (mkE 0 args) h0 [] (fun env h _=>aops P T fn.ntmps [om,od] [om] env h [] (fun env h _=>(∃ x,lk env t3=.fn (.func fq) [] [x])∧AD P fn.ntmps (hp h0) false rest (FinE T fn.results.toList h0 (fun y' h'=>y'=y∧h'=h1)) env h))):EFun P f args h0 y h1:=by
 refine⟨⟨fn,hf,hname,by rw[hb];rfl⟩,fun g w vs hi hl hr=>?_⟩
 refine(callsIn_wide (n:=0)).1 (callsIn_of_wp_marks hf hb trivial ?_)
 have hs0:=start_E hi hl hr hn
 obtain⟨steps,env1,hp1,htr,hA2,g1,a1,w1,hs1⟩:=aops_tr hT (N:=fn.ntmps) (Γ:=⟨w,g,hp h0,fn.ntmps,[],none⟩) rfl _ _ _ _ _ hh _ _ w hs0
 obtain⟨steps2,env2,hp2,htr2,⟨⟨xc,hxc⟩,hAD⟩,g2,a2,w2,hs2⟩:=aops_tr hT (N:=fn.ntmps) (Γ:=⟨w,g,hp h0,fn.ntmps,[],none⟩) rfl _ _ _ _ _ hA2 _ _ _ hs1
 obtain⟨ae,env',h',hqq,_,hg⟩:=AD.out hAD ⟨_,g2,a2,w2,⟨⟨rfl,rfl⟩,fun _=>rfl⟩,hs2⟩
 refine wpIn_seq ?_
 refine wpIn_region ?_
 rw[List.range_eq_range']
 have hl0:ops0.size=ops0.toList.length:=by simp
 rw[hl0]
 refine tr_textD (Γ:=⟨w,g,hp h0,fn.ntmps,[],none⟩) rfl (D:=[]) htr 0 _ _ w (by simp) hs0 rfl _ (fun g3 a3 w3 hs3 hd3=>?_) 0
 show Code.wpIn _ _ _ (.seq _ _) _ _ _
 refine wpIn_seq (wpIn_region ?_)
 rw[List.range_eq_range']
 show wpOpsIn _ _ _ _ _ (List.range' 0 ([om].length+[od].length)) _ _
 refine tr_textT (Γ:=⟨w,g,hp h0,fn.ntmps,[],none⟩) (ops:=#[om,od]) rfl (D:=[]) htr2 [od] 0 g3 a3 w3 rfl hs3 hd3 0 _ fun g4 a4 w4 hs4 hd4=>?_
 show wpOpsIn _ _ _ _ _ [1] _ _
 obtain⟨vc,hvc⟩:∃ vc,a4.eval (.tmp t3)=.func (.func fq) #[] #[vc]:=by
  have h3:=hs4.tmps t3
  rw[hxc] at h3
  generalize hv:a4.tmps.getD t3 undef=v at h3
  cases h3 with
  | fn _ vf vc first caps hl1 hl2 h1 h2=>
   obtain rfl:vf=[]:=List.length_eq_zero_iff.1 hl1
   match vc,hl2 with
   | [x],_=>exact⟨x,hv⟩
 obtain⟨dq,hdq⟩:∃ dq:Deferred,dq={ target:=.fn (.func fq) #[vc],args:=#[] }:=⟨_,rfl⟩
 have hres:(execOp a4.eval od).run P w4=.ok (.defer dq) w4:=by
  simp only[execOp,hod,resolve,hc,hca,hvc,Deferred.ofValue]
  rw[hdq]
  simp
 refine wpOps_one (o:=od) rfl hgd ⟨fun _ _=>trivial,?_⟩
 show od.uponIn _ _ _ _ _ _ ((execOp a4.eval od).run P w4)
 rw[hres,Oper.uponIn_defer,hdst]
 show Code.wpIn _ _ _ rest _ { a4 with defers:=dq::a4.defers } w4
 have hs5:SR ⟨w,g,hp h0,fn.ntmps,[dq],none⟩ g4 (lk env2) (hp hp2) { a4 with defers:=dq::a4.defers } w4:=
  ⟨hs4.size,DfOk.start (by rw[hd4]),hs4.tmps,hs4.inv,⟨hs4.fr.kept,hs4.fr.fz,hs4.fr.low,hs4.fr.own,hs4.fr.box,hs4.fr.map,hs4.fr.tail⟩⟩
 have hw:=(hg ⟨w,g,hp h0,fn.ntmps,[dq],none⟩ ⟨⟨rfl,rfl⟩,fun _=>rfl⟩ (fun e en hh=>e=ae∧en=env'∧hh=h') ⟨rfl,rfl,rfl⟩).out g4 _ w4 hs5 0
 refine wpIn_mono hw ?_
 rintro e a6 w6 ⟨ae6,en6,hh6,g6,he6,⟨rfl,rfl,rfl⟩,hs6⟩
 obtain⟨ds,d1,d2,d3⟩:=hs6.dfr
 have key:(∃ es ys h2,resAll T en6 hh6 fn.results.toList=some es∧SubAll es.length (hp h0) (mkE 0 es) hh6 (mkE 0 ys) h2∧Nat.beq ys.length es.length=true∧retE ys=y∧h2=h1) →
  LeavesInM Fence.wide 0 P fn a6.tmps (fun e w'=>∃ v g',e=.returned v∧GLe g (hp h0) g' (hp h1)∧WInv g' (hp h1) w'∧Fr ⟨w,g,hp h0,0,[],none⟩ g' (hp h1) w'∧ERep g' (hp h1) v y) a6.defers .returning w6:=by
  rintro⟨es,ys,h2,q1,q2,q3,rfl,rfl⟩
  have q3:=nbt q3
  rw[d1]
  refine leaves_marksT ds w6 d2 (fun d hd=>(d3 d hd).1) fun w7 hk=>?_
  have hs:=hs6.other hk fun b hb=>⟨(d3 b hb).2.1,(d3 b hb).2.2,_,(d3 b hb).1⟩
  rw[show([dq]:List Deferred)=[{ target:=.fn (.func fq) #[vc],args:=#[] }] from by rw[hdq]]
  refine leaves_quietC (by simpa using hq) ?_
  obtain⟨us,r1,r2,r3⟩:=results_run hT (fn:=fn) hs.tmps hs.inv q1
  have hsr:SR ⟨w,g,hp h0,es.length,[],none⟩ g6 (lk (mkE 0 es)) (hp hh6) { tmps:=us.toArray++Array.replicate 0 undef,defers:=[] } w7:=
   ⟨by simp[r2],DfOk.start rfl,fun t=>mkE_reps r2 r3 0 t,hs.inv,⟨hs.fr.kept,hs.fr.fz,hs.fr.low,hs.fr.own,hs.fr.box,hs.fr.map,hs.fr.tail⟩⟩
  obtain⟨g8,hs8⟩:=q2 _ ⟨rfl,rfl⟩ g6 _ w7 hsr
  refine⟨_,r1,_,g8,rfl,?_,hs8.inv,⟨hs8.fr.kept,hs8.fr.fz,hs8.fr.low,hs8.fr.own,hs8.fr.box,hs8.fr.map,hs8.fr.tail⟩,ret_rep (by rw[r2,q3]) fun i v x hv hx=>?_⟩
  ·refine⟨hs8.fr.fz,fun k t cs hk=>?_,fun k hk=>?_,fun k m hk=>?_,fun k kp es hk=>?_⟩
   ·rcases hs8.fr.box k t cs hk with h | ⟨cs',a1,a2,a3,a4⟩
    ·exact .inl h
    ·exact .inr ⟨a3,a4,cs',a1,a2⟩
   ·rcases onlyBM_at hbm k with h | ⟨_,_,h⟩ | ⟨_,_,h⟩ | ⟨_,h⟩ | ⟨_,h⟩ <;> rw[h] at hk <;> cases hk
   ·exact hs8.fr.tail k m hk
   ·rcases hs8.fr.map k kp es hk with h | ⟨cs',a1,a2⟩
    ·exact .inl h
    ·exact .inr ⟨a2,cs',a1⟩
  ·have:=hs8.tmps i
   rw[lk_mkE] at this
   simp only[Nat.not_lt_zero,if_false,Nat.sub_zero,hx] at this
   have hlt:i<us.length:=(List.getElem?_eq_some_iff.1 hv).1
   have e:(us.toArray++Array.replicate 0 undef).getD i undef=v:=by
    have:=(List.getElem?_eq_some_iff.1 hv).2
    simp[hlt,this]
   rw[e] at this
   exact this
 cases ae6 with
 | normal=>cases e <;> first | exact he6.elim | exact key hqq
 | exit i=>exact hqq.elim
 | ret=>cases e <;> first | exact he6.elim | exact key hqq
end Go.Ab
namespace Go.Ab
open Go Go.Proofs
set_option maxRecDepth 10000
theorem caughtT_quiet:DQuiet Tryz.prog 87 1:=by
 refine⟨⟨_,Tryz.func87,rfl,rfl⟩,fun args w hs=>?_⟩
 refine callsDIn_of_wpSIn Tryz.func87 rfl trivial fun c₀ cs hu=>?_
 obtain⟨x,rfl⟩:∃ x,args=#[x]:=by
  obtain⟨l⟩:=args
  cases l with
  | nil=>simp at hs
  | cons x r=>cases r with
   | nil=>exact⟨x,rfl⟩
   | cons y z=>simp at hs
 apply wpSIn_seq
 apply wpSIn_region
 simp[wpOpsSIn,go_sem,recoverD,hu,Exit.thenS]
 refine wpSIn_of_wpIn rfl (wpIn_wide.2 ?_)
 refine wp_block (wp_seq (wp_region ?_))
 simp[wpOps,Oper.wp,go_sem,List.range,List.range.loop,yielded,Region.wanted,Act.eval]
 left
 refine wp_cond_true (by simp[Act.eval]) ?_
 refine wp_region ?_
 simp[wpOps,Oper.wp,go_sem,List.range,List.range.loop,yielded,Region.wanted,Act.eval,Exit.inBlock,bodyPostS,results,hu]
 exact .inl (by rw[← hu])
abbrev tfn:EV:=.fn (.func 39) [] tcaps
theorem caughtP:EFun Tryz.prog 38 [tfn] tb0 (.agg [.p (eI 0),.p (eI 0)]) tb1:=by
 refine EFun.introC hT Tryz.func38 rfl rfl (by simp) rfl (t3:=3) rfl rfl rfl rfl rfl caughtT_quiet ?_
 refine⟨⟨_,rfl⟩,AD.run hT hmix ?_⟩
 refine .eff tb0 tb1 _ type1 ⟨rfl,trivial⟩ rfl rfl rfl rfl ?_
 exact⟨_,[.agg [.p (eI 0),.p (eI 0)]],_,rfl,.of,rfl,rfl,rfl⟩
theorem bitsLenP(x:Int)(h0:0≤x)(h1:x≤18446744073709551615):AFun Tryz.prog 77 [.imm (.int .u64 x)] (.p (eI (Lib.bitLen x.toNat))):=by
 refine⟨⟨_,Tryz.func77,rfl,rfl⟩,fun fz w vs hz hr=>?_⟩
 obtain⟨v,rfl⟩:∃ v,vs=[v]:=by
  match vs,hr.1 with
  | [v],_=>exact⟨v,rfl⟩
 have e0:=hr.2 0 v _ rfl rfl
 cases e0
 refine(Tryz.bits_Len x w h0 h1).mono ?_
 rintro e w' ⟨rfl,rfl⟩
 exact⟨_,fz,rfl,Kept.refl _ _,⟨fun _ _ _ h=>h,fun _ _=>rfl⟩,hz,fun g hg=>.p _ _ (.imm _ rfl)⟩
abbrev cmpF:AV:=.fn (.func 44) [] []
theorem insOne(r:AV):AFun Tryz.prog 154 [.slice 1 [r],eI 0,eI 1,cmpF] (.tup []):=by
 refine AFun.of hT Tryz.func154 rfl rfl (by simp) (AD.run hT hmix ?_)
 refine ngo_in (by decide) (by decide) ?_
 refine AD.loopI (fun _:Unit=>True) (fun _=>0) (fun _=>[(2,.p (eI 1)),(8,.p (eI 1))]) (fun _=>[]) () trivial .of fun _ _=>AD.run hT hmix ?_
 exact⟨_,_,rfl,rfl,rfl⟩
theorem pdqOne(r:AV)(l:Int):AFun Tryz.prog 95 [.slice 1 [r],eI 0,eI 1,eI l,cmpF] (.tup []):=by
 refine AFun.of hT Tryz.func95 rfl rfl (by simp) (AD.run hT hmix ?_)
 refine AD.loopI (fun _:Unit=>True) (fun _=>0) (fun _=>[(0,.p (.slice 1 [r])),(1,.p (eI 0)),(2,.p (eI 1)),(3,.p (eI l)),(4,.p cmpF)]) (fun _=>[]) () trivial .of fun _ _=>AD.run hT hmix ?_
 refine ngo_in (by decide) (by decide) ?_
 exact .pure [.slice 1 [r],eI 0,eI 1,cmpF] _ rfl (insOne r) ⟨_,_,rfl,rfl,rfl⟩
theorem sortOne(r:AV):AFun Tryz.prog 43 [.slice 1 [r],cmpF] (.tup []):=by
 refine AFun.of hT Tryz.func43 rfl rfl (by simp) (AD.run hT hmix ?_)
 intro _
 refine⟨1,rfl,?_⟩
 refine .pure [.imm (.int .u64 1)] _ rfl (bitsLenP 1 (by decide) (by decide)) ?_
 exact .pure [.slice 1 [r],eI 0,eI 1,_,cmpF] _ rfl (pdqOne r _) ⟨_,_,rfl,rfl,rfl⟩
theorem typeP:AFun Tryz.prog 14 [sS.ex,.slice 2 [],nJ.ex] (.tup [.p (.slice 1 [ints [0]]),.p (eI 0)]):=by
 refine AFun.of hT Tryz.func14 rfl rfl (by simp) ?_
 refine AD.cut hT hmix 4 (fun _:Unit=>True) (fun _=>[(3,.p (.ref sS.cx)),(4,.p (.ref [.slice 2 []])),(5,.p (.ref nJ.ecs)),(8,.loc 9003 0)]) (fun _=>tb0) ?_ fun _ _=>?_
 ·exact⟨(),trivial,(SubAll.sealB (env':=[(3,.p (.ref sS.cx)),(4,.loc 4 0),(5,.loc 5 0),(8,.loc 8 0)]) (h':=[(4,.box 98 [.p (.slice 2 [])]),(5,.box 35 (nJ.ecs.map .p)),(8,.box 101 [.p (eI 0),.p (.imm (.map none))])]) 3).trans
   ((SubAll.sealB (env':=[(3,.p (.ref sS.cx)),(4,.p (.ref [.slice 2 []])),(5,.loc 5 0),(8,.loc 8 0)]) (h':=[(5,.box 35 (nJ.ecs.map .p)),(8,.box 101 [.p (eI 0),.p (.imm (.map none))])]) 4).trans
   ((SubAll.sealB (env':=[(3,.p (.ref sS.cx)),(4,.p (.ref [.slice 2 []])),(5,.p (.ref nJ.ecs)),(8,.loc 8 0)]) (h':=[(8,.box 101 [.p (eI 0),.p (.imm (.map none))])]) 5).trans ((SubAll.ren 9003 8).trans .of)))⟩
 ·refine AD.run hT hmix ?_
  refine .eff tb0 tb1 _ caughtP ⟨rfl,trivial⟩ rfl rfl rfl rfl ?_
  refine AD.mapLoop (T:=T) (it:=27) (tn:=28) (k:=27) (kp:=K3) (tot:=[k000]) (fun done=>[(8,.loc 9003 0),(10,(match done with | []=>.full 1 [] | _=>.own 1 [ints [0]] 49)),(27,.mtok 27)])
   (fun done=>(27,.map .iter ((.mp K3 [k000],tt)::done))::(match done with | []=>tb1 | _=>(49,.tail 1)::tb1)) [(10,.own 1 [ints [0]] 49)] [(49,.tail 1)] .of (fun done hd=>?_) ?_ (fun done x rest hp=>?_)
  ·obtain rfl:=one_perm hd
   exact .of
  ·refine ACall.pure [.slice 1 [ints [0]],cmpF] _ rfl (sortOne (ints [0])) ?_
   exact⟨_,_,rfl,rfl,rfl⟩
  ·obtain⟨rfl,rfl,rfl⟩:=one_step hp
   refine AD.run hT hmix ?_
   refine⟨rfl,0,1,rfl,rfl,by decide,by decide,by decide,by decide,by decide,?_⟩
   intro _
   refine AD.loopI (fun i:Nat=>i≤1) (fun i=>2 - i) (fun i=>[(8,.loc 9003 0),(10,.full 1 []),(12,(match i with | 0=>.full 1 [] | _=>.own 1 [eI 0] 44)),(27,.mtok 27),(34,.arr 1 11 0 1),(35,eint .i64 1),(36,eint .i64 i)])
    (fun i=>(11,.box 112 [.p (e8 0),.p (e8 0),.p (e8 0)])::(27,.map .iter [(.mp K3 [k000],tt),k000])::(match i with | 0=>tb1 | _=>(44,.tail 1)::tb1)) 0 (by decide) .of fun i hi=>?_
   match i,hi with
   | 0,_=>
    refine AD.run hT hmix ?_
    refine⟨0,rfl,by decide,ngo_in (by decide) (by decide) ?_⟩
    exact⟨⟨by decide,by decide⟩,ngo_in (by decide) (by decide) ⟨1,by decide,by decide,.of⟩⟩
   | 1,_=>
    refine AD.run hT hmix ?_
    exact⟨⟨by decide,by decide⟩,.of⟩
def sM(t:Int):Mdl:=⟨sSc,[[⟨2,[t]⟩]],0⟩
theorem sM_n(t:Int):(sM t).n=3:=rfl
theorem ok2{t:Int}(h:0≤t∧t<9):Rl.Ok 3 ⟨2,[t]⟩:=⟨by show(1:Int)≤2∧(2:Int)≤3;decide,by simp[Up],fun x hx=>by
 obtain rfl:=List.mem_singleton.1 hx
 exact h⟩
theorem sM_ok{t:Int}(h:0≤t∧t<9):MOk sS (sM t):=by
 refine⟨by show(0:Int)<3;decide,by show(3:Int)≤12;decide,by show ∀ k∈([2,1]:List Int),1≤k;decide,rfl,?_,?_,by show 0<1;decide,by show(0:Int)≤0∧(0:Int)<1;decide⟩
 ·intro f hf
  obtain rfl:=List.mem_singleton.1 hf
  exact⟨by decide,by show ∀ x∈[0,1],_;decide⟩
 ·intro st hst
  obtain rfl:=List.mem_singleton.1 hst
  refine⟨rfl,fun f hf _=>?_⟩
  match f,hf with
  | 0,_=>exact⟨ok2 h,rfl⟩
theorem sm_small(t:Int):small (sM t).scope.atoms:=⟨by show 2≤4;decide,by show ∀ k∈([2,1]:List Int),0≤k∧k≤5;decide⟩
theorem cl_one{S:Int→Prop}(a:Int)(ha:0≤a∧a<2000)(h:∀ x,S x↔x=a):cl S=[a]:=
 (cl_eq (l:=[a]) (by simp[Up]) fun x=>by
  rw[List.mem_singleton,h]
  exact⟨fun e=>⟨by omega,e⟩,fun e=>e.2⟩).symm
theorem nvF(t:Int):nameVal sS (sM t) 0 [] nmF=⟨2,[t]⟩:=by kernel_rfl
theorem nvB(t:Int):nameVal sS (sM t) 0 [] nmB=sortRel sSc 1:=by kernel_rfl
theorem sortB:sortRel sSc 1=⟨1,[2]⟩:=by
 rw[sortRel,cl_one 2 (by decide)]
 intro x
 rw[show firstOf sSc 1=2 from rfl,show atomsOf sSc 1=1 from rfl]
 omega
theorem joinFB(t:Int)(ht:t=2∨t=5):rJoin 3 ⟨2,[t]⟩ ⟨1,[2]⟩=⟨1,[t / 3]⟩:=by
 rw[rJoin,cl_one (t / 3) (by omega)]
 ·rfl
 ·intro x
  have h1:pw 3 (1 - 1)=1:=rfl
  simp only[List.mem_singleton,exists_eq_left,h1]
  omega
theorem snames:∀ x∈sS.sorts,x.name.size≤1048576:=fun x hx=>by
 rcases List.mem_cons.1 hx with rfl | hx
 ·exact(show 1≤1048576 by omega)
 ·obtain rfl:=List.mem_singleton.1 hx
  exact(show 1≤1048576 by omega)
theorem exJ(t:Int)(ht:t=2∨t=5):CX sS (sM t) nJ 0 [] ⟨1,[t / 3]⟩:=by
 have hr:0≤t∧t<9:=by omega
 have hm:=sM_ok hr
 have hn:∀ (nm:ByteArray) (a:Int),sS.found nm=[a]→AFun Tryz.prog 73 [mch sS (sM t),plc 0 [],eS nm] (.p (nameVal sS (sM t) 0 [] nm).av):=fun nm a hf=>
  namedP hm (sm_small t) (by decide) snames nm 0 [] a (by decide) (by show(0:Int)<1;decide) (by simp) (by simp) hf
 have hF:=hn nmF 2 (by kernel_rfl)
 have hB:=hn nmB 1 (by kernel_rfl)
 rw[nvF] at hF
 rw[nvB,sortB] at hB
 have h:=ex_9 (s:=sS) (m:=sM t) (n:=nJ) rfl (joinM (show(0:Int)<3 by decide) (show(3:Int)≤12 by decide) (joinP (show(0:Int)<3 by decide) (show(3:Int)≤12 by decide)) rfl (ex_1 (n:=nF) rfl hF) (ex_1 (n:=nB) rfl hB) (ok2 hr) ⟨by decide,by simp[Up],fun x hx=>by
  obtain rfl:=List.mem_singleton.1 hx
  show(0:Int)≤2∧2<3 ^ 1
  decide⟩ (show(1:Int)≤2+1 - 2 by decide) (show(2:Int)+1 - 2≤3 by decide))
 rw[sM_n,joinFB t ht] at h
 exact h
abbrev swp:List Int:=[1,0,2]
theorem swp_prm:Prm (3:Nat) (lmap swp):=by
 have h:∀ x:Int,0≤x→x<3→x=0∨x=1∨x=2:=by omega
 refine⟨by decide,fun x h0 h1=>?_,fun x y h0 h1 h2 h3 e=>?_,fun y h0 h1=>?_⟩
 ·rcases h x h0 h1 with rfl | rfl | rfl <;> decide
 ·rcases h x h0 h1 with rfl | rfl | rfl <;> rcases h y h2 h3 with rfl | rfl | rfl <;> first | rfl | exact absurd e (by decide)
 ·rcases h y h0 h1 with rfl | rfl | rfl
  ·exact⟨1,by decide,rfl⟩
  ·exact⟨0,by decide,rfl⟩
  ·exact⟨2,by decide,rfl⟩
theorem img_sM:imgM (lmap swp) (sM 2)=sM 5:=by
 have h:imgR (sM 2).n (lmap swp) ⟨2,[2]⟩=⟨2,[5]⟩:=by
  rw[imgR,cl_one 5 (by decide)]
  intro x
  have h1:pm (sM 2).n (lmap swp) (2:Int).toNat 2=5:=by decide
  simp only[List.mem_singleton,exists_eq_left,h1]
 show(⟨sSc,[[imgR (sM 2).n (lmap swp) ⟨2,[2]⟩]],0⟩:Mdl)=_
 rw[h];rfl
theorem head11P:AFun Tryz.prog 5 [] (.p (eB true)):=by
 refine AFun.of hT Tryz.func5 rfl rfl (by simp) (AD.run hT hmix ?_)
 refine .pure [] _ rfl smallP ?_
 refine .pure [eS nmF] _ rfl useF ?_
 refine .pure [eS nmB] _ rfl useB ?_
 refine .pure [sS.ex,.slice 2 [],nJ.ex] _ rfl typeP ?_
 have hE:=exJ 2 (.inl rfl)
 have hE':=exJ 5 (.inr rfl)
 have hM:=modelP (sM_ok (t:=2) (by decide)) (by decide) (by decide) (p:=swp) (N:=3) rfl rfl swp_prm (by decide)
 rw[img_sM] at hM
 refine .pure [sS.ex,(sM 2).av,eI 0,.slice 2 [],nJ.ex] _ rfl (exprP (sm_small 2) hE) ?_
 refine .pure [ints swp,(sM 2).av] _ rfl hM ?_
 refine .pure [sS.ex,(sM 5).av,eI 0,.slice 2 [],nJ.ex] _ rfl (exprP (sm_small 5) hE') ?_
 refine⟨by kernel_rfl,?_⟩
 intro _
 refine .pure [Rl.av ⟨1,[0]⟩,Rl.av ⟨1,[0]⟩] _ rfl (equalR ⟨1,[0]⟩ ⟨1,[0]⟩) ?_
 refine .pure [Rl.av ⟨1,[1]⟩,Rl.av ⟨1,[1]⟩] _ rfl (equalR ⟨1,[1]⟩ ⟨1,[1]⟩) ?_
 exact .pure [sSc.av,eI 2] _ rfl sortOfP ⟨_,_,rfl,rfl,rfl⟩
abbrev Rd(t:TypeId)(Q:List AV→Prop):Prop:=∀ n cs,typedC Tryz.prog n t cs→Q cs
def fldAt(P:Program)(t i:Nat):Option (Nat×Nat×Nat):=match P.underlying t with
 | some (.struct fs)=>(fs.toList[i]?).map fun f=>(f.type,f.offset,P.cellsOf f.type)
 | _=>none
theorem rdFld{n:Nat}{t:TypeId}{cs:List AV}(h:typedC Tryz.prog n t cs)(i:Nat){T o k:Nat}(hf:fldAt Tryz.prog t i=some (T,o,k)):∃ m,m<n∧typedC Tryz.prog m T ((cs.drop o).take k):=by
 unfold fldAt at hf
 split at hf
 ·rename_i fs hu
  cases n with
  | zero=>exact h.elim
  | succ m=>
   simp only[typedC,hu] at h
   cases hi:fs.toList[i]? with
   | none=>rw[hi] at hf;cases hf
   | some f=>
    rw[hi] at hf
    cases hf
    exact⟨m,by omega,h.2 f (List.mem_of_getElem? hi)⟩
 ·cases hf
def isStruct(P:Program)(t:Nat):Bool:=match P.underlying t with | some (.struct _)=>true | _=>false
theorem rdLen{n:Nat}{t:TypeId}{cs:List AV}(h:typedC Tryz.prog n t cs){k:Nat}(hs:(isStruct Tryz.prog t&&Nat.beq (Tryz.prog.cellsOf t) k)=true):cs.length=k:=by
 rw[Bool.and_eq_true] at hs
 have hk:=nbt hs.2
 have h1:=hs.1
 unfold isStruct at h1
 split at h1
 ·rename_i fs hu
  cases n with
  | zero=>exact h.elim
  | succ m=>simp only[typedC,hu] at h;rw[← hk];exact h.1
 ·cases h1
theorem rdK{k:IntKind}{t:TypeId}(hu:Tryz.prog.underlying t=some (.int k)):Rd t fun cs=>∃ m,cs=[.imm (.int k m)]∧k.min≤m∧m≤k.max:=fun n cs h=>by
 cases n with
 | zero=>exact h.elim
 | succ m=>
  simp only[typedC,hu] at h
  obtain⟨m,rfl,hw⟩:=h
  exact⟨m,rfl,by simpa[Lit.wf] using hw⟩
theorem rdI:Rd 3 fun cs=>∃ m,cs=[eI m]:=fun n cs h=>let ⟨m,e,_⟩:=rdK Tryz.underlying3 n cs h;⟨m,e⟩
theorem rdS:Rd 9 fun cs=>∃ s,cs=[eS s]:=fun n cs h=>by
 cases n with
 | zero=>exact h.elim
 | succ m=>
  simp only[typedC,Tryz.underlying9] at h
  obtain⟨s,rfl,_⟩:=h
  exact⟨s,rfl⟩
theorem rdB:Rd 4 fun cs=>∃ b,cs=[eB b]:=fun n cs h=>by
 cases n with
 | zero=>exact h.elim
 | succ m=>
  simp only[typedC,Tryz.underlying4] at h
  exact h
theorem ex_map{α:Type}{g:α→AV}:∀ {es:List AV},(∀ x∈es,∃ k,x=g k)→∃ l:List α,es=l.map g
 | [],_=>⟨[],rfl⟩
 | x::r,h=>by
  obtain⟨k,rfl⟩:=h x (List.mem_cons_self ..)
  obtain⟨l,rfl⟩:=ex_map (g:=g) (es:=r) fun y hy=>h y (List.mem_cons_of_mem _ hy)
  exact⟨k::l,rfl⟩
theorem rdSl{n:Nat}{t e:TypeId}{cs:List AV}(hu:Tryz.prog.underlying t=some (.slice e))(h:typedC Tryz.prog n t cs):∃ m es,m<n∧cs=[.slice (Tryz.prog.cellsOf e) es]∧∀ x∈es,((rowT Tryz.prog e=true→∃ ys,x=.agg ys)∧(rowT Tryz.prog e=false→x.cells=[x]))∧typedC Tryz.prog m e x.cells:=by
 cases n with
 | zero=>exact h.elim
 | succ m=>
  simp only[typedC,hu] at h
  obtain⟨es,rfl,_,h3⟩:=h
  exact⟨m,es,by omega,rfl,fun x hx=>(h3 x hx).2⟩
theorem rdRows{α:Type}{g:α→AV}{t e:TypeId}{k:Nat}(hu:Tryz.prog.underlying t=some (.slice e))(hr:(rowT Tryz.prog e&&Nat.beq (Tryz.prog.cellsOf e) k)=true)(he:Rd e fun cs=>∃ a,AV.agg cs=g a):Rd t fun cs=>∃ l:List α,cs=[.slice k (l.map g)]:=fun n cs h=>by
 rw[Bool.and_eq_true] at hr
 obtain⟨m,es,_,rfl,hx⟩:=rdSl hu h
 obtain⟨l,rfl⟩:=ex_map (g:=g) (es:=es) fun x hxm=>by
  obtain⟨⟨h1,_⟩,h2⟩:=hx x hxm
  obtain⟨ys,rfl⟩:=h1 hr.1
  exact he _ _ h2
 exact⟨l,by rw[nbt hr.2]⟩
theorem rdOnes{α:Type}{g:α→AV}{t e:TypeId}(hu:Tryz.prog.underlying t=some (.slice e))(hr:(!rowT Tryz.prog e&&Nat.beq (Tryz.prog.cellsOf e) 1)=true)(he:Rd e fun cs=>∃ a,cs=[g a]):Rd t fun cs=>∃ l:List α,cs=[.slice 1 (l.map g)]:=fun n cs h=>by
 rw[Bool.and_eq_true] at hr
 obtain⟨m,es,_,rfl,hx⟩:=rdSl hu h
 have hnr:rowT Tryz.prog e=false:=by have:=hr.1;simpa using this
 obtain⟨l,rfl⟩:=ex_map (g:=g) (es:=es) fun x hxm=>by
  obtain⟨⟨_,h1⟩,h2⟩:=hx x hxm
  obtain⟨a,ha⟩:=he _ _ h2
  exact⟨a,(List.cons.inj ((h1 hnr).symm.trans ha)).1⟩
 exact⟨l,by rw[nbt hr.2]⟩
theorem rdInts:Rd 28 fun cs=>∃ l:List Int,cs=[ints l]:=rdOnes (g:=eI) Tryz.underlying28 (by kernel_rfl) rdI
theorem rdNd:∀ n cs,typedC Tryz.prog n 35 cs→∃ k:Nd,cs=k.ecs:=by
 intro n
 induction n using Nat.strongRecOn with
 | ind n ih=>
  intro cs h
  obtain⟨c0,c1,c2,c3,c4,rfl⟩:∃ c0 c1 c2 c3 c4,cs=[c0,c1,c2,c3,c4]:=by
   have:=rdLen h (k:=5) (by kernel_rfl)
   match cs,this with
   | [c0,c1,c2,c3,c4],_=>exact⟨_,_,_,_,_,rfl⟩
  obtain⟨_,_,h0⟩:=rdFld h 0 (T:=3) (o:=0) (k:=1) (by kernel_rfl)
  obtain⟨_,_,h1⟩:=rdFld h 1 (T:=9) (o:=1) (k:=1) (by kernel_rfl)
  obtain⟨_,_,h2⟩:=rdFld h 2 (T:=3) (o:=2) (k:=1) (by kernel_rfl)
  obtain⟨m,hm,h3⟩:=rdFld h 3 (T:=33) (o:=3) (k:=1) (by kernel_rfl)
  obtain⟨_,_,h4⟩:=rdFld h 4 (T:=3) (o:=4) (k:=1) (by kernel_rfl)
  obtain⟨x0,e0⟩:=rdI _ _ h0
  obtain⟨x1,e1⟩:=rdS _ _ h1
  obtain⟨x2,e2⟩:=rdI _ _ h2
  obtain⟨x4,e4⟩:=rdI _ _ h4
  obtain⟨m2,es,hm2,e3,hx⟩:=rdSl Tryz.underlying33 h3
  have hc:Tryz.prog.cellsOf 35=5:=by kernel_rfl
  rw[hc] at e3
  obtain⟨l,rfl⟩:=ex_map (g:=Nd.av) (es:=es) fun x hxm=>by
   obtain⟨⟨q1,_⟩,q2⟩:=hx x hxm
   obtain⟨ys,rfl⟩:=q1 (by kernel_rfl)
   obtain⟨k,hk⟩:=ih m2 (by omega) _ q2
   refine⟨k,?_⟩
   rw[Nd.av_ex]
   exact congrArg AV.agg hk
  cases e0;cases e1;cases e2;cases e3;cases e4
  exact⟨.mk x0 x1 x2 l x4,rfl⟩
theorem rdSrt:Rd 78 fun cs=>∃ s:Srt,.agg cs=s.av:=fun n cs h=>by
 obtain⟨c0,c1,rfl⟩:∃ c0 c1,cs=[c0,c1]:=by
  have:=rdLen h (k:=2) (by kernel_rfl)
  match cs,this with
  | [c0,c1],_=>exact⟨_,_,rfl⟩
 obtain⟨_,_,h0⟩:=rdFld h 0 (T:=9) (o:=0) (k:=1) (by kernel_rfl)
 obtain⟨_,_,h1⟩:=rdFld h 1 (T:=4) (o:=1) (k:=1) (by kernel_rfl)
 obtain⟨x0,e0⟩:=rdS _ _ h0
 obtain⟨x1,e1⟩:=rdB _ _ h1
 cases e0;cases e1
 exact⟨⟨x0,x1⟩,rfl⟩
theorem rdFl:Rd 119 fun cs=>∃ s:Fld,.agg cs=s.av:=fun n cs h=>by
 obtain⟨c0,c1,c2,rfl⟩:∃ c0 c1 c2,cs=[c0,c1,c2]:=by
  have:=rdLen h (k:=3) (by kernel_rfl)
  match cs,this with
  | [c0,c1,c2],_=>exact⟨_,_,_,rfl⟩
 obtain⟨_,_,h0⟩:=rdFld h 0 (T:=9) (o:=0) (k:=1) (by kernel_rfl)
 obtain⟨_,_,h1⟩:=rdFld h 1 (T:=28) (o:=1) (k:=1) (by kernel_rfl)
 obtain⟨_,_,h2⟩:=rdFld h 2 (T:=4) (o:=2) (k:=1) (by kernel_rfl)
 obtain⟨x0,e0⟩:=rdS _ _ h0
 obtain⟨x1,e1⟩:=rdInts _ _ h1
 obtain⟨x2,e2⟩:=rdB _ _ h2
 cases e0;cases e1;cases e2
 exact⟨⟨x0,x1,x2⟩,rfl⟩
theorem rdPar:Rd 169 fun cs=>∃ s:Param,.agg cs=s.av:=fun n cs h=>by
 obtain⟨c0,c1,rfl⟩:∃ c0 c1,cs=[c0,c1]:=by
  have:=rdLen h (k:=2) (by kernel_rfl)
  match cs,this with
  | [c0,c1],_=>exact⟨_,_,rfl⟩
 obtain⟨_,_,h0⟩:=rdFld h 0 (T:=9) (o:=0) (k:=1) (by kernel_rfl)
 obtain⟨_,_,h1⟩:=rdFld h 1 (T:=3) (o:=1) (k:=1) (by kernel_rfl)
 obtain⟨x0,e0⟩:=rdS _ _ h0
 obtain⟨x1,e1⟩:=rdI _ _ h1
 cases e0;cases e1
 exact⟨⟨x0,x1⟩,rfl⟩
theorem rdPrd:Rd 160 fun cs=>∃ p:Prd,.agg cs=p.ex:=fun n cs h=>by
 obtain⟨c0,c1,c2,c3,c4,c5,c6,rfl⟩:∃ c0 c1 c2 c3 c4 c5 c6,cs=[c0,c1,c2,c3,c4,c5,c6]:=by
  have:=rdLen h (k:=7) (by kernel_rfl)
  match cs,this with
  | [c0,c1,c2,c3,c4,c5,c6],_=>exact⟨_,_,_,_,_,_,_,rfl⟩
 obtain⟨_,_,h0⟩:=rdFld h 0 (T:=9) (o:=0) (k:=1) (by kernel_rfl)
 obtain⟨_,_,h1⟩:=rdFld h 1 (T:=98) (o:=1) (k:=1) (by kernel_rfl)
 obtain⟨_,_,h2⟩:=rdFld h 2 (T:=35) (o:=2) (k:=5) (by kernel_rfl)
 obtain⟨x0,e0⟩:=rdS _ _ h0
 obtain⟨x1,e1⟩:=rdRows (g:=Param.av) Tryz.underlying98 (k:=2) (by kernel_rfl) rdPar _ _ h1
 obtain⟨x2,e2⟩:=rdNd _ _ h2
 cases e0;cases e1
 exact⟨⟨x0,x1,x2⟩,congrArg (fun l=>AV.agg (eS x0::.slice 2 (x1.map Param.av)::l)) e2⟩
theorem rdFct:Rd 176 fun cs=>∃ p:Fct,.agg cs=p.ex:=fun n cs h=>by
 obtain⟨c0,c2,c3,c4,c5,c6,rfl⟩:∃ c0 c2 c3 c4 c5 c6,cs=[c0,c2,c3,c4,c5,c6]:=by
  have:=rdLen h (k:=6) (by kernel_rfl)
  match cs,this with
  | [c0,c2,c3,c4,c5,c6],_=>exact⟨_,_,_,_,_,_,rfl⟩
 obtain⟨_,_,h0⟩:=rdFld h 0 (T:=9) (o:=0) (k:=1) (by kernel_rfl)
 obtain⟨_,_,h2⟩:=rdFld h 1 (T:=35) (o:=1) (k:=5) (by kernel_rfl)
 obtain⟨x0,e0⟩:=rdS _ _ h0
 obtain⟨x2,e2⟩:=rdNd _ _ h2
 cases e0
 exact⟨⟨x0,x2⟩,congrArg (fun l=>AV.agg (eS x0::l)) e2⟩
theorem rdSpc:Rd 27 fun cs=>∃ s:Spc,cs=s.cx:=fun n cs h=>by
 obtain⟨c0,c1,c2,c3,rfl⟩:∃ c0 c1 c2 c3,cs=[c0,c1,c2,c3]:=by
  have:=rdLen h (k:=4) (by kernel_rfl)
  match cs,this with
  | [c0,c1,c2,c3],_=>exact⟨_,_,_,_,rfl⟩
 obtain⟨_,_,h0⟩:=rdFld h 0 (T:=22) (o:=0) (k:=1) (by kernel_rfl)
 obtain⟨_,_,h1⟩:=rdFld h 1 (T:=23) (o:=1) (k:=1) (by kernel_rfl)
 obtain⟨_,_,h2⟩:=rdFld h 2 (T:=24) (o:=2) (k:=1) (by kernel_rfl)
 obtain⟨_,_,h3⟩:=rdFld h 3 (T:=25) (o:=3) (k:=1) (by kernel_rfl)
 obtain⟨x0,e0⟩:=rdRows (g:=Srt.av) Tryz.underlying22 (k:=2) (by kernel_rfl) rdSrt _ _ h0
 obtain⟨x1,e1⟩:=rdRows (g:=Fld.av) Tryz.underlying23 (k:=3) (by kernel_rfl) rdFl _ _ h1
 obtain⟨x2,e2⟩:=rdRows (g:=Prd.ex) Tryz.underlying24 (k:=7) (by kernel_rfl) rdPrd _ _ h2
 obtain⟨x3,e3⟩:=rdRows (g:=Fct.ex) Tryz.underlying25 (k:=6) (by kernel_rfl) rdFct _ _ h3
 cases e0;cases e1;cases e2;cases e3
 exact⟨⟨x0,x1,x2,x3⟩,rfl⟩
theorem rdSc:Rd 30 fun cs=>∃ s:Scope,cs=s.cs:=fun n cs h=>by
 obtain⟨c0,c1,rfl⟩:∃ c0 c1,cs=[c0,c1]:=by
  have:=rdLen h (k:=2) (by kernel_rfl)
  match cs,this with
  | [c0,c1],_=>exact⟨_,_,rfl⟩
 obtain⟨_,_,h0⟩:=rdFld h 0 (T:=28) (o:=0) (k:=1) (by kernel_rfl)
 obtain⟨_,_,h1⟩:=rdFld h 1 (T:=3) (o:=1) (k:=1) (by kernel_rfl)
 obtain⟨x0,e0⟩:=rdInts _ _ h0
 obtain⟨x1,e1⟩:=rdI _ _ h1
 cases e0;cases e1
 exact⟨⟨x0,x1⟩,rfl⟩
theorem rdRaw:Rd 32 fun cs=>∃ r,cs=[rawav r]:=fun n cs h=>
 rdOnes (g:=fun l:List Int=>AV.slice 1 (l.map eU8)) Tryz.underlying32 (by kernel_rfl) (rdOnes (g:=eU8) Tryz.underlying184 (by kernel_rfl) fun n cs h=>let ⟨m,e,_⟩:=rdK Tryz.underlying5 n cs h;⟨m,e⟩) n cs h
theorem rdPick:Rd 36 fun cs=>∃ r,cs=[pick2 r]:=fun n cs h=>
 rdOnes (g:=fun l:List Bool=>AV.slice 1 (l.map eB)) Tryz.underlying36 (by kernel_rfl) (rdOnes (g:=eB) Tryz.underlying129 (by kernel_rfl) rdB) n cs h
theorem rdCse:Rd 38 fun cs=>∃ x:Cse,cs=x.cs∧0≤x.loop∧x.loop<256:=fun n cs h=>by
  have hl:=rdLen h (k:=14) (by kernel_rfl)
  obtain⟨c0,c1,c2,c3,c4,c5,c6,c7,c8,c9,c10,c11,c12,c13,rfl⟩:∃ c0 c1 c2 c3 c4 c5 c6 c7 c8 c9 c10 c11 c12 c13,cs=[c0,c1,c2,c3,c4,c5,c6,c7,c8,c9,c10,c11,c12,c13]:=by
    match cs,hl with
    | [c0,c1,c2,c3,c4,c5,c6,c7,c8,c9,c10,c11,c12,c13],_=>exact⟨_,_,_,_,_,_,_,_,_,_,_,_,_,_,rfl⟩
  obtain⟨_,_,h0⟩:=rdFld h 0 (T:=27) (o:=0) (k:=4) (by kernel_rfl)
  obtain⟨_,_,h1⟩:=rdFld h 1 (T:=30) (o:=4) (k:=2) (by kernel_rfl)
  obtain⟨_,_,h2⟩:=rdFld h 2 (T:=32) (o:=6) (k:=1) (by kernel_rfl)
  obtain⟨_,_,h3⟩:=rdFld h 3 (T:=35) (o:=7) (k:=5) (by kernel_rfl)
  obtain⟨_,_,h4⟩:=rdFld h 4 (T:=36) (o:=12) (k:=1) (by kernel_rfl)
  obtain⟨_,_,h5⟩:=rdFld h 5 (T:=5) (o:=13) (k:=1) (by kernel_rfl)
  obtain⟨s,e0⟩:=rdSpc _ _ h0
  obtain⟨sc,e1⟩:=rdSc _ _ h1
  obtain⟨r,e2⟩:=rdRaw _ _ h2
  obtain⟨k,e3⟩:=rdNd _ _ h3
  obtain⟨p,e4⟩:=rdPick _ _ h4
  obtain⟨u,e5,u0,u1⟩:=rdK Tryz.underlying5 _ _ h5
  cases e0;cases e1;cases e2;cases e3;cases e4;cases e5
  exact ⟨⟨s, sc, r, k, p, u⟩, rfl, u0, by have e : IntKind.u8.max = 255 := by decide
                                          rw[e] at u1;show u<256;omega⟩
mutual
theorem sz_bulk:∀ n:Nd,n.sz+1≤avBs n.cs
 | .mk op nm m kids a=>by
  have h:=szs_bulk kids
  simp only[Nd.sz,Nd.cs,avBs,avB]
  omega
theorem szs_bulk:∀ l:List Nd,Nd.szs l≤avBs (Nd.avs l)
 | []=>by rw[Nd.szs];omega
 | x::r=>by
  have h1:=sz_bulk x
  have h2:=szs_bulk r
  simp only[Nd.szs,Nd.avs,avBs,avB]
  omega
end
theorem few_of{s:Spc}(h:avBs s.cx≤1048576):s.Few:=by
 have e:s.cx=[.slice 2 (s.sorts.map Srt.av),.slice 3 (s.fields.map Fld.av),.slice 7 (s.preds.map Prd.ex),.slice 6 (s.facts.map Fct.ex)]:=rfl
 rw[e] at h
 simp only[avBs,avB] at h
 refine⟨fun x hx=>?_,fun p hp=>?_,fun p hp=>?_⟩
 ·have h1:=avBs_mem (List.mem_map.2 ⟨x,hx,rfl⟩:Srt.av x∈s.sorts.map Srt.av)
  simp only[Srt.av,avB,avBs] at h1
  omega
 ·have h1:=avBs_mem (List.mem_map.2 ⟨p,hp,rfl⟩:Prd.ex p∈s.preds.map Prd.ex)
  have h2:=sz_bulk p.body
  rw[← Prd.av_ex] at h1
  simp only[Prd.av,avB,avBs] at h1
  rw[← Prd.av_ex] at h
  omega
 ·have h1:=avBs_mem (List.mem_map.2 ⟨p,hp,rfl⟩:Fct.ex p∈s.facts.map Fct.ex)
  have h2:=sz_bulk p.body
  rw[← Fct.av_ex] at h1
  simp only[Fct.av,avB,avBs] at h1
  rw[← Fct.av_ex] at h
  omega
end Go.Ab
namespace Go.Proofs.YtmllhjbnbhapoaaGreat
open Go.RowKit Go.Ab
def cmpL:List Int→List Int→Int
 | [],[]=>0
 | [],_::_=>-1
 | _::_,[]=>1
 | x::xs,y::ys=>if x<y then -1 else if y<x then 1 else cmpL xs ys
theorem cmpL_self:∀ l:List Int,cmpL l l=0
 | []=>rfl
 | x::r=>by rw[cmpL,if_neg (by omega),if_neg (by omega)];exact cmpL_self r
theorem cmpL_rng:∀ a b:List Int,cmpL a b=-1∨cmpL a b=0∨cmpL a b=1
 | [],[]=>.inr (.inl rfl)
 | [],_::_=>.inl rfl
 | _::_,[]=>.inr (.inr rfl)
 | x::xs,y::ys=>by
  rw[cmpL]
  split
  ·exact .inl rfl
  ·split
   ·exact .inr (.inr rfl)
   ·exact cmpL_rng xs ys
theorem cmpL_swap:∀ a b:List Int,cmpL b a=- cmpL a b
 | [],[]=>rfl
 | [],_::_=>rfl
 | _::_,[]=>rfl
 | x::xs,y::ys=>by
  rw[cmpL,cmpL]
  have ih:=cmpL_swap xs ys
  by_cases h1:x<y
  ·rw[if_neg (show ¬ y<x by omega),if_pos h1,if_pos h1];rfl
  ·by_cases h2:y<x
   ·rw[if_pos h2,if_neg h1,if_pos h2]
   ·rw[if_neg h2,if_neg h1,if_neg h1,if_neg h2,ih]
theorem cmpL_eq:∀ {a b:List Int},cmpL a b=0→a=b
 | [],[],_=>rfl
 | [],_::_,h=>by cases h
 | _::_,[],h=>by cases h
 | x::xs,y::ys,h=>by
  rw[cmpL] at h
  split at h
  ·cases h
  ·split at h
   ·cases h
   ·rw[show x=y by omega,cmpL_eq h]
theorem cmpL_trans:∀ {a b c:List Int},cmpL a b=-1→cmpL b c=-1→cmpL a c=-1
 | [],[],_,h,_=>by cases h
 | [],_::_,[],_,h=>by cases h
 | [],_::_,_::_,_,_=>rfl
 | _::_,[],_,h,_=>by cases h
 | _::_,_::_,[],_,h=>by cases h
 | x::xs,y::ys,z::zs,h,k=>by
  rw[cmpL] at h k ⊢
  by_cases h1:x<y
  ·by_cases k1:y<z
   ·rw[if_pos (show x<z by omega)]
   ·rw[if_neg k1] at k
    by_cases k2:z<y
    ·rw[if_pos k2] at k;cases k
    ·rw[if_pos (show x<z by omega)]
  ·rw[if_neg h1] at h
   by_cases h2:y<x
   ·rw[if_pos h2] at h;cases h
   ·rw[if_neg h2] at h
    by_cases k1:y<z
    ·rw[if_pos (show x<z by omega)]
    ·rw[if_neg k1] at k
     by_cases k2:z<y
     ·rw[if_pos k2] at k;cases k
     ·rw[if_neg k2] at k
      rw[if_neg (show ¬ x<z by omega),if_neg (show ¬ z<x by omega)]
      exact cmpL_trans h k
theorem cmpL_drop{xs ys:List Int}{j:Nat}{x y:Int}(hx:xs[j]?=some x)(hy:ys[j]?=some y):cmpL (xs.drop j) (ys.drop j)=if x<y then -1 else if y<x then 1 else cmpL (xs.drop (j+1)) (ys.drop (j+1)):=by
 obtain⟨h1,e1⟩:=List.getElem?_eq_some_iff.1 hx
 obtain⟨h2,e2⟩:=List.getElem?_eq_some_iff.1 hy
 rw[List.drop_eq_getElem_cons h1,List.drop_eq_getElem_cons h2,e1,e2,cmpL]
def RowL(w:World)(p:Option Addr)(l:List Int):Prop:=∀ (j:Nat) x,l[j]?=some x→∃ b o,p=some ⟨b,o,none⟩∧w.cell? ⟨b,o+j,none⟩=some (.int .i64 x)
set_option maxRecDepth 100000 in
set_option maxHeartbeats 2000000 in
theorem compare_any(W:World)(p1 p2:Option Addr)(c1 c2:Nat)(xs ys:List Int)(hx:RowL W p1 xs)(hy:RowL W p2 ys)(hl1:xs.length≤1000000)(hl2:ys.length≤1000000):
 Calls Tryz.prog 44 #[.slice p1 xs.length c1,.slice p2 ys.length c2] W fun e w'=>e=.returned (.int .i64 (cmpL xs ys))∧w'=W:=by
 have HX:=Lib.hid hx;have HY:=Lib.hid hy;clear hx hy
 obtain⟨n1,hn1⟩:∃ z,xs.length=z:=⟨_,rfl⟩
 obtain⟨n2,hn2⟩:∃ z,ys.length=z:=⟨_,rfl⟩
 rw[hn1] at hl1
 rw[hn2] at hl2
 obtain⟨r,hr⟩:∃ z,cmpL xs ys=z:=⟨_,rfl⟩
 rw[hn1,hn2,hr]
 have HN1:=Lib.hid hn1;have HN2:=Lib.hid hn2;have HR:=Lib.hid hr;clear hn1 hn2 hr
 go_enter Tryz.func44,Tryz.ntmps44
 go_wp2_with fail
 go_loopg [11] n1 (fun G s8 wr=>∃ j:Nat,s8=.int .i64 j∧j≤n1∧j≤n2∧G=n1 - j∧wr=W∧cmpL (xs.drop j) (ys.drop j)=r)
 case atStart=>exact⟨0,rfl,by omega,by omega,rfl,rfl,HR.out⟩
 case round=>
  obtain⟨j,rfl,hj,hj2,hG,hw,hne⟩:=hrel
  replace hw:=hw.symm;subst hw
  have HG:=Lib.hid hG;have HNE:=Lib.hid hne;clear hG hne
  by_cases hlt:j<n1
  case pos=>
   obtain⟨x,hx⟩:∃ x,xs[j]?=some x:=⟨_,List.getElem?_eq_getElem (by rw[HN1.out];exact hlt)⟩
   obtain⟨b1,o1,rfl,cx⟩:=HX.out j x hx
   have hjl:(j:Int)<(n1:Int):=by omega
   have HX2:=Lib.hid hx;clear hx
   by_cases hlt2:j<n2
   ·obtain⟨y,hy⟩:∃ y,ys[j]?=some y:=⟨_,List.getElem?_eq_getElem (by rw[HN2.out];exact hlt2)⟩
    obtain⟨b2,o2,rfl,cy⟩:=HY.out j y hy
    have hjl2:(j:Int)<(n2:Int):=by omega
    have hjg2:¬ (n2:Int)≤(j:Int):=by omega
    have HY2:=Lib.hid hy;clear hy
    obtain⟨cc,hcc⟩:∃ z,Lib.compareInt x y=z:=⟨_,rfl⟩
    have hD:=cmpL_drop HX2.out HY2.out
    rw[HNE.out] at hD
    by_cases hxy:cc=0
    ·have hx1:(cc==0)=true:=by simpa using hxy
     have hx2:(cc != 0)=false:=by simpa using hxy
     have HD:=Lib.hid hD;clear hD
     have HCC:=Lib.hid hcc
     have HC0:=Lib.hid hxy;clear hxy
     go_wp2_with (first | (go_at_call 96;refine(Tryz.cmp_Compare_int x y _).mono ?_;rintro e w' ⟨rfl,hw⟩;replace hw:=hw.symm;subst hw;rw[hcc]))
     go_roundg (n1 - (j+1))
     case measure=>(have:=HG.out;omega)
     case rel=>
      refine⟨j+1,by go_num,by omega,by omega,rfl,rfl,?_⟩
      have h0:=HCC.out
      rw[HC0.out] at h0
      unfold Lib.compareInt at h0
      rw[HD.out]
      split at h0
      ·cases h0
      ·split at h0
       ·cases h0
       ·rename_i q1 q2
        rw[if_neg q1,if_neg q2]
    ·have hx1:(cc==0)=false:=by simpa using hxy
     have hx2:(cc != 0)=true:=by simpa using hxy
     have HD:=Lib.hid hD;clear hD
     have HCC:=Lib.hid hcc
     have HC0:=Lib.hid hxy;clear hxy
     go_wp2_with (first | (go_at_call 96;refine(Tryz.cmp_Compare_int x y _).mono ?_;rintro e w' ⟨rfl,hw⟩;replace hw:=hw.symm;subst hw;rw[hcc]))
     go_ret
     refine⟨?_,rfl⟩
     have h0:=HCC.out
     have h1:=HC0.out
     unfold Lib.compareInt at h0
     rw[HD.out]
     split at h0
     ·rename_i q1
      rw[if_pos q1,← h0];rfl
     ·split at h0
      ·rename_i q1 q2
       rw[if_neg q1,if_pos q2,← h0];rfl
      ·exact absurd h0.symm h1
   ·have hjg2:(n2:Int)≤(j:Int):=by omega
    go_wp2_with fail
    go_ret
    refine⟨?_,rfl⟩
    have h0:=HNE.out
    obtain⟨h1,e1⟩:=List.getElem?_eq_some_iff.1 HX2.out
    rw[List.drop_eq_getElem_cons h1,List.drop_eq_nil_of_le (show ys.length≤j by rw[HN2.out];omega)] at h0
    rw[← h0];rfl
  case neg=>
   obtain rfl:j=n1:=by omega
   have h0:=HNE.out
   rw[List.drop_eq_nil_of_le (show xs.length≤j by rw[HN1.out];omega)] at h0
   by_cases hlt2:j<n2
   ·have hjl2:(j:Int)<(n2:Int):=by omega
    rw[List.drop_eq_getElem_cons (show j<ys.length by rw[HN2.out];exact hlt2)] at h0
    have H0:=Lib.hid h0;clear h0
    go_wp2_with fail
    go_ret
    exact⟨by rw[← H0.out];rfl,rfl⟩
   ·have hjl2:¬ (j:Int)<(n2:Int):=by omega
    rw[List.drop_eq_nil_of_le (show ys.length≤j by rw[HN2.out];omega)] at h0
    have H0:=Lib.hid h0;clear h0
    go_wp2_with fail
    go_ret
    exact⟨by rw[← H0.out];rfl,rfl⟩
end Go.Proofs.YtmllhjbnbhapoaaGreat
namespace Go.Proofs
open Go.Shelf
def Tryz.sortRows_ren:Go.Shelf.Ren:=⟨fun | 6=>43 | 15=>77 | 14=>95 | 28=>135 | 29=>136 | 20=>154 | 21=>155 | 22=>156 | 23=>157 | 24=>158 | 25=>159 | 26=>160 | 27=>161 | 46=>208 | 47=>193 | 48=>194 | 49=>209 | 50=>210 | 57=>237 | n=>n,fun | 22=>59 | 24=>28 | 25=>115 | 3=>3 | 39=>145 | 0=>0 | 53=>39 | 55=>214 | 4=>4 | 46=>205 | 45=>204 | 50=>210 | 5=>5 | 9=>9 | 66=>265 | 70=>269 | 76=>306 | 77=>307 | n=>n,fun | n=>n⟩
theorem Tryz.sortRows:Go.Proofs.SlLaysF.n6 Tryz.prog Tryz.sortRows_ren:={
 mixed:=by kernel_rfl
 f6:=⟨Tryz.f43.name,by decide,Tryz.func43.trans (congrArg some (by kernel_rfl))⟩
 f14:=⟨Tryz.f95.name,by decide,Tryz.func95.trans (congrArg some (by kernel_rfl))⟩
 f15:=Tryz.func77.trans (congrArg some (by kernel_rfl))
 f20:=⟨Tryz.f154.name,by decide,Tryz.func154.trans (congrArg some (by kernel_rfl))⟩
 f21:=⟨Tryz.f155.name,by decide,Tryz.func155.trans (congrArg some (by kernel_rfl))⟩
 f22:=⟨Tryz.f156.name,by decide,Tryz.func156.trans (congrArg some (by kernel_rfl))⟩
 f23:=⟨Tryz.f157.name,by decide,Tryz.func157.trans (congrArg some (by kernel_rfl))⟩
 f24:=⟨Tryz.f158.name,by decide,Tryz.func158.trans (congrArg some (by kernel_rfl))⟩
 f25:=⟨Tryz.f159.name,by decide,Tryz.func159.trans (congrArg some (by kernel_rfl))⟩
 f26:=⟨Tryz.f160.name,by decide,Tryz.func160.trans (congrArg some (by kernel_rfl))⟩
 f27:=⟨Tryz.f161.name,by decide,Tryz.func161.trans (congrArg some (by kernel_rfl))⟩
 f28:=Tryz.func135.trans (congrArg some (by kernel_rfl))
 f29:=Tryz.func136.trans (congrArg some (by kernel_rfl))
 f46:=⟨Tryz.f208.name,by decide,Tryz.func208.trans (congrArg some (by kernel_rfl))⟩
 f47:=Tryz.func193.trans (congrArg some (by kernel_rfl))
 f48:=Tryz.func194.trans (congrArg some (by kernel_rfl))
 f49:=⟨Tryz.f209.name,by decide,Tryz.func209.trans (congrArg some (by kernel_rfl))⟩
 f50:=⟨Tryz.f210.name,by decide,Tryz.func210.trans (congrArg some (by kernel_rfl))⟩
 f57:=⟨Tryz.f237.name,by decide,Tryz.func237.trans (congrArg some (by kernel_rfl))⟩
 t0:=Tryz.underlying0
 a0:=Tryz.isAgg0
 z0:=Tryz.sizeOf0
 v0:=Tryz.zeroValue0
 t3:=Tryz.underlying3
 a3:=Tryz.isAgg3
 z3:=Tryz.sizeOf3
 v3:=Tryz.zeroValue3
 t4:=Tryz.underlying4
 a4:=Tryz.isAgg4
 z4:=Tryz.sizeOf4
 v4:=Tryz.zeroValue4
 t5:=Tryz.underlying5
 a5:=Tryz.isAgg5
 z5:=Tryz.sizeOf5
 v5:=Tryz.zeroValue5
 t9:=Tryz.underlying9
 a9:=Tryz.isAgg9
 z9:=Tryz.sizeOf9
 v9:=Tryz.zeroValue9
 t22:=Tryz.underlying59
 a22:=Tryz.isAgg59
 z22:=Tryz.sizeOf59
 v22:=Tryz.zeroValue59
 a24:=Tryz.isAgg28
 z24:=Tryz.sizeOf28
 t25:=Tryz.underlying115
 a25:=Tryz.isAgg115
 z25:=Tryz.sizeOf115
 v25:=Tryz.zeroValue115
 t39:=Tryz.underlying145
 a39:=Tryz.isAgg145
 z39:=Tryz.sizeOf145
 v39:=Tryz.zeroValue145
 t45:=Tryz.underlying204
 a45:=Tryz.isAgg204
 z45:=Tryz.sizeOf204
 v45:=Tryz.zeroValue204
 t46:=Tryz.underlying205
 a46:=Tryz.isAgg205
 z46:=Tryz.sizeOf205
 v46:=Tryz.zeroValue205
 t50:=Tryz.underlying210
 a50:=Tryz.isAgg210
 z50:=Tryz.sizeOf210
 v50:=Tryz.zeroValue210
 t53:=Tryz.underlying39
 a53:=Tryz.isAgg39
 z53:=Tryz.sizeOf39
 v53:=Tryz.zeroValue39
 t55:=Tryz.underlying214
 a55:=Tryz.isAgg214
 z55:=Tryz.sizeOf214
 v55:=Tryz.zeroValue214
 t66:=Tryz.underlying265
 a66:=Tryz.isAgg265
 z66:=Tryz.sizeOf265
 v66:=Tryz.zeroValue265
 t70:=Tryz.underlying269
 a70:=Tryz.isAgg269
 z70:=Tryz.sizeOf269
 v70:=Tryz.zeroValue269
 t76:=Tryz.underlying306
 a76:=Tryz.isAgg306
 z76:=Tryz.sizeOf306
 v76:=Tryz.zeroValue306
 t77:=Tryz.underlying307
 a77:=Tryz.isAgg307
 z77:=Tryz.sizeOf307
 v77:=Tryz.zeroValue307 }
end Go.Proofs
namespace Go.Ab
open Go Go.Proofs Go.RowKit
set_option maxRecDepth 10000
theorem EFun.cells1{P:Program}{f:FuncId}(k0:Nat)(hc:callable P f){t:TypeId}{xs ys rest:List AV}(hl:ys.length=xs.length)
 (hcall:∀ (fz:Fz) (b cap:Nat) (w:World) (cur vr:List Value),FzOk fz w→(∀ o,fz b o=none)→w.heap[b]?=some (.cells cur.toArray t (0,0))→Ones cur→xs.length≤cap→cap≤cur.length→(∀ (i:Nat) v x,cur[i]?=some v→xs[i]?=some x→Rep fz v x)→RepsL fz vr rest→xs≠[] →
  Calls P f (Value.slice (some ⟨b,0,none⟩) xs.length cap::vr).toArray w fun e w'=>e=.returned (.tuple #[])∧∃ new:List Value,new.length=xs.length∧Ones new∧(∀ (i:Nat) v x,new[i]?=some v→ys[i]?=some x→Rep fz v x)∧Kept (fun _=>False) (w.setRow b (new++cur.drop xs.length).toArray) w')
 (h0:xs=[]→∀ (fz:Fz) (p:Option Addr) (cap:Nat) (w:World) (vr:List Value),RepsL fz vr rest→Calls P f (Value.slice p 0 cap::vr).toArray w fun e w'=>e=.returned (.tuple #[])∧w'=w):
 EFun P f (.arr 1 k0 0 xs.length::rest.map .p) [(k0,.box t (xs.map .p))] (.tup []) [(k0,.box t (ys.map .p))]:=by
 refine⟨hc,fun g w vs hi hlen hr=>?_⟩
 obtain⟨v,vr,rfl⟩:∃ v vr,vs=v::vr:=by
  match vs,hlen with
  | v::vr,_=>exact⟨v,vr,rfl⟩
 have hv:=hr 0 v _ rfl rfl
 have hrr:RepsL g.fz vr rest:=by
  refine⟨by simpa using hlen,fun i v x hv hx=>?_⟩
  have:=hr (i+1) v (.p x) hv (by simp[hx])
  cases this with
  | p _ _ h=>exact h
 have hk:hp [(k0,AObj.box t (xs.map .p))] k0=.box t (xs.map .p):=by rw[hp_cons,if_pos rfl]
 have hob:=hi.obj k0
 rw[hk] at hob
 by_cases he:xs=[]
 ·subst he
  obtain rfl:ys=[]:=List.length_eq_zero_iff.1 hl
  cases hv with
  | arr p sz k off n cap hcap hn hne ho=>
   refine(h0 rfl g.fz p cap w vr hrr).mono ?_
   rintro e w' ⟨rfl,rfl⟩
   exact⟨_,g,rfl,GLe.refl _ _,hi,Fr.start g _ _ 0 [] none,.tup [] [] rfl (by intro i v x h;simp at h)⟩
 ·have hpos:0<xs.length:=List.length_pos_iff.2 he
  cases hv with
  | arr p sz k off n cap hcap hn hne ho=>
   rcases ho with ho | ⟨t',cs',ho,hle,hp2⟩
   ·rw[hk] at ho;cases ho
   ·rw[hk] at ho
    cases ho
    rcases hp2 with ⟨hlt,rfl,hcl⟩ | ⟨hz,rfl⟩
    ·obtain⟨cur,hh,⟨hv1,hv2⟩,ho1,hre,hfz⟩:=hob.2 hlt
     have hv2':xs.length≤cur.length:=by simpa using hv2
     refine(hcall g.fz (g.blk k0) cap w cur vr hi.fz hfz hh ho1 hcap (by omega) (fun i v x hv hx=>?_) hrr he).mono ?_
     ·have:=hre i v (.p x) hv (by rw[List.getElem?_map,hx];rfl)
      cases this with
      | p _ _ h=>exact h
     rintro e w' ⟨rfl,new,hnl,hn1,hnr,hkp⟩
     have hone:Ones (new++cur.drop xs.length):=by
      intro v hv
      rcases List.mem_append.1 hv with hv | hv
      ·exact hn1 v hv
      ·exact ho1 v (List.mem_of_mem_drop hv)
     have hW:=hi.setBox (cs':=ys.map .p) hk hlt (by simp[hl]) (vs:=new++cur.drop xs.length) (by simp;omega) hone fun i v x hv hx=>?_
     ·have hF:=(Fr.start g _ w 0 [] none).setBox (cs':=ys.map .p) hk hlt (by simp[hl]) (new++cur.drop xs.length).toArray
      have hC:=hW.call hkp (FzStep.same _ _) (FzOk.kept hW.fz hkp)
      have hup:upd (hp [(k0,AObj.box t (xs.map .p))]) k0 (.box t (ys.map .p))=hp [(k0,.box t (ys.map .p))]:=by
       funext k
       by_cases h:k=k0
       ·subst h;rw[upd_same,hp_cons,if_pos rfl]
       ·rw[upd_ne h,hp_cons,hp_cons,if_neg h,if_neg h]
      rw[hup] at hW hF hC
      have hle:=GLe.of_box (g:=g) (cs':=ys.map .p) hk (by simp[hl])
      rw[hup] at hle
      exact⟨_,g,rfl,hle,hC.1,hF.call hkp (FzStep.same _ _),.tup [] [] rfl (by intro i v x h;simp at h)⟩
     ·rw[List.getElem?_map] at hx
      cases hy:ys[i]? with
      | none=>rw[hy] at hx;simp at hx
      | some z=>
       rw[hy] at hx
       simp only[Option.map_some,Option.some.injEq] at hx
       subst hx
       have hi2:=(List.getElem?_eq_some_iff.1 hy).1
       rw[List.getElem?_append_left (by omega)] at hv
       exact .p _ _ (hnr i v z hv hy)
    ·omega
theorem heap_putRowG{α:Type}[Inhabited α](enc:α→Value){w:World}{g n:Nat}{os:Array Obj}{cur:List Value}{e:TypeId}(ys:List α){m:Nat}(hl:ys.length=m)(hle:m≤cur.length)(hb:w.heap[g]?=some (.cells cur.toArray e (0,0))):
 Kept (fun _=>False) (w.setRow g (ys.map enc++cur.drop m).toArray) (Sort.grow (Sort.putRow enc (Sort.ahead w n) g 0 ys.toArray) os):=by
 subst hl
 have hg:g<w.heap.size:=(Array.getElem?_eq_some_iff.1 hb).1
 have harr:Sort.putCells enc 0 ys.toArray cur.toArray=(ys.map enc++cur.drop ys.length).toArray:=by
  refine Array.ext_getElem? fun j=>?_
  by_cases hj:j<ys.length
  ·simp[Sort.putCells,hj,show j<cur.length by omega]
   rw[List.getElem?_append_left (by simpa using hj)];simp[hj]
  ·by_cases hj2:j<cur.length
   ·simp[Sort.putCells,hj,hj2,List.getElem?_append_right,show ys.length≤j by omega,show ys.length+(j - ys.length)=j by omega]
   ·simp[Sort.putCells,hj,hj2,List.getElem?_append_right,show ys.length≤j by omega,show ys.length+(j - ys.length)=j by omega]
 refine⟨rfl,rfl,rfl,by simp[Sort.grow,Sort.putRow,Sort.mapBlock,Sort.ahead],fun k hk _=>?_⟩
 have hk':k<w.heap.size:=by simpa using hk
 rw[Sort.heap_grow_old _ _ (by simpa using hk')]
 by_cases e:k=g
 ·subst e
  rw[setRow_heap _ _ _ _ _ _ hb]
  simp[Sort.putRow,Sort.mapBlock,Sort.ahead,Array.getElem?_modify,hb,Sort.onCells,harr]
 ·rw[setRow_other _ _ _ _ e]
  simp[Sort.putRow,Sort.mapBlock,Sort.ahead,Array.getElem?_modify,Ne.symm e]
open Go.Proofs.YtmllhjbnbhapoaaGreat (cmpL cmpL_self cmpL_rng cmpL_swap cmpL_eq cmpL_trans RowL compare_any)
def rowLe(x y:List Int):Bool:=!decide (cmpL y x<0)
theorem lt_iff(x y:List Int):cmpL x y<0↔cmpL x y=-1:=by rcases cmpL_rng x y with h | h | h <;> omega
theorem rowLe_trans(a b c:List Int)(h1:rowLe a b=true)(h2:rowLe b c=true):rowLe a c=true:=by
 unfold rowLe at *
 simp only[Bool.not_eq_true',decide_eq_false_iff_not,lt_iff] at *
 rcases cmpL_rng b a with h | h | h
 ·exact absurd h h1
 ·rw[← cmpL_eq h];exact h2
 ·rcases cmpL_rng c b with k | k | k
  ·exact absurd k h2
  ·rw[cmpL_eq k];exact h1
  ·have e1:=cmpL_swap b a
   have e2:=cmpL_swap c b
   rw[h] at e1
   rw[k] at e2
   have:=cmpL_trans e1 e2
   have e3:=cmpL_swap a c
   omega
theorem rowLe_total(a b:List Int):(rowLe a b||rowLe b a)=true:=by
 unfold rowLe
 have:=cmpL_swap a b
 rcases cmpL_rng a b with h | h | h
 ·rw[h] at this ⊢;rw[this];rfl
 ·rw[h] at this ⊢;rw[this];rfl
 ·rw[h] at this ⊢;rw[this];rfl
theorem rowLe_anti(a b:List Int)(h1:rowLe a b=true)(h2:rowLe b a=true):a=b:=by
 unfold rowLe at *
 simp only[Bool.not_eq_true',decide_eq_false_iff_not,lt_iff] at *
 have:=cmpL_swap a b
 refine cmpL_eq ?_
 rcases cmpL_rng a b with h | h | h
 ·exact absurd h h2
 ·exact h
 ·rw[h] at this;exact absurd this h1
def sortR(l:List (List Int)):List (List Int):=l.mergeSort rowLe
theorem sortR_perm(l:List (List Int)):(sortR l).Perm l:=List.mergeSort_perm _ _
theorem sortR_eq{l l':List (List Int)}(hp:l'.Perm l)(hs:l'.Pairwise fun x y=>rowLe x y=true):l'=sortR l:=
 List.Perm.eq_of_pairwise (le:=fun x y=>rowLe x y=true) (fun a b _ _ h1 h2=>rowLe_anti a b h1 h2) hs (List.pairwise_mergeSort rowLe_trans rowLe_total _) (hp.trans (sortR_perm l).symm)
theorem sortR_congr{l l':List (List Int)}(hp:l.Perm l'):sortR l=sortR l':=sortR_eq ((sortR_perm l).trans hp) (List.pairwise_mergeSort rowLe_trans rowLe_total _)
abbrev VL(fz:Fz):={ x:Value×List Int // Rep fz x.1 (ints x.2)∧x.2.length≤1000 }
theorem mkVL{fz:Fz}:∀ (vs:List Value) (rows:List (List Int)),vs.length=rows.length→(∀ (i:Nat) v r,vs[i]?=some v→rows[i]?=some r→Rep fz v (ints r))→(∀ r∈rows,r.length≤1000)→∃ L:List (VL fz),L.map (fun x=>x.1.1)=vs∧L.map (fun x=>x.1.2)=rows
 | [],[],_,_,_=>⟨[],rfl,rfl⟩
 | v::vs,r::rows,hl,h,hb=>by
  obtain⟨L,h1,h2⟩:=mkVL vs rows (by simpa using hl) (fun i v r hv hr=>h (i+1) v r (by simpa using hv) (by simpa using hr)) (fun r hr=>hb r (List.mem_cons_of_mem _ hr))
  exact⟨⟨(v,r),h 0 v r rfl rfl,hb r (List.mem_cons_self ..)⟩::L,by rw[List.map_cons,h1],by rw[List.map_cons,h2]⟩
theorem rows_slice{v:Value}{fz:Fz}{l:List Int}(h:Rep fz v (ints l)):v.oneCell'=true:=by
 obtain⟨p,cap,rfl,_⟩:=rep_ints_val h
 rfl
theorem sortRowsE(k:Nat)(rows:List (List Int))(hx:rows.length≤1000)(hb:∀ r∈rows,r.length≤1000):EFun Tryz.prog 43 [.arr 1 k 0 (rows.map ints).length,.p cmpF] [(k,.box 28 ((rows.map ints).map .p))] (.tup []) [(k,.box 28 (((sortR rows).map ints).map .p))]:=by
 have hsl:(sortR rows).length=rows.length:=(sortR_perm rows).length_eq
 have hcmpv:∀ {fz:Fz} {v:Value},Rep fz v cmpF→v=.func (.func 44) #[] #[]:=fun {fz v} h=>by
  cases h with
  | fn f vf vc first caps h1 h2 _ _=>
   obtain rfl:vf=[]:=List.length_eq_zero_iff.1 h1
   obtain rfl:vc=[]:=List.length_eq_zero_iff.1 h2
   rfl
 refine EFun.cells1 (rest:=[cmpF]) k ⟨_,Tryz.func43,rfl,rfl⟩ (by simp[hsl]) (fun fz b cap w cur vr hz hfz hh ho1 hc1 hc2 hre hrr hne=>?_) fun he fz p cap w vr hrr=>?_
 ·obtain⟨vc,rfl⟩:∃ vc,vr=[vc]:=by
   match vr,hrr.1 with
   | [vc],_=>exact⟨vc,rfl⟩
  obtain rfl:=hcmpv (hrr.2 0 vc _ rfl rfl)
  have hml:(rows.map ints).length=rows.length:=List.length_map _
  rw[hml] at hc1 ⊢
  have htl:(cur.take rows.length).length=rows.length:=by rw[List.length_take];omega
  obtain⟨L,hL1,hL2⟩:=mkVL (fz:=fz) (cur.take rows.length) rows htl (fun i v r hv hr=>by
   rw[List.getElem?_take] at hv
   split at hv
   ·exact hre i v _ hv (by rw[List.getElem?_map,hr];rfl)
   ·cases hv) hb
  have hLl:L.length=rows.length:=by rw[← hL2,List.length_map]
  have hLne:L≠[]:=fun e=>hne (by rw[e] at hL2;rw[← hL2];rfl)
  haveI:Inhabited (VL fz):=⟨L.head hLne⟩
  have hcell:∀ j (hj:j<L.length),cur[j]?=some L[j].1.1:=fun j hj=>by
   have h1:(cur.take rows.length)[j]?=some L[j].1.1:=by rw[← hL1,List.getElem?_map,List.getElem?_eq_getElem hj];rfl
   rw[List.getElem?_take] at h1
   split at h1
   ·exact h1
   ·cases h1
  have hH:Sort.Holds (fun x:VL fz=>x.1.1) w b 0 L.toArray:=fun j hj=>by
   have hj':j<L.length:=by simpa using hj
   refine⟨?_,by simp[World.frozen?,hh]⟩
   simp only[World.cell?,hh,Nat.zero_add]
   simp only[Option.isSome_none,Bool.false_eq_true,if_false]
   rw[← Array.getElem?_toList]
   simp only[hcell j hj']
   simp[hj']
  have hblk:b<w.heap.size:=(Array.getElem?_eq_some_iff.1 hh).1
  have hO:Sort.SWO (ltOf fun x y:VL fz=>cmpL x.1.2 y.1.2):=by
   refine⟨fun x=>?_,fun x y z h1 h2=>?_,fun x y z h1 h2=>?_⟩
   ·show decide (cmpL x.1.2 x.1.2<0)=false
    rw[cmpL_self];rfl
   ·unfold ltOf at *
    simp only[decide_eq_true_eq,lt_iff] at *
    exact cmpL_trans h1 h2
   ·have a1:rowLe y.1.2 x.1.2=true:=by unfold rowLe;unfold ltOf at h1;rw[h1];rfl
    have a2:rowLe z.1.2 y.1.2=true:=by unfold rowLe;unfold ltOf at h2;rw[h2];rfl
    have:=rowLe_trans _ _ _ a2 a1
    unfold rowLe at this
    unfold ltOf
    simpa using this
  have hcmp:CmpLays1 Tryz.prog 44 #[] (fun x:VL fz=>x.1.1) (fun x y:VL fz=>cmpL x.1.2 y.1.2) b 0 L.toArray.size w:=by
   refine CmpReads.lays fun m os dk hdk x y=>?_
   have hW:∀ b' o v,fz b' o=some v→v.oneCell'=true→(sortWorld (fun x:VL fz=>x.1.1) w b 0 m dk os).cell? ⟨b',o,none⟩=some v:=fun b' o v hv h1=>by
    have hne':b'≠b:=fun e=>by subst e;rw[hfz] at hv;cases hv
    have h2:=pk_cell (hz b' o v hv) h1
    have hlt:b'<w.heap.size:=pk_lt (hz b' o v hv)
    rw[World.cell?_of_block (w:=w) ?_]
    ·exact h2
    ·show(Sort.grow (Sort.putRow _ (Sort.ahead w m) b 0 dk) os).heap[b']?=w.heap[b']?
     rw[Sort.heap_grow_old _ _ (by simpa[Sort.putRow,Sort.mapBlock,Sort.ahead] using hlt)]
     simp[Sort.putRow,Sort.mapBlock,Sort.ahead,Array.getElem?_modify,Ne.symm hne']
   obtain⟨⟨vx,lx⟩,rx,bx⟩:=x
   obtain⟨⟨vy,ly⟩,ry,bY⟩:=y
   have rx:Rep fz vx (ints lx):=rx
   have ry:Rep fz vy (ints ly):=ry
   obtain⟨px,cx,rfl,_,_,qx⟩:=rep_ints_val rx
   obtain⟨py,cy,rfl,_,_,qy⟩:=rep_ints_val ry
   refine(compare_any _ px py cx cy lx ly (fun j z hj=>?_) (fun j z hj=>?_) (by dsimp only at bx;omega) (by dsimp only at bY;omega)).mono ?_
   ·obtain⟨b',o,e,hv⟩:=qx j z hj
    exact⟨b',o,e,hW _ _ _ hv rfl⟩
   ·obtain⟨b',o,e,hv⟩:=qy j z hj
    exact⟨b',o,e,hW _ _ _ hv rfl⟩
   ·rintro e w' ⟨rfl,rfl⟩
    exact⟨rfl,0,rfl⟩
  have eg:∀ args w,(callFunc 44 args).run Tryz.prog w=.ok (.enter 44 args) w:=enters_of Tryz.func44 (by kernel_rfl) rfl
  have hcon:=Any.slices_SortFunc Tryz.sortRows (fun x:VL fz=>x.1.1) (fun x=>rows_slice x.2.1) (fun x y:VL fz=>cmpL x.1.2 y.1.2) hO 44 #[] b 0 cap L.toArray w eg hcmp hH hblk (by simp;omega)
  have hsz:L.toArray.size=rows.length:=by simp[hLl]
  rw[hsz] at hcon
  refine hcon.mono ?_
  rintro e w' ⟨rfl,d',n,os,hperm,hsort,rfl⟩
  obtain⟨hs1,_,hpm⟩:=hperm
  have e1:d'.extract 0 rows.length=d':=by rw[← hsz,← hs1];exact Array.extract_size
  have e2:L.toArray.extract 0 rows.length=L.toArray:=by rw[← hsz];exact Array.extract_size
  rw[e1,e2] at hpm
  have hpl:d'.toList.Perm L:=by simpa using hpm
  have hrows:d'.toList.map (fun x=>x.1.2)=sortR rows:=by
   refine sortR_eq (by rw[← hL2];exact hpl.map _) ?_
   rw[List.pairwise_map,List.pairwise_iff_getElem]
   intro i j hi hj hij
   have hi':i<d'.size:=by simpa using hi
   have hj':j<d'.size:=by simpa using hj
   have:=hsort i j (Nat.zero_le _) hij (by omega)
   rw[getElem!_pos d' j hj',getElem!_pos d' i hi'] at this
   unfold rowLe
   unfold ltOf at this
   simpa using this
  have hdl:d'.toList.length=rows.length:=by rw[hpl.length_eq,hLl]
  refine⟨rfl,d'.toList.map (fun x=>x.1.1),by rw[List.length_map,hdl],fun v hv=>?_,fun i v x hv hx=>?_,?_⟩
  ·obtain⟨y,_,rfl⟩:=List.mem_map.1 hv
   exact rows_slice y.2.1
  ·rw[← hrows,List.map_map,List.getElem?_map] at hx
   rw[List.getElem?_map] at hv
   cases hq:d'.toList[i]? with
   | none=>rw[hq] at hv;cases hv
   | some y=>rw[hq] at hv hx;cases hv;cases hx;exact y.2.1
  ·have:=heap_putRowG (fun x:VL fz=>x.1.1) (n:=n) (os:=os) d'.toList (m:=rows.length) hdl (by omega) hh
   simpa[sortWorld] using this
 ·obtain⟨vc,rfl⟩:∃ vc,vr=[vc]:=by
   match vr,hrr.1 with
   | [vc],_=>exact⟨vc,rfl⟩
  have he:rows=[]:=List.map_eq_nil_iff.1 he
  exact AnyF.slices_SortFunc_none (P:=Tryz.prog) (ρ:=Tryz.sortRows_ren) { Tryz.sortRows with } p cap vc w
end Go.Ab
namespace Go.Ab
open Go Go.RowKit
theorem MapIs.perm{kp:KP}{fz:Fz}{w:World}{b:Nat}{es es':List (AV×AV)}(h:MapIs kp fz w b es)(he:es.Perm es'):MapIs kp fz w b es':=by
 obtain⟨ents,clk,es0,h1,h2,h3,h4,h5⟩:=h
 exact⟨ents,clk,es0,h1,h2,h3,h4.trans he,h5⟩
theorem SubAll.mperm{N:Nat}{O:Hp}{env:Env}{h:AHp}(k:Nat){kp:KP}{es es':List (AV×AV)}(he:es.Perm es')(hk:hp h k=.map kp es:=by rfl)(hni:kp≠.iter:=by nofun):SubAll N O env h env ((k,.map kp es')::h):=fun Γ hc g a w hs=>by
 have hH:hp ((k,.map kp es')::h)=upd (hp h) k (.map kp es'):=by
  funext j
  rw[hp_cons]
  by_cases hj:j=k
  ·subst hj;rw[if_pos rfl,upd_same]
  ·rw[if_neg hj,upd_ne hj]
 have hob:=hs.inv.obj k
 rw[hk] at hob
 obtain⟨h1,h2⟩:=hs.inv.setMap hk hni (w':=w) (es':=es') (fun _ _=>rfl) ((hob.1.1 hni).perm he)
 refine⟨g,?_⟩
 rw[hH]
 exact⟨hs.size,hs.dfr.sub fun j b hb=>⟨j,by
  by_cases hj:j=k
  ·subst hj;rw[upd_same] at hb;rw[hk];exact hb
  ·rw[upd_ne hj] at hb;exact hb⟩,fun t=>(hs.tmps t).mono h2,h1,hs.fr.setMap hk (Kept.refl _ _)⟩
end Go.Ab
namespace Go.Ab
open Go Go.Proofs
set_option maxRecDepth 10000
abbrev tp(c:Nat):AV:=t8 ((c / 16:Nat):Int) ((c / 4 % 4:Nat):Int) ((c % 4:Nat):Int)
def canon(P:Nat→Bool):List Nat:=(List.range 64).filter P
abbrev tpe(c:Nat):AV×AV:=(tp c,eB true)
def kset(P:Nat→Bool):List (AV×AV):=(canon P).map tpe
theorem mem_canon{P:Nat→Bool}{c:Nat}:c∈canon P↔c<64∧P c=true:=by rw[canon,List.mem_filter,List.mem_range]
theorem canon_nodup(P:Nat→Bool):(canon P).Nodup:=(List.nodup_range).filter _
theorem key_tp:∀ c,c<64→∀ d,d<64→keyB (tp c) (tp d)=decide (c=d):=by
 have h:((List.range 64).all fun c=>(List.range 64).all fun d=>keyB (tp c) (tp d)==decide (c=d))=true:=by kernel_rfl
 intro c hc d hd
 have h1:=List.all_eq_true.1 h c (List.mem_range.2 hc)
 have h2:=List.all_eq_true.1 h1 d (List.mem_range.2 hd)
 exact eq_of_beq h2
theorem mset_kset(P:Nat→Bool){x:Nat}(hx:x<64):(mset (kset P) (tp x) (eB true)).Perm (kset fun c=>P c||c==x):=by
 have hany:(kset P).any (fun y=>keyB y.1 (tp x))=(canon P).any fun c=>decide (c=x):=by
  rw[kset,List.any_map]
  have:∀ l:List Nat,(∀ c∈l,c<64)→l.any ((fun y=>keyB y.1 (tp x))∘tpe)=l.any fun c=>decide (c=x):=by
   intro l hl
   induction l with
   | nil=>rfl
   | cons a r ih=>
    rw[List.any_cons,List.any_cons,ih fun c hc=>hl c (List.mem_cons_of_mem _ hc)]
    show(keyB (tp a) (tp x)||_)=_
    rw[key_tp a (hl a (List.mem_cons_self ..)) x hx]
  exact this _ fun c hc=>(mem_canon.1 hc).1
 unfold mset
 rw[hany]
 cases hq:(canon P).any (fun c=>decide (c=x)) with
 | true=>
  rw[cond_true]
  obtain⟨c,hc,hcx⟩:=List.any_eq_true.1 hq
  obtain rfl:=odt hcx
  have e1:(kset P).map (fun y=>bif keyB y.1 (tp c) then (tp c,eB true) else y)=kset P:=by
   rw[kset,List.map_map]
   refine List.map_congr_left fun d hd=>?_
   show(bif keyB (tp d) (tp c) then tpe c else tpe d)=tpe d
   rw[key_tp d (mem_canon.1 hd).1 c hx]
   by_cases h:d=c
   ·rw[decide_eq_true h,cond_true,h]
   ·rw[decide_eq_false h,cond_false]
  rw[e1]
  have e2:canon (fun d=>P d||d==c)=canon P:=by
   rw[canon,canon]
   refine List.filter_congr fun d _=>?_
   by_cases h:d=c
   ·subst h;rw[(mem_canon.1 hc).2];rfl
   ·rw[beq_false_of_ne h,Bool.or_false]
  rw[kset,kset,e2]
 | false=>
  rw[cond_false]
  have hnot:x∉canon P:=fun h=>by
   have:=(List.any_eq_true (p:=fun c=>decide (c=x))).2 ⟨x,h,decide_eq_true rfl⟩
   rw[hq] at this;cases this
  have e3:kset P++[(tp x,eB true)]=(canon P++[x]).map tpe:=by rw[List.map_append];rfl
  rw[e3]
  refine List.Perm.map _ ?_
  rw[List.perm_ext_iff_of_nodup]
  ·intro d
   rw[List.mem_append,List.mem_singleton,mem_canon,mem_canon,Bool.or_eq_true,beq_iff_eq]
   constructor
   ·rintro (⟨h1,h2⟩ | rfl)
    ·exact⟨h1,.inl h2⟩
    ·exact⟨hx,.inr rfl⟩
   ·rintro⟨h1,h2 | h2⟩
    ·exact .inl ⟨h1,h2⟩
    ·exact .inr h2
  ·exact List.nodup_append.2 ⟨canon_nodup P,List.nodup_cons.2 ⟨by simp,List.nodup_nil⟩,fun a ha b hb=>by
    obtain rfl:=List.mem_singleton.1 hb
    exact fun e=>hnot (e▸ha)⟩
  ·exact canon_nodup _
theorem kset_one{c:Nat}(hc:c<64):kset (fun d=>d==c)=[tpe c]:=by
 rw[kset]
 have h:canon (fun d=>d==c)=[c]:=by
  have h0:((List.range 64).all fun c=>canon (fun d=>d==c)==[c])=true:=by kernel_rfl
  exact eq_of_beq (List.all_eq_true.1 h0 c (List.mem_range.2 hc))
 rw[h];rfl
theorem kset_none:kset (fun _=>false)=[]:=by
 have h:canon (fun _=>false)=[]:=by kernel_rfl
 rw[kset,h];rfl
def dc(y:AV×AV):Nat:=match y.1 with
 | .agg [.imm (.int _ a),.imm (.int _ b),.imm (.int _ c)]=>(16*a+4*b+c).toNat
 | _=>0
theorem dc_tpe{c:Nat}(hc:c<64):dc (tpe c)=c:=by
 have h:((List.range 64).all fun c=>dc (tpe c)==c)=true:=by kernel_rfl
 exact eq_of_beq (List.all_eq_true.1 h c (List.mem_range.2 hc))
theorem AD.setLoop{P:Program}{T:Tab}{N:Nat}{O:Hp}{ro:Bool}{Q:Kc}{env:Env}{h:AHp}{id it tn t bid k m:Nat}{ops:Array Oper}{body:Code}(A0:Nat→Bool)(add:Nat→Nat→Bool)(S:Nat→Bool)(E:Env)(R:AHp)(E':Env)(R':AHp)
 (h0:SubAll N O env h E ((k,.map .iter [(.mp K3 (kset S),tt)])::(m,.map K3 (kset A0))::R))
 (hend:∀ done A,SubAll N O ((t,ebool false)::(tn,.tup [ebool false])::E) ((k,.map .iter ((.mp K3 (kset S),tt)::done))::(m,.map K3 (kset A))::R) E' ((m,.map K3 (kset A))::R'))
 (hQ:Q (.exit bid) E' ((m,.map K3 (kset fun c=>A0 c||(canon S).any fun d=>add d c))::R'))
 (hstep:∀ done c A,c<64→S c=true→AD P N O ro body (AExit.thn (fun env1 h1=>SubAll N O env1 h1 E ((k,.map .iter ((.mp K3 (kset S),tt)::tpe c::done))::(m,.map K3 (kset fun x=>A x||add c x))::R)) (fun _ _ _=>False))
  ((t,ebool true)::(tn,.tup [ebool true,.p (tp c),.p (eB true)])::E) ((k,.map .iter ((.mp K3 (kset S),tt)::tpe c::done))::(k,.map .iter ((.mp K3 (kset S),tt)::done))::(m,.map K3 (kset A))::R))
 (hops:nextB ops it tn t=true:=by rfl)(hN1:Nat.blt tn N=true:=by rfl)(hN2:Nat.blt t N=true:=by rfl)(hE:lk E it=.mtok k:=by rfl):
 AD P N O ro (.loop (.seq (.region id ops false) (.seq (.cond (.tmp t) .skip (.exit bid)) body))) Q env h:=by
 let acc:List (AV×AV)→Nat→Bool:=fun done c=>A0 c||done.any fun y=>add (dc y) c
 have hacc0:acc []=A0:=by funext c;simp[acc]
 have hfin:∀ done,done.Perm (kset S)→acc done=fun c=>A0 c||(canon S).any fun d=>add d c:=fun done hd=>by
  funext c
  show(A0 c||done.any fun y=>add (dc y) c)=_
  congr 1
  rw[hd.any_eq,kset,List.any_map]
  have:∀ l:List Nat,(∀ c∈l,c<64)→l.any ((fun y=>add (dc y) c)∘tpe)=l.any fun d=>add d c:=by
   intro l hl
   induction l with
   | nil=>rfl
   | cons a r ih=>
    rw[List.any_cons,List.any_cons,ih fun c hc=>hl c (List.mem_cons_of_mem _ hc)]
    show(add (dc (tpe a)) c||_)=_
    rw[dc_tpe (hl a (List.mem_cons_self ..))]
  exact this _ fun d hd=>(mem_canon.1 hd).1
 refine AD.mapLoop (T:=T) (it:=it) (tn:=tn) (k:=k) (kp:=K3) (tot:=kset S) (fun _=>E) (fun done=>(k,.map .iter ((.mp K3 (kset S),tt)::done))::(m,.map K3 (kset (acc done)))::R) E' ((m,.map K3 (kset fun c=>A0 c||(canon S).any fun d=>add d c))::R')
  (by rw[hacc0];exact h0) (fun done hd=>?_) hQ (fun done x rest hp=>?_) hops hN1 hN2 (fun _=>hE) (fun done=>by rw[hp_cons,if_pos rfl])
 ·rw[← hfin done hd]
  exact hend done _
 ·have hx:x∈kset S:=hp.mem_iff.1 (by simp)
  obtain⟨c,hc,rfl⟩:=List.mem_map.1 hx
  obtain⟨hc1,hc2⟩:=mem_canon.1 hc
  have e:acc (tpe c::done)=fun x=>acc done x||add c x:=by
   funext x
   show(A0 x||(tpe c::done).any fun y=>add (dc y) x)=((A0 x||done.any fun y=>add (dc y) x)||add c x)
   rw[List.any_cons,dc_tpe hc1]
   cases A0 x <;> cases add c x <;> simp
  rw[e]
  exact hstep done c (acc done) hc1 hc2
theorem cat211(a0 a1 a2 b0 b1 b2:Int):AFun Tryz.prog 205 [t8 a0 a1 a2,eI 2,t8 b0 b1 b2,eI 1,eI 1] (.p (t8 a0 0 0)):=by
 refine AFun.of hT Tryz.func205 rfl rfl (by simp) ?_
 refine AD.cut hT hmix 2 (fun _:Unit=>True) (fun _=>[(1,.p (eI 2)),(3,.p (eI 1)),(4,.p (eI 1)),(5,.p (.ref [e8 a0,e8 a1,e8 a2])),(7,.p (.ref [e8 b0,e8 b1,e8 b2])),(10,.loc 10 0),(11,.loc 11 0)])
  (fun _=>[(10,.box 112 [.p (e8 0),.p (e8 0),.p (e8 0)]),(11,.box 112 [.p (e8 0),.p (e8 0),.p (e8 0)])]) ?_ fun _ _=>?_
 ·exact⟨(),trivial,(SubAll.sealB (env':=[(1,.p (eI 2)),(3,.p (eI 1)),(4,.p (eI 1)),(5,.p (.ref [e8 a0,e8 a1,e8 a2])),(7,.loc 7 0),(10,.loc 10 0),(11,.loc 11 0)]) (h':=[(7,.box 112 [.p (e8 b0),.p (e8 b1),.p (e8 b2)]),(10,.box 112 [.p (e8 0),.p (e8 0),.p (e8 0)]),(11,.box 112 [.p (e8 0),.p (e8 0),.p (e8 0)])]) 5).trans (.sealB 7)⟩
 refine AD.run hT hmix ?_
 refine⟨rfl,0,3,rfl,rfl,by decide,by decide,by decide,by decide,by decide,?_⟩
 refine ngo_in (by decide) (by decide) ⟨rfl,0,1,rfl,rfl,by decide,by decide,by decide,(show 3≤3 by decide),by decide,?_⟩
 refine .own [.slice 1 [e8 a0]] 1 [e8 a0] 17 rfl (clone8 _ [] (show 0≤1000 by decide)) rfl rfl ?_
 refine⟨rfl,1,1,rfl,rfl,by decide,by decide,by decide,(show 3≤3 by decide),by decide,?_⟩
 refine⟨rfl,⟨(show(1+0)*1≤140737488355328 by decide),(show 1+0≤140737488355328 by decide)⟩,?_⟩
 refine⟨by decide,by decide,?_⟩
 exact⟨by kernel_rfl,_,_,rfl,rfl,rfl⟩
theorem cat221(a0 a1 a2 b0 b1 b2:Int):AFun Tryz.prog 205 [t8 a0 a1 a2,eI 2,t8 b0 b1 b2,eI 2,eI 1] (.p (t8 a0 b1 0)):=by
 refine AFun.of hT Tryz.func205 rfl rfl (by simp) ?_
 refine AD.cut hT hmix 2 (fun _:Unit=>True) (fun _=>[(1,.p (eI 2)),(3,.p (eI 2)),(4,.p (eI 1)),(5,.p (.ref [e8 a0,e8 a1,e8 a2])),(7,.p (.ref [e8 b0,e8 b1,e8 b2])),(10,.loc 10 0),(11,.loc 11 0)])
  (fun _=>[(10,.box 112 [.p (e8 0),.p (e8 0),.p (e8 0)]),(11,.box 112 [.p (e8 0),.p (e8 0),.p (e8 0)])]) ?_ fun _ _=>?_
 ·exact⟨(),trivial,(SubAll.sealB (env':=[(1,.p (eI 2)),(3,.p (eI 2)),(4,.p (eI 1)),(5,.p (.ref [e8 a0,e8 a1,e8 a2])),(7,.loc 7 0),(10,.loc 10 0),(11,.loc 11 0)]) (h':=[(7,.box 112 [.p (e8 b0),.p (e8 b1),.p (e8 b2)]),(10,.box 112 [.p (e8 0),.p (e8 0),.p (e8 0)]),(11,.box 112 [.p (e8 0),.p (e8 0),.p (e8 0)])]) 5).trans (.sealB 7)⟩
 refine AD.run hT hmix ?_
 refine⟨rfl,0,3,rfl,rfl,by decide,by decide,by decide,by decide,by decide,?_⟩
 refine ngo_in (by decide) (by decide) ⟨rfl,0,1,rfl,rfl,by decide,by decide,by decide,(show 3≤3 by decide),by decide,?_⟩
 refine .own [.slice 1 [e8 a0]] 1 [e8 a0] 17 rfl (clone8 _ [] (show 0≤1000 by decide)) rfl rfl ?_
 refine⟨rfl,1,2,rfl,rfl,by decide,by decide,by decide,(show 3≤3 by decide),by decide,?_⟩
 refine⟨rfl,⟨(show(1+1)*1≤140737488355328 by decide),(show 1+1≤140737488355328 by decide)⟩,?_⟩
 refine⟨by decide,by decide,?_⟩
 exact⟨by kernel_rfl,_,_,rfl,rfl,rfl⟩
theorem cat231(a0 a1 a2 b0 b1 b2:Int):AFun Tryz.prog 205 [t8 a0 a1 a2,eI 2,t8 b0 b1 b2,eI 3,eI 1] (.p (t8 a0 b1 b2)):=by
 refine AFun.of hT Tryz.func205 rfl rfl (by simp) ?_
 refine AD.cut hT hmix 2 (fun _:Unit=>True) (fun _=>[(1,.p (eI 2)),(3,.p (eI 3)),(4,.p (eI 1)),(5,.p (.ref [e8 a0,e8 a1,e8 a2])),(7,.p (.ref [e8 b0,e8 b1,e8 b2])),(10,.loc 10 0),(11,.loc 11 0)])
  (fun _=>[(10,.box 112 [.p (e8 0),.p (e8 0),.p (e8 0)]),(11,.box 112 [.p (e8 0),.p (e8 0),.p (e8 0)])]) ?_ fun _ _=>?_
 ·exact⟨(),trivial,(SubAll.sealB (env':=[(1,.p (eI 2)),(3,.p (eI 3)),(4,.p (eI 1)),(5,.p (.ref [e8 a0,e8 a1,e8 a2])),(7,.loc 7 0),(10,.loc 10 0),(11,.loc 11 0)]) (h':=[(7,.box 112 [.p (e8 b0),.p (e8 b1),.p (e8 b2)]),(10,.box 112 [.p (e8 0),.p (e8 0),.p (e8 0)]),(11,.box 112 [.p (e8 0),.p (e8 0),.p (e8 0)])]) 5).trans (.sealB 7)⟩
 refine AD.run hT hmix ?_
 refine⟨rfl,0,3,rfl,rfl,by decide,by decide,by decide,by decide,by decide,?_⟩
 refine ngo_in (by decide) (by decide) ⟨rfl,0,1,rfl,rfl,by decide,by decide,by decide,(show 3≤3 by decide),by decide,?_⟩
 refine .own [.slice 1 [e8 a0]] 1 [e8 a0] 17 rfl (clone8 _ [] (show 0≤1000 by decide)) rfl rfl ?_
 refine⟨rfl,1,3,rfl,rfl,by decide,by decide,by decide,(show 3≤3 by decide),by decide,?_⟩
 refine⟨rfl,⟨(show(1+2)*1≤140737488355328 by decide),(show 1+2≤140737488355328 by decide)⟩,?_⟩
 refine⟨by decide,by decide,?_⟩
 exact⟨by kernel_rfl,_,_,rfl,rfl,rfl⟩
theorem cat311(a0 a1 a2 b0 b1 b2:Int):AFun Tryz.prog 205 [t8 a0 a1 a2,eI 3,t8 b0 b1 b2,eI 1,eI 1] (.p (t8 a0 a1 0)):=by
 refine AFun.of hT Tryz.func205 rfl rfl (by simp) ?_
 refine AD.cut hT hmix 2 (fun _:Unit=>True) (fun _=>[(1,.p (eI 3)),(3,.p (eI 1)),(4,.p (eI 1)),(5,.p (.ref [e8 a0,e8 a1,e8 a2])),(7,.p (.ref [e8 b0,e8 b1,e8 b2])),(10,.loc 10 0),(11,.loc 11 0)])
  (fun _=>[(10,.box 112 [.p (e8 0),.p (e8 0),.p (e8 0)]),(11,.box 112 [.p (e8 0),.p (e8 0),.p (e8 0)])]) ?_ fun _ _=>?_
 ·exact⟨(),trivial,(SubAll.sealB (env':=[(1,.p (eI 3)),(3,.p (eI 1)),(4,.p (eI 1)),(5,.p (.ref [e8 a0,e8 a1,e8 a2])),(7,.loc 7 0),(10,.loc 10 0),(11,.loc 11 0)]) (h':=[(7,.box 112 [.p (e8 b0),.p (e8 b1),.p (e8 b2)]),(10,.box 112 [.p (e8 0),.p (e8 0),.p (e8 0)]),(11,.box 112 [.p (e8 0),.p (e8 0),.p (e8 0)])]) 5).trans (.sealB 7)⟩
 refine AD.run hT hmix ?_
 refine⟨rfl,0,3,rfl,rfl,by decide,by decide,by decide,by decide,by decide,?_⟩
 refine ngo_in (by decide) (by decide) ⟨rfl,0,2,rfl,rfl,by decide,by decide,by decide,(show 3≤3 by decide),by decide,?_⟩
 refine .own [.slice 1 [e8 a0,e8 a1]] 1 [e8 a0,e8 a1] 17 rfl (clone8 _ [e8 a1] (show 1≤1000 by decide)) rfl rfl ?_
 refine⟨rfl,1,1,rfl,rfl,by decide,by decide,by decide,(show 3≤3 by decide),by decide,?_⟩
 refine⟨rfl,⟨(show(2+0)*1≤140737488355328 by decide),(show 2+0≤140737488355328 by decide)⟩,?_⟩
 refine⟨by decide,by decide,?_⟩
 exact⟨by kernel_rfl,_,_,rfl,rfl,rfl⟩
theorem cat321(a0 a1 a2 b0 b1 b2:Int):AFun Tryz.prog 205 [t8 a0 a1 a2,eI 3,t8 b0 b1 b2,eI 2,eI 1] (.p (t8 a0 a1 b1)):=by
 refine AFun.of hT Tryz.func205 rfl rfl (by simp) ?_
 refine AD.cut hT hmix 2 (fun _:Unit=>True) (fun _=>[(1,.p (eI 3)),(3,.p (eI 2)),(4,.p (eI 1)),(5,.p (.ref [e8 a0,e8 a1,e8 a2])),(7,.p (.ref [e8 b0,e8 b1,e8 b2])),(10,.loc 10 0),(11,.loc 11 0)])
  (fun _=>[(10,.box 112 [.p (e8 0),.p (e8 0),.p (e8 0)]),(11,.box 112 [.p (e8 0),.p (e8 0),.p (e8 0)])]) ?_ fun _ _=>?_
 ·exact⟨(),trivial,(SubAll.sealB (env':=[(1,.p (eI 3)),(3,.p (eI 2)),(4,.p (eI 1)),(5,.p (.ref [e8 a0,e8 a1,e8 a2])),(7,.loc 7 0),(10,.loc 10 0),(11,.loc 11 0)]) (h':=[(7,.box 112 [.p (e8 b0),.p (e8 b1),.p (e8 b2)]),(10,.box 112 [.p (e8 0),.p (e8 0),.p (e8 0)]),(11,.box 112 [.p (e8 0),.p (e8 0),.p (e8 0)])]) 5).trans (.sealB 7)⟩
 refine AD.run hT hmix ?_
 refine⟨rfl,0,3,rfl,rfl,by decide,by decide,by decide,by decide,by decide,?_⟩
 refine ngo_in (by decide) (by decide) ⟨rfl,0,2,rfl,rfl,by decide,by decide,by decide,(show 3≤3 by decide),by decide,?_⟩
 refine .own [.slice 1 [e8 a0,e8 a1]] 1 [e8 a0,e8 a1] 17 rfl (clone8 _ [e8 a1] (show 1≤1000 by decide)) rfl rfl ?_
 refine⟨rfl,1,2,rfl,rfl,by decide,by decide,by decide,(show 3≤3 by decide),by decide,?_⟩
 refine⟨rfl,⟨(show(2+1)*1≤140737488355328 by decide),(show 2+1≤140737488355328 by decide)⟩,?_⟩
 refine⟨by decide,by decide,?_⟩
 exact⟨by kernel_rfl,_,_,rfl,rfl,rfl⟩
theorem cat110(a0 a1 a2 b0 b1 b2:Int):AFun Tryz.prog 205 [t8 a0 a1 a2,eI 1,t8 b0 b1 b2,eI 1,eI 0] (.p (t8 a0 b0 0)):=by
 refine AFun.of hT Tryz.func205 rfl rfl (by simp) ?_
 refine AD.cut hT hmix 2 (fun _:Unit=>True) (fun _=>[(1,.p (eI 1)),(3,.p (eI 1)),(4,.p (eI 0)),(5,.p (.ref [e8 a0,e8 a1,e8 a2])),(7,.p (.ref [e8 b0,e8 b1,e8 b2])),(10,.loc 10 0),(11,.loc 11 0)])
  (fun _=>[(10,.box 112 [.p (e8 0),.p (e8 0),.p (e8 0)]),(11,.box 112 [.p (e8 0),.p (e8 0),.p (e8 0)])]) ?_ fun _ _=>?_
 ·exact⟨(),trivial,(SubAll.sealB (env':=[(1,.p (eI 1)),(3,.p (eI 1)),(4,.p (eI 0)),(5,.p (.ref [e8 a0,e8 a1,e8 a2])),(7,.loc 7 0),(10,.loc 10 0),(11,.loc 11 0)]) (h':=[(7,.box 112 [.p (e8 b0),.p (e8 b1),.p (e8 b2)]),(10,.box 112 [.p (e8 0),.p (e8 0),.p (e8 0)]),(11,.box 112 [.p (e8 0),.p (e8 0),.p (e8 0)])]) 5).trans (.sealB 7)⟩
 refine AD.run hT hmix ?_
 refine⟨rfl,0,3,rfl,rfl,by decide,by decide,by decide,by decide,by decide,?_⟩
 refine ngo_in (by decide) (by decide) ⟨rfl,0,1,rfl,rfl,by decide,by decide,by decide,(show 3≤3 by decide),by decide,?_⟩
 refine .own [.slice 1 [e8 a0]] 1 [e8 a0] 17 rfl (clone8 _ [] (show 0≤1000 by decide)) rfl rfl ?_
 refine⟨rfl,0,1,rfl,rfl,by decide,by decide,by decide,(show 3≤3 by decide),by decide,?_⟩
 refine⟨rfl,⟨(show(1+1)*1≤140737488355328 by decide),(show 1+1≤140737488355328 by decide)⟩,?_⟩
 refine⟨by decide,by decide,?_⟩
 exact⟨by kernel_rfl,_,_,rfl,rfl,rfl⟩
theorem cat120(a0 a1 a2 b0 b1 b2:Int):AFun Tryz.prog 205 [t8 a0 a1 a2,eI 1,t8 b0 b1 b2,eI 2,eI 0] (.p (t8 a0 b0 b1)):=by
 refine AFun.of hT Tryz.func205 rfl rfl (by simp) ?_
 refine AD.cut hT hmix 2 (fun _:Unit=>True) (fun _=>[(1,.p (eI 1)),(3,.p (eI 2)),(4,.p (eI 0)),(5,.p (.ref [e8 a0,e8 a1,e8 a2])),(7,.p (.ref [e8 b0,e8 b1,e8 b2])),(10,.loc 10 0),(11,.loc 11 0)])
  (fun _=>[(10,.box 112 [.p (e8 0),.p (e8 0),.p (e8 0)]),(11,.box 112 [.p (e8 0),.p (e8 0),.p (e8 0)])]) ?_ fun _ _=>?_
 ·exact⟨(),trivial,(SubAll.sealB (env':=[(1,.p (eI 1)),(3,.p (eI 2)),(4,.p (eI 0)),(5,.p (.ref [e8 a0,e8 a1,e8 a2])),(7,.loc 7 0),(10,.loc 10 0),(11,.loc 11 0)]) (h':=[(7,.box 112 [.p (e8 b0),.p (e8 b1),.p (e8 b2)]),(10,.box 112 [.p (e8 0),.p (e8 0),.p (e8 0)]),(11,.box 112 [.p (e8 0),.p (e8 0),.p (e8 0)])]) 5).trans (.sealB 7)⟩
 refine AD.run hT hmix ?_
 refine⟨rfl,0,3,rfl,rfl,by decide,by decide,by decide,by decide,by decide,?_⟩
 refine ngo_in (by decide) (by decide) ⟨rfl,0,1,rfl,rfl,by decide,by decide,by decide,(show 3≤3 by decide),by decide,?_⟩
 refine .own [.slice 1 [e8 a0]] 1 [e8 a0] 17 rfl (clone8 _ [] (show 0≤1000 by decide)) rfl rfl ?_
 refine⟨rfl,0,2,rfl,rfl,by decide,by decide,by decide,(show 3≤3 by decide),by decide,?_⟩
 refine⟨rfl,⟨(show(1+2)*1≤140737488355328 by decide),(show 1+2≤140737488355328 by decide)⟩,?_⟩
 refine⟨by decide,by decide,?_⟩
 exact⟨by kernel_rfl,_,_,rfl,rfl,rfl⟩
theorem cat210(a0 a1 a2 b0 b1 b2:Int):AFun Tryz.prog 205 [t8 a0 a1 a2,eI 2,t8 b0 b1 b2,eI 1,eI 0] (.p (t8 a0 a1 b0)):=by
 refine AFun.of hT Tryz.func205 rfl rfl (by simp) ?_
 refine AD.cut hT hmix 2 (fun _:Unit=>True) (fun _=>[(1,.p (eI 2)),(3,.p (eI 1)),(4,.p (eI 0)),(5,.p (.ref [e8 a0,e8 a1,e8 a2])),(7,.p (.ref [e8 b0,e8 b1,e8 b2])),(10,.loc 10 0),(11,.loc 11 0)])
  (fun _=>[(10,.box 112 [.p (e8 0),.p (e8 0),.p (e8 0)]),(11,.box 112 [.p (e8 0),.p (e8 0),.p (e8 0)])]) ?_ fun _ _=>?_
 ·exact⟨(),trivial,(SubAll.sealB (env':=[(1,.p (eI 2)),(3,.p (eI 1)),(4,.p (eI 0)),(5,.p (.ref [e8 a0,e8 a1,e8 a2])),(7,.loc 7 0),(10,.loc 10 0),(11,.loc 11 0)]) (h':=[(7,.box 112 [.p (e8 b0),.p (e8 b1),.p (e8 b2)]),(10,.box 112 [.p (e8 0),.p (e8 0),.p (e8 0)]),(11,.box 112 [.p (e8 0),.p (e8 0),.p (e8 0)])]) 5).trans (.sealB 7)⟩
 refine AD.run hT hmix ?_
 refine⟨rfl,0,3,rfl,rfl,by decide,by decide,by decide,by decide,by decide,?_⟩
 refine ngo_in (by decide) (by decide) ⟨rfl,0,2,rfl,rfl,by decide,by decide,by decide,(show 3≤3 by decide),by decide,?_⟩
 refine .own [.slice 1 [e8 a0,e8 a1]] 1 [e8 a0,e8 a1] 17 rfl (clone8 _ [e8 a1] (show 1≤1000 by decide)) rfl rfl ?_
 refine⟨rfl,0,1,rfl,rfl,by decide,by decide,by decide,(show 3≤3 by decide),by decide,?_⟩
 refine⟨rfl,⟨(show(2+1)*1≤140737488355328 by decide),(show 2+1≤140737488355328 by decide)⟩,?_⟩
 refine⟨by decide,by decide,?_⟩
 exact⟨by kernel_rfl,_,_,rfl,rfl,rfl⟩
end Go.Ab
