/- Texts E6, WA1, WA2, WA3, PA, PJ, PB, PC, PD, PJ2, PN, PE, PF, PG, PH. Conditions: none. -/
import Derived.Test.YtmllhjbnbhapoaaGreatGI
import Derived.Test.YtmllhjbnbhapoaaGreatGG
import Derived.Test.YtmllhjbnbhapoaaGreatGF
set_option linter.unusedSimpArgs false
set_option linter.unusedVariables false
namespace Go.Ab
open Go Go.Proofs
theorem Ty.inv_app{s e n a}(h:Ty s e n a)(ho:n.op≠1∧n.op≠47∧n.op≠15∧n.op≠45∧n.op≠46):∃ al:List Int,al.length=n.kids.length∧(∀ (i:Nat) (h:i<n.kids.length) (h':i<al.length),Ty s e n.kids[i] al[i])∧ArApp n.op n.n al a:=by
 cases h with
 | name h=>omega
 | call h=>omega
 | bind h=>omega
 | app _ al hl hk ha=>exact⟨al,hl,hk,ha⟩
theorem Ty.inv_1{s e n a k0}(h:Ty s e n a)(ho:n.op≠1∧n.op≠47∧n.op≠15∧n.op≠45∧n.op≠46)(hk:n.kids=[k0]):∃ a0,Ty s e k0 a0∧ArApp n.op n.n [a0] a:=by
 obtain⟨al,hl,h1,h2⟩:=h.inv_app ho
 rw[hk] at hl
 match al,hl with
 | [a0],_=>exact⟨a0,by have:=h1 0 (by rw[hk];simp) (by simp);simpa[hk] using this,h2⟩
theorem Ty.inv_2{s e n a k0 k1}(h:Ty s e n a)(ho:n.op≠1∧n.op≠47∧n.op≠15∧n.op≠45∧n.op≠46)(hk:n.kids=[k0,k1]):∃ a0 a1,Ty s e k0 a0∧Ty s e k1 a1∧ArApp n.op n.n [a0,a1] a:=by
 obtain⟨al,hl,h1,h2⟩:=h.inv_app ho
 rw[hk] at hl
 match al,hl with
 | [a0,a1],_=>exact⟨a0,a1,by have:=h1 0 (by rw[hk];simp) (by simp);simpa[hk] using this,by have:=h1 1 (by rw[hk];simp) (by simp);simpa[hk] using this,h2⟩
theorem Ty.inv_bind{s e n a k0 k1}(h:Ty s e n a)(ho:n.op=15∨n.op=45∨n.op=46)(hk:n.kids=[k0,k1]):a=1∧Ty s e k0 1∧∃ b,Ty s (e++[(n.name,1)]) k1 b:=by
 cases h with
 | name h=>omega
 | call h=>omega
 | bind _ hk' h0 h1=>rw[hk] at hk';cases hk';exact⟨rfl,h0,_,h1⟩
 | app h=>omega
theorem Ty.inv_name{s e n a}(h:Ty s e n a)(ho:n.op=1):NameTy s e n.name a:=by
 cases h with
 | name _ ha=>exact ha
 | call h=>omega
 | bind h=>omega
 | app h=>omega
theorem nc_kid{n k:Nd}(h:n.hasCall=false)(hk:k∈n.kids):k.hasCall=false:=by
 rw[n.hasCall_eq,Bool.or_eq_false_iff,List.any_eq_false] at h
 simpa using h.2 k hk
theorem nc_op{n:Nd}(h:n.hasCall=false):n.op≠47:=by
 rw[n.hasCall_eq,Bool.or_eq_false_iff] at h
 simpa using h.1
theorem tyE_snoc(env:List (ByteArray×Int))(nm:ByteArray)(a:Int):tyE (env++[(nm,a)])=tyE env++[(nm,1)]:=by simp[tyE]
theorem ofR_r(r:Rl):(Val.ofR r).r=r:=rfl
section
theorem empty_ok{s:Spc}{m:Mdl}(hm:MOk s m){a:Int}(h:1≤a∧a≤3):(⟨a,[]⟩:Rl).Ok m.n:=⟨h,List.Pairwise.nil,fun t ht=>by cases ht⟩
theorem filter_ok{s:Spc}{m:Mdl}(hm:MOk s m){r:Rl}(hr:r.Ok m.n)(h1:r.arity=1)(q:Int→Bool):(⟨1,r.tuples.filter q⟩:Rl).Ok m.n:=⟨⟨by show(1:Int)≤1;omega,by show(1:Int)≤3;omega⟩,hr.up.filter _,fun t ht=>by have:=hr.rng t (List.mem_filter.1 ht).1;rw[h1] at this;exact this⟩
theorem ev_ok{s:Spc}{m:Mdl}(hm:MOk s m)(n:Nd):n.WF→n.hasCall=false→∀ (env:List (ByteArray×Int)) (st a:Int),Ty s (tyE env) n a→0≤st→st<m.states.length→(∀ x∈env,0≤x.2∧x.2<m.n)→n.isR→(ev s m n st env).r.Ok m.n∧(ev s m n st env).r.arity=a:=by
 induction n using Nd.ind with
 | h n ih=>
  intro hw hc env st a ht s0 s1 he hR
  have hnum:=((Nd.WF_iff n).1 hw).1.2.1
  have one:∀ {k0},n.kids=[k0]→k0.WF→k0.isR→∀ (st a0:Int),Ty s (tyE env) k0 a0→0≤st→st<m.states.length→(ev s m k0 st env).r.Ok m.n∧(ev s m k0 st env).r.arity=a0:=fun {k0} hk w r st a0 t u0 u1=>ih k0 (by rw[hk];simp) w (nc_kid hc (by rw[hk];simp)) env st a0 t u0 u1 he r
  have two:∀ {k0 k1},n.kids=[k0,k1]→k0.WF∧k0.isR→k1.WF∧k1.isR→∀ a0 a1,Ty s (tyE env) k0 a0→Ty s (tyE env) k1 a1→((ev s m k0 st env).r.Ok m.n∧(ev s m k0 st env).r.arity=a0)∧(ev s m k1 st env).r.Ok m.n∧(ev s m k1 st env).r.arity=a1:=fun {k0 k1} hk w0 w1 a0 a1 t0 t1=>
   ⟨ih k0 (by rw[hk];simp) w0.1 (nc_kid hc (by rw[hk];simp)) env st a0 t0 s0 s1 he w0.2,ih k1 (by rw[hk];simp) w1.1 (nc_kid hc (by rw[hk];simp)) env st a1 t1 s0 s1 he w1.2⟩
  unfold Nd.isR at hR
  have hcase:n.op=1∨n.op=2∨n.op=3∨n.op=4∨n.op=5∨n.op=6∨n.op=7∨n.op=8∨n.op=9∨n.op=10∨n.op=11∨n.op=12∨n.op=13∨n.op=14∨n.op=15:=by omega
  rcases hcase with h | h | h | h | h | h | h | h | h | h | h | h | h | h | h
  ·rw[ev_1 h,ofR_r]
   exact nameVal_ok hm s0 s1 he (ht.inv_name h)
  ·rw[ev_2 h,ofR_r]
   obtain⟨al,_,_,ha⟩:=ht.inv_app (by omega)
   exact⟨empty_ok hm (hnum h),(ha.1 h).symm⟩
  ·rw[ev_3 h,ofR_r]
   obtain⟨al,_,_,ha⟩:=ht.inv_app (by omega)
   exact⟨rUniv_ok hm.pos hm.n12,(ha.2.1 h).symm⟩
  ·rw[ev_4 h,ofR_r]
   obtain⟨al,_,_,ha⟩:=ht.inv_app (by omega)
   exact⟨rIden_ok hm.pos hm.n12,(ha.2.2.1 h).symm⟩
  ·obtain⟨k0,hk,w0,r0⟩:=wf_e hw (by omega)
   obtain⟨a0,t0,ha⟩:=ht.inv_1 (by omega) hk
   have e:=ha.2.2.2.1 h
   simp only[List.cons.injEq,and_true] at e
   subst e
   obtain⟨n0,n1⟩:=nextSt_ok hm s0 s1
   rw[ev_5 h hk,ofR_r]
   exact one hk w0 r0 _ _ t0 n0 n1
  ·obtain⟨k0,k1,hk,w0,w1⟩:=wf_ee hw (by omega)
   obtain⟨a0,a1,t0,t1,ha⟩:=ht.inv_2 (by omega) hk
   have e:=ha.2.2.2.2.1 (by omega)
   simp only[List.cons.injEq,and_true] at e
   obtain⟨⟨o0,e0⟩,o1,e1⟩:=two hk w0 w1 _ _ t0 t1
   rw[ev_6 h hk,ofR_r]
   exact⟨rUnion_ok hm.pos hm.n12 o0 o1 (by omega),by show(ev s m k0 st env).r.arity=a;omega⟩
  ·obtain⟨k0,k1,hk,w0,w1⟩:=wf_ee hw (by omega)
   obtain⟨a0,a1,t0,t1,ha⟩:=ht.inv_2 (by omega) hk
   have e:=ha.2.2.2.2.1 (by omega)
   simp only[List.cons.injEq,and_true] at e
   obtain⟨⟨o0,e0⟩,o1,e1⟩:=two hk w0 w1 _ _ t0 t1
   rw[ev_7 h hk,ofR_r]
   exact⟨rInter_ok hm.pos hm.n12 o0,by show(ev s m k0 st env).r.arity=a;omega⟩
  ·obtain⟨k0,k1,hk,w0,w1⟩:=wf_ee hw (by omega)
   obtain⟨a0,a1,t0,t1,ha⟩:=ht.inv_2 (by omega) hk
   have e:=ha.2.2.2.2.1 (by omega)
   simp only[List.cons.injEq,and_true] at e
   obtain⟨⟨o0,e0⟩,o1,e1⟩:=two hk w0 w1 _ _ t0 t1
   rw[ev_8 h hk,ofR_r]
   exact⟨rDiff_ok hm.pos hm.n12 o0,by show(ev s m k0 st env).r.arity=a;omega⟩
  ·obtain⟨k0,k1,hk,w0,w1⟩:=wf_ee hw (by omega)
   obtain⟨a0,a1,t0,t1,ha⟩:=ht.inv_2 (by omega) hk
   obtain⟨b,c,e,e2,e3,e4⟩:=ha.2.2.2.2.2.2.1 (by omega)
   simp only[List.cons.injEq,and_true] at e
   obtain⟨⟨o0,e0⟩,o1,e1⟩:=two hk w0 w1 _ _ t0 t1
   rw[ev_9 h hk,ofR_r]
   exact⟨rJoin_ok hm.pos hm.n12 o0 o1 (by omega) (by omega),by show(ev s m k0 st env).r.arity+(ev s m k1 st env).r.arity - 2=a;omega⟩
  ·obtain⟨k0,k1,hk,w0,w1⟩:=wf_ee hw (by omega)
   obtain⟨a0,a1,t0,t1,ha⟩:=ht.inv_2 (by omega) hk
   obtain⟨b,c,e,e2,e3⟩:=ha.2.2.2.2.2.2.2.1 (by omega)
   simp only[List.cons.injEq,and_true] at e
   obtain⟨⟨o0,e0⟩,o1,e1⟩:=two hk w0 w1 _ _ t0 t1
   rw[ev_10 h hk,ofR_r]
   exact⟨rProduct_ok hm.pos hm.n12 o0 o1 (by omega),by show(ev s m k0 st env).r.arity+(ev s m k1 st env).r.arity=a;omega⟩
  ·obtain⟨k0,hk,w0,r0⟩:=wf_e hw (by omega)
   obtain⟨a0,t0,ha⟩:=ht.inv_1 (by omega) hk
   obtain⟨e,e2⟩:=ha.2.2.2.2.2.2.2.2 (by omega)
   simp only[List.cons.injEq,and_true] at e
   obtain⟨o0,e0⟩:=one hk w0 r0 _ _ t0 s0 s1
   rw[ev_11 h hk,ofR_r]
   exact⟨rTrans_ok hm.pos hm.n12 o0 (by omega),e2.symm⟩
  ·obtain⟨k0,hk,w0,r0⟩:=wf_e hw (by omega)
   obtain⟨a0,t0,ha⟩:=ht.inv_1 (by omega) hk
   obtain⟨e,e2⟩:=ha.2.2.2.2.2.2.2.2 (by omega)
   rw[ev_12 h hk,ofR_r]
   exact⟨rClos_ok hm.pos hm.n12,e2.symm⟩
  ·obtain⟨k0,hk,w0,r0⟩:=wf_e hw (by omega)
   obtain⟨a0,t0,ha⟩:=ht.inv_1 (by omega) hk
   obtain⟨e,e2⟩:=ha.2.2.2.2.2.2.2.2 (by omega)
   rw[ev_13 h hk,ofR_r]
   exact⟨rUnion_ok hm.pos hm.n12 (rClos_ok hm.pos hm.n12) (rIden_ok hm.pos hm.n12) rfl,e2.symm⟩
  ·obtain⟨k0,k1,hk,w0,w1⟩:=wf_ee hw (by omega)
   obtain⟨a0,a1,t0,t1,ha⟩:=ht.inv_2 (by omega) hk
   have e:=ha.2.2.2.2.1 (by omega)
   simp only[List.cons.injEq,and_true] at e
   obtain⟨⟨o0,e0⟩,o1,e1⟩:=two hk w0 w1 _ _ t0 t1
   rw[ev_14 h hk,ofR_r]
   exact⟨rOver_ok hm.pos hm.n12 o0 o1 (by omega),by show(ev s m k0 st env).r.arity=a;omega⟩
  ·obtain⟨k0,k1,hk,w0,w1⟩:=wf_ef hw (by omega)
   obtain⟨rfl,t0,b,t1⟩:=ht.inv_bind (by omega) hk
   obtain⟨o0,e0⟩:=ih k0 (by rw[hk];simp) w0.1 (nc_kid hc (by rw[hk];simp)) env st 1 t0 s0 s1 he w0.2
   rw[ev_15 h hk,ofR_r]
   exact⟨filter_ok hm o0 e0 _,rfl⟩
end
section
end
end Go.Ab
namespace Go.Ab
open Go Go.Proofs
set_option maxRecDepth 10000
theorem fill_var2(nm:ByteArray)(a:Int)(f:List Bool)(hf:f.length=64):∀ ti,T.get 294=some ti→fillE (placeOf ti) ti.zero [(0,.p (eS nm)),(1,.agg ((setcs a f).map .p))]=some ((eS nm::setcs a f).map .p):=fun ti h=>fill_var nm a f hf ti h
theorem binder04(v:Vw)(l:List Vr)(hl:∀ x∈l,x.2.Ok)(hl2:l.length≤10000000)(n:Nd)(hk:n.kids.length=2)(Q0 Q1:Bool→Int→Prop)(H0:∀ w:Vw,w.sp=v.sp→∃ y,ExR (Q0 w.inside) y∧AFun Tryz.prog 168 [w.av,.slice 66 (l.map Vr.av),n.kids[0].av] y)(H1:∀ (w:Vw) (x:Vr),w.sp=v.sp→x.2.Ok→vty x=(n.name,1)→∃ y,ExR (Q1 w.inside) y∧AFun Tryz.prog 168 [w.av,.slice 66 ((l++[x]).map Vr.av),n.kids[1].av] y):∃ y,ExR (fun a=>a=1∧∃ i,i=(v.inside||decide (n.op=15))∧Q0 i 1∧∃ b,Q1 i b) y∧AFun Tryz.prog 218 [v.av,.slice 66 (l.map Vr.av),n.ex] y:=by
 refine AFunE.intro hT Tryz.func218 rfl rfl (by simp) (ExR.any _) (AD.run hT hmix ?_)
 refine bgs (fun hb15=>?_) (fun hb15=>?_)
 ·skip
  obtain⟨y,⟨a,f,e,p,rfl,hf,ha⟩,hx⟩:=H0 { v with inside:=true } rfl
  refine igo_map 0 rfl (show 0<n.kids.length by omega) ?_
  refine .pure [Vw.av { v with inside:=true },.slice 66 (l.map Vr.av),n.kids[0].av] _ rfl hx ?_
  refine bgo_true (by rw[Bool.and_eq_true,Bool.and_eq_true];exact⟨len_beq hf,rfl,rfl⟩) ?_
  generalize hy:setSeg _ _ ((setav a f).cells.map EV.p)=y
  obtain rfl:y=(setcs a f).map .p:=hy.symm.trans (setSeg_all (zeroOf 240) ((setcs a f).map EV.p) (by rw[setcs_len,hf];rfl))
  clear hy
  refine⟨by kernel_rfl,?_⟩
  refine bgs (fun hb=>⟨by kernel_rfl,res_err (by simpa using hb) rfl rfl rfl rfl⟩) (fun he0=>?_)
  have he0:e=0:=by simpa using he0
  refine bgs (fun hb=>⟨by kernel_rfl,res_err (by decide) rfl rfl rfl rfl⟩) (fun h1=>?_)
  have h1:a=1:=by simpa using h1
  have hll:(l.map Vr.av).length=l.length:=List.length_map _
  obtain⟨y,⟨a2,f2,e2,p2,rfl,hf2,ha2⟩,hx2⟩:=H1 { v with inside:=true } (n.name,(a,f)) rfl ⟨(by dsimp only;omega),hf⟩ (by rw[h1];rfl)
  rw[List.map_append] at hx2
  refine⟨⟨by simp;omega,by simp;omega⟩,?_⟩
  refine bgo_true (Nat.ble_eq_true_of_le (by rw[setcs_len];show 0+65≤_;omega)) ?_
  generalize hz:List.take _ (List.drop _ ((setcs a f).map EV.p))=z
  obtain rfl:z=(setcs a f).map .p:=hz.symm.trans (take_setcs a f hf)
  clear hz
  refine ogo_of (fill_var2 n.name _ f hf _ rfl) ?_
  refine ogo_of (parts_var (n.name,(a,f)) hf) ?_
  refine bgo_true rfl ⟨(by simp),⟨by simp;omega,by simp;omega⟩,?_⟩
  refine igo_map 1 rfl (show 1<n.kids.length by omega) ?_
  refine .pure [Vw.av { v with inside:=true },.slice 66 (l.map Vr.av++[(n.name,(a,f))].map Vr.av),n.kids[1].av] _ rfl hx2 ?_
  refine bgo_true (by rw[Bool.and_eq_true,Bool.and_eq_true];exact⟨len_beq hf2,rfl,rfl⟩) ?_
  generalize hy:setSeg _ _ ((setav a2 f2).cells.map EV.p)=y
  clear hy
  refine⟨by kernel_rfl,?_⟩
  refine bgo_true (Nat.ble_eq_true_of_le (by rw[setcs_len];show 0+65≤_;omega)) ?_
  generalize hz:List.take _ (List.drop _ ((setcs a f).map EV.p))=z
  obtain rfl:z=(setcs a f).map .p:=hz.symm.trans (take_setcs a f hf)
  clear hz
  refine bgo_true (by rw[Bool.and_eq_true,Bool.and_eq_true];exact⟨by rw[setcs_len,hf];rfl,rfl,rfl⟩) ?_
  exact⟨by kernel_rfl,res_two hf (fun he2=>⟨h1,_,(by rw[decide_eq_true (beq_iff_eq.1 hb15),Bool.or_true]),h1▸ha he0,a2,ha2 he2⟩) rfl rfl rfl rfl⟩
 ·skip
  obtain⟨y,⟨a,f,e,p,rfl,hf,ha⟩,hx⟩:=H0 v rfl
  refine igo_map 0 rfl (show 0<n.kids.length by omega) ?_
  refine .pure [Vw.av v,.slice 66 (l.map Vr.av),n.kids[0].av] _ rfl hx ?_
  refine bgo_true (by rw[Bool.and_eq_true,Bool.and_eq_true];exact⟨len_beq hf,rfl,rfl⟩) ?_
  generalize hy:setSeg _ _ ((setav a f).cells.map EV.p)=y
  obtain rfl:y=(setcs a f).map .p:=hy.symm.trans (setSeg_all (zeroOf 240) ((setcs a f).map EV.p) (by rw[setcs_len,hf];rfl))
  clear hy
  refine⟨by kernel_rfl,?_⟩
  refine bgs (fun hb=>⟨by kernel_rfl,res_err (by simpa using hb) rfl rfl rfl rfl⟩) (fun he0=>?_)
  have he0:e=0:=by simpa using he0
  refine bgs (fun hb=>⟨by kernel_rfl,res_err (by decide) rfl rfl rfl rfl⟩) (fun h1=>?_)
  have h1:a=1:=by simpa using h1
  have hll:(l.map Vr.av).length=l.length:=List.length_map _
  obtain⟨y,⟨a2,f2,e2,p2,rfl,hf2,ha2⟩,hx2⟩:=H1 v (n.name,(a,f)) rfl ⟨(by dsimp only;omega),hf⟩ (by rw[h1];rfl)
  rw[List.map_append] at hx2
  refine⟨⟨by simp;omega,by simp;omega⟩,?_⟩
  refine bgo_true (Nat.ble_eq_true_of_le (by rw[setcs_len];show 0+65≤_;omega)) ?_
  generalize hz:List.take _ (List.drop _ ((setcs a f).map EV.p))=z
  obtain rfl:z=(setcs a f).map .p:=hz.symm.trans (take_setcs a f hf)
  clear hz
  refine ogo_of (fill_var2 n.name _ f hf _ rfl) ?_
  refine ogo_of (parts_var (n.name,(a,f)) hf) ?_
  refine bgo_true rfl ⟨(by simp),⟨by simp;omega,by simp;omega⟩,?_⟩
  refine igo_map 1 rfl (show 1<n.kids.length by omega) ?_
  refine .pure [Vw.av v,.slice 66 (l.map Vr.av++[(n.name,(a,f))].map Vr.av),n.kids[1].av] _ rfl hx2 ?_
  refine bgo_true (by rw[Bool.and_eq_true,Bool.and_eq_true];exact⟨len_beq hf2,rfl,rfl⟩) ?_
  generalize hy:setSeg _ _ ((setav a2 f2).cells.map EV.p)=y
  clear hy
  refine⟨by kernel_rfl,?_⟩
  refine bgo_true (Nat.ble_eq_true_of_le (by rw[setcs_len];show 0+65≤_;omega)) ?_
  generalize hz:List.take _ (List.drop _ ((setcs a f).map EV.p))=z
  obtain rfl:z=(setcs a f).map .p:=hz.symm.trans (take_setcs a f hf)
  clear hz
  refine bgo_true (by rw[Bool.and_eq_true,Bool.and_eq_true];exact⟨by rw[setcs_len,hf];rfl,rfl,rfl⟩) ?_
  exact⟨by kernel_rfl,res_two hf (fun he2=>⟨h1,_,(by rw[decide_eq_false (by simpa using hb15),Bool.or_false]),h1▸ha he0,a2,ha2 he2⟩) rfl rfl rfl rfl⟩
theorem fin_diag{env:Env}{h:AHp}{e p:Int}(h2:lk env 6=.loc 6 0)(h3:hp h 6=.box 103 [.p (eI e),.p (eI p)]):∃ es xs,resAll T env h [.cell 6 103]=some es∧toPs es=some xs∧∃ e p,retEV xs=.p (Dg e p):=by
 have r2:resAll T env h [.cell 6 103]=some [.agg [.p (eI e),.p (eI p)]]:=res_cell rfl h2 h3 rfl rfl
 exact⟨_,_,r2,rfl,e,p,rfl⟩
set_option maxHeartbeats 1000000 in
theorem call04(v:Vw)(l:List Vr)(n:Nd)(hpl:∀ p∈v.sp.preds,p.params.length≤1000)(H:∀ w:Vw,w.sp=v.sp→∀ k∈n.kids,∃ y,ExR (fun _=>True) y∧AFun Tryz.prog 168 [w.av,.slice 66 (l.map Vr.av),k.av] y):∃ e p,AFun Tryz.prog 217 [v.av,.slice 66 (l.map Vr.av),n.ex] (.p (Dg e p)):=by
 suffices hh:∃ y,(∃ e p,y=.p (Dg e p))∧AFun Tryz.prog 217 [v.av,.slice 66 (l.map Vr.av),n.ex] y by
  obtain⟨y,⟨e,p,rfl⟩,hf⟩:=hh
  exact⟨e,p,hf⟩
 refine AFunE.intro hT Tryz.func217 rfl rfl (by simp) ⟨_,0,0,rfl⟩ (AD.run hT hmix ?_)
 have hl1:(v.sp.preds.map Prd.ex).length=v.sp.preds.length:=List.length_map _
 have hl2:(n.kids.map Nd.av).length=n.kids.length:=List.length_map _
 obtain⟨p,hp,hpf⟩:=pred04 v.sp v.calls n.name
 refine .pure [v.sp.ex,eI v.calls,eS n.name] _ rfl hpf ?_
 refine bgs (fun hb=>?_) (fun hb=>?_)
 ·obtain⟨q,hq,hqf⟩:=pred04 v.sp (v.sp.preds.map Prd.ex).length n.name
  intro _
  refine .pure [v.sp.ex,eI (v.sp.preds.map Prd.ex).length,eS n.name] _ rfl hqf ?_
  exact bgs (fun _=>fin_diag rfl rfl) (fun _=>fin_diag rfl rfl)
 replace hb:=of_decide_eq_false hb
 obtain⟨j,rfl⟩:=Int.eq_ofNat_of_zero_le (show 0≤p by omega)
 have hj:j<v.sp.preds.length:=by omega
 have hpj:=hpl _ (List.getElem_mem hj)
 have hl3:(v.sp.preds[j].params.map Param.av).length=v.sp.preds[j].params.length:=List.length_map _
 refine igo_map j rfl hj ?_
 intro _ _
 refine bgs (fun _=>fin_diag rfl rfl) (fun hc=>?_)
 have hc:n.kids.length=v.sp.preds[j].params.length:=by
  have hc:(((n.kids.map Nd.av).length:Nat):Int)=(((v.sp.preds[j].params.map Param.av).length:Nat):Int):=by simpa using hc
  omega
 refine AD.loopI (fun i:Nat=>i≤n.kids.length) (fun i=>n.kids.length - i) (fun i=>[(1,.p (.slice 66 (l.map Vr.av))),(3,.loc 3 0),(5,.loc 5 0),(6,.loc 6 0),(8,.p (.slice 2 (v.sp.preds[j].params.map Param.av))),(9,eint .i64 i)]) (fun _=>[(3,.box 245 ((Vw.cs { v with inside:=true }).map .p)),(5,.box 35 ([eI n.op,eS n.name,eI n.n,.slice 5 (n.kids.map Nd.av),eI n.at_].map .p)),(6,.box 103 [.p (eI 0),.p (eI 0)])]) 0 (Nat.zero_le _) .of fun i hi=>AD.run hT hmix ?_
 intro _
 refine bgs (fun hb2=>?_) (fun hb2=>fin_diag rfl rfl)
 replace hb2:=odt hb2
 have hlt:i<n.kids.length:=by omega
 have hlt2:i<v.sp.preds[j].params.length:=by omega
 obtain⟨y,⟨a,f,e,q,rfl,hf,_⟩,hx⟩:=H { v with inside:=true } rfl _ (List.getElem_mem hlt)
 refine igo_map i rfl hlt ?_
 refine .pure [Vw.av { v with inside:=true },.slice 66 (l.map Vr.av),n.kids[i].av] _ rfl hx ?_
 refine bgo_true (by rw[Bool.and_eq_true,Bool.and_eq_true];exact⟨len_beq hf,rfl,rfl⟩) ?_
 generalize hy:setSeg _ _ ((setav a f).cells.map EV.p)=y
 obtain rfl:y=(setcs a f).map .p:=hy.symm.trans (setSeg_all (zeroOf 240) ((setcs a f).map EV.p) (by rw[setcs_len,hf];rfl))
 clear hy
 refine⟨by kernel_rfl,?_⟩
 refine bgs (fun hd=>fin_diag rfl rfl) (fun hd=>?_)
 refine bgs (fun he=>fin_diag rfl rfl) (fun he=>?_)
 refine AD.loopI (fun k:Nat=>k≤4) (fun k=>4 - k) (fun k=>[(1,.p (.slice 66 (l.map Vr.av))),(3,.loc 3 0),(5,.loc 5 0),(6,.loc 6 0),(8,.p (.slice 2 (v.sp.preds[j].params.map Param.av))),(9,eint .i64 i),(10,.loc 10 0),(12,eint .i64 k)]) (fun _=>[(3,.box 245 ((Vw.cs { v with inside:=true }).map .p)),(5,.box 35 ([eI n.op,eS n.name,eI n.n,.slice 5 (n.kids.map Nd.av),eI n.at_].map .p)),(6,.box 103 [.p (eI 0),.p (eI 0)]),(10,.box 240 ((setcs a f).map .p))]) 0 (Nat.zero_le _) .of fun k hk=>AD.run hT hmix ?_
 refine bgs (fun hb3=>?_) (fun hb3=>?_)
 ·replace hb3:=odt hb3
  have hk64:k<64:=by omega
  refine⟨k,rfl,hk64,ogo_of (nth_setcs a f k (by omega)) ?_⟩
  refine bgs (fun hv=>?_) (fun hv=>?_)
  ·refine igo_map i rfl hlt2 ?_
   refine bgs (fun hw=>fin_diag rfl rfl) (fun hw=>?_)
   exact ngo_in (by omega) (by omega) ⟨k+1,by omega,by omega,.of⟩
  ·exact ngo_in (by omega) (by omega) ⟨k+1,by omega,by omega,.of⟩
 ·exact ngo_in (by omega) (by omega) ⟨i+1,by omega,by omega,.of⟩
inductive NoT:Bool→Nd→Prop
 | mk {i:Bool} {n:Nd} (h:i=true→timedOp n.op=false) (hk:n.op≠47→∀ k∈n.kids,NoT (i||decide (n.op=12∨n.op=13∨n.op=15)) k):NoT i n
mutual
def Nd.sz:Nd→Nat
 | .mk _ _ _ kids _=>1+Nd.szs kids
def Nd.szs:List Nd→Nat
 | []=>0
 | x::r=>x.sz+Nd.szs r
end
theorem Nd.szs_mem:∀ {l:List Nd} {k:Nd},k∈l→k.sz≤Nd.szs l
 | x::r,k,h=>by
  rw[Nd.szs]
  rcases List.mem_cons.1 h with rfl | h
  ·omega
  ·have:=Nd.szs_mem h;omega
theorem Nd.sz_kid{n k:Nd}(h:k∈n.kids):k.sz<n.sz:=by
 cases n with
 | mk op name num kids a=>have:=Nd.szs_mem (l:=kids) h;rw[Nd.sz];omega
theorem partsP_set{a:Int}{f:List Bool}(hf:f.length=64):partsP 65 0 [(0,.agg ((setcs a f).map .p))]=some [setav a f]:=by
 have h1:=toPs_p (setcs a f)
 simp only[toPs] at h1
 have hl:(setcs a f).length=65:=by simp[setcs,hf]
 simp only[partsP,toP,h1,Option.map_some,AV.cells,hl,Nat.beq_refl,cond_true]
 rfl
theorem WF_few{n:Nd}(h:n.WF):n.kids.length≤401:=by
 obtain⟨⟨⟨s,h1,h2,_⟩,_⟩,_⟩:=(Nd.WF_iff n).1 h
 rw[← h2]
 unfold shapeOf at h1
 repeat' split at h1
 all_goals first | (obtain rfl:=Option.some.inj h1;simp[ByteArray.size];done) | (obtain rfl:=Option.some.inj h1;simp[ByteArray.size];omega) | cases h1
theorem res_zero{env:Env}{h:AHp}{e p:Int}{Q:Int→Prop}(he:e=0→Q 0)(h2:lk env 6=.loc 6 0)(h3:hp h 6=.box 240 (setSeg (zeroOf 240) 0 (zeroOf 240)))(h4:lk env 7=.loc 7 0)(h5:hp h 7=.box 103 [.p (eI e),.p (eI p)]):∃ es xs,resAll T env h [.cell 6 240,.cell 7 103]=some es∧toPs es=some xs∧ExR Q (retEV xs):=by
 have ez:zeroOf 240=(setcs 0 (List.replicate 64 false)).map .p:=by
  have e:zeroOf 240=.p (eI 0)::List.replicate 64 (.p (eB false)):=rfl
  rw[e];simp[setcs,List.map_replicate]
 refine res_two (A:=0) (f:=List.replicate 64 false) List.length_replicate he h2 ?_ h4 h5
 rw[← ez];exact h3
def Ex(s:Spc)(i:Bool)(env:List (ByteArray×Int))(n:Nd)(a:Int):Prop:=Ty s env n a∧NoT i n∧(n.isR→1≤a∧a≤3)
set_option maxHeartbeats 2000000 in
theorem examine04(s:Spc)(hs:s.Fit)(hnm:∀ x∈s.sorts,x.name.size≤1048576)(n:Nd):n.WF→∀ (v:Vw) (l:List Vr),v.sp=s→(∀ x∈l,x.2.Ok)→l.length+n.sz≤5000000→∃ y,ExR (Ex s v.inside (l.map vty) n) y∧AFun Tryz.prog 168 [v.av,.slice 66 (l.map Vr.av),n.av] y:=by
 induction n using Nd.ind with
 | h n ih=>
  intro hw v l hv hl hsz
  rw[Nd.av_ex]
  have hkl:(n.kids.map Nd.av).length=n.kids.length:=List.length_map _
  have hfew:=WF_few hw
  have ht:=timed04 n.op
  obtain⟨tb,htb⟩:=tpred04 v.sp v.temp v.calls n.name
  have hso:∀ f∈v.sp.fields,SortsOk v.sp.sorts.length f.sorts:=by rw[hv];exact hs.fld
  have hn1:=hs.n1
  have hn2:=hs.n2
  have IH:∀ k∈n.kids,∀ (w:Vw) (l':List Vr),w.sp=s→(∀ x∈l',x.2.Ok)→l'.length+k.sz≤5000000→∃ y,ExR (Ex s w.inside (l'.map vty) k) y∧AFun Tryz.prog 168 [w.av,.slice 66 (l'.map Vr.av),k.av] y:=fun k hk=>ih k hk (((Nd.WF_iff n).1 hw).2 k hk)
  refine AFunE.intro hT Tryz.func168 rfl rfl (by simp) (ExR.any _) (AD.cut hT hmix 3 (fun _:Unit=>v.inside=true→timedOp n.op=false) (fun _=>[(1,.p (.slice 66 (l.map Vr.av))),(3,.loc 3 0),(5,.loc 5 0),(6,.loc 6 0),(7,.loc 7 0)]) (fun _=>[(3,.box 245 ((Vw.cs v).map .p)),(5,.box 35 ([eI n.op,eS n.name,eI n.n,.slice 5 (n.kids.map Nd.av),eI n.at_].map .p)),(6,.box 240 (zeroOf 240)),(7,.box 103 [.p (eI 0),.p (eI 0)])]) ?_ fun _ hti=>AD.cut hT hmix 15 (fun b:Bool=>(n.op≠1∧n.op≠47∧n.op≠15∧n.op≠45∧n.op≠46)∧b=(v.inside||decide (n.op=12∨n.op=13∨n.op=15))) (fun _=>[(1,.p (.slice 66 (l.map Vr.av))),(3,.loc 3 0),(5,.loc 5 0),(6,.loc 6 0),(7,.loc 7 0)]) (fun b=>[(3,.box 245 ((Vw.cs { v with inside:=b }).map .p)),(5,.box 35 ([eI n.op,eS n.name,eI n.n,.slice 5 (n.kids.map Nd.av),eI n.at_].map .p)),(6,.box 240 (zeroOf 240)),(7,.box 103 [.p (eI 0),.p (eI 0)])]) ?_ fun b ⟨hop,hb⟩=>AD.run hT hmix ?_)
  ·refine bgs (fun hi=>?_) (fun hi=>⟨(),fun h=>(by rw[hi] at h;cases h),.of⟩)
   refine .pure _ _ rfl ht ?_
   refine bgs (fun h1=>⟨by kernel_rfl,res_err (by decide) rfl rfl rfl rfl⟩) (fun h1=>?_)
   refine bgs (fun h2=>?_) (fun h2=>⟨(),fun _=>h1,.of⟩)
   refine .pure [v.sp.ex,.slice 1 (v.temp.map eB),eI v.calls,eS n.name] _ rfl htb ?_
   exact bgs (fun h3=>⟨by kernel_rfl,res_err (by decide) rfl rfl rfl rfl⟩) (fun h3=>⟨(),fun _=>h1,.of⟩)
  ·refine bgs (fun h1=>?_) (fun h1=>?_)
   ·have h1:n.op=1:=beq_iff_eq.1 h1
    obtain⟨y,⟨a,f,e,p,rfl,hf,ha⟩,hx⟩:=name04 v (by rw[hv];omega) (by rw[hv];omega) hso (by rw[hv];exact hnm) l hl n
    refine .pure [v.av,.slice 66 (l.map Vr.av),n.ex] _ rfl hx ?_
    refine bgo_true (by rw[Bool.and_eq_true,Bool.and_eq_true];exact⟨len_beq hf,rfl,rfl⟩) ?_
    refine res_two hf (fun he=>?_) rfl rfl rfl rfl
    obtain⟨t1,t2⟩:=ha he
    rw[hv] at t1
    exact⟨.name h1 t1,.mk hti (fun _ k hk=>(by rw[wf_0 hw (by omega)] at hk;cases hk)),fun _=>t2⟩
   refine bgs (fun h2=>?_) (fun h2=>?_)
   ·have h2:n.op=47:=beq_iff_eq.1 h2
    obtain⟨e,p,hx⟩:=call04 v l n (by rw[hv];exact fun p hp=>by have:=(hs.prd p hp).1.1;omega) (fun w hw2 k hk=>by
     obtain⟨y,⟨a,f,e,p,h1,h2,_⟩,hx⟩:=IH k hk w l (hw2.trans hv) hl (by have:=Nd.sz_kid hk;omega)
     exact⟨y,⟨a,f,e,p,h1,h2,fun _=>trivial⟩,hx⟩)
    refine .pure [v.av,.slice 66 (l.map Vr.av),n.ex] _ rfl hx ?_
    exact res_zero (fun _=>⟨.call h2,.mk hti (fun h=>absurd h2 h),fun h=>by unfold Nd.isR at h;omega⟩) rfl rfl rfl rfl
   refine bgs (fun h3=>?_) (fun h3=>?_)
   ·refine bgo_true h3 ?_
    have h3:n.op=15:=beq_iff_eq.1 h3
    obtain⟨k0,k1,hk,w0,w1⟩:=wf_ef hw (by omega)
    have hk0:n.kids[0]'(by rw[hk];simp)=k0:=by simp[hk]
    have hk1:n.kids[1]'(by rw[hk];simp)=k1:=by simp[hk]
    obtain⟨y,⟨a,f,e,p,rfl,hf,ha⟩,hx⟩:=binder04 v l hl (by omega) n (by rw[hk];rfl) (fun i=>Ex s i (l.map vty) k0) (fun i=>Ex s i (l.map vty++[(n.name,1)]) k1) (fun w hw2=>by
     rw[hk0]
     exact IH k0 (by rw[hk];simp) w l (hw2.trans hv) hl (by have:=Nd.sz_kid (n:=n) (k:=k0) (by rw[hk];simp);omega)) (fun w x hw2 hx hxt=>by
     rw[hk1]
     have:=IH k1 (by rw[hk];simp) w (l++[x]) (hw2.trans hv) (fun z hz=>by
      rcases List.mem_append.1 hz with hz | hz
      ·exact hl z hz
      ·obtain rfl:=List.mem_singleton.1 hz;exact hx) (by have:=Nd.sz_kid (n:=n) (k:=k1) (by rw[hk];simp);rw[List.length_append,List.length_singleton];omega)
     rw[List.map_append (f:=vty),List.map_singleton,hxt] at this
     exact this)
    refine .pure [v.av,.slice 66 (l.map Vr.av),n.ex] _ rfl hx ?_
    refine bgo_true (by rw[Bool.and_eq_true,Bool.and_eq_true];exact⟨len_beq hf,rfl,rfl⟩) ?_
    refine res_two hf (fun he=>?_) rfl rfl rfl rfl
    obtain⟨rfl,i,hi,q0,b,q1⟩:=ha he
    refine⟨.bind (by omega) hk q0.1 q1.1,.mk hti (fun _ k hkm=>?_),fun _=>by omega⟩
    rw[show(v.inside||decide (n.op=12∨n.op=13∨n.op=15))=i by rw[hi];congr 1;rw[decide_eq_decide];omega]
    rw[hk] at hkm
    rcases List.mem_cons.1 hkm with rfl | hkm
    ·exact q0.2.1
    ·obtain rfl:=List.mem_singleton.1 hkm;exact q1.2.1
   refine bgs (fun h4=>?_) (fun h4=>?_)
   ·refine bgo_true h4 ?_
    have h4:n.op=45:=beq_iff_eq.1 h4
    obtain⟨k0,k1,hk,w0,w1⟩:=wf_ef hw (by omega)
    have hk0:n.kids[0]'(by rw[hk];simp)=k0:=by simp[hk]
    have hk1:n.kids[1]'(by rw[hk];simp)=k1:=by simp[hk]
    obtain⟨y,⟨a,f,e,p,rfl,hf,ha⟩,hx⟩:=binder04 v l hl (by omega) n (by rw[hk];rfl) (fun i=>Ex s i (l.map vty) k0) (fun i=>Ex s i (l.map vty++[(n.name,1)]) k1) (fun w hw2=>by
     rw[hk0]
     exact IH k0 (by rw[hk];simp) w l (hw2.trans hv) hl (by have:=Nd.sz_kid (n:=n) (k:=k0) (by rw[hk];simp);omega)) (fun w x hw2 hx hxt=>by
     rw[hk1]
     have:=IH k1 (by rw[hk];simp) w (l++[x]) (hw2.trans hv) (fun z hz=>by
      rcases List.mem_append.1 hz with hz | hz
      ·exact hl z hz
      ·obtain rfl:=List.mem_singleton.1 hz;exact hx) (by have:=Nd.sz_kid (n:=n) (k:=k1) (by rw[hk];simp);rw[List.length_append,List.length_singleton];omega)
     rw[List.map_append (f:=vty),List.map_singleton,hxt] at this
     exact this)
    refine .pure [v.av,.slice 66 (l.map Vr.av),n.ex] _ rfl hx ?_
    refine bgo_true (by rw[Bool.and_eq_true,Bool.and_eq_true];exact⟨len_beq hf,rfl,rfl⟩) ?_
    refine res_two hf (fun he=>?_) rfl rfl rfl rfl
    obtain⟨rfl,i,hi,q0,b,q1⟩:=ha he
    refine⟨.bind (by omega) hk q0.1 q1.1,.mk hti (fun _ k hkm=>?_),fun _=>by omega⟩
    rw[show(v.inside||decide (n.op=12∨n.op=13∨n.op=15))=i by rw[hi];congr 1;rw[decide_eq_decide];omega]
    rw[hk] at hkm
    rcases List.mem_cons.1 hkm with rfl | hkm
    ·exact q0.2.1
    ·obtain rfl:=List.mem_singleton.1 hkm;exact q1.2.1
   refine bgs (fun h5=>?_) (fun h5=>?_)
   ·have h5:n.op=46:=beq_iff_eq.1 h5
    obtain⟨k0,k1,hk,w0,w1⟩:=wf_ef hw (by omega)
    have hk0:n.kids[0]'(by rw[hk];simp)=k0:=by simp[hk]
    have hk1:n.kids[1]'(by rw[hk];simp)=k1:=by simp[hk]
    obtain⟨y,⟨a,f,e,p,rfl,hf,ha⟩,hx⟩:=binder04 v l hl (by omega) n (by rw[hk];rfl) (fun i=>Ex s i (l.map vty) k0) (fun i=>Ex s i (l.map vty++[(n.name,1)]) k1) (fun w hw2=>by
     rw[hk0]
     exact IH k0 (by rw[hk];simp) w l (hw2.trans hv) hl (by have:=Nd.sz_kid (n:=n) (k:=k0) (by rw[hk];simp);omega)) (fun w x hw2 hx hxt=>by
     rw[hk1]
     have:=IH k1 (by rw[hk];simp) w (l++[x]) (hw2.trans hv) (fun z hz=>by
      rcases List.mem_append.1 hz with hz | hz
      ·exact hl z hz
      ·obtain rfl:=List.mem_singleton.1 hz;exact hx) (by have:=Nd.sz_kid (n:=n) (k:=k1) (by rw[hk];simp);rw[List.length_append,List.length_singleton];omega)
     rw[List.map_append (f:=vty),List.map_singleton,hxt] at this
     exact this)
    refine .pure [v.av,.slice 66 (l.map Vr.av),n.ex] _ rfl hx ?_
    refine bgo_true (by rw[Bool.and_eq_true,Bool.and_eq_true];exact⟨len_beq hf,rfl,rfl⟩) ?_
    refine res_two hf (fun he=>?_) rfl rfl rfl rfl
    obtain⟨rfl,i,hi,q0,b,q1⟩:=ha he
    refine⟨.bind (by omega) hk q0.1 q1.1,.mk hti (fun _ k hkm=>?_),fun _=>by omega⟩
    rw[show(v.inside||decide (n.op=12∨n.op=13∨n.op=15))=i by rw[hi];congr 1;rw[decide_eq_decide];omega]
    rw[hk] at hkm
    rcases List.mem_cons.1 hkm with rfl | hkm
    ·exact q0.2.1
    ·obtain rfl:=List.mem_singleton.1 hkm;exact q1.2.1
   simp only[beq_eq_false_iff_ne] at h1 h2 h3 h4 h5
   refine bgs (fun h6=>?_) (fun h6=>?_)
   ·refine bgo_true h6 ?_
    have h6:n.op=12:=beq_iff_eq.1 h6
    refine⟨true,⟨by omega,?_⟩,.of⟩
    simp[h6]
   refine bgs (fun h7=>?_) (fun h7=>?_)
   ·have h7:n.op=13:=beq_iff_eq.1 h7
    refine⟨true,⟨by omega,?_⟩,.of⟩
    simp[h7]
   simp only[beq_eq_false_iff_ne] at h6 h7
   refine⟨v.inside,⟨by omega,?_⟩,.of⟩
   simp[h6,h7,h3]
  ·refine AD.loopI (fun x:Nat×List Sx=>x.1≤n.kids.length∧x.2.length=x.1∧∀ (j:Nat) (h:j<x.2.length) (h':j<n.kids.length),x.2[j].2.length=64∧Ex s b (l.map vty) n.kids[j] x.2[j].1) (fun x=>n.kids.length - x.1) (fun x=>[(1,.p (.slice 66 (l.map Vr.av))),(3,.loc 3 0),(5,.loc 5 0),(6,.loc 6 0),(7,.loc 7 0),(8,.own 65 (x.2.map Sx.av) 98),(9,eint .i64 x.1)]) (fun x=>[(3,.box 245 ((Vw.cs { v with inside:=b }).map .p)),(5,.box 35 ([eI n.op,eS n.name,eI n.n,.slice 5 (n.kids.map Nd.av),eI n.at_].map .p)),(6,.box 240 (zeroOf 240)),(7,.box 103 [.p (eI 0),.p (eI 0)]),(98,.tail x.2.length)]) (0,[]) ⟨Nat.zero_le _,rfl,fun j h=>absurd h (Nat.not_lt_zero j)⟩ .of fun ⟨i,xs⟩ ⟨hi,hl1,hk⟩=>AD.run hT hmix ?_
   dsimp only at hi hl1 hk ⊢
   have hxl:(xs.map Sx.av).length=xs.length:=List.length_map _
   intro _
   refine bgs (fun hb2=>?_) (fun hb2=>?_)
   ·replace hb2:=odt hb2
    have hlt:i<n.kids.length:=by omega
    obtain⟨y,⟨a,f,e,p,rfl,hf,ha⟩,hx⟩:=IH _ (List.getElem_mem hlt) { v with inside:=b } l hv hl (by have:=Nd.sz_kid (List.getElem_mem hlt);omega)
    refine igo_map i rfl hlt ?_
    refine .pure [Vw.av { v with inside:=b },.slice 66 (l.map Vr.av),n.kids[i].av] _ rfl hx ?_
    refine bgo_true (by rw[Bool.and_eq_true,Bool.and_eq_true];exact⟨len_beq hf,rfl,rfl⟩) ?_
    generalize hy:setSeg _ _ ((setav a f).cells.map EV.p)=y
    obtain rfl:y=(setcs a f).map .p:=hy.symm.trans (setSeg_all (zeroOf 240) ((setcs a f).map EV.p) (by rw[setcs_len,hf];rfl))
    clear hy
    refine⟨by kernel_rfl,?_⟩
    refine bgs (fun hc=>⟨by kernel_rfl,res_err (by simpa using hc) rfl rfl rfl rfl⟩) (fun hc=>?_)
    have hc:e=0:=by simpa using hc
    refine bgo_true (Nat.ble_eq_true_of_le (by rw[setcs_len];show 0+65≤_;omega)) ?_
    generalize hz:List.take _ (List.drop _ ((setcs a f).map EV.p))=z
    obtain rfl:z=(setcs a f).map .p:=hz.symm.trans (take_setcs a f hf)
    clear hz
    refine ogo_of (partsP_set hf) ?_
    have e1:(xs++[(a,f)]).map Sx.av=xs.map Sx.av++[setav a f]:=by simp[Sx.av]
    refine bgo_true rfl ⟨hxl.symm,⟨by simp;omega,by simp;omega⟩,ngo_in (by omega) (by omega) ⟨(i+1,xs++[(a,f)]),⟨by dsimp only;omega,by simp;omega,fun j h h'=>?_⟩,by dsimp only;omega,?_⟩⟩
    ·dsimp only at h h' ⊢
     by_cases hj:j<xs.length
     ·simp only[List.getElem_append_left hj];exact hk j hj h'
     ·obtain rfl:j=i:=by simp at h;omega
      have e2:(xs++[(a,f)])[j]'h=(a,f):=by rw[List.getElem_append_right (by omega)];simp[hl1]
      rw[e2]
      exact⟨hf,ha hc⟩
    ·dsimp only
     rw[e1,show(xs++[(a,f)]).length=(xs.map Sx.av++[setav a f]).length by simp]
     exact .of
   ·replace hb2:=of_decide_eq_false hb2
    obtain rfl:i=n.kids.length:=by omega
    have hnum:=((Nd.WF_iff n).1 hw).1.2.1
    have g1:n.op=5∨n.op=11∨n.op=12∨n.op=13→∃ x:Sx,xs=[x]∧x.Ok:=fun ho=>by
     obtain⟨k0,hk0,w0,r0⟩:=wf_e hw (by omega)
     rw[hk0] at hl1
     match xs,hl1 with
     | [x],_=>
      obtain⟨q1,q2⟩:=hk 0 (by simp) (by rw[hk0];simp)
      exact⟨x,rfl,q2.2.2 (by simpa[hk0] using r0),q1⟩
    have g2:(6≤n.op∧n.op≤10)∨n.op=14∨n.op=32∨n.op=33→∃ x y:Sx,xs=[x,y]∧x.Ok∧y.Ok:=fun ho=>by
     obtain⟨k0,k1,hk0,⟨w0,r0⟩,w1,r1⟩:=wf_ee hw (by omega)
     rw[hk0] at hl1
     match xs,hl1 with
     | [x,y],_=>
      obtain⟨q1,q2⟩:=hk 0 (by simp) (by rw[hk0];simp)
      obtain⟨p1,p2⟩:=hk 1 (by simp) (by rw[hk0];simp)
      exact⟨x,y,rfl,⟨q2.2.2 (by simpa[hk0] using r0),q1⟩,p2.2.2 (by simpa[hk0] using r1),p1⟩
    obtain⟨y,⟨a,f,ok,rfl,hf,ha⟩,hx⟩:=apply04 v.sp (by rw[hv];omega) n xs hnum g1 g2 ⟨hop.1,hop.2.2.1⟩
    refine .pure [v.sp.ex,n.ex,.slice 65 (xs.map Sx.av)] _ rfl hx ?_
    refine bgo_true (by rw[Bool.and_eq_true,Bool.and_eq_true];exact⟨len_beq hf,rfl,rfl⟩) ?_
    generalize hy:setSeg _ _ ((setav a f).cells.map EV.p)=y
    obtain rfl:y=(setcs a f).map .p:=hy.symm.trans (setSeg_all (zeroOf 240) ((setcs a f).map EV.p) (by rw[setcs_len,hf];rfl))
    clear hy
    refine bgs (fun hc=>⟨by kernel_rfl,res_err (by decide) rfl rfl rfl rfl⟩) (fun hc=>?_)
    have hc:ok=true:=by simpa using hc
    refine bgo_true (Nat.ble_eq_true_of_le (by rw[setcs_len];show 0+65≤_;omega)) ?_
    generalize hz:List.take _ (List.drop _ ((setcs a f).map EV.p))=z
    obtain rfl:z=(setcs a f).map .p:=hz.symm.trans (take_setcs a f hf)
    clear hz
    refine bgo_true (by rw[Bool.and_eq_true,Bool.and_eq_true];exact⟨by rw[setcs_len,hf];rfl,rfl,rfl⟩) ?_
    refine res_two hf (fun _=>?_) rfl rfl rfl rfl
    obtain⟨a1,a2⟩:=ha hc
    refine⟨.app hop (xs.map (·.1)) (by rw[List.length_map];exact hl1) (fun j h h'=>?_) a1,.mk hti (fun _ k hkm=>?_),fun hR=>a2 hR.1 hR.2⟩
    ·rw[List.getElem_map];exact(hk j (by simpa using h') h).2.1
    ·obtain⟨j,h,rfl⟩:=List.getElem_of_mem hkm
     rw[← hb];exact(hk j (by omega) h).2.2.1
def mcs(s:Spc)(m:Mdl):List AV:=m.cs++s.cx++[eI m.n]
def mch(s:Spc)(m:Mdl):AV:=.ref (mcs s m)
def bdA(b:ByteArray×Int):AV:=.agg [eS b.1,eI b.2]
def plc(st:Int)(env:List (ByteArray×Int)):AV:=.agg [eI st,.slice 2 (env.map bdA)]
def CX(s:Spc)(m:Mdl)(k:Nd)(st:Int)(env:List (ByteArray×Int))(r:Rl):Prop:=AFun Tryz.prog 32 [mch s m,plc st env,k.ex] (.p r.av)
def CN(s:Spc)(m:Mdl)(k:Nd)(st:Int)(env:List (ByteArray×Int))(i:Int):Prop:=AFun Tryz.prog 80 [mch s m,plc st env,k.ex] (.p (eI i))
def CF(s:Spc)(m:Mdl)(k:Nd)(st:Int)(env:List (ByteArray×Int))(b:Bool):Prop:=AFun Tryz.prog 37 [mch s m,plc st env,k.ex] (.p (eB b))
theorem pairP{s:Spc}{m:Mdl}{n:Nd}{k0 k1:Nd}(hk:n.kids=[k0,k1]){st:Int}{env:List (ByteArray×Int)}{r0 r1:Rl}(h0:CX s m k0 st env r0)(h1:CX s m k1 st env r1)(e:r0.arity=r1.arity):
 AFun Tryz.prog 79 [mch s m,plc st env,n.ex] (.tup [.p r0.av,.p r1.av]):=by
 have hkm:n.kids.map Nd.av=[k0.ex,k1.ex]:=by rw[hk,Nd.av_ex];rfl
 refine AFun.of hT Tryz.func79 rfl rfl (by simp) ?_
 rw[show n.ex=.agg [eI n.op,eS n.name,eI n.n,.slice 5 [k0.ex,k1.ex],eI n.at_] by rw[Nd.ex,hkm]]
 refine AD.run hT hmix ?_
 refine⟨0,_,rfl,rfl,?_⟩
 refine .pure [mch s m,plc st env,k0.ex] _ rfl h0 ?_
 refine⟨1,_,rfl,rfl,?_⟩
 refine .pure [mch s m,plc st env,k1.ex] _ rfl h1 ?_
 refine⟨by kernel_rfl,bgo_false (by simp[e]) ⟨by kernel_rfl,_,_,rfl,rfl,rfl⟩⟩
def JP(n:Int):Prop:=∀ a b:Rl,a.Ok n→b.Ok n→1≤a.arity+b.arity - 2→a.arity+b.arity - 2≤3→AFun Tryz.prog 117 [eI n,a.av,b.av] (.tup [.p (rJoin n a b).av,.p (eI 0)])
theorem rInter_eq{n:Int}(hn0:0<n)(hn:n≤12){a b:Rl}(ha:a.Ok n):(⟨a.arity,a.tuples.filter fun x=>decide (x∈b.tuples)⟩:Rl)=rInter a b:=by
 rw[rInter,cl_eq (l:=a.tuples.filter fun x=>decide (x∈b.tuples)) (S:=fun x=>x∈a.tuples∧x∈b.tuples) (ha.up.filter _) fun x=>?_]
 rw[List.mem_filter,decide_eq_true_eq]
 exact⟨fun h=>⟨ok_rng hn0 hn ha h.1,h⟩,fun h=>h.2⟩
theorem rDiff_eq{n:Int}(hn0:0<n)(hn:n≤12){a b:Rl}(ha:a.Ok n):(⟨a.arity,a.tuples.filter fun x=>decide (x∉b.tuples)⟩:Rl)=rDiff a b:=by
 rw[rDiff,cl_eq (l:=a.tuples.filter fun x=>decide (x∉b.tuples)) (S:=fun x=>x∈a.tuples∧x∉b.tuples) (ha.up.filter _) fun x=>?_]
 rw[List.mem_filter,decide_eq_true_eq]
 exact⟨fun h=>⟨ok_rng hn0 hn ha h.1,h⟩,fun h=>h.2⟩
theorem checkedP(r:Rl):AFun Tryz.prog 116 [r.av,eI 0] (.p r.av):=
 AFun.of hT Tryz.func116 rfl rfl (by simp) (AD.run hT hmix ⟨_,_,rfl,rfl,rfl⟩)
abbrev MC(f:FuncId)(s:Spc)(m:Mdl)(st:Int)(env:List (ByteArray×Int))(n:Nd)(r:Rl):Prop:=AFun Tryz.prog f [mch s m,plc st env,n.ex] (.p r.av)
theorem unionM{s:Spc}{m:Mdl}{n:Nd}{k0 k1:Nd}{st:Int}{env:List (ByteArray×Int)}{r0 r1:Rl}(hn0:0<m.n)(hn:m.n≤12)(hk:n.kids=[k0,k1])(h0:CX s m k0 st env r0)(h1:CX s m k1 st env r1)(e:r0.arity=r1.arity)(ho0:r0.Ok m.n)(ho1:r1.Ok m.n):MC 62 s m st env n (rUnion r0 r1):=
 AFun.of hT Tryz.func62 rfl rfl (by simp) (AD.run hT hmix (.pure [mch s m,plc st env,n.ex] _ rfl (pairP hk h0 h1 e) (.pure [r0.av,r1.av] _ rfl (unionP hn0 hn ho0 ho1) ⟨_,_,rfl,rfl,rfl⟩)))
theorem ok_1e9{n:Int}(hn0:0<n)(hn:n≤12){a:Rl}(ha:a.Ok n):a.tuples.length≤1000000000:=by have:=ok_len hn0 hn ha;omega
theorem interQ{n:Int}(hn0:0<n)(hn:n≤12){a b:Rl}(ha:a.Ok n):AFun Tryz.prog 113 [a.av,b.av] (.p (rInter a b).av):=by
 rw[← rInter_eq hn0 hn ha];exact interP a b (ok_1e9 hn0 hn ha)
theorem diffQ{n:Int}(hn0:0<n)(hn:n≤12){a b:Rl}(ha:a.Ok n):AFun Tryz.prog 114 [a.av,b.av] (.p (rDiff a b).av):=by
 rw[← rDiff_eq hn0 hn ha];exact diffP a b (ok_1e9 hn0 hn ha)
theorem interM{s:Spc}{m:Mdl}{n:Nd}{k0 k1:Nd}{st:Int}{env:List (ByteArray×Int)}{r0 r1:Rl}(hn0:0<m.n)(hn:m.n≤12)(hk:n.kids=[k0,k1])(h0:CX s m k0 st env r0)(h1:CX s m k1 st env r1)(e:r0.arity=r1.arity)(ho0:r0.Ok m.n)(ho1:r1.Ok m.n):MC 63 s m st env n (rInter r0 r1):=
 AFun.of hT Tryz.func63 rfl rfl (by simp) (AD.run hT hmix (.pure [mch s m,plc st env,n.ex] _ rfl (pairP hk h0 h1 e) (.pure [r0.av,r1.av] _ rfl (interQ hn0 hn ho0) ⟨_,_,rfl,rfl,rfl⟩)))
theorem diffM{s:Spc}{m:Mdl}{n:Nd}{k0 k1:Nd}{st:Int}{env:List (ByteArray×Int)}{r0 r1:Rl}(hn0:0<m.n)(hn:m.n≤12)(hk:n.kids=[k0,k1])(h0:CX s m k0 st env r0)(h1:CX s m k1 st env r1)(e:r0.arity=r1.arity)(ho0:r0.Ok m.n)(ho1:r1.Ok m.n):MC 64 s m st env n (rDiff r0 r1):=
 AFun.of hT Tryz.func64 rfl rfl (by simp) (AD.run hT hmix (.pure [mch s m,plc st env,n.ex] _ rfl (pairP hk h0 h1 e) (.pure [r0.av,r1.av] _ rfl (diffQ hn0 hn ho0) ⟨_,_,rfl,rfl,rfl⟩)))
theorem overM{s:Spc}{m:Mdl}{n:Nd}{k0 k1:Nd}{st:Int}{env:List (ByteArray×Int)}{r0 r1:Rl}(hn0:0<m.n)(hn:m.n≤12)(hk:n.kids=[k0,k1])(h0:CX s m k0 st env r0)(h1:CX s m k1 st env r1)(e:r0.arity=r1.arity)(ho0:r0.Ok m.n)(ho1:r1.Ok m.n):MC 65 s m st env n (rOver m.n r0 r1):=
 AFun.of hT Tryz.func65 rfl rfl (by simp) (AD.run hT hmix (.pure [mch s m,plc st env,n.ex] _ rfl (pairP hk h0 h1 e) (.pure [eI m.n,r0.av,r1.av] _ rfl (overP hn0 hn ho0 ho1 e) ⟨by kernel_rfl,_,_,rfl,rfl,rfl⟩)))
theorem joinM{s:Spc}{m:Mdl}{n:Nd}{k0 k1:Nd}{st:Int}{env:List (ByteArray×Int)}{r0 r1:Rl}(hn0:0<m.n)(hn:m.n≤12)(hJ:JP m.n)(hk:n.kids=[k0,k1])(h0:CX s m k0 st env r0)(h1:CX s m k1 st env r1)(ho0:r0.Ok m.n)(ho1:r1.Ok m.n)(a1:1≤r0.arity+r1.arity - 2)(a3:r0.arity+r1.arity - 2≤3):MC 66 s m st env n (rJoin m.n r0 r1):=by
 have hkm:n.kids.map Nd.av=[k0.ex,k1.ex]:=by rw[hk,Nd.av_ex];rfl
 refine AFun.of hT Tryz.func66 rfl rfl (by simp) ?_
 rw[show n.ex=.agg [eI n.op,eS n.name,eI n.n,.slice 5 [k0.ex,k1.ex],eI n.at_] by rw[Nd.ex,hkm]]
 refine AD.run hT hmix ?_
 refine⟨0,_,rfl,rfl,.pure [mch s m,plc st env,k0.ex] _ rfl h0 ⟨1,_,rfl,rfl,.pure [mch s m,plc st env,k1.ex] _ rfl h1 ⟨by kernel_rfl,?_⟩⟩⟩
 exact .pure [eI m.n,r0.av,r1.av] _ rfl (hJ r0 r1 ho0 ho1 a1 a3) (.pure [(rJoin m.n r0 r1).av,eI 0] _ rfl (checkedP _) ⟨by kernel_rfl,_,_,rfl,rfl,rfl⟩)
theorem prodM{s:Spc}{m:Mdl}{n:Nd}{k0 k1:Nd}{st:Int}{env:List (ByteArray×Int)}{r0 r1:Rl}(hn0:0<m.n)(hn:m.n≤12)(hk:n.kids=[k0,k1])(h0:CX s m k0 st env r0)(h1:CX s m k1 st env r1)(ho0:r0.Ok m.n)(ho1:r1.Ok m.n)(a3:r0.arity+r1.arity≤3):MC 67 s m st env n (rProduct m.n r0 r1):=by
 have hkm:n.kids.map Nd.av=[k0.ex,k1.ex]:=by rw[hk,Nd.av_ex];rfl
 refine AFun.of hT Tryz.func67 rfl rfl (by simp) ?_
 rw[show n.ex=.agg [eI n.op,eS n.name,eI n.n,.slice 5 [k0.ex,k1.ex],eI n.at_] by rw[Nd.ex,hkm]]
 refine AD.run hT hmix ?_
 refine⟨0,_,rfl,rfl,.pure [mch s m,plc st env,k0.ex] _ rfl h0 ⟨1,_,rfl,rfl,.pure [mch s m,plc st env,k1.ex] _ rfl h1 ⟨by kernel_rfl,?_⟩⟩⟩
 exact .pure [eI m.n,r0.av,r1.av] _ rfl (prodP hn0 hn ho0 ho1 a3) (.pure [(rProduct m.n r0 r1).av,eI 0] _ rfl (checkedP _) ⟨by kernel_rfl,_,_,rfl,rfl,rfl⟩)
theorem binaryM{s:Spc}{m:Mdl}{n:Nd}{k0:Nd}{st:Int}{env:List (ByteArray×Int)}{r0:Rl}(hn0:0<m.n)(hn:m.n≤12)(hk:n.kids=[k0])(h0:CX s m k0 st env r0)(a2:r0.arity=2):MC 120 s m st env n r0:=by
 have hkm:n.kids.map Nd.av=[k0.ex]:=by rw[hk,Nd.av_ex];rfl
 refine AFun.of hT Tryz.func120 rfl rfl (by simp) ?_
 rw[show n.ex=.agg [eI n.op,eS n.name,eI n.n,.slice 5 [k0.ex],eI n.at_] by rw[Nd.ex,hkm]]
 refine AD.run hT hmix ?_
 refine⟨0,_,rfl,rfl,.pure [mch s m,plc st env,k0.ex] _ rfl h0 ⟨by kernel_rfl,bgo_false (by simp[a2]) ⟨_,_,rfl,rfl,rfl⟩⟩⟩
theorem transM{s:Spc}{m:Mdl}{n:Nd}{k0:Nd}{st:Int}{env:List (ByteArray×Int)}{r0:Rl}(hn0:0<m.n)(hn:m.n≤12)(hk:n.kids=[k0])(h0:CX s m k0 st env r0)(a2:r0.arity=2)(ho0:r0.Ok m.n):MC 68 s m st env n (rTrans m.n r0):=
 AFun.of hT Tryz.func68 rfl rfl (by simp) (AD.run hT hmix (.pure [mch s m,plc st env,n.ex] _ rfl (binaryM hn0 hn hk h0 a2) (.pure [eI m.n,r0.av] _ rfl (transP hn0 hn ho0 a2) ⟨by kernel_rfl,_,_,rfl,rfl,rfl⟩)))
theorem JP.two{n:Int}(hn0:0<n)(hn:n≤12)(h:JP n):∀ c,(⟨2,c⟩:Rl).Ok n→AFun Tryz.prog 117 [eI n,Rl.av ⟨2,c⟩,Rl.av ⟨2,c⟩] (.tup [.p (rJoin n ⟨2,c⟩ ⟨2,c⟩).av,.p (eI 0)]):=fun c hc=>h _ _ hc hc (by show(1:Int)≤2+2 - 2;omega) (by show(2:Int)+2 - 2≤3;omega)
theorem closM{s:Spc}{m:Mdl}{n:Nd}{k0:Nd}{st:Int}{env:List (ByteArray×Int)}{r0:Rl}(hn0:0<m.n)(hn:m.n≤12)(hJ:JP m.n)(hk:n.kids=[k0])(h0:CX s m k0 st env r0)(a2:r0.arity=2)(ho0:r0.Ok m.n):MC 69 s m st env n (rClos m.n r0):=
 AFun.of hT Tryz.func69 rfl rfl (by simp) (AD.run hT hmix (.pure [mch s m,plc st env,n.ex] _ rfl (binaryM hn0 hn hk h0 a2) (.pure [eI m.n,r0.av] _ rfl (closP hn0 hn (hJ.two hn0 hn) ho0 a2) ⟨by kernel_rfl,_,_,rfl,rfl,rfl⟩)))
theorem reflM{s:Spc}{m:Mdl}{n:Nd}{k0:Nd}{st:Int}{env:List (ByteArray×Int)}{r0:Rl}(hn0:0<m.n)(hn:m.n≤12)(hJ:JP m.n)(hk:n.kids=[k0])(h0:CX s m k0 st env r0)(a2:r0.arity=2)(ho0:r0.Ok m.n):MC 70 s m st env n (rUnion (rClos m.n r0) (rIden m.n)):=by
 obtain⟨N,hN⟩:∃ N:Nat,m.n=N:=⟨m.n.toNat,by omega⟩
 have hi:=idenP N (by omega)
 rw[← hN] at hi
 exact AFun.of hT Tryz.func70 rfl rfl (by simp) (AD.run hT hmix (.pure [mch s m,plc st env,n.ex] _ rfl (closM hn0 hn hJ hk h0 a2 ho0) (.pure [eI m.n] _ rfl hi (.pure [(rClos m.n r0).av,(rIden m.n).av] _ rfl (unionP hn0 hn (rClos_ok hn0 hn) (rIden_ok hn0 hn)) ⟨by kernel_rfl,_,_,rfl,rfl,rfl⟩))))
theorem primeM{s:Spc}{m:Mdl}{n:Nd}{k0:Nd}{st:Int}{env:List (ByteArray×Int)}{r0:Rl}(hn0:0<m.n)(hn:m.n≤12)(hst:0≤st∧st≤100)(hk:n.kids=[k0])(h0:CX s m k0 (nextSt m st) env r0):MC 71 s m st env n r0:=by
 have hkm:n.kids.map Nd.av=[k0.ex]:=by rw[hk,Nd.av_ex];rfl
 refine AFun.of hT Tryz.func71 rfl rfl (by simp) ?_
 rw[show n.ex=.agg [eI n.op,eS n.name,eI n.n,.slice 5 [k0.ex],eI n.at_] by rw[Nd.ex,hkm]]
 refine AD.run hT hmix ?_
 refine .pure [m.av,eI st] _ rfl (nextP m st hst) ⟨0,_,rfl,rfl,.pure [mch s m,plc (nextSt m st) env,k0.ex] _ rfl h0 ⟨by kernel_rfl,_,_,rfl,rfl,rfl⟩⟩
end Go.Ab
namespace Go.Ab
open Go Go.Proofs
open Go.Proofs.YtmllhjbnbhapoaaGreat (rowsOf keysOf addK)
set_option maxRecDepth 10000
def jits(n p:Int)(a b:List Int):List Int:=a.flatMap fun x=>(rowsOf p b (x % n)).map fun y=>x / n*p+y
def its(l:List Int):List (List AV):=l.map fun x=>[eI x]
theorem its_at{l:List Int}{j:Nat}{x:Int}(h:l[j]?=some x):(its l)[j]?=some [eI x]:=by simp[its,h]
theorem mgo_rows{l:List Int}{f:Int→AV}{a:Int}{A:AV×AV→Prop}{B:Prop}(hA:∀ v,v=f a→A (eI a,v))(hB:a∉l→B):List.rec (motive:=fun _=>Prop) B (fun x _ ih=>bgo (keyB x.1 (eI a)) (A x) ih) (l.map fun r=>(eI r,f r)):=by
 induction l with
 | nil=>exact hB (by simp)
 | cons x r ih=>
  show bgo (keyB (eI x) (eI a)) (A (eI x,f x)) _
  refine bgs (fun h=>?_) (fun h=>?_)
  ·obtain rfl:x=a:=odt h
   exact hA _ rfl
  ·have hx:¬ x=a:=of_decide_eq_false h
   exact ih fun h2=>hB fun hv=>by
    rcases List.mem_cons.1 hv with e | hv
    ·exact hx e.symm
    ·exact h2 hv
theorem mem_addK{l:List Int}{k x:Int}:x∈addK l k↔x∈l∨x=k:=by
 unfold addK
 split
 ·rename_i h;exact⟨.inl,fun h1=>h1.elim id fun e=>e▸h⟩
 ·simp
theorem mem_keysOf(p:Int)(b:List Int)(r:Int):r∈keysOf p b↔∃ y∈b,y / p=r:=by
 have:∀ (b l:List Int),r∈b.foldl (fun l y=>addK l (y / p)) l↔r∈l∨∃ y∈b,y / p=r:=by
  intro b
  induction b with
  | nil=>intro l;simp
  | cons y t ih=>
   intro l
   rw[List.foldl_cons,ih,mem_addK]
   constructor
   ·rintro ((h | h) | ⟨z,hz,e⟩)
    ·exact .inl h
    ·exact .inr ⟨y,List.mem_cons_self ..,h.symm⟩
    ·exact .inr ⟨z,List.mem_cons_of_mem _ hz,e⟩
   ·rintro (h | ⟨z,hz,e⟩)
    ·exact .inl (.inl h)
    ·rcases List.mem_cons.1 hz with rfl | hz
     ·exact .inl (.inr e.symm)
     ·exact .inr ⟨z,hz,e⟩
 rw[keysOf,this];simp
theorem rowsOf_nil{p:Int}{b:List Int}{r:Int}(h:r∉keysOf p b):rowsOf p b r=[]:=by
 unfold rowsOf
 rw[List.filter_eq_nil_iff.2 fun y hy hh=>h ((mem_keysOf p b r).2 ⟨y,hy,by simpa using hh⟩)];rfl
theorem jits_snoc{n p:Int}{a b:List Int}{i:Nat}(hi:i<a.length):jits n p (a.take (i+1)) b=jits n p (a.take i) b++(rowsOf p b (a[i] % n)).map fun y=>a[i] / n*p+y:=by
 rw[List.take_succ_eq_append_getElem hi,jits,List.flatMap_append,jits];simp
theorem jits_pre{n p:Int}{a b:List Int}{i:Nat}(hi:i≤a.length):∃ r,jits n p a b=jits n p (a.take i) b++r:=
 ⟨jits n p (a.drop i) b,by rw[jits,jits,jits,← List.flatMap_append,List.take_append_drop]⟩
theorem jits_at{n p:Int}{a b:List Int}{i k:Nat}(hi:i<a.length)(hk:k<(rowsOf p b (a[i] % n)).length):(jits n p a b)[(jits n p (a.take i) b).length+k]?=some (a[i] / n*p+(rowsOf p b (a[i] % n))[k]):=by
 obtain⟨r,hr⟩:=jits_pre (n:=n) (p:=p) (b:=b) (show i+1≤a.length from hi)
 rw[hr,jits_snoc hi,List.append_assoc,List.getElem?_append_right (by omega),Nat.add_sub_cancel_left,List.getElem?_append_left (by simpa using hk)]
 simp[hk]
theorem jits_le{n p:Int}{a b:List Int}{i:Nat}(hi:i≤a.length):(jits n p (a.take i) b).length≤(jits n p a b).length:=by
 obtain⟨r,hr⟩:=jits_pre (n:=n) (p:=p) (b:=b) hi
 rw[hr,List.length_append];omega
theorem jits_most(n p:Int)(a b:List Int):(jits n p a b).length≤a.length*b.length:=by
 induction a with
 | nil=>simp[jits]
 | cons x t ih=>
  have h1:=rowsOf_len' p b (x % n)
  have e:jits n p (x::t) b=(rowsOf p b (x % n)).map (fun y=>x / n*p+y)++jits n p t b:=by simp[jits]
  rw[e,List.length_append,List.length_map,List.length_cons,Nat.add_mul];omega
theorem mem_jits{n p:Int}{a b:List Int}{x:Int}:x∈jits n p a b↔∃ u∈a,∃ v∈b,u % n=v / p∧x=u / n*p+v % p:=by
 unfold jits rowsOf
 simp only[List.mem_flatMap,List.mem_map,List.mem_filter,beq_iff_eq]
 constructor
 ·rintro⟨u,hu,y,⟨v,⟨hv,e⟩,rfl⟩,rfl⟩;exact⟨u,hu,v,hv,e.symm,rfl⟩
 ·rintro⟨u,hu,v,hv,e,rfl⟩;exact⟨u,hu,_,⟨v,⟨hv,e.symm⟩,rfl⟩,rfl⟩
theorem matchIter(n p:Nat)(a:Rl)(b:List Int)(hn0:0<n)(hp0:0<p)(hp1:p≤1728)(hla:a.tuples.length≤20000)(hlb:b.length≤20000)(hra:∀ x∈a.tuples,0≤x∧x<2000)(hrb:∀ x∈b,0≤x∧x<2000):
 IterP Tryz.prog 231 [] [.ref a.cs,.ref [.mp (.int .i64) (rowsM p b)],.ref [eI n],.ref [eI p]] (its (jits n p a.tuples b)):=by
 obtain⟨ar,l⟩:=a
 dsimp only at hla hra
 have hl:(l.map eI).length=l.length:=List.length_map _
 have hil:(its (jits n p l b)).length=(jits n p l b).length:=by simp[its]
 refine IterP.of hT Tryz.func231 rfl rfl (by simp) fun q J stop fin h1 h2 h3 hy=>AD.run hT hmix ?_
 rw[hil] at h1 h2
 intro _
 obtain⟨c,hc⟩:∃ c:Nat→Nat,c=fun i=>(jits n p (l.take i) b).length:=⟨_,rfl⟩
 have hcs:∀ i,c i=(jits n p (l.take i) b).length:=fun i=>by rw[hc]
 have c0:c 0=0:=by rw[hcs];rfl
 have he0:J 0=J (c 0):=by rw[c0]
 rw[he0]
 refine AD.loopI (fun i:Nat=>i≤l.length∧c i≤stop∧(fin=false→c i<stop)) (fun i=>l.length - i) (fun i=>[(0,.p (yv q)),(2,.p (.ref [.mp (.int .i64) (rowsM p b)])),(3,.p (.ref [eI n])),(4,.p (.ref [eI p])),(11,.p (ints l)),(12,eint .i64 (l.map eI).length),(13,eint .i64 i)]) (fun i=>[(xk,.ext (J (c i)))]) 0 ⟨Nat.zero_le _,by rw[c0];exact Nat.zero_le _,fun h=>by rw[c0];exact h3 h⟩ .of fun i ⟨g1,g2,g3⟩=>?_
 obtain⟨row,hrow⟩:∃ row,rowsOf p b ((l[i]?.getD 0) % n)=row:=⟨_,rfl⟩
 have hrl:(row.map eI).length=row.length:=List.length_map _
 refine AD.cut hT hmix 4 (fun _:Unit=>i<l.length) (fun _=>[(0,.p (yv q)),(2,.p (.ref [.mp (.int .i64) (rowsM p b)])),(3,.p (.ref [eI n])),(4,.p (.ref [eI p])),(7,.p (eI (l[i]?.getD 0))),(11,.p (ints l)),(12,eint .i64 (l.map eI).length),(13,eint .i64 i),(21,.p (ints row)),(22,eint .i64 (row.map eI).length),(23,eint .i64 0)]) (fun _=>[(xk,.ext (J (c i)))]) ?_ fun _ hlt=>?_
 ·refine bgs (fun hb=>?_) (fun hb=>?_)
  ·replace hb:=odt hb
   have hlt:i<l.length:=by omega
   have hx:=hra _ (List.getElem_mem hlt)
   have hg:l[i]?.getD 0=l[i]:=by rw[List.getElem?_eq_getElem hlt];rfl
   rw[hg] at hrow ⊢
   refine igo_map i rfl hlt ⟨by omega,l[i] % n,Int.tmod_eq_emod_of_nonneg hx.1,?_⟩
   refine mgo_rows (fun v hv=>?_) (fun hk=>?_)
   ·rw[hrow] at hv
    subst hv
    intro _
    exact⟨by kernel_rfl,(),hlt,.of⟩
   ·obtain rfl:row=[]:=by rw[← hrow];exact rowsOf_nil hk
    intro _
    exact⟨by kernel_rfl,(),hlt,.of⟩
  ·replace hb:=of_decide_eq_false hb
   have hi:i=l.length:=by omega
   have e:c i=(jits n p l b).length:=by rw[hcs,hi,List.take_length]
   have:fin=true:=by
    cases fin with
    | true=>rfl
    | false=>have:=g3 rfl;omega
   have:=h2 this
   rw[show c i=stop by omega]
   exact⟨[],[],_,rfl,.of,rfl,rfl,rfl⟩
 ·have hg:l[i]?.getD 0=l[i]:=by rw[List.getElem?_eq_getElem hlt];rfl
  have hx:=hra _ (List.getElem_mem hlt)
  rw[hg] at hrow ⊢
  have hc1:c (i+1)=c i+row.length:=by rw[hcs,hcs,jits_snoc hlt,List.length_append,List.length_map,hrow]
  have hc2:c (i+1)≤(jits n p l b).length:=by rw[hcs];exact jits_le hlt
  have hxn:=Int.ediv_nonneg hx.1 (show 0≤(n:Int) by omega)
  have hxl:=Int.ediv_le_self (n:Int) hx.1
  have q0:0≤l[i] / (n:Int)*(p:Int):=Int.mul_nonneg hxn (by omega)
  have q1:l[i] / (n:Int)*(p:Int)≤2000*1728:=Int.mul_le_mul (by omega) (by omega) (by omega) (by omega)
  have hr2:row.length≤20000:=by rw[← hrow];exact Nat.le_trans (rowsOf_len' ..) hlb
  refine AD.run hT hmix ?_
  refine AD.loopI (fun k:Nat=>k≤row.length∧c i+k≤stop∧(fin=false→c i+k<stop)) (fun k=>row.length - k) (fun k=>[(0,.p (yv q)),(2,.p (.ref [.mp (.int .i64) (rowsM p b)])),(3,.p (.ref [eI n])),(4,.p (.ref [eI p])),(7,.p (eI l[i])),(11,.p (ints l)),(12,eint .i64 (l.map eI).length),(13,eint .i64 i),(21,.p (ints row)),(22,eint .i64 (row.map eI).length),(23,eint .i64 k)]) (fun k=>[(xk,.ext (J (c i+k)))]) 0 ⟨Nat.zero_le _,g2,g3⟩ .of fun k ⟨f1,f2,f3⟩=>AD.run hT hmix ?_
  refine bgs (fun hb=>?_) (fun hb=>?_)
  ·replace hb:=odt hb
   have hk:k<row.length:=by omega
   have hks:c i+k<stop:=by
    cases fin with
    | true=>have:=h2 rfl;omega
    | false=>exact f3 rfl
   have hyr:0≤row[k]∧row[k]<2000:=by
    have hm:row[k]∈rowsOf p b (l[i] % n):=by rw[hrow];exact List.getElem_mem hk
    unfold rowsOf at hm
    obtain⟨z,hz,e⟩:=List.mem_map.1 hm
    have:=hrb z (List.mem_filter.1 hz).1
    have h5:=Int.emod_nonneg z (show(p:Int)≠0 by omega)
    have h6:=Int.emod_lt_of_pos z (show(0:Int)<p by omega)
    omega
   have hat:(jits n p l b)[c i+k]?=some (l[i] / n*p+row[k]):=by
    subst hrow
    rw[hcs];exact jits_at hlt hk
   have hyi:=hy (c i+k) _ hks (its_at hat)
   refine igo_map k rfl hk ⟨by omega,l[i] / n,by rw[Int.tdiv_eq_ediv_of_nonneg hx.1];exact wrap64_in (by omega) (by omega),ngo_in (by omega) (by omega) (ngo_in (by omega) (by omega) (.mk xk (J (c i+k)) (J (c i+k+1)) _ _ rfl rfl hyi ?_))⟩
   cases hB:fin||Nat.blt (c i+k+1) stop with
   | true=>
    refine⟨by kernel_rfl,ngo_in (by omega) (by omega) ⟨k+1,⟨by omega,by omega,fun hf=>?_⟩,by omega,.of⟩⟩
    rw[hf] at hB
    exact Nat.le_of_ble_eq_true hB
   | false=>
    rw[Bool.or_eq_false_iff] at hB
    have:¬ (c i+k+1<stop):=fun h=>by rw[show Nat.blt (c i+k+1) stop=true from Nat.ble_eq_true_of_le h] at hB;cases hB.2
    obtain rfl:c i+k+1=stop:=by omega
    exact⟨by kernel_rfl,[],[],_,rfl,.of,rfl,rfl,rfl⟩
  ·replace hb:=of_decide_eq_false hb
   obtain rfl:k=row.length:=by omega
   refine AD.run hT hmix (ngo_in (by omega) (by omega) ⟨i+1,⟨by omega,by omega,fun hf=>by have:=f3 hf;omega⟩,by omega,?_⟩)
   rw[hc1]
   exact .of
end Go.Ab
namespace Go.Ab
open Go Go.Proofs
set_option maxRecDepth 10000
theorem indexI(l:List Int)(v:Int):∃ r:Int,(0≤r↔v∈l)∧AFun Tryz.prog 197 [ints l,eI v] (.p (eI r)):=by
 suffices hh:∃ y,(∃ r:Int,(0≤r↔v∈l)∧y=.p (eI r))∧AFun Tryz.prog 197 [ints l,eI v] y by
  obtain⟨y,⟨r,h,rfl⟩,hf⟩:=hh
  exact⟨r,h,hf⟩
 have ha:(l.map eI).length=l.length:=List.length_map _
 refine AFunE.intro hT Tryz.func197 rfl rfl (by simp) ⟨_,if v∈l then 0 else -1,by split <;> simp[*],rfl⟩ (AD.run hT hmix ?_)
 intro h1
 refine AD.loopI (fun i:Nat=>i≤l.length∧v∉l.take i) (fun i=>l.length - i) (fun i=>[(0,.p (ints l)),(1,.p (eI v)),(7,eint .i64 (l.map eI).length),(8,eint .i64 i)]) (fun _=>[]) 0 ⟨Nat.zero_le _,by simp⟩ .of fun i ⟨g1,g2⟩=>AD.run hT hmix ?_
 refine bgs (fun h2=>?_) (fun h2=>?_)
 ·replace h2:=odt h2
  have hlt:i<l.length:=by omega
  refine igo_map i rfl hlt ?_
  refine bgs (fun h3=>?_) (fun h3=>?_)
  ·have h3:v=l[i]:=by simpa using h3
   exact⟨_,_,rfl,rfl,(i:Int),⟨fun _=>h3▸List.getElem_mem hlt,fun _=>by omega⟩,rfl⟩
  ·have h3:v≠l[i]:=by simpa using h3
   refine ngo_in (by omega) (by omega) ⟨i+1,⟨by omega,?_⟩,by omega,.of⟩
   rw[List.take_succ_eq_append_getElem hlt,List.mem_append,List.mem_singleton]
   exact fun h=>h.elim g2 h3
 ·replace h2:=of_decide_eq_false h2
  obtain rfl:i=l.length:=by omega
  rw[List.take_length] at g2
  exact⟨_,_,rfl,rfl,-1,⟨fun h=>by omega,fun h=>absurd h g2⟩,rfl⟩
theorem containsI(l:List Int)(v:Int):AFun Tryz.prog 140 [ints l,eI v] (.p (eB (decide (v∈l)))):=by
 obtain⟨r,hr,hf⟩:=indexI l v
 refine AFun.of hT Tryz.func140 rfl rfl (by simp) (AD.run hT hmix (.pure [ints l,eI v] _ rfl hf ⟨_,_,rfl,rfl,?_⟩))
 rw[show decide (v∈l)=decide (r≥0) from by rw[decide_eq_decide];exact hr.symm];rfl
abbrev bools(l:List Bool):AV:=.slice 1 (l.map eB)
theorem indexB(l:List Bool)(v:Bool):∃ r:Int,(0≤r↔v∈l)∧AFun Tryz.prog 139 [bools l,eB v] (.p (eI r)):=by
 suffices hh:∃ y,(∃ r:Int,(0≤r↔v∈l)∧y=.p (eI r))∧AFun Tryz.prog 139 [bools l,eB v] y by
  obtain⟨y,⟨r,h,rfl⟩,hf⟩:=hh
  exact⟨r,h,hf⟩
 have ha:(l.map eB).length=l.length:=List.length_map _
 refine AFunE.intro hT Tryz.func139 rfl rfl (by simp) ⟨_,if v∈l then 0 else -1,by split <;> simp[*],rfl⟩ (AD.run hT hmix ?_)
 intro h1
 refine AD.loopI (fun i:Nat=>i≤l.length∧v∉l.take i) (fun i=>l.length - i) (fun i=>[(0,.p (bools l)),(1,.p (eB v)),(7,eint .i64 (l.map eB).length),(8,eint .i64 i)]) (fun _=>[]) 0 ⟨Nat.zero_le _,by simp⟩ .of fun i ⟨g1,g2⟩=>AD.run hT hmix ?_
 refine bgs (fun h2=>?_) (fun h2=>?_)
 ·replace h2:=odt h2
  have hlt:i<l.length:=by omega
  refine igo_map i rfl hlt ?_
  refine bgs (fun h3=>?_) (fun h3=>?_)
  ·have h3:v=l[i]:=by simpa using h3
   exact⟨_,_,rfl,rfl,(i:Int),⟨fun _=>h3▸List.getElem_mem hlt,fun _=>by omega⟩,rfl⟩
  ·have h3:v≠l[i]:=by simpa using h3
   refine ngo_in (by omega) (by omega) ⟨i+1,⟨by omega,?_⟩,by omega,.of⟩
   rw[List.take_succ_eq_append_getElem hlt,List.mem_append,List.mem_singleton]
   exact fun h=>h.elim g2 h3
 ·replace h2:=of_decide_eq_false h2
  obtain rfl:i=l.length:=by omega
  rw[List.take_length] at g2
  exact⟨_,_,rfl,rfl,-1,⟨fun h=>by omega,fun h=>absurd h g2⟩,rfl⟩
theorem containsB(l:List Bool)(v:Bool):AFun Tryz.prog 82 [bools l,eB v] (.p (eB (decide (v∈l)))):=by
 obtain⟨r,hr,hf⟩:=indexB l v
 refine AFun.of hT Tryz.func82 rfl rfl (by simp) (AD.run hT hmix (.pure [bools l,eB v] _ rfl hf ⟨_,_,rfl,rfl,?_⟩))
 rw[show decide (v∈l)=decide (r≥0) from by rw[decide_eq_decide];exact hr.symm];rfl
theorem numLit{s:Spc}{m:Mdl}{n:Nd}(ho:n.op=20)(st:Int)(env:List (ByteArray×Int)):CN s m n st env n.n:=by
 refine AFun.of hT Tryz.func80 rfl rfl (by simp) ?_
 rw[show n.ex=.agg [eI 20,eS n.name,eI n.n,.slice 5 (n.kids.map Nd.av),eI n.at_] by rw[Nd.ex,ho]]
 exact AD.run hT hmix ⟨_,_,rfl,rfl,rfl⟩
theorem numCard{s:Spc}{m:Mdl}{n k0:Nd}(ho:n.op=21)(hk:n.kids=[k0]){st:Int}{env:List (ByteArray×Int)}{r0:Rl}(h0:CX s m k0 st env r0):CN s m n st env r0.tuples.length:=by
 have hkm:n.kids.map Nd.av=[k0.ex]:=by rw[hk,Nd.av_ex];rfl
 refine AFun.of hT Tryz.func80 rfl rfl (by simp) ?_
 rw[show n.ex=.agg [eI 21,eS n.name,eI n.n,.slice 5 [k0.ex],eI n.at_] by rw[Nd.ex,ho,hkm]]
 refine AD.run hT hmix ?_
 refine⟨0,_,rfl,rfl,.pure [mch s m,plc st env,k0.ex] _ rfl h0 ?_⟩
 intro _
 exact⟨by kernel_rfl,_,_,rfl,rfl,(by rw[show r0.tuples.length=(r0.tuples.map eI).length from (List.length_map _).symm];rfl)⟩
theorem numAdd{s:Spc}{m:Mdl}{n k0 k1:Nd}(ho:n.op=22)(hk:n.kids=[k0,k1]){st:Int}{env:List (ByteArray×Int)}{i0 i1:Int}(h0:CN s m k0 st env i0)(h1:CN s m k1 st env i1):CN s m n st env (IntKind.i64.wrap (i0+i1)):=by
 have hkm:n.kids.map Nd.av=[k0.ex,k1.ex]:=by rw[hk,Nd.av_ex];rfl
 refine AFun.of hT Tryz.func80 rfl rfl (by simp) ?_
 rw[show n.ex=.agg [eI 22,eS n.name,eI n.n,.slice 5 [k0.ex,k1.ex],eI n.at_] by rw[Nd.ex,ho,hkm]]
 refine AD.run hT hmix ?_
 exact⟨0,_,rfl,rfl,.pure [mch s m,plc st env,k0.ex] _ rfl h0 ⟨1,_,rfl,rfl,.pure [mch s m,plc st env,k1.ex] _ rfl h1 ⟨_,rfl,⟨by kernel_rfl,_,_,rfl,rfl,rfl⟩⟩⟩⟩
theorem numSub{s:Spc}{m:Mdl}{n k0 k1:Nd}(ho:n.op=23)(hk:n.kids=[k0,k1]){st:Int}{env:List (ByteArray×Int)}{i0 i1:Int}(h0:CN s m k0 st env i0)(h1:CN s m k1 st env i1):CN s m n st env (IntKind.i64.wrap (i0 - i1)):=by
 have hkm:n.kids.map Nd.av=[k0.ex,k1.ex]:=by rw[hk,Nd.av_ex];rfl
 refine AFun.of hT Tryz.func80 rfl rfl (by simp) ?_
 rw[show n.ex=.agg [eI 23,eS n.name,eI n.n,.slice 5 [k0.ex,k1.ex],eI n.at_] by rw[Nd.ex,ho,hkm]]
 refine AD.run hT hmix ?_
 exact⟨0,_,rfl,rfl,.pure [mch s m,plc st env,k0.ex] _ rfl h0 ⟨1,_,rfl,rfl,.pure [mch s m,plc st env,k1.ex] _ rfl h1 ⟨_,rfl,⟨by kernel_rfl,_,_,rfl,rfl,rfl⟩⟩⟩⟩
theorem nodup_len:∀ (n:Nat) (l:List Int),l.Nodup→(∀ x∈l,0≤x∧x<n)→l.length≤n
 | 0,l,_,h=>by
  cases l with
  | nil=>exact Nat.zero_le _
  | cons x l=>have:=h x (List.mem_cons_self ..);omega
 | n+1,l,hn,h=>by
  by_cases hm:(n:Int)∈l
  ·have:=nodup_len n (l.erase n) (hn.erase _) fun x hx=>by
    have h1:=(hn.mem_erase_iff).1 hx
    have h2:=h x h1.2
    omega
   rw[List.length_erase_of_mem hm] at this
   omega
  ·have:=nodup_len n l hn fun x hx=>by
    have h2:=h x hx
    have:x≠n:=fun e=>hm (e▸hx)
    omega
   omega
theorem pathP{s:Spc}{m:Mdl}(hm:MOk s m)(hl:m.states.length≤100){st:Int}(hst:0≤st∧st<m.states.length):AFun Tryz.prog 84 [mch s m,eI st] (.p (ints (pathOf m st))):=by
 refine AFun.of hT Tryz.func84 rfl rfl (by simp) (AD.run hT hmix ?_)
 refine AD.loopI (fun x:Nat×Int×List Int=>(0≤x.2.1∧x.2.1<m.states.length)∧x.2.2.Nodup∧(∀ y∈x.2.2,0≤y∧y<m.states.length)∧x.1+x.2.2.length=m.states.length+2∧pathGo m x.1 x.2.1 x.2.2=pathOf m st) (fun x=>x.1) (fun x=>[(0,.p (mch s m)),(5,.own 1 (x.2.2.map eI) 5),(6,.p (eI x.2.1))]) (fun x=>[(5,.tail (x.2.2.map eI).length)]) (m.states.length+2,st,[]) ⟨hst,List.nodup_nil,by simp,by simp,rfl⟩ .of fun ⟨k,t,out⟩ ⟨g1,g2,g3,g4,g5⟩=>AD.run hT hmix ?_
 dsimp only at g1 g2 g3 g4 g5 ⊢
 have hlen:=nodup_len _ _ g2 g3
 refine .pure [ints out,eI t] _ rfl (containsI out t) ?_
 obtain⟨k,rfl⟩:∃ k',k=k'+1:=⟨k - 1,by omega⟩
 rw[pathGo] at g5
 refine bgs (fun h=>?_) (fun h=>?_)
 ·have h:t∉out:=by simpa using h
  rw[if_neg h] at g5
  refine⟨rfl,⟨by simp;omega,by simp;omega⟩,.pure [m.av,eI t] _ rfl (nextP m t ⟨g1.1,by omega⟩) ⟨(k,nextSt m t,out++[t]),⟨nextSt_ok hm g1.1 g1.2,?_,?_,by dsimp only;simp;omega,g5⟩,by dsimp only;omega,?_⟩⟩
  ·exact List.pairwise_append.2 ⟨g2,List.pairwise_singleton _ _,fun x hx y hy=>by rw[List.mem_singleton.1 hy];rintro rfl;exact h hx⟩
  ·intro y hy
   rcases List.mem_append.1 hy with hy | hy
   ·exact g3 y hy
   ·rw[List.mem_singleton.1 hy];exact g1
  ·dsimp only
   rw[List.map_append]
   exact .of
 ·have h:t∈out:=by simpa using h
  rw[if_pos h] at g5
  exact⟨_,_,rfl,rfl,by rw[← g5];rfl⟩
theorem alongP{s:Spc}{m:Mdl}{k0:Nd}{env:List (ByteArray×Int)}(l:List Int)(hl:l.length≤1000)(b:Int→Bool)(st:Int)(h0:∀ t∈l,CF s m k0 t env (b t)):AFun Tryz.prog 83 [mch s m,ints l,plc st env,k0.ex] (.p (bools (l.map b))):=by
 have ha:(l.map eI).length=l.length:=List.length_map _
 refine AFun.of hT Tryz.func83 rfl rfl (by simp) (AD.run hT hmix ?_)
 intro h1
 refine AD.loopI (fun x:Nat×List AV=>x.1≤l.length∧x.2=((l.take x.1).map b).map eB) (fun x=>l.length - x.1) (fun x=>[(0,.p (mch s m)),(6,.loc 6 0),(7,.loc 7 0),(9,.own 1 x.2 9),(12,.p (ints l)),(13,eint .i64 (l.map eI).length),(14,eint .i64 x.1)]) (fun x=>[(6,.box 90 ([eI st,.slice 2 (env.map bdA)].map .p)),(7,.box 35 ([eI k0.op,eS k0.name,eI k0.n,.slice 5 (k0.kids.map Nd.av),eI k0.at_].map .p)),(9,.tail x.2.length)]) (0,[]) ⟨Nat.zero_le _,rfl⟩ .of fun ⟨i,es⟩ ⟨g1,g2⟩=>AD.run hT hmix ?_
 dsimp only at g1 g2 ⊢
 have hes:es.length=i:=by rw[g2];simp;omega
 refine bgs (fun h2=>?_) (fun h2=>?_)
 ·replace h2:=odt h2
  have hlt:i<l.length:=by omega
  refine igo_map i rfl hlt (.pure [mch s m,plc l[i] env,k0.ex] _ rfl (h0 _ (List.getElem_mem hlt)) ⟨rfl,⟨by simp;omega,by simp;omega⟩,ngo_in (by omega) (by omega) ⟨(i+1,es++[eB (b l[i])]),⟨by dsimp only;omega,?_⟩,by dsimp only;omega,.of⟩⟩)
  dsimp only
  rw[List.take_succ_eq_append_getElem hlt,List.map_append,List.map_append,g2];rfl
 ·replace h2:=of_decide_eq_false h2
  obtain rfl:i=l.length:=by omega
  rw[List.take_length] at g2
  exact⟨_,_,rfl,rfl,by rw[g2];rfl⟩
theorem untilGo_cons(f g:Int→Bool)(t:Int)(r:List Int)(d e:Bool):untilGo f g (t::r) d e=untilGo f g r (d||(g t&&!e)) (e||!f t):=rfl
theorem untilP{s:Spc}{m:Mdl}(hm:MOk s m)(hl:m.states.length≤100){n k0 k1:Nd}(hk:n.kids=[k0,k1]){st:Int}(hst:0≤st∧st<m.states.length){env:List (ByteArray×Int)}(f g:Int→Bool)(h0:∀ t:Int,0≤t∧t<(m.states.length:Int)→CF s m k0 t env (f t))(h1:∀ t:Int,0≤t∧t<(m.states.length:Int)→CF s m k1 t env (g t)):
 AFun Tryz.prog 86 [mch s m,plc st env,n.ex] (.p (eB (untilGo f g (pathOf m st) false false))):=by
 have hkm:n.kids.map Nd.av=[k0.ex,k1.ex]:=by rw[hk,Nd.av_ex];rfl
 have hpr:=pathOf_ok hm hst.1 hst.2
 have hpp:=pathP hm hl hst
 obtain⟨l,hll⟩:∃ l,pathOf m st=l:=⟨_,rfl⟩
 rw[hll] at hpr hpp ⊢
 have ha:(l.map eI).length=l.length:=List.length_map _
 refine AFun.of hT Tryz.func86 rfl rfl (by simp) ?_
 rw[show n.ex=.agg [eI n.op,eS n.name,eI n.n,.slice 5 [k0.ex,k1.ex],eI n.at_] by rw[Nd.ex,hkm]]
 refine AD.run hT hmix (.pure [mch s m,eI st] _ rfl hpp ?_)
 intro h2
 refine AD.loopI (fun x:Nat×Bool×Bool=>x.1≤l.length∧untilGo f g (l.drop x.1) x.2.1 x.2.2=untilGo f g l false false) (fun x=>l.length - x.1) (fun x=>[(0,.p (mch s m)),(4,.loc 4 0),(5,.loc 5 0),(7,.p (eB x.2.1)),(8,.p (eB x.2.2)),(17,.p (ints l)),(18,eint .i64 (l.map eI).length),(19,eint .i64 x.1)]) (fun _=>[(4,.box 90 ([eI st,.slice 2 (env.map bdA)].map .p)),(5,.box 35 ([eI n.op,eS n.name,eI n.n,.slice 5 [k0.ex,k1.ex],eI n.at_].map .p))]) (0,false,false) ⟨Nat.zero_le _,rfl⟩ .of fun ⟨i,d,e⟩ ⟨g1,g2⟩=>AD.run hT hmix ?_
 dsimp only at g1 g2 ⊢
 refine bgs (fun h3=>?_) (fun h3=>?_)
 ·replace h3:=odt h3
  have hlt:i<l.length:=by omega
  have hr:=hpr _ (List.getElem_mem hlt)
  rw[List.drop_eq_getElem_cons hlt,untilGo_cons] at g2
  refine igo_map i rfl hlt ?_
  refine⟨0,_,rfl,rfl,.pure [mch s m,plc l[i] env,k0.ex] _ rfl (h0 _ hr) ⟨1,_,rfl,rfl,.pure [mch s m,plc l[i] env,k1.ex] _ rfl (h1 _ hr) ⟨by kernel_rfl,?_⟩⟩⟩
  generalize f l[i]=x at g2 ⊢
  generalize g l[i]=y at g2 ⊢
  cases d <;> cases e <;> cases x <;> cases y <;> exact ngo_in (by omega) (by omega) ⟨(i+1,_,_),⟨by dsimp only;omega,g2⟩,by dsimp only;omega,.of⟩
 ·replace h3:=of_decide_eq_false h3
  obtain rfl:i=l.length:=by omega
  rw[List.drop_length] at g2
  exact⟨_,_,rfl,rfl,by rw[← g2];rfl⟩
theorem clipO(es:List AV)(hl:es.length≤10000000):AFunO Tryz.prog 137 [.slice 2 es] 2 es:=by
 suffices hh:∃ rs,rs=es∧AFunO Tryz.prog 137 [.slice 2 es] 2 rs by
  obtain⟨rs,rfl,h⟩:=hh
  exact h
 refine AFunOE.intro hT Tryz.func137 rfl rfl (by simp) ⟨_,rfl⟩ (AD.run hT hmix ?_)
 intro h1 h2
 refine⟨0,es.length,rfl,rfl,Nat.zero_le _,Nat.le_refl _,rfl,by decide,_,_,rfl,.inl rfl,?_⟩
 rw[List.drop_zero,Nat.sub_zero,List.take_length]
def insts(l:List Int)(q:Int→Bool):List (List AV):=l.map fun x=>[eI x,eB (q x)]
theorem insts_at(l:List Int)(q:Int→Bool){i:Nat}(hi:i<l.length):(insts l q)[i]?=some [eI l[i],eB (q l[i])]:=by simp[insts,hi]
theorem instIter(a:Int)(l:List Int)(q:Int→Bool)(hm:l.length≤1000000):IterP Tryz.prog 138 [] [.ref [eI a,ints l],.ref [bools (l.map q)]] (insts l q):=by
 have hl:(l.map eI).length=l.length:=List.length_map _
 have hl2:((l.map q).map eB).length=l.length:=by simp
 have hil:(insts l q).length=l.length:=by simp[insts]
 refine IterP.of hT Tryz.func138 rfl rfl (by simp) fun p J stop fin h1 h2 h3 hy=>AD.run hT hmix ?_
 rw[hil] at h1 h2
 intro _
 refine AD.loopI (fun i:Nat=>i≤stop∧(fin=false→i<stop)) (fun i=>l.length - i) (fun i=>[(0,.p (yv p)),(2,.p (.ref [bools (l.map q)])),(7,.p (ints l)),(8,eint .i64 (l.map eI).length),(9,eint .i64 i)]) (fun i=>[(xk,.ext (J i))]) 0 ⟨Nat.zero_le _,h3⟩ .of fun i ⟨g1,g2⟩=>AD.run hT hmix ?_
 refine bgs (fun hb=>?_) (fun hb=>?_)
 ·replace hb:=odt hb
  have hi:i<l.length:=by omega
  have his:i<stop:=by
   cases fin with
   | true=>have:=h2 rfl;omega
   | false=>exact g2 rfl
  have hyi:=hy i _ his (insts_at l q hi)
  refine igo_map i rfl hi ⟨i,eB (q l[i]),rfl,by simp[hi],.mk xk (J i) (J (i+1)) _ _ rfl rfl hyi ?_⟩
  cases hB:fin||Nat.blt (i+1) stop with
  | true=>
   refine ngo_in (by omega) (by omega) ⟨i+1,⟨by omega,fun hf=>?_⟩,by omega,.of⟩
   rw[hf] at hB
   exact Nat.le_of_ble_eq_true hB
  | false=>
   rw[Bool.or_eq_false_iff] at hB
   have:¬ (i+1<stop):=fun h=>by rw[show Nat.blt (i+1) stop=true from Nat.ble_eq_true_of_le h] at hB;cases hB.2
   obtain rfl:i+1=stop:=by omega
   exact⟨[],[],_,rfl,.of,rfl,rfl,rfl⟩
 ·replace hb:=of_decide_eq_false hb
  have hi:i=l.length:=by omega
  have:fin=true:=by
   cases fin with
   | true=>rfl
   | false=>have:=g2 rfl;omega
  have:=h2 this
  obtain rfl:i=stop:=by omega
  exact⟨[],[],_,rfl,.of,rfl,rfl,rfl⟩
theorem instP{s:Spc}{m:Mdl}{n k0 k1:Nd}(hk:n.kids=[k0,k1]){st:Int}{env:List (ByteArray×Int)}(henv:env.length≤5000000){r0:Rl}(hlen:r0.tuples.length≤2000)(h0:CX s m k0 st env r0)(a1:r0.arity=1)(q:Int→Bool)(h1:∀ x∈r0.tuples,CF s m k1 st (env++[(n.name,x)]) (q x)):
 AFun Tryz.prog 81 [mch s m,plc st env,n.ex] (.p (.fn (.func 138) [] [.ref r0.cs,.ref [bools (r0.tuples.map q)]])):=by
 have hkm:n.kids.map Nd.av=[k0.ex,k1.ex]:=by rw[hk,Nd.av_ex];rfl
 have hl:(r0.tuples.map eI).length=r0.tuples.length:=List.length_map _
 have hel:(env.map bdA).length=env.length:=List.length_map _
 have hcl:=clipO (env.map bdA) (by omega)
 refine AFun.of hT Tryz.func81 rfl rfl (by simp) ?_
 rw[show n.ex=.agg [eI n.op,eS n.name,eI n.n,.slice 5 [k0.ex,k1.ex],eI n.at_] by rw[Nd.ex,hkm]]
 refine AD.cut hT hmix 11 (fun _:Unit=>True) (fun _=>[(7,.p (.ref r0.cs)),(8,.p (.ref [bools (r0.tuples.map q)]))]) (fun _=>[]) ?_ fun _ _=>AD.run hT hmix ⟨_,_,rfl,rfl,rfl⟩
 refine⟨0,_,rfl,rfl,.pure [mch s m,plc st env,k0.ex] _ rfl h0 ⟨by kernel_rfl,bgo_false (by simp[a1]) ?_⟩⟩
 intro h2
 refine AD.loopI (fun x:Nat×List AV=>x.1≤r0.tuples.length∧x.2=((r0.tuples.take x.1).map q).map eB) (fun x=>r0.tuples.length - x.1)
  (fun x=>[(0,.p (mch s m)),(4,.loc 4 0),(5,.loc 5 0),(7,.loc 7 0),(8,.loc 8 0),(24,.p (ints r0.tuples)),(25,eint .i64 (r0.tuples.map eI).length),(26,eint .i64 x.1)])
  (fun x=>[(4,.box 90 ([eI st,.slice 2 (env.map bdA)].map .p)),(5,.box 35 ([eI n.op,eS n.name,eI n.n,.slice 5 [k0.ex,k1.ex],eI n.at_].map .p)),(7,.box 50 (r0.cs.map .p)),(8,.box 129 [.own 1 x.2 51]),(51,.tail x.2.length)]) (0,[]) ⟨Nat.zero_le _,rfl⟩ .of fun ⟨i,es⟩ ⟨g1,g2⟩=>AD.run hT hmix ?_
 dsimp only at g1 g2 ⊢
 have hes:es.length=i:=by rw[g2];simp;omega
 refine bgs (fun h3=>?_) (fun h3=>?_)
 ·replace h3:=odt h3
  have hlt:i<r0.tuples.length:=by omega
  have hf:=h1 _ (List.getElem_mem hlt)
  rw[CF,plc,List.map_append] at hf
  refine igo_map i rfl hlt (.own [.slice 2 (env.map bdA)] 2 (env.map bdA) 32 rfl hcl rfl rfl ⟨rfl,⟨by simp;omega,by simp;omega⟩,⟨by kernel_rfl,?_⟩⟩)
  refine⟨1,_,rfl,rfl,.pure [mch s m,.agg [eI st,.slice 2 (env.map bdA++[bdA (n.name,r0.tuples[i])])],k1.ex] _ rfl hf ⟨rfl,⟨by simp;omega,by simp;omega⟩,⟨by kernel_rfl,ngo_in (by omega) (by omega) ⟨(i+1,es++[eB (q r0.tuples[i])]),⟨by dsimp only;omega,?_⟩,by dsimp only;omega,.of⟩⟩⟩⟩
  dsimp only
  rw[List.take_succ_eq_append_getElem hlt,List.map_append,List.map_append,g2];rfl
 ·replace h3:=of_decide_eq_false h3
  obtain rfl:i=r0.tuples.length:=by omega
  rw[List.take_length] at g2
  subst g2
  exact⟨(),trivial,(SubAll.sealB (env':=[(7,.p (.ref r0.cs)),(8,.loc 8 0)]) (h':=[(8,.box 129 [.own 1 ((r0.tuples.map q).map eB) 51]),(51,.tail ((r0.tuples.map q).map eB).length)]) 7).trans (.sealB 8)⟩
theorem jumpNone(b:Bool):JumpOk (bif b then none else none) .normal:=by cases b <;> trivial
theorem comprP{s:Spc}{m:Mdl}{n k0 k1:Nd}(hk:n.kids=[k0,k1]){st:Int}{env:List (ByteArray×Int)}(henv:env.length≤5000000){r0:Rl}(hlen:r0.tuples.length≤2000)(h0:CX s m k0 st env r0)(a1:r0.arity=1)(q:Int→Bool)(h1:∀ x∈r0.tuples,CF s m k1 st (env++[(n.name,x)]) (q x)):
 MC 72 s m st env n ⟨1,r0.tuples.filter q⟩:=by
 have hi:=instP hk henv hlen h0 a1 q h1
 obtain⟨l,hl⟩:∃ l,r0.tuples=l:=⟨_,rfl⟩
 have hit:=instIter r0.arity l q (by rw[← hl];omega)
 have hil:(insts l q).length=l.length:=by simp[insts]
 rw[show r0.cs=[eI r0.arity,ints l] by rw[← hl];rfl] at hi
 rw[hl] at hi hlen ⊢
 refine AFun.of hT Tryz.func72 rfl rfl (by simp) (AD.run hT hmix ?_)
 refine .pure [mch s m,plc st env,n.ex] _ rfl hi ?_
 refine AD.rangeFunc (T:=T) hit [(6,.loc 6 0),(7,.loc 7 0),(14,.p (.fn (.func 138) [] [.ref [eI r0.arity,ints l],.ref [bools (l.map q)]]))]
  (fun i=>[(6,.box 50 [.p (eI 0),.full 1 []]),(7,.box 50 [.p (eI 1),.own 1 (((l.take i).filter q).map eI) 22]),(22,.tail (((l.take i).filter q).map eI).length)]) l.length none .of rfl (by rw[hil];exact Nat.le_refl _) (fun _=>hil.symm) (fun h=>absurd rfl h) ?_ ?_ ?_
 ·intro i xs hi hx
  rw[insts_at l q hi] at hx
  cases hx
  have hfl:((l.take i).filter q).length≤i:=Nat.le_trans (List.length_filter_le ..) (by rw[List.length_take];omega)
  have hsn:(l.take (i+1)).filter q=(l.take i).filter q++[l[i]].filter q:=by rw[List.take_succ_eq_append_getElem hi,List.filter_append]
  refine AD.run hT hmix (AD.run hT hmix ?_)
  refine bgs (fun hb=>?_) (fun hb=>?_)
  ·refine⟨rfl,⟨by simp;omega,by simp;omega⟩,jumpNone _,?_⟩
   dsimp only
   rw[hsn,show [l[i]].filter q=[l[i]] by simp[hb],List.map_append]
   exact .of
  ·refine⟨jumpNone _,?_⟩
   dsimp only
   rw[hsn,show [l[i]].filter q=[] by simp[hb],List.append_nil]
   exact .of
 ·intro xs hx
  obtain⟨x,_,rfl⟩:=List.mem_map.1 hx
  exact⟨rfl,rfl⟩
 ·rw[List.take_length]
  exact⟨_,_,rfl,rfl,rfl⟩
end Go.Ab
namespace Go.Ab
open Go Go.Proofs
open Go.Proofs.YtmllhjbnbhapoaaGreat (rowsOf keysOf addK)
set_option maxRecDepth 10000
theorem joinL(n p:Nat)(a b:Rl)(hn0:0<n)(hn:n≤12)(hra:∀ x∈a.tuples,0≤x∧x<2000)(hrb:∀ x∈b.tuples,0≤x∧x<2000)(hla:a.tuples.length≤2000)(hlb:b.tuples.length≤2000)(k:Nat)(hk:k≤3)(hb:b.arity=k+1)(ha:1≤a.arity∧a.arity≤3)(h1:1≤a.arity+b.arity - 2)(h3:a.arity+b.arity - 2≤3)(hp:n ^ k=p):
 AFun Tryz.prog 117 [eI n,a.av,b.av] (.tup [.p (Rl.av ⟨a.arity+b.arity - 2,srt (jits n p a.tuples b.tuples)⟩),.p (eI 0)]):=by
 have hp0:0<p:=by rw[← hp];exact Nat.pow_pos hn0
 have hp1:p≤1728:=by rw[← hp];exact Nat.le_trans (Nat.pow_le_pow_left hn k) (Nat.le_trans (Nat.pow_le_pow_right (by decide) hk) (by decide))
 have hpc:((n:Int) ^ k)=(p:Int):=by rw[← hp];simp
 have hpw:=powerP n k ⟨by omega,by omega⟩ hk
 rw[hpc] at hpw
 have hM:=matchesP n p a b (by omega) (fun x hx=>by have:=hrb x hx;omega) hp0 hp1
 have hI:=matchIter n p a b.tuples hn0 hp0 hp1 (by omega) (by omega) hra hrb
 obtain⟨l,hl⟩:∃ l,jits n p a.tuples b.tuples=l:=⟨_,rfl⟩
 have hll:l.length≤4000000:=by rw[← hl];exact Nat.le_trans (jits_most ..) (Nat.le_trans (Nat.mul_le_mul hla hlb) (by decide))
 rw[hl] at hI ⊢
 have hil:(its l).length=l.length:=by simp[its]
 obtain⟨rm,hrm⟩:∃ rm,AV.mp (.int .i64) (rowsM p b.tuples)=rm:=⟨_,rfl⟩
 rw[hrm] at hI hM
 obtain⟨c,hc⟩:∃ c,a.arity+b.arity - 2=c:=⟨_,rfl⟩
 rw[hc] at h1 h3 ⊢
 refine AFun.of hT Tryz.func117 rfl rfl (by simp) (AD.finSub (AD.run hT hmix ?_))
 refine ngo_in (by omega) (by omega) (ngo_in (by omega) (by omega) ?_)
 rw[hc]
 refine bgo_false (decide_eq_false (by omega)) (bgo_false (decide_eq_false (by omega)) (bgo_false (decide_eq_false (by omega)) ?_))
 refine ngo_in (by omega) (by omega) ?_
 rw[show b.arity - 1=(k:Int) by omega]
 refine .pure [eI n,eI k] _ rfl hpw (.pure [eI n,eI p,a.av,b.av] _ rfl hM ⟨by kernel_rfl,?_⟩)
 refine AD.rangeFuncT (T:=T) hI [(6,.loc 6 0),(8,.p (eI c)),(9,.loc 9 0),(36,.p (.fn (.func 231) [] [.ref a.cs,.ref [rm],.ref [eI n],.ref [eI p]]))]
  (fun i=>[(6,.box 50 [.p (eI 0),.full 1 []]),(9,.box 28 [.arr 1 200 0 i]),(200,.box 3 (((l.take i).map eI).map .p))])
  (fun i=>[(6,.box 50 [.p (eI 0),.full 1 []]),(9,.box 28 [.arr 1 41 0 (i+1)]),(41,.box 3 (((l.take (i+1)).map eI).map .p)),(200,.lost)]) l.length none ?_ ?_ rfl (by rw[hil];exact Nat.le_refl _) (fun _=>hil.symm) (fun h=>absurd rfl h) ?_ ?_ ?_
 ·refine(SubAll.vec (h':=[(6,.box 50 [.p (eI 0),.full 1 []]),(9,.box 28 [.arr 1 200 0 0]),(200,.box 3 [])]) 200 (h2:=⟨⟨rfl,.inl ⟨⟨.inl rfl,rfl⟩,⟨.inl rfl,rfl⟩,trivial⟩⟩,⟨rfl,.inl ⟨⟨.inr (.inr (.inr (.inr (.inl ⟨_,_,_,rfl,rfl,rfl,rfl⟩)))),rfl⟩,trivial⟩⟩,rfl,trivial⟩))
 ·intro i hi
  exact(SubAllT.ren 41 200).trans .of
 ·intro i xs hi hx
  have hlt:i<l.length:=hi
  rw[its_at (List.getElem?_eq_getElem hlt)] at hx
  cases hx
  have htk:(l.take i).length=i:=by rw[List.length_take];omega
  refine AD.run hT hmix (AD.run hT hmix ?_)
  refine⟨by rw[List.length_map,List.length_map,htk,Nat.mul_one],⟨by simp;omega,by simp;omega⟩,jumpNone _,?_⟩
  rw[List.take_succ_eq_append_getElem hlt,List.map_append,List.map_append]
  exact .of
 ·intro xs hx
  obtain⟨x,_,rfl⟩:=List.mem_map.1 hx
  exact⟨rfl,rfl⟩
 ·rw[List.take_length]
  refine .eff [(200,.box 3 ((l.map eI).map .p))] [(200,.box 3 (((srtC l).map eI).map .p))] _ (sortedK 200 c l (by omega)) ⟨rfl,trivial⟩ rfl rfl (okH_one _ _ _ _) rfl ?_
  refine⟨[(6,.loc 6 0),(7,.p (eI 0))],[(6,.box 50 [.p (eI c),.p (ints (srt l))])],.sealB 200 (hx:=toPs_p _) (h1:=⟨⟨.inl rfl,rfl⟩,⟨.inl rfl,rfl⟩,trivial⟩) (h2:=⟨⟨rfl,.inl ⟨⟨.inl rfl,rfl⟩,⟨.inr (.inr (.inr (.inl ⟨_,_,rfl,seal_srt _ _⟩))),rfl⟩,trivial⟩⟩,trivial⟩),_,_,rfl,rfl,rfl⟩
theorem joinP{n:Int}(hn0:0<n)(hn:n≤12):JP n:=by
 intro a b ha hb h1 h3
 obtain⟨N,rfl⟩:∃ N:Nat,n=N:=⟨n.toNat,by omega⟩
 have hla:=ok_len hn0 hn ha
 have hlb:=ok_len hn0 hn hb
 obtain⟨k,hk⟩:∃ k:Nat,b.arity=k+1:=⟨(b.arity - 1).toNat,by have:=hb.a;omega⟩
 have hj:=joinL N (N ^ k) a b (by omega) (by omega) (fun x hx=>ok_rng hn0 hn ha hx) (fun x hx=>ok_rng hn0 hn hb hx) hla hlb k (by have:=hb.a;omega) hk ha.a h1 h3 rfl
 have e:srt (jits N ((N ^ k:Nat):Int) a.tuples b.tuples)=(rJoin N a b).tuples:=by
  have hP:pw (N:Int) (b.arity - 1)=((N ^ k:Nat):Int):=by rw[pw,hk,show((k:Int)+1 - 1).toNat=k by omega];simp
  refine srt_cl fun x=>?_
  rw[hP,mem_jits]
  refine⟨fun h=>⟨?_,h⟩,fun h=>h.2⟩
  obtain⟨u,hu,v,hv,e1,rfl⟩:=h
  have hu2:=ha.rng u hu
  have hv2:=hb.rng v hv
  have ha1:=ha.a
  obtain⟨j,hj⟩:∃ j:Nat,a.arity=j+1:=⟨(a.arity - 1).toNat,by omega⟩
  rw[hj,show((j:Int)+1).toNat=j+1 by omega] at hu2
  obtain⟨d0,d1⟩:=div_lt_pow hn0 hu2.1 hu2.2
  have hpc:((N ^ k:Nat):Int)=(N:Int) ^ k:=by simp
  rw[hpc]
  have hpp:=ipow_pos hn0 k
  obtain⟨m0,m1⟩:=mod_rng hpp v
  have hc:=comb_lt hpp d1 m1
  have hcn:=comb_nn hpp d0 m0
  rw[← Int.pow_add] at hc
  have:=pow_le_2000 hn0 hn (k:=j+k) (by omega)
  omega
 rw[e] at hj
 exact hj
end Go.Ab
namespace Go.Ab
open Go Go.Proofs
set_option maxRecDepth 10000
theorem backP(bs:List Bind):AFun Tryz.prog 122 [binds bs] (.p (.fn (.func 190) [] [.ref [binds bs]])):=by
 refine AFun.of hT Tryz.func122 rfl rfl (by simp) ?_
 exact AD.cut hT hmix 1 (fun _:Unit=>True) (fun _=>[(1,.p (.ref [binds bs]))]) (fun _=>[]) ⟨(),trivial,.sealB 1⟩ fun _ _=>AD.run hT hmix ⟨_,_,rfl,rfl,rfl⟩
theorem clipI(l:List Int)(hl:l.length≤10000000):AFun Tryz.prog 124 [ints l] (.p (ints l)):=by
 refine AFun.of hT Tryz.func124 rfl rfl (by simp) (AD.run hT hmix ?_)
 intro h1 h2
 refine⟨0,(l.map eI).length,rfl,rfl,Nat.zero_le _,Nat.le_refl _,rfl,_,_,rfl,rfl,?_⟩
 rw[List.drop_zero,Nat.sub_zero,List.take_length];rfl
def rnk(n:Int)(l:List Int):Int:=l.foldl (fun r a=>r*n+a) 0
theorem rnk_snoc(n:Int)(l:List Int){i:Nat}(hi:i<l.length):rnk n (l.take (i+1))=rnk n (l.take i)*n+l[i]:=by
 rw[List.take_succ_eq_append_getElem hi,rnk,List.foldl_append];rfl
theorem rankU(s:Scope)(h:small s.atoms)(N:Nat)(hN:sumI s.atoms=N)(h12:N≤12)(l:List Int)(hl:l.length≤3)(hr:∀ x∈l,0≤x∧x<N):
 AFun Tryz.prog 125 [s.av,ints l] (.p (eI (rnk N l))):=by
 have hll:(l.map eI).length=l.length:=List.length_map _
 have hat:=atomsP s h
 rw[hN] at hat
 refine AFun.of hT Tryz.func125 rfl rfl (by simp) (AD.run hT hmix ?_)
 intro h1
 refine bgo_false (decide_eq_false (by omega)) (.pure [s.av] _ rfl hat ?_)
 intro h2
 refine AD.loopI (fun i:Nat=>i≤l.length∧0≤rnk N (l.take i)∧rnk N (l.take i)<(N:Int) ^ i) (fun i=>l.length - i) (fun i=>[(5,.p (eI N)),(6,.p (eI (rnk N (l.take i)))),(14,.p (ints l)),(15,eint .i64 (l.map eI).length),(16,eint .i64 i)]) (fun _=>[]) 0 ⟨Nat.zero_le _,by simp[rnk],by simp[rnk]⟩ .of fun i ⟨g1,g2,g3⟩=>AD.run hT hmix ?_
 refine bgs (fun hb=>?_) (fun hb=>?_)
 ·replace hb:=odt hb
  have hlt:i<l.length:=by omega
  have hx:=hr _ (List.getElem_mem hlt)
  have hw:=withinP l[i] 0 ((N:Int) - 1)
  rw[show(decide (0≤l[i])&&decide (l[i]≤(N:Int) - 1))=true by rw[decide_eq_true hx.1,decide_eq_true (show l[i]≤(N:Int) - 1 by omega)];rfl] at hw
  have hc:=comb_lt (show(0:Int)<N by omega) g3 hx.2
  have hcn:=comb_nn (show(0:Int)<N by omega) g2 hx.1
  have hp:(N:Int) ^ i*N≤2000:=by rw[← Int.pow_succ];exact pow_le_2000 (by omega) (by omega) (by omega)
  have hm:0≤rnk N (l.take i)*N:=Int.mul_nonneg g2 (by omega)
  refine igo_map i rfl hlt (ngo_in (by omega) (by omega) (.pure [eI l[i],eI 0,eI ((N:Int) - 1)] _ rfl hw (ngo_in (by omega) (by omega) (ngo_in (by omega) (by omega) (ngo_in (by omega) (by omega) ⟨i+1,⟨by omega,?_,?_⟩,by omega,?_⟩)))))
  ·rw[rnk_snoc _ _ hlt];exact hcn
  ·rw[rnk_snoc _ _ hlt,Int.pow_succ];exact hc
  ·rw[rnk_snoc _ _ hlt];exact .of
 ·replace hb:=of_decide_eq_false hb
  obtain rfl:i=l.length:=by omega
  exact⟨_,_,rfl,rfl,by rw[List.take_length];rfl⟩
abbrev tupF(s:Scope)(pre:Int)(l:List Int):AV:=.fn (.func 232) [] [.ref [ints l],.ref [eI pre],.ref s.cs]
theorem tuplesP(s:Scope)(pre:Int)(l:List Int):AFun Tryz.prog 191 [s.av,eI pre,ints l] (.p (tupF s pre l)):=by
 refine AFun.of hT Tryz.func191 rfl rfl (by simp) ?_
 refine AD.cut hT hmix 1 (fun _:Unit=>True) (fun _=>[(5,.p (.ref [ints l])),(4,.p (.ref [eI pre])),(3,.p (.ref s.cs))]) (fun _=>[]) ⟨(),trivial,?_⟩ fun _ _=>AD.run hT hmix ⟨_,_,rfl,rfl,rfl⟩
 exact(SubAll.sealB (env':=[(5,.loc 5 0),(4,.loc 4 0),(3,.p (.ref s.cs))]) (h':=[(5,.box 28 [.p (ints l)]),(4,.box 3 [.p (eI pre)])]) 3 (hx:=toPs_p s.cs)).trans ((SubAll.sealB (env':=[(5,.loc 5 0),(4,.p (.ref [eI pre])),(3,.p (.ref s.cs))]) (h':=[(5,.box 28 [.p (ints l)])]) 4).trans (.sealB 5))
theorem tup0(s:Scope)(pre:Int):IterP Tryz.prog 232 [] [.ref [ints []],.ref [eI pre],.ref s.cs] [[eI pre]]:=by
 refine IterP.of hT Tryz.func232 rfl rfl (by simp) fun q J stop fin h1 h2 h3 hy=>AD.run hT hmix ?_
 have h1:stop≤1:=h1
 have hs:stop=1:=by
  cases fin with
  | true=>exact h2 rfl
  | false=>have:=h3 rfl;omega
 subst hs
 have hyi:=hy 0 _ (by omega) rfl
 intro _
 refine .mk xk (J 0) (J 1) _ _ rfl rfl hyi ?_
 exact⟨[],[],_,rfl,.of,rfl,rfl,rfl⟩
def sortL(s:Scope)(i:Nat):List Int:=(List.range (atomsOf s i).toNat).map fun k:Nat=>firstOf s i+k
theorem tup1(s:Scope)(h:small s.atoms)(N:Nat)(hN:sumI s.atoms=N)(h12:N≤12)(i:Nat)(hi:i<s.atoms.length):IterP Tryz.prog 232 [] [.ref [ints [(i:Int)]],.ref [eI 0],.ref s.cs] (its (sortL s i)):=by
 have hat:=atomsP s h
 rw[hN] at hat
 have hfi:=firstP s h i (by omega)
 have hsm:=h.at hi
 have hao:atomsOf s i=s.atoms[i]:=by rw[atomsOf,List.getElem?_eq_getElem hi];rfl
 obtain⟨m,hm⟩:∃ m:Nat,s.atoms[i]=m:=⟨s.atoms[i].toNat,by omega⟩
 have hf0:=h.sum i (by omega)
 have hl4:=h.1
 have hfo:firstOf s i=sumI (s.atoms.take i):=rfl
 have hil:(its (sortL s i)).length=m:=by simp[its,sortL,hao,hm]
 have hat2:∀ k,k<m→(its (sortL s i))[k]?=some [eI (firstOf s i+k)]:=fun k hk=>its_at (by simp[sortL,hao,hm,hk])
 refine IterP.of hT Tryz.func232 rfl rfl (by simp) fun q J stop fin h1 h2 h3 hy=>AD.run hT hmix ?_
 rw[hil] at h1 h2
 intro _
 refine⟨0,eI i,rfl,rfl,.pure [s.av,eI i] _ rfl hfi ⟨by kernel_rfl,?_⟩⟩
 refine AD.loopI (fun k:Nat=>k≤stop∧(fin=false→k<stop)) (fun k=>m - k) (fun k=>[(1,.p (.ref [ints [(i:Int)]])),(2,.p (.ref [eI 0])),(3,.p (.ref s.cs)),(4,.loc 4 0),(5,.p (eI (firstOf s i))),(6,.p (eI (firstOf s i+k)))]) (fun k=>[(4,.box 235 [.p (yv q)]),(xk,.ext (J k))]) 0 ⟨Nat.zero_le _,h3⟩ ?_ fun k ⟨g1,g2⟩=>AD.run hT hmix ?_
 ·rw[show firstOf s i+((0:Nat):Int)=firstOf s i by simp];exact .of
 ·refine⟨0,eI i,rfl,rfl,igo_map i rfl hi ?_⟩
  rw[hm]
  refine ngo_in (by omega) (by omega) ⟨by kernel_rfl,bgs (fun hb=>?_) (fun hb=>?_)⟩
  ·replace hb:=odt hb
   have hk:k<m:=by omega
   have hks:k<stop:=by
    cases fin with
    | true=>have:=h2 rfl;omega
    | false=>exact g2 rfl
   have hyi:=hy k _ hks (hat2 k hk)
   have ht:=tuplesP s (0*(N:Int)+(firstOf s i+k)) []
   have ht0:=tup0 s (0*(N:Int)+(firstOf s i+k))
   refine .pure [s.av] _ rfl hat (ngo_in (by omega) (by omega) (ngo_in (by omega) (by omega) ⟨1,1,rfl,rfl,Nat.le_refl _,Nat.le_refl _,.pure [s.av,eI (0*(N:Int)+(firstOf s i+k)),ints []] _ rfl ht ⟨by kernel_rfl,?_⟩⟩))
   rw[show 0*(N:Int)+(firstOf s i+k)=firstOf s i+k by omega] at ht0 ⊢
   cases hB:fin||Nat.blt (k+1) stop with
   | true=>
    rw[hB] at hyi
    refine AD.rangeFunc (T:=T) ht0 [(1,.p (.ref [ints [(i:Int)]])),(2,.p (.ref [eI 0])),(3,.p (.ref s.cs)),(4,.loc 4 0),(5,.p (eI (firstOf s i))),(6,.p (eI (firstOf s i+k))),(42,.p (tupF s (firstOf s i+k) []))] (fun j=>[(4,.box 235 [.p (yv q)]),(xk,.ext (J (k+j)))]) 1 none .of rfl (Nat.le_refl _) (fun _=>rfl) (fun h=>absurd rfl h) ?_ ?_ ?_
    ·intro j xs hj hx
     obtain rfl:j=0:=by omega
     obtain rfl:[eI (firstOf s i+k)]=xs:=Option.some.inj hx
     refine AD.run hT hmix (AD.run hT hmix ?_)
     exact .mk xk (J k) (J (k+1)) _ _ rfl rfl hyi ⟨trivial,.of⟩
    ·intro xs hx
     obtain rfl:=List.mem_singleton.1 hx
     exact⟨rfl,rfl⟩
    ·refine ngo_in (by omega) (by omega) ⟨k+1,⟨by omega,fun hf=>?_⟩,by omega,?_⟩
     ·rw[hf] at hB
      exact Nat.le_of_ble_eq_true hB
     ·rw[show firstOf s i+((k+1:Nat):Int)=firstOf s i+k+1 by omega];exact .of
   | false=>
    rw[hB] at hyi
    rw[Bool.or_eq_false_iff] at hB
    have:¬ (k+1<stop):=fun h=>by rw[show Nat.blt (k+1) stop=true from Nat.ble_eq_true_of_le h] at hB;cases hB.2
    obtain rfl:k+1=stop:=by omega
    refine AD.rangeFunc (T:=T) ht0 [(42,.p (tupF s (firstOf s i+k) [])),(4,.loc 4 0)] (fun j=>[(4,.box 235 [.p (yv q)]),(xk,.ext (J (k+j)))]) 1 (some .ret) .of rfl (Nat.le_refl _) (fun h=>by cases h) (fun _=>Nat.one_pos) ?_ ?_ ?_
    ·intro j xs hj hx
     obtain rfl:j=0:=by omega
     obtain rfl:[eI (firstOf s i+k)]=xs:=Option.some.inj hx
     refine AD.run hT hmix (AD.run hT hmix ?_)
     exact .mk xk (J k) (J (k+1)) _ _ rfl rfl hyi ⟨trivial,.of⟩
    ·intro xs hx
     obtain rfl:=List.mem_singleton.1 hx
     exact⟨rfl,rfl⟩
    ·exact⟨[],[],_,rfl,.of,rfl,rfl,rfl⟩
  ·replace hb:=of_decide_eq_false hb
   have hk:k=m:=by omega
   have:fin=true:=by
    cases fin with
    | true=>rfl
    | false=>have:=g2 rfl;omega
   have:=h2 this
   obtain rfl:k=stop:=by omega
   exact⟨[],[],_,rfl,.of,rfl,rfl,rfl⟩
theorem ex_6{s:Spc}{m:Mdl}{n:Nd}(ho:n.op=6){st:Int}{env:List (ByteArray×Int)}{r:Rl}(h:MC 62 s m st env n r):CX s m n st env r:=by
 have he:n.ex=.agg [eI 6,eS n.name,eI n.n,.slice 5 (n.kids.map Nd.av),eI n.at_]:=by rw[Nd.ex,ho]
 rw[MC,he] at h
 rw[CX,he]
 exact AFun.of hT Tryz.func32 rfl rfl (by simp) (AD.run hT hmix (.pure [mch s m,plc st env,.agg [eI 6,eS n.name,eI n.n,.slice 5 (n.kids.map Nd.av),eI n.at_]] _ rfl h ⟨_,_,rfl,rfl,rfl⟩))
theorem ex_7{s:Spc}{m:Mdl}{n:Nd}(ho:n.op=7){st:Int}{env:List (ByteArray×Int)}{r:Rl}(h:MC 63 s m st env n r):CX s m n st env r:=by
 have he:n.ex=.agg [eI 7,eS n.name,eI n.n,.slice 5 (n.kids.map Nd.av),eI n.at_]:=by rw[Nd.ex,ho]
 rw[MC,he] at h
 rw[CX,he]
 exact AFun.of hT Tryz.func32 rfl rfl (by simp) (AD.run hT hmix (.pure [mch s m,plc st env,.agg [eI 7,eS n.name,eI n.n,.slice 5 (n.kids.map Nd.av),eI n.at_]] _ rfl h ⟨_,_,rfl,rfl,rfl⟩))
theorem ex_8{s:Spc}{m:Mdl}{n:Nd}(ho:n.op=8){st:Int}{env:List (ByteArray×Int)}{r:Rl}(h:MC 64 s m st env n r):CX s m n st env r:=by
 have he:n.ex=.agg [eI 8,eS n.name,eI n.n,.slice 5 (n.kids.map Nd.av),eI n.at_]:=by rw[Nd.ex,ho]
 rw[MC,he] at h
 rw[CX,he]
 exact AFun.of hT Tryz.func32 rfl rfl (by simp) (AD.run hT hmix (.pure [mch s m,plc st env,.agg [eI 8,eS n.name,eI n.n,.slice 5 (n.kids.map Nd.av),eI n.at_]] _ rfl h ⟨_,_,rfl,rfl,rfl⟩))
theorem ex_14{s:Spc}{m:Mdl}{n:Nd}(ho:n.op=14){st:Int}{env:List (ByteArray×Int)}{r:Rl}(h:MC 65 s m st env n r):CX s m n st env r:=by
 have he:n.ex=.agg [eI 14,eS n.name,eI n.n,.slice 5 (n.kids.map Nd.av),eI n.at_]:=by rw[Nd.ex,ho]
 rw[MC,he] at h
 rw[CX,he]
 exact AFun.of hT Tryz.func32 rfl rfl (by simp) (AD.run hT hmix (.pure [mch s m,plc st env,.agg [eI 14,eS n.name,eI n.n,.slice 5 (n.kids.map Nd.av),eI n.at_]] _ rfl h ⟨_,_,rfl,rfl,rfl⟩))
theorem ex_9{s:Spc}{m:Mdl}{n:Nd}(ho:n.op=9){st:Int}{env:List (ByteArray×Int)}{r:Rl}(h:MC 66 s m st env n r):CX s m n st env r:=by
 have he:n.ex=.agg [eI 9,eS n.name,eI n.n,.slice 5 (n.kids.map Nd.av),eI n.at_]:=by rw[Nd.ex,ho]
 rw[MC,he] at h
 rw[CX,he]
 exact AFun.of hT Tryz.func32 rfl rfl (by simp) (AD.run hT hmix (.pure [mch s m,plc st env,.agg [eI 9,eS n.name,eI n.n,.slice 5 (n.kids.map Nd.av),eI n.at_]] _ rfl h ⟨_,_,rfl,rfl,rfl⟩))
theorem ex_10{s:Spc}{m:Mdl}{n:Nd}(ho:n.op=10){st:Int}{env:List (ByteArray×Int)}{r:Rl}(h:MC 67 s m st env n r):CX s m n st env r:=by
 have he:n.ex=.agg [eI 10,eS n.name,eI n.n,.slice 5 (n.kids.map Nd.av),eI n.at_]:=by rw[Nd.ex,ho]
 rw[MC,he] at h
 rw[CX,he]
 exact AFun.of hT Tryz.func32 rfl rfl (by simp) (AD.run hT hmix (.pure [mch s m,plc st env,.agg [eI 10,eS n.name,eI n.n,.slice 5 (n.kids.map Nd.av),eI n.at_]] _ rfl h ⟨_,_,rfl,rfl,rfl⟩))
theorem ex_11{s:Spc}{m:Mdl}{n:Nd}(ho:n.op=11){st:Int}{env:List (ByteArray×Int)}{r:Rl}(h:MC 68 s m st env n r):CX s m n st env r:=by
 have he:n.ex=.agg [eI 11,eS n.name,eI n.n,.slice 5 (n.kids.map Nd.av),eI n.at_]:=by rw[Nd.ex,ho]
 rw[MC,he] at h
 rw[CX,he]
 exact AFun.of hT Tryz.func32 rfl rfl (by simp) (AD.run hT hmix (.pure [mch s m,plc st env,.agg [eI 11,eS n.name,eI n.n,.slice 5 (n.kids.map Nd.av),eI n.at_]] _ rfl h ⟨_,_,rfl,rfl,rfl⟩))
theorem ex_12{s:Spc}{m:Mdl}{n:Nd}(ho:n.op=12){st:Int}{env:List (ByteArray×Int)}{r:Rl}(h:MC 69 s m st env n r):CX s m n st env r:=by
 have he:n.ex=.agg [eI 12,eS n.name,eI n.n,.slice 5 (n.kids.map Nd.av),eI n.at_]:=by rw[Nd.ex,ho]
 rw[MC,he] at h
 rw[CX,he]
 exact AFun.of hT Tryz.func32 rfl rfl (by simp) (AD.run hT hmix (.pure [mch s m,plc st env,.agg [eI 12,eS n.name,eI n.n,.slice 5 (n.kids.map Nd.av),eI n.at_]] _ rfl h ⟨_,_,rfl,rfl,rfl⟩))
theorem ex_13{s:Spc}{m:Mdl}{n:Nd}(ho:n.op=13){st:Int}{env:List (ByteArray×Int)}{r:Rl}(h:MC 70 s m st env n r):CX s m n st env r:=by
 have he:n.ex=.agg [eI 13,eS n.name,eI n.n,.slice 5 (n.kids.map Nd.av),eI n.at_]:=by rw[Nd.ex,ho]
 rw[MC,he] at h
 rw[CX,he]
 exact AFun.of hT Tryz.func32 rfl rfl (by simp) (AD.run hT hmix (.pure [mch s m,plc st env,.agg [eI 13,eS n.name,eI n.n,.slice 5 (n.kids.map Nd.av),eI n.at_]] _ rfl h ⟨_,_,rfl,rfl,rfl⟩))
theorem ex_5{s:Spc}{m:Mdl}{n:Nd}(ho:n.op=5){st:Int}{env:List (ByteArray×Int)}{r:Rl}(h:MC 71 s m st env n r):CX s m n st env r:=by
 have he:n.ex=.agg [eI 5,eS n.name,eI n.n,.slice 5 (n.kids.map Nd.av),eI n.at_]:=by rw[Nd.ex,ho]
 rw[MC,he] at h
 rw[CX,he]
 exact AFun.of hT Tryz.func32 rfl rfl (by simp) (AD.run hT hmix (.pure [mch s m,plc st env,.agg [eI 5,eS n.name,eI n.n,.slice 5 (n.kids.map Nd.av),eI n.at_]] _ rfl h ⟨_,_,rfl,rfl,rfl⟩))
theorem ex_15{s:Spc}{m:Mdl}{n:Nd}(ho:n.op=15){st:Int}{env:List (ByteArray×Int)}{r:Rl}(h:MC 72 s m st env n r):CX s m n st env r:=by
 have he:n.ex=.agg [eI 15,eS n.name,eI n.n,.slice 5 (n.kids.map Nd.av),eI n.at_]:=by rw[Nd.ex,ho]
 rw[MC,he] at h
 rw[CX,he]
 exact AFun.of hT Tryz.func32 rfl rfl (by simp) (AD.run hT hmix (.pure [mch s m,plc st env,.agg [eI 15,eS n.name,eI n.n,.slice 5 (n.kids.map Nd.av),eI n.at_]] _ rfl h ⟨_,_,rfl,rfl,rfl⟩))
theorem ex_2{s:Spc}{m:Mdl}{n:Nd}(ho:n.op=2){st:Int}{env:List (ByteArray×Int)}:CX s m n st env ⟨n.n,[]⟩:=by
 rw[CX,show n.ex=.agg [eI 2,eS n.name,eI n.n,.slice 5 (n.kids.map Nd.av),eI n.at_] by rw[Nd.ex,ho]]
 exact AFun.of hT Tryz.func32 rfl rfl (by simp) (AD.run hT hmix ⟨_,_,rfl,rfl,rfl⟩)
theorem ex_4{s:Spc}{m:Mdl}(hn0:0<m.n)(hn:m.n≤12){n:Nd}(ho:n.op=4){st:Int}{env:List (ByteArray×Int)}:CX s m n st env (rIden m.n):=by
 obtain⟨N,hN⟩:∃ N:Nat,m.n=N:=⟨m.n.toNat,by omega⟩
 have hi:=idenP N (by omega)
 rw[← hN] at hi
 rw[CX,show n.ex=.agg [eI 4,eS n.name,eI n.n,.slice 5 (n.kids.map Nd.av),eI n.at_] by rw[Nd.ex,ho]]
 exact AFun.of hT Tryz.func32 rfl rfl (by simp) (AD.run hT hmix (.pure [eI m.n] _ rfl hi ⟨_,_,rfl,rfl,rfl⟩))
theorem univ_eq(N:Nat)(hN:N≤12):(rUniv N).tuples=(List.range N).map fun i:Nat=>(i:Int):=by
 refine(cl_eq (up_pairs (fun i j h=>by omega) N) fun x=>?_).symm
 constructor
 ·intro hx
  obtain⟨i,hi,rfl⟩:=List.mem_map.1 hx
  have hi:=List.mem_range.1 hi
  exact⟨⟨by omega,by omega⟩,by omega,by omega⟩
 ·rintro⟨_,h0,h1⟩
  exact List.mem_map.2 ⟨x.toNat,List.mem_range.2 (by omega),Int.toNat_of_nonneg h0⟩
theorem ex_3{s:Spc}{m:Mdl}(hn0:0<m.n)(hn:m.n≤12){n:Nd}(ho:n.op=3){st:Int}{env:List (ByteArray×Int)}:CX s m n st env (rUniv m.n):=by
 obtain⟨N,hN⟩:∃ N:Nat,m.n=N:=⟨m.n.toNat,by omega⟩
 have hu:=univ_eq N (by omega)
 rw[CX,show n.ex=.agg [eI 3,eS n.name,eI n.n,.slice 5 (n.kids.map Nd.av),eI n.at_] by rw[Nd.ex,ho]]
 refine AFun.of hT Tryz.func32 rfl rfl (by simp) (AD.run hT hmix ?_)
 refine AD.loopI (fun x:Nat×List AV=>x.1≤N∧x.2=((List.range x.1).map fun i:Nat=>(i:Int)).map eI) (fun x=>N - x.1) (fun x=>[(6,.loc 6 0),(10,.loc 10 0),(47,.p (eI m.n)),(48,eint .i64 x.1)]) (fun x=>[(6,.box 50 [.p (eI 0),.full 1 []]),(10,.box 50 [.p (eI 1),.own 1 x.2 55]),(55,.tail x.2.length)]) (0,[]) ⟨Nat.zero_le _,rfl⟩ .of fun ⟨i,es⟩ ⟨g1,g2⟩=>AD.run hT hmix ?_
 dsimp only at g1 g2 ⊢
 have hes:es.length=i:=by rw[g2];simp
 refine bgs (fun h2=>?_) (fun h2=>?_)
 ·replace h2:=odt h2
  refine⟨rfl,⟨by simp;omega,by simp;omega⟩,ngo_in (by omega) (by omega) ⟨(i+1,es++[eI (i:Int)]),⟨by dsimp only;omega,?_⟩,by dsimp only;omega,.of⟩⟩
  dsimp only
  rw[List.range_succ,List.map_append,List.map_append,g2];rfl
 ·replace h2:=of_decide_eq_false h2
  obtain rfl:i=N:=by omega
  exact⟨_,_,rfl,rfl,by rw[g2,← hu,← hN];rfl⟩
theorem pathGo_nodup{s:Spc}{m:Mdl}(hm:MOk s m):∀ (k:Nat) (st:Int) (out:List Int),out.Nodup→(pathGo m k st out).Nodup
 | 0,_,_,h=>h
 | k+1,st,out,h=>by
  rw[pathGo]
  by_cases hs:st∈out
  ·rw[if_pos hs];exact h
  ·rw[if_neg hs]
   exact pathGo_nodup hm k _ _ (List.pairwise_append.2 ⟨h,List.pairwise_singleton _ _,fun x hx y hy=>by rw[List.mem_singleton.1 hy];rintro rfl;exact hs hx⟩)
theorem pathOf_len{s:Spc}{m:Mdl}(hm:MOk s m){st:Int}(hst:0≤st∧st<m.states.length):(pathOf m st).length≤m.states.length:=nodup_len _ _ (pathGo_nodup hm _ _ _ List.nodup_nil) (pathOf_ok hm hst.1 hst.2)
theorem fm_30{s:Spc}{m:Mdl}{n:Nd}(ho:n.op=30){st:Int}{env:List (ByteArray×Int)}  : CF s m n st env true:=by
 have he:n.ex=.agg [eI 30,eS n.name,eI n.n,.slice 5 (n.kids.map Nd.av),eI n.at_]:=by rw[Nd.ex,ho]
 rw[CF,he]
 refine AFun.of hT Tryz.func37 rfl rfl (by simp) (AD.run hT hmix ?_)
 exact⟨_,_,rfl,rfl,rfl⟩
theorem fm_31{s:Spc}{m:Mdl}{n:Nd}(ho:n.op=31){st:Int}{env:List (ByteArray×Int)}  : CF s m n st env false:=by
 have he:n.ex=.agg [eI 31,eS n.name,eI n.n,.slice 5 (n.kids.map Nd.av),eI n.at_]:=by rw[Nd.ex,ho]
 rw[CF,he]
 refine AFun.of hT Tryz.func37 rfl rfl (by simp) (AD.run hT hmix ?_)
 exact⟨_,_,rfl,rfl,rfl⟩
theorem fm_32{s:Spc}{m:Mdl}{n k0 k1:Nd}(ho:n.op=32)(hk:n.kids=[k0,k1]){st:Int}{env:List (ByteArray×Int)}{r0 r1:Rl}(h0:CX s m k0 st env r0)(h1:CX s m k1 st env r1)(e:r0.arity=r1.arity)(hl:r0.tuples.length≤1000000000):CF s m n st env (decide (∀ x∈r0.tuples,x∈r1.tuples)):=by
 have hkm:n.kids.map Nd.av=[k0.ex,k1.ex]:=by rw[hk,Nd.av_ex];rfl
 have he:n.ex=.agg [eI 32,eS n.name,eI n.n,.slice 5 [k0.ex,k1.ex],eI n.at_]:=by rw[Nd.ex,ho,hkm]
 have hp:=pairP hk h0 h1 e
 rw[he] at hp
 rw[CF,he]
 refine AFun.of hT Tryz.func37 rfl rfl (by simp) (AD.run hT hmix ?_)
 exact .pure [mch s m,plc st env,.agg [eI 32,eS n.name,eI n.n,.slice 5 [k0.ex,k1.ex],eI n.at_]] _ rfl hp (.pure [r0.av,r1.av] _ rfl (inP r0 r1 hl) ⟨_,_,rfl,rfl,rfl⟩)
theorem fm_33{s:Spc}{m:Mdl}{n k0 k1:Nd}(ho:n.op=33)(hk:n.kids=[k0,k1]){st:Int}{env:List (ByteArray×Int)}{r0 r1:Rl}(h0:CX s m k0 st env r0)(h1:CX s m k1 st env r1)(e:r0.arity=r1.arity):CF s m n st env (decide (r0.tuples=r1.tuples)):=by
 have hkm:n.kids.map Nd.av=[k0.ex,k1.ex]:=by rw[hk,Nd.av_ex];rfl
 have he:n.ex=.agg [eI 33,eS n.name,eI n.n,.slice 5 [k0.ex,k1.ex],eI n.at_]:=by rw[Nd.ex,ho,hkm]
 have hp:=pairP hk h0 h1 e
 have hq:=equalR r0 r1
 rw[decide_eq_true e,Bool.true_and] at hq
 rw[he] at hp
 rw[CF,he]
 refine AFun.of hT Tryz.func37 rfl rfl (by simp) (AD.run hT hmix ?_)
 exact .pure [mch s m,plc st env,.agg [eI 33,eS n.name,eI n.n,.slice 5 [k0.ex,k1.ex],eI n.at_]] _ rfl hp (.pure [r0.av,r1.av] _ rfl hq ⟨_,_,rfl,rfl,rfl⟩)
theorem fm_34{s:Spc}{m:Mdl}{n k0:Nd}(ho:n.op=34)(hk:n.kids=[k0]){st:Int}{env:List (ByteArray×Int)}{r0:Rl}(h0:CX s m k0 st env r0):CF s m n st env (decide (0<r0.tuples.length)):=by
 have hkm:n.kids.map Nd.av=[k0.ex]:=by rw[hk,Nd.av_ex];rfl
 have he:n.ex=.agg [eI 34,eS n.name,eI n.n,.slice 5 [k0.ex],eI n.at_]:=by rw[Nd.ex,ho,hkm]
 rw[CF,he]
 refine AFun.of hT Tryz.func37 rfl rfl (by simp) (AD.run hT hmix ?_)
 have hlm:(r0.tuples.map eI).length=r0.tuples.length:=List.length_map _
 refine⟨0,_,rfl,rfl,.pure [mch s m,plc st env,k0.ex] _ rfl h0 ?_⟩
 intro h1
 rw[← hlm]
 generalize (r0.tuples.map eI).length=z at h1 ⊢
 match z,h1 with
 | 0,_=>exact⟨by kernel_rfl,_,_,rfl,rfl,rfl⟩
 | 1,_=>exact⟨by kernel_rfl,_,_,rfl,rfl,rfl⟩
 | z+2,_=>exact⟨by kernel_rfl,bgo_true (show decide (((z+2:Nat):Int)>0)=true from decide_eq_true (by omega)) ⟨_,_,rfl,rfl,rfl⟩⟩
theorem fm_35{s:Spc}{m:Mdl}{n k0:Nd}(ho:n.op=35)(hk:n.kids=[k0]){st:Int}{env:List (ByteArray×Int)}{r0:Rl}(h0:CX s m k0 st env r0):CF s m n st env (decide (r0.tuples.length=0)):=by
 have hkm:n.kids.map Nd.av=[k0.ex]:=by rw[hk,Nd.av_ex];rfl
 have he:n.ex=.agg [eI 35,eS n.name,eI n.n,.slice 5 [k0.ex],eI n.at_]:=by rw[Nd.ex,ho,hkm]
 rw[CF,he]
 refine AFun.of hT Tryz.func37 rfl rfl (by simp) (AD.run hT hmix ?_)
 have hlm:(r0.tuples.map eI).length=r0.tuples.length:=List.length_map _
 refine⟨0,_,rfl,rfl,.pure [mch s m,plc st env,k0.ex] _ rfl h0 ?_⟩
 intro h1
 rw[← hlm]
 generalize (r0.tuples.map eI).length=z at h1 ⊢
 match z,h1 with
 | 0,_=>exact⟨by kernel_rfl,_,_,rfl,rfl,rfl⟩
 | 1,_=>exact⟨by kernel_rfl,_,_,rfl,rfl,rfl⟩
 | z+2,_=>exact⟨by kernel_rfl,_,_,rfl,rfl,rfl⟩
theorem fm_36{s:Spc}{m:Mdl}{n k0:Nd}(ho:n.op=36)(hk:n.kids=[k0]){st:Int}{env:List (ByteArray×Int)}{r0:Rl}(h0:CX s m k0 st env r0):CF s m n st env (decide (r0.tuples.length=1)):=by
 have hkm:n.kids.map Nd.av=[k0.ex]:=by rw[hk,Nd.av_ex];rfl
 have he:n.ex=.agg [eI 36,eS n.name,eI n.n,.slice 5 [k0.ex],eI n.at_]:=by rw[Nd.ex,ho,hkm]
 rw[CF,he]
 refine AFun.of hT Tryz.func37 rfl rfl (by simp) (AD.run hT hmix ?_)
 have hlm:(r0.tuples.map eI).length=r0.tuples.length:=List.length_map _
 refine⟨0,_,rfl,rfl,.pure [mch s m,plc st env,k0.ex] _ rfl h0 ?_⟩
 intro h1
 rw[← hlm]
 generalize (r0.tuples.map eI).length=z at h1 ⊢
 match z,h1 with
 | 0,_=>exact⟨by kernel_rfl,_,_,rfl,rfl,rfl⟩
 | 1,_=>exact⟨by kernel_rfl,_,_,rfl,rfl,rfl⟩
 | z+2,_=>exact⟨by kernel_rfl,_,_,rfl,rfl,rfl⟩
theorem fm_37{s:Spc}{m:Mdl}{n k0:Nd}(ho:n.op=37)(hk:n.kids=[k0]){st:Int}{env:List (ByteArray×Int)}{r0:Rl}(h0:CX s m k0 st env r0):CF s m n st env (decide (r0.tuples.length≤1)):=by
 have hkm:n.kids.map Nd.av=[k0.ex]:=by rw[hk,Nd.av_ex];rfl
 have he:n.ex=.agg [eI 37,eS n.name,eI n.n,.slice 5 [k0.ex],eI n.at_]:=by rw[Nd.ex,ho,hkm]
 rw[CF,he]
 refine AFun.of hT Tryz.func37 rfl rfl (by simp) (AD.run hT hmix ?_)
 have hlm:(r0.tuples.map eI).length=r0.tuples.length:=List.length_map _
 refine⟨0,_,rfl,rfl,.pure [mch s m,plc st env,k0.ex] _ rfl h0 ?_⟩
 intro h1
 rw[← hlm]
 generalize (r0.tuples.map eI).length=z at h1 ⊢
 match z,h1 with
 | 0,_=>exact⟨by kernel_rfl,_,_,rfl,rfl,rfl⟩
 | 1,_=>exact⟨by kernel_rfl,_,_,rfl,rfl,rfl⟩
 | z+2,_=>exact⟨by kernel_rfl,_,_,rfl,rfl,rfl⟩
theorem fm_38{s:Spc}{m:Mdl}{n k0 k1:Nd}(ho:n.op=38)(hk:n.kids=[k0,k1]){st:Int}{env:List (ByteArray×Int)}{i0 i1:Int}(h0:CN s m k0 st env i0)(h1:CN s m k1 st env i1):CF s m n st env (decide (i0=i1)):=by
 have hkm:n.kids.map Nd.av=[k0.ex,k1.ex]:=by rw[hk,Nd.av_ex];rfl
 have he:n.ex=.agg [eI 38,eS n.name,eI n.n,.slice 5 [k0.ex,k1.ex],eI n.at_]:=by rw[Nd.ex,ho,hkm]
 rw[CF,he]
 refine AFun.of hT Tryz.func37 rfl rfl (by simp) (AD.run hT hmix ?_)
 exact⟨0,_,rfl,rfl,.pure [mch s m,plc st env,k0.ex] _ rfl h0 ⟨1,_,rfl,rfl,.pure [mch s m,plc st env,k1.ex] _ rfl h1 ⟨by kernel_rfl,_,_,rfl,rfl,rfl⟩⟩⟩
theorem fm_39{s:Spc}{m:Mdl}{n k0 k1:Nd}(ho:n.op=39)(hk:n.kids=[k0,k1]){st:Int}{env:List (ByteArray×Int)}{i0 i1:Int}(h0:CN s m k0 st env i0)(h1:CN s m k1 st env i1):CF s m n st env (decide (i0<i1)):=by
 have hkm:n.kids.map Nd.av=[k0.ex,k1.ex]:=by rw[hk,Nd.av_ex];rfl
 have he:n.ex=.agg [eI 39,eS n.name,eI n.n,.slice 5 [k0.ex,k1.ex],eI n.at_]:=by rw[Nd.ex,ho,hkm]
 rw[CF,he]
 refine AFun.of hT Tryz.func37 rfl rfl (by simp) (AD.run hT hmix ?_)
 exact⟨0,_,rfl,rfl,.pure [mch s m,plc st env,k0.ex] _ rfl h0 ⟨1,_,rfl,rfl,.pure [mch s m,plc st env,k1.ex] _ rfl h1 ⟨by kernel_rfl,_,_,rfl,rfl,rfl⟩⟩⟩
theorem fm_40{s:Spc}{m:Mdl}{n k0:Nd}(ho:n.op=40)(hk:n.kids=[k0]){st:Int}{env:List (ByteArray×Int)}{b0:Bool}(h0:CF s m k0 st env b0):CF s m n st env (!b0):=by
 have hkm:n.kids.map Nd.av=[k0.ex]:=by rw[hk,Nd.av_ex];rfl
 have he:n.ex=.agg [eI 40,eS n.name,eI n.n,.slice 5 [k0.ex],eI n.at_]:=by rw[Nd.ex,ho,hkm]
 rw[CF,he]
 refine AFun.of hT Tryz.func37 rfl rfl (by simp) (AD.run hT hmix ?_)
 exact⟨0,_,rfl,rfl,.pure [mch s m,plc st env,k0.ex] _ rfl h0 ⟨by kernel_rfl,_,_,rfl,rfl,rfl⟩⟩
theorem fm_41{s:Spc}{m:Mdl}{n k0 k1:Nd}(ho:n.op=41)(hk:n.kids=[k0,k1]){st:Int}{env:List (ByteArray×Int)}{b0 b1:Bool}(h0:CF s m k0 st env b0)(h1:CF s m k1 st env b1):CF s m n st env (b0&&b1):=by
 have hkm:n.kids.map Nd.av=[k0.ex,k1.ex]:=by rw[hk,Nd.av_ex];rfl
 have he:n.ex=.agg [eI 41,eS n.name,eI n.n,.slice 5 [k0.ex,k1.ex],eI n.at_]:=by rw[Nd.ex,ho,hkm]
 rw[CF,he]
 refine AFun.of hT Tryz.func37 rfl rfl (by simp) (AD.run hT hmix ?_)
 cases b0 <;> cases b1 <;> exact⟨0,_,rfl,rfl,.pure [mch s m,plc st env,k0.ex] _ rfl h0 ⟨1,_,rfl,rfl,.pure [mch s m,plc st env,k1.ex] _ rfl h1 ⟨by kernel_rfl,_,_,rfl,rfl,rfl⟩⟩⟩
theorem fm_42{s:Spc}{m:Mdl}{n k0 k1:Nd}(ho:n.op=42)(hk:n.kids=[k0,k1]){st:Int}{env:List (ByteArray×Int)}{b0 b1:Bool}(h0:CF s m k0 st env b0)(h1:CF s m k1 st env b1):CF s m n st env (b0||b1):=by
 have hkm:n.kids.map Nd.av=[k0.ex,k1.ex]:=by rw[hk,Nd.av_ex];rfl
 have he:n.ex=.agg [eI 42,eS n.name,eI n.n,.slice 5 [k0.ex,k1.ex],eI n.at_]:=by rw[Nd.ex,ho,hkm]
 rw[CF,he]
 refine AFun.of hT Tryz.func37 rfl rfl (by simp) (AD.run hT hmix ?_)
 cases b0 <;> cases b1 <;> exact⟨0,_,rfl,rfl,.pure [mch s m,plc st env,k0.ex] _ rfl h0 ⟨1,_,rfl,rfl,.pure [mch s m,plc st env,k1.ex] _ rfl h1 ⟨by kernel_rfl,_,_,rfl,rfl,rfl⟩⟩⟩
theorem fm_43{s:Spc}{m:Mdl}{n k0 k1:Nd}(ho:n.op=43)(hk:n.kids=[k0,k1]){st:Int}{env:List (ByteArray×Int)}{b0 b1:Bool}(h0:CF s m k0 st env b0)(h1:CF s m k1 st env b1):CF s m n st env (!b0||b1):=by
 have hkm:n.kids.map Nd.av=[k0.ex,k1.ex]:=by rw[hk,Nd.av_ex];rfl
 have he:n.ex=.agg [eI 43,eS n.name,eI n.n,.slice 5 [k0.ex,k1.ex],eI n.at_]:=by rw[Nd.ex,ho,hkm]
 rw[CF,he]
 refine AFun.of hT Tryz.func37 rfl rfl (by simp) (AD.run hT hmix ?_)
 cases b0 <;> cases b1 <;> exact⟨0,_,rfl,rfl,.pure [mch s m,plc st env,k0.ex] _ rfl h0 ⟨1,_,rfl,rfl,.pure [mch s m,plc st env,k1.ex] _ rfl h1 ⟨by kernel_rfl,_,_,rfl,rfl,rfl⟩⟩⟩
theorem fm_44{s:Spc}{m:Mdl}{n k0 k1:Nd}(ho:n.op=44)(hk:n.kids=[k0,k1]){st:Int}{env:List (ByteArray×Int)}{b0 b1:Bool}(h0:CF s m k0 st env b0)(h1:CF s m k1 st env b1):CF s m n st env (b0==b1):=by
 have hkm:n.kids.map Nd.av=[k0.ex,k1.ex]:=by rw[hk,Nd.av_ex];rfl
 have he:n.ex=.agg [eI 44,eS n.name,eI n.n,.slice 5 [k0.ex,k1.ex],eI n.at_]:=by rw[Nd.ex,ho,hkm]
 rw[CF,he]
 refine AFun.of hT Tryz.func37 rfl rfl (by simp) (AD.run hT hmix ?_)
 cases b0 <;> cases b1 <;> exact⟨0,_,rfl,rfl,.pure [mch s m,plc st env,k0.ex] _ rfl h0 ⟨1,_,rfl,rfl,.pure [mch s m,plc st env,k1.ex] _ rfl h1 ⟨by kernel_rfl,_,_,rfl,rfl,rfl⟩⟩⟩
theorem fm_48{s:Spc}{m:Mdl}{n k0:Nd}(ho:n.op=48)(hk:n.kids=[k0]){st:Int}{env:List (ByteArray×Int)}(hm:MOk s m)(hl:m.states.length≤100)(hst:0≤st∧st<m.states.length)(q:Int→Bool)(h0:∀ t:Int,0≤t∧t<(m.states.length:Int)→CF s m k0 t env (q t)):CF s m n st env ((pathOf m st).all q):=by
 have hkm:n.kids.map Nd.av=[k0.ex]:=by rw[hk,Nd.av_ex];rfl
 have he:n.ex=.agg [eI 48,eS n.name,eI n.n,.slice 5 [k0.ex],eI n.at_]:=by rw[Nd.ex,ho,hkm]
 have hpr:=pathOf_ok hm hst.1 hst.2
 have hpp:=pathP hm hl hst
 have hpl:=pathOf_len hm hst
 have ha:=alongP (pathOf m st) (by omega) q st fun t ht=>h0 t (hpr t ht)
 have hc:=containsB ((pathOf m st).map q) false
 rw[CF,he]
 refine AFun.of hT Tryz.func37 rfl rfl (by simp) (AD.run hT hmix ?_)
 refine .pure [mch s m,eI st] _ rfl hpp ⟨0,_,rfl,rfl,.pure [mch s m,ints (pathOf m st),plc st env,k0.ex] _ rfl ha (.pure [bools ((pathOf m st).map q),eB false] _ rfl hc ⟨by kernel_rfl,_,_,rfl,rfl,?_⟩)⟩
 rw[show(pathOf m st).all q=!decide (false∈(pathOf m st).map q) from by rw[Bool.eq_iff_iff];simp];rfl
theorem fm_49{s:Spc}{m:Mdl}{n k0:Nd}(ho:n.op=49)(hk:n.kids=[k0]){st:Int}{env:List (ByteArray×Int)}(hm:MOk s m)(hl:m.states.length≤100)(hst:0≤st∧st<m.states.length)(q:Int→Bool)(h0:∀ t:Int,0≤t∧t<(m.states.length:Int)→CF s m k0 t env (q t)):CF s m n st env ((pathOf m st).any q):=by
 have hkm:n.kids.map Nd.av=[k0.ex]:=by rw[hk,Nd.av_ex];rfl
 have he:n.ex=.agg [eI 49,eS n.name,eI n.n,.slice 5 [k0.ex],eI n.at_]:=by rw[Nd.ex,ho,hkm]
 have hpr:=pathOf_ok hm hst.1 hst.2
 have hpp:=pathP hm hl hst
 have hpl:=pathOf_len hm hst
 have ha:=alongP (pathOf m st) (by omega) q st fun t ht=>h0 t (hpr t ht)
 have hc:=containsB ((pathOf m st).map q) true
 rw[CF,he]
 refine AFun.of hT Tryz.func37 rfl rfl (by simp) (AD.run hT hmix ?_)
 refine .pure [mch s m,eI st] _ rfl hpp ⟨0,_,rfl,rfl,.pure [mch s m,ints (pathOf m st),plc st env,k0.ex] _ rfl ha (.pure [bools ((pathOf m st).map q),eB true] _ rfl hc ⟨by kernel_rfl,_,_,rfl,rfl,?_⟩)⟩
 rw[show(pathOf m st).any q=decide (true∈(pathOf m st).map q) from by rw[Bool.eq_iff_iff];simp];rfl
theorem fm_50{s:Spc}{m:Mdl}{n k0:Nd}(ho:n.op=50)(hk:n.kids=[k0]){st:Int}{env:List (ByteArray×Int)}{b0:Bool}(hst:0≤st∧st≤100)(h0:CF s m k0 (nextSt m st) env b0):CF s m n st env b0:=by
 have hkm:n.kids.map Nd.av=[k0.ex]:=by rw[hk,Nd.av_ex];rfl
 have he:n.ex=.agg [eI 50,eS n.name,eI n.n,.slice 5 [k0.ex],eI n.at_]:=by rw[Nd.ex,ho,hkm]
 rw[CF,he]
 refine AFun.of hT Tryz.func37 rfl rfl (by simp) (AD.run hT hmix ?_)
 exact .pure [m.av,eI st] _ rfl (nextP m st hst) ⟨0,_,rfl,rfl,.pure [mch s m,plc (nextSt m st) env,k0.ex] _ rfl h0 ⟨by kernel_rfl,_,_,rfl,rfl,rfl⟩⟩
theorem fm_51{s:Spc}{m:Mdl}{n k0 k1:Nd}(ho:n.op=51)(hk:n.kids=[k0,k1]){st:Int}{env:List (ByteArray×Int)}(hm:MOk s m)(hl:m.states.length≤100)(hst:0≤st∧st<m.states.length)(f g:Int→Bool)(h0:∀ t:Int,0≤t∧t<(m.states.length:Int)→CF s m k0 t env (f t))(h1:∀ t:Int,0≤t∧t<(m.states.length:Int)→CF s m k1 t env (g t)):CF s m n st env (untilGo f g (pathOf m st) false false):=by
 have hkm:n.kids.map Nd.av=[k0.ex,k1.ex]:=by rw[hk,Nd.av_ex];rfl
 have he:n.ex=.agg [eI 51,eS n.name,eI n.n,.slice 5 [k0.ex,k1.ex],eI n.at_]:=by rw[Nd.ex,ho,hkm]
 have hu:=untilP hm hl hk hst f g h0 h1
 rw[he] at hu
 rw[CF,he]
 refine AFun.of hT Tryz.func37 rfl rfl (by simp) (AD.run hT hmix ?_)
 exact .pure [mch s m,plc st env,.agg [eI 51,eS n.name,eI n.n,.slice 5 [k0.ex,k1.ex],eI n.at_]] _ rfl hu ⟨_,_,rfl,rfl,rfl⟩
theorem any_snoc(l:List Int)(q:Int→Bool){i:Nat}(hi:i<l.length):(l.take (i+1)).any q=((l.take i).any q||q l[i]):=by rw[List.take_succ_eq_append_getElem hi,List.any_append];simp
theorem all_snoc(l:List Int)(q:Int→Bool){i:Nat}(hi:i<l.length):(l.take (i+1)).all q=((l.take i).all q&&q l[i]):=by rw[List.take_succ_eq_append_getElem hi,List.all_append];simp
theorem fm_45{s:Spc}{m:Mdl}{n k0 k1:Nd}(ho:n.op=45)(hk:n.kids=[k0,k1]){st:Int}{env:List (ByteArray×Int)}(henv:env.length≤5000000){r0:Rl}(hlen:r0.tuples.length≤2000)(h0:CX s m k0 st env r0)(a1:r0.arity=1)(q:Int→Bool)(h1:∀ x∈r0.tuples,CF s m k1 st (env++[(n.name,x)]) (q x)):CF s m n st env (r0.tuples.all q):=by
 have hkm:n.kids.map Nd.av=[k0.ex,k1.ex]:=by rw[hk,Nd.av_ex];rfl
 have he:n.ex=.agg [eI 45,eS n.name,eI n.n,.slice 5 [k0.ex,k1.ex],eI n.at_]:=by rw[Nd.ex,ho,hkm]
 have hi:=instP hk henv hlen h0 a1 q h1
 obtain⟨l,hl⟩:∃ l,r0.tuples=l:=⟨_,rfl⟩
 have hit:=instIter r0.arity l q (by rw[← hl];omega)
 have hil:(insts l q).length=l.length:=by simp[insts]
 rw[show r0.cs=[eI r0.arity,ints l] by rw[← hl];rfl] at hi
 rw[hl,he] at hi
 rw[hl] at hlen ⊢
 rw[CF,he]
 refine AFun.of hT Tryz.func37 rfl rfl (by simp) (AD.run hT hmix ?_)
 refine .pure [mch s m,plc st env,.agg [eI 45,eS n.name,eI n.n,.slice 5 [k0.ex,k1.ex],eI n.at_]] _ rfl hi ?_
 refine AD.rangeFunc (T:=T) hit [(5,.loc 5 0),(10,.loc 10 0),(11,.loc 11 0),(201,.p (.fn (.func 138) [] [.ref [eI r0.arity,ints l],.ref [bools (l.map q)]]))]
  (fun i=>[(5,.box 35 ([eI 45,eS n.name,eI n.n,.slice 5 [k0.ex,k1.ex],eI n.at_].map .p)),(10,.box 4 [.p (eB ((l.take i).any q))]),(11,.box 4 [.p (eB ((l.take i).all q))])]) l.length none .of rfl (by rw[hil];exact Nat.le_refl _) (fun _=>hil.symm) (fun h=>absurd rfl h) ?_ ?_ ?_
 ·intro i xs hi hx
  rw[insts_at l q hi] at hx
  cases hx
  have e1:=any_snoc l q hi
  have e2:=all_snoc l q hi
  rw[e1,e2]
  generalize (l.take i).any q=x
  generalize (l.take i).all q=y
  generalize q l[i]=z
  cases x <;> cases y <;> cases z <;> exact AD.run hT hmix (AD.run hT hmix ⟨jumpNone _,.of⟩)
 ·intro xs hx
  obtain⟨x,_,rfl⟩:=List.mem_map.1 hx
  exact⟨rfl,rfl⟩
 ·rw[List.take_length]
  generalize l.any q=x
  generalize l.all q=y
  cases x <;> cases y <;> exact⟨_,_,rfl,rfl,rfl⟩
theorem fm_46{s:Spc}{m:Mdl}{n k0 k1:Nd}(ho:n.op=46)(hk:n.kids=[k0,k1]){st:Int}{env:List (ByteArray×Int)}(henv:env.length≤5000000){r0:Rl}(hlen:r0.tuples.length≤2000)(h0:CX s m k0 st env r0)(a1:r0.arity=1)(q:Int→Bool)(h1:∀ x∈r0.tuples,CF s m k1 st (env++[(n.name,x)]) (q x)):CF s m n st env (r0.tuples.any q):=by
 have hkm:n.kids.map Nd.av=[k0.ex,k1.ex]:=by rw[hk,Nd.av_ex];rfl
 have he:n.ex=.agg [eI 46,eS n.name,eI n.n,.slice 5 [k0.ex,k1.ex],eI n.at_]:=by rw[Nd.ex,ho,hkm]
 have hi:=instP hk henv hlen h0 a1 q h1
 obtain⟨l,hl⟩:∃ l,r0.tuples=l:=⟨_,rfl⟩
 have hit:=instIter r0.arity l q (by rw[← hl];omega)
 have hil:(insts l q).length=l.length:=by simp[insts]
 rw[show r0.cs=[eI r0.arity,ints l] by rw[← hl];rfl] at hi
 rw[hl,he] at hi
 rw[hl] at hlen ⊢
 rw[CF,he]
 refine AFun.of hT Tryz.func37 rfl rfl (by simp) (AD.run hT hmix ?_)
 refine .pure [mch s m,plc st env,.agg [eI 46,eS n.name,eI n.n,.slice 5 [k0.ex,k1.ex],eI n.at_]] _ rfl hi ?_
 refine AD.rangeFunc (T:=T) hit [(5,.loc 5 0),(10,.loc 10 0),(11,.loc 11 0),(201,.p (.fn (.func 138) [] [.ref [eI r0.arity,ints l],.ref [bools (l.map q)]]))]
  (fun i=>[(5,.box 35 ([eI 46,eS n.name,eI n.n,.slice 5 [k0.ex,k1.ex],eI n.at_].map .p)),(10,.box 4 [.p (eB ((l.take i).any q))]),(11,.box 4 [.p (eB ((l.take i).all q))])]) l.length none .of rfl (by rw[hil];exact Nat.le_refl _) (fun _=>hil.symm) (fun h=>absurd rfl h) ?_ ?_ ?_
 ·intro i xs hi hx
  rw[insts_at l q hi] at hx
  cases hx
  have e1:=any_snoc l q hi
  have e2:=all_snoc l q hi
  rw[e1,e2]
  generalize (l.take i).any q=x
  generalize (l.take i).all q=y
  generalize q l[i]=z
  cases x <;> cases y <;> cases z <;> exact AD.run hT hmix (AD.run hT hmix ⟨jumpNone _,.of⟩)
 ·intro xs hx
  obtain⟨x,_,rfl⟩:=List.mem_map.1 hx
  exact⟨rfl,rfl⟩
 ·rw[List.take_length]
  generalize l.any q=x
  generalize l.all q=y
  cases x <;> cases y <;> exact⟨_,_,rfl,rfl,rfl⟩
theorem machP(s:Spc)(m:Mdl)(h:small m.scope.atoms):AFun Tryz.prog 31 [s.ex,m.av] (.p (mch s m)):=by
 refine AFun.of hT Tryz.func31 rfl rfl (by simp) (AD.finSub (AD.run hT hmix ?_))
 refine .pure [m.scope.av] _ rfl (atomsP m.scope h) ⟨by kernel_rfl,[(4,.p (mch s m))],[],.sealB 11 (hx:=toPs_p (mcs s m)),_,_,rfl,rfl,rfl⟩
theorem exprP{s:Spc}{m:Mdl}(h:small m.scope.atoms){n:Nd}{st:Int}{env:List (ByteArray×Int)}{r:Rl}(hf:CX s m n st env r):AFun Tryz.prog 10 [s.ex,m.av,eI st,.slice 2 (env.map bdA),n.ex] (.tup [.p r.av,.p (eI 0)]):=by
 suffices hh:∃ y,y=.tup [.p r.av,.p (eI 0)]∧AFun Tryz.prog 10 [s.ex,m.av,eI st,.slice 2 (env.map bdA),n.ex] y by
  obtain⟨y,rfl,hf⟩:=hh
  exact hf
 refine AFunE.introD hT Tryz.func10 rfl rfl (by simp) rfl rfl rfl rfl caught_quiet ⟨_,rfl⟩ ?_
 refine AD.run hT hmix (.pure [s.ex,m.av] _ rfl (machP s m h) ?_)
 exact .pure [mch s m,plc st env,n.ex] _ rfl hf ⟨by kernel_rfl,_,_,rfl,rfl,rfl⟩
end Go.Ab
